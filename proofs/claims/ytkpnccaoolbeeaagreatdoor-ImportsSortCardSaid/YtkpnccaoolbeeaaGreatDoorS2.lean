/- ImportsSort: awake, run in the kernel. -/
import Derived.Test.YtkpnccaoolbeeaaGreatDoorS1
namespace Go.Proofs.YtkpnccaoolbeeaaGreatDoor
set_option linter.unusedVariables false
open Go Go.Ab
def readX : CallO := fun f args H =>
  if f = 16 then
    match args with
    | [.agg [.str n, .str t]] =>
      if n = n1 ∧ t = t1 then some (u1, H) else if n = n2 ∧ t = t2 then some (u2, H) else if n = n3 ∧ t = t3 then some (u3, H) else if n = n4 ∧ t = t4 then some (u4, H) else none
    | _ => none
  else none
theorem read_step {f : FuncId} {n t : List UInt8} {u : AV} {H : AHeap} (hf : f = 16) (hr : closedCall Tryz.prog (execF envT 200) 16 [.agg [.str n, .str t]] = some u) : callable Tryz.prog f ∧ CallsA Tryz.prog f [.agg [.str n, .str t]] H u H := by
  subst hf
  refine ⟨⟨_, Tryz.func16, by kernel_rfl, by kernel_rfl⟩, ?_⟩
  intro B W0 σ w us hs hrr
  exact (closed_sound hs (execF_sound envTOk 200) hrr hr).2
theorem readX_ok : CallOk Tryz.prog readX := by
  intro f args H v H' h
  unfold readX at h
  split at h
  · rename_i hf
    split at h
    · rename_i n t
      split at h
      · rename_i hq
        simp only [Option.some.injEq, Prod.mk.injEq] at h
        obtain ⟨rfl, rfl⟩ := h
        rw [hq.1, hq.2]
        exact read_step hf read1
      · split at h
        · rename_i hq
          simp only [Option.some.injEq, Prod.mk.injEq] at h
          obtain ⟨rfl, rfl⟩ := h
          rw [hq.1, hq.2]
          exact read_step hf read2
        · split at h
          · rename_i hq
            simp only [Option.some.injEq, Prod.mk.injEq] at h
            obtain ⟨rfl, rfl⟩ := h
            rw [hq.1, hq.2]
            exact read_step hf read3
          · split at h
            · rename_i hq
              simp only [Option.some.injEq, Prod.mk.injEq] at h
              obtain ⟨rfl, rfl⟩ := h
              rw [hq.1, hq.2]
              exact read_step hf read4
            · cases h
    · cases h
  · cases h
def goodU : List FuncId := goodT.filter fun f => f != 16
noncomputable def envU : Env := { P := Tryz.prog, G := fun f => goodU.contains f, cl := fun f => closedT.contains f, mutT := fun t => mutsT.contains t, dyn := fun _ => true, df := fun f => f == 89, ext := orX readX extT }
theorem all_okU : goodU.all (okF envU) = true := by kernel_rfl
theorem envUOk : EnvOk envU where
  mixed := mixed
  good := fun f hf => okF_good (List.all_eq_true.1 all_okU f (List.contains_iff_mem.1 hf))
  ext := orX_ok readX_ok (orX_ok copyT_ok (orX_ok stringT_ok (orX_ok growT_ok (orX_ok indexT_ok (orX_ok countT_ok itemX_ok)))))
theorem awake_T : closedCall Tryz.prog (execF envU 200) 4 [] = some (.bool true) := isB_of (by kernel_rfl)
theorem awakeX_ok : CallOk Tryz.prog awakeX := by
  intro f args H v H' h
  unfold awakeX at h
  split at h
  · rename_i hq
    obtain ⟨rfl, hl⟩ := hq
    have : args = [] := List.length_eq_zero_iff.1 hl
    subst this
    simp only [Option.some.injEq, Prod.mk.injEq] at h
    obtain ⟨rfl, rfl⟩ := h
    refine ⟨⟨_, Tryz.func4, by kernel_rfl, by kernel_rfl⟩, ?_⟩
    intro B W0 σ w us hs hr
    exact (closed_sound hs (execF_sound envUOk 200) hr awake_T).2
  · cases h
end Go.Proofs.YtkpnccaoolbeeaaGreatDoor
