/- Each pure operation does in the model what it does to abstract values. -/
import Derived.Test.YtkpnccaoolbeeaaGreatDoorAc3
namespace Go.Ab
set_option linter.unusedVariables false
open Go Go.RowKit

section
variable {P : Program} {B : Nat → Prop} {W0 : World} {H : AHeap} {σ : St} {w : World}

theorem szQ_run {t : TypeId} {n : Nat} (h : szQ P t = some n) : (sizeOf t).run P w = .ok n w := by
  unfold szQ at h
  cases hi : P.info? t with
  | none => simp [hi] at h
  | some i => simp [hi] at h; simp [sizeOf, typeInfo, hi, h]

theorem under_run {t : TypeId} {d : TypeDesc} (h : P.underlying t = some d) : (underlying t).run P w = .ok d w := by
  simp [underlying, h]

theorem fieldsQ_spec {t : TypeId} {fs : List (Nat × TypeId)} (h : fieldsQ P t = some fs) : ∃ gs : Array Field, P.underlying t = some (.struct gs) ∧ fs = gs.toList.map fun f => (f.offset, f.type) := by
  unfold fieldsQ at h
  split at h
  · rename_i gs hg; simp at h; exact ⟨gs, hg, h.symm⟩
  · cases h

theorem elemQ_spec {t e : TypeId} (h : elemQ P t = some e) : P.underlying t = some (.slice e) := by
  unfold elemQ at h
  split at h
  · rename_i e' hg; simp at h; subst h; exact hg
  · cases h

theorem isStrQ_spec {t : TypeId} (h : isStrQ P t = true) : P.underlying t = some .string := by
  unfold isStrQ at h
  split at h
  · rename_i hg; exact hg
  · cases h

theorem intQ_spec {t : TypeId} {k : IntKind} (h : intQ P t = some k) : P.underlying t = some (.int k) := by
  unfold intQ at h
  split at h
  · rename_i k' hg; simp at h; subst h; exact hg
  · cases h

/-- What is asked of a pure operation. -/
def PureOk (P : Program) (σ : St) (w : World) (v : AV) (s : Sem Next) : Prop := ∃ u, s.run P w = .ok (.value u) w ∧ Rep σ v u

theorem PureOk.of_sem {v : AV} {s : Sem Value} {u : Value} (h : s.run P w = .ok u w) (r : Rep σ v u) : PureOk P σ w v (do pure (.value (← s))) :=
  ⟨u, by simp [h], r⟩

theorem pure_load {t : TypeId} {a : AV} {u : Value} {v : AV} (hs : Sim P B W0 H σ w) (hr : Rep σ a u)
    (h : loadA P H t a = some v) : PureOk P σ w v (do pure (.value (← Instr.loadAt t u))) := by
  cases a with
  | rptr cs =>
    simp only [loadA] at h
    simp only [Rep] at hr
    obtain ⟨b, off, rfl, rc⟩ := hr
    obtain ⟨us, rl, hc⟩ := rc.list
    obtain ⟨x, hx, rx⟩ := run_loadVar (P := P) (w := w) (fun j v hj => hs.cells _ _ _ (hc j v hj)) rl h
    exact .of_sem (u := x) (by simpa [Instr.loadAt, Instr.sureAddr] using hx) rx
  | ptr id off =>
    simp only [loadA] at h
    simp only [Rep] at hr
    obtain ⟨b, hb, rfl⟩ := hr
    split at h
    · rename_i cs hg
      obtain ⟨b', c, e, hb', _, hh, rl, _⟩ := hs.obj id _ hg
      rw [hb] at hb'
      cases hb'
      obtain ⟨x, hx, rx⟩ := run_loadVar (P := P) (w := w) (b := b) (off := 0) (us := c.toList) (fun j v hj => by
        rw [cell_of_row hh]; simpa using hj) rl h
      exact .of_sem (u := x) (by simpa [Instr.loadAt, Instr.sureAddr] using hx) rx
    · rename_i n et s cs hg
      obtain ⟨b', cap, c, hb', _, _, hh, _, _, hsz, hle, _, hl, rl, _⟩ := hs.obj id _ hg
      rw [hb] at hb'
      cases hb'
      obtain ⟨x, hx, rx⟩ := run_loadVar (P := P) (w := w) (b := b) (off := 0) (us := c.toList.take (n * s)) (fun j v hj => by
        have hjl : j < n * s := by have := (List.getElem?_eq_some_iff.1 hj).1; simp at this; omega
        rw [List.getElem?_take_of_lt hjl] at hj
        rw [cell_of_row hh]; simpa using hj) rl h
      exact .of_sem (u := x) (by simpa [Instr.loadAt, Instr.sureAddr] using hx) rx
    · cases h
  | _ => simp [loadA] at h

theorem Addr.add_mk (b o n : Nat) : (⟨b, o, none⟩ : Addr).add n = ⟨b, o + n, none⟩ := by
  unfold Addr.add
  split
  · rename_i h; subst h; rfl
  · rfl

theorem pure_fieldAddr {s : TypeId} {a : AV} {u : Value} {v : AV} {f : Nat} (hr : Rep σ a u)
    (h : fieldAddrA P s f a = some v) : PureOk P σ w v (do pure (.value (← Instr.fieldAt s u f))) := by
  unfold fieldAddrA at h
  split at h
  · rename_i fs hfs
    obtain ⟨gs, hg, rfl⟩ := fieldsQ_spec hfs
    split at h
    · rename_i off ft hf
      rw [List.getElem?_map] at hf
      obtain ⟨g, hgf, hge⟩ := Option.map_eq_some_iff.1 hf
      rw [Array.getElem?_toList] at hgf
      have ho : g.offset = off := congrArg Prod.fst hge
      have ht : g.type = ft := congrArg Prod.snd hge
      split at h
      · cases h
      · rename_i hne
        have hne' : ∃ n, szQ P ft = some n ∧ n ≠ 0 := by
          cases hn : szQ P ft with
          | none => exact absurd (.inr hn) hne
          | some n => exact ⟨n, rfl, fun e => hne (.inl (by rw [hn, e]))⟩
        obtain ⟨n, hn, hn0⟩ := hne'
        have hrun : ∀ b o, (Instr.fieldAt s (.pointer (some ⟨b, o, none⟩)) f).run P w = .ok (.pointer (some ⟨b, o + off, none⟩)) w := by
          intro b o
          simp [Instr.fieldAt, under_run hg, hgf, Instr.sureAddr, fieldPlace, ht, szQ_run hn, hn0, ho, Addr.add_mk]
        cases a with
        | ptr id o =>
          simp only at h
          simp only [Rep] at hr
          obtain ⟨b, hb, rfl⟩ := hr
          cases h
          exact .of_sem (hrun b o) (by simp only [Rep]; exact ⟨b, hb, rfl⟩)
        | rptr cs =>
          simp only at h
          simp only [Rep] at hr
          obtain ⟨b, o, rfl, rc⟩ := hr
          split at h
          · cases h
            exact .of_sem (hrun b o) (by simp only [Rep]; exact ⟨b, o + off, rfl, rc.drop off⟩)
          · cases h
        | _ => simp at h
    · cases h
  · cases h

theorem pure_indexAddr {t : TypeId} {a i : AV} {u x : Value} {v : AV} (hr : Rep σ a u) (hi : Rep σ i x)
    (h : indexAddrA P t a i = some v) : PureOk P σ w v (do pure (.value (← Instr.indexAt t u x))) := by
  cases a with
  | vec o es =>
   cases i with
   | int k n =>
    simp only [indexAddrA] at h
    simp only [Rep] at hr hi
    subst hi
    obtain ⟨ad, cap, rfl, hle, ho, hrow⟩ := hr
    split at h
    · rename_i hn0
      split at h
      · rename_i e he
        split at h
        · rename_i et het
          split at h
          · rename_i hsz
            cases h
            have hu := elemQ_spec het
            have hlt : n.toNat < es.length := (List.getElem?_eq_some_iff.1 he).1
            obtain ⟨s, hs⟩ := Option.ne_none_iff_exists'.1 hsz.2
            have hw : e.width = some s := hsz.1 ▸ hs
            rcases hrow with rfl | ⟨b, off, s', rfl, row⟩
            · simp at hlt
            · obtain ⟨y, ry, hys, hyc⟩ := row.get n.toNat e he
              have hss : s' = s := by rw [← hys]; exact ry.width hw
              subst hss
              refine .of_sem (u := .pointer (some ⟨b, off + n.toNat * s', none⟩)) ?_ ?_
              · have hlt' : n < (es.length : Int) := by omega
                simp [Instr.indexAt, asIntOf, under_run hu, hn0, hlt', szQ_run hs, Addr.add_mk]
              · simp only [Rep]
                refine ⟨b, _, rfl, RepCells.of_list (ry.cells (by rw [hw]; simp)) ?_⟩
                intro j v hj
                exact hyc j v (by simpa using hj)
          · cases h
        · cases h
      · cases h
    · cases h
   | _ => simp [indexAddrA] at h
  | sl id s off len =>
   cases i with
   | int k n =>
    simp only [indexAddrA] at h
    simp only [Rep] at hr hi
    subst hi
    obtain ⟨b, cap, hloc, _, rfl, hle⟩ := hr
    split at h
    · rename_i hn
      split at h
      · rename_i et het
        split at h
        · rename_i hsz
          cases h
          have hu := elemQ_spec het
          refine .of_sem (u := .pointer (some ⟨b, (off + n.toNat) * s, none⟩)) ?_ ?_
          · have hlt' : n < (len : Int) := by omega
            simp [Instr.indexAt, asIntOf, under_run hu, hn.1, hlt', szQ_run hsz.1, Addr.add_mk, Nat.add_mul]
          · simp only [Rep]
            exact ⟨b, hloc, rfl⟩
        · cases h
      · cases h
    · cases h
   | _ => simp [indexAddrA] at h
  | _ => simp [indexAddrA] at h

theorem pure_index {t : TypeId} {a i : AV} {u x : Value} {v : AV} (hr : Rep σ a u) (hi : Rep σ i x)
    (h : indexA P t a i = some v) : PureOk P σ w v (do pure (.value (← Instr.index t u x))) := by
  cases a with
  | str l =>
   cases i with
   | int k n =>
    simp only [indexA] at h
    simp only [Rep] at hr hi
    subst hi hr
    split at h
    · rename_i hc
      split at h
      · rename_i b hb
        cases h
        refine .of_sem (u := .int .u8 b.toNat) ?_ (by simp [Rep])
        have hlt : n.toNat < l.length := (List.getElem?_eq_some_iff.1 hb).1
        have hb' : (⟨l.toArray⟩ : ByteArray)[n.toNat]? = some b := by
          have : n.toNat < (⟨l.toArray⟩ : ByteArray).size := by simpa [ByteArray.size] using hlt
          rw [getElem?_pos (⟨l.toArray⟩ : ByteArray) n.toNat this]
          have h2 := (List.getElem?_eq_some_iff.1 hb).2
          simp only [Option.some.injEq]
          rw [← h2]
          rfl
        simp [Instr.index, asIntOf, under_run (isStrQ_spec hc.1), hc.2, hb']
      · cases h
    · cases h
   | _ => simp [indexA] at h
  | _ => simp [indexA] at h

end
end Go.Ab
