/- ScriptWords: awake, over what was seen of her script's parts. -/
import Derived.Test.YtiagmokcjljliaaGreatDoorDa
/- ScriptWords: the second line of awake's script, over what was seen of its parts; the third line. -/
namespace Go.Proofs.YtiagmokcjljliaaGreatDoor
set_option linter.unusedVariables false
open Go Go.Ab
theorem kd_env (E : Env) (g : FuncId → Bool) (x : CallO) (o : Op) : kdOf { E with G := g, ext := x } o = kdOf E o := by
  unfold kdOf
  rfl
theorem lex2_env (E : Env) (g : FuncId → Bool) (x : CallO) (ops : Array Oper) : ∀ (l : List Oper) (k : Nat), lex2 { E with G := g, ext := x } ops k l = lex2 E ops k l
  | [], _ => rfl
  | o :: rest, k => by
    rw [lex2, lex2, lex2_env E g x ops rest (k + 1)]
    rfl
theorem okC_env (E : Env) (g : FuncId → Bool) (x : CallO) (n : Nat) (c : Code) : okC { E with G := g, ext := x } n c = okC E n c := by
  induction c with
  | region id ops draw =>
    rw [okC, okC, lex2_env E g x]
    rfl
  | seq a b ha hb => rw [okC, okC, ha, hb]
  | cond q a b ha hb => rw [okC, okC, ha, hb]
  | block id c h => rw [okC, okC, h]
  | loop c h => rw [okC, okC, h]
  | _ => rfl
theorem less_ok {E : Env} (h : EnvOk E) {g : FuncId → Bool} {x : CallO} (hg : ∀ f, g f = true → E.G f = true) (hx : CallOk E.P x) : EnvOk { E with G := g, ext := x } where
  mixed := h.mixed
  good := fun f hf => by
    obtain ⟨fn, c, h1, h2, h3, h4⟩ := h.good f (hg f hf)
    exact ⟨fn, c, h1, h2, h3, by rw [okC_env]; exact h4⟩
  ext := hx
def tabD : MemoH := [(46, args46_1, h4, res46_1, h5), (92, args92_1, h6, res92_1, h7), (46, args46_2, h7, res46_2, h8), (93, args93_2, h8, res93_2, h9), (94, args94_1, h10, res94_1, h13)]
theorem seenD : ∀ x ∈ tabD, SeenH Tryz.prog x := List.forall_mem_cons.2 ⟨⟨envC, 200, envCOk, rfl, e46_1⟩, List.forall_mem_cons.2 ⟨⟨envC, 200, envCOk, rfl, e92_1⟩, List.forall_mem_cons.2 ⟨⟨envC, 200, envCOk, rfl, e46_2⟩, List.forall_mem_cons.2 ⟨⟨envC, 200, envCOk, rfl, e93_2⟩, List.forall_mem_cons.2 ⟨⟨envC, 200, envCOk, rfl, e94_1⟩, fun _ h => (List.not_mem_nil h).elim⟩⟩⟩⟩⟩
noncomputable def envD : Env := { envC with G := fun f => goodC.contains f && !([46, 92, 93, 94].contains f), ext := orX (memoHX tabD) extC }
theorem envDOk : EnvOk envD := less_ok envCOk (fun f hf => (Bool.and_eq_true _ _ ▸ hf).1) (orX_ok (memoHX_ok seenD) envCOk.ext)
theorem e13_2 : execF envD 200 13 args13_2 h3 = some (res13_2, h14) := isRH_of (by kernel_rfl)
theorem e13_3 : execF envC 200 13 args13_3 h15 = some (res13_3, h16) := isRH_of (by kernel_rfl)
end Go.Proofs.YtiagmokcjljliaaGreatDoor

/- ScriptWords: awake, over what was seen of her script's lines. -/
namespace Go.Proofs.YtiagmokcjljliaaGreatDoor
set_option linter.unusedVariables false
open Go Go.Ab
def tabS : MemoH := [(13, args13_1, h1, res13_1, h2), (13, args13_2, h3, res13_2, h14), (13, args13_3, h15, res13_3, h16)]
theorem seenTabS : ∀ x ∈ tabS, SeenH Tryz.prog x := List.forall_mem_cons.2 ⟨⟨envC, 200, envCOk, rfl, e13_1⟩, List.forall_mem_cons.2 ⟨⟨envD, 200, envDOk, rfl, e13_2⟩, List.forall_mem_cons.2 ⟨⟨envC, 200, envCOk, rfl, e13_3⟩, fun _ h => (List.not_mem_nil h).elim⟩⟩⟩
noncomputable def envS : Env := { envC with G := fun f => goodC.contains f && !(f == 13), ext := orX (memoHX tabS) extC }
theorem envSOk : EnvOk envS := less_ok envCOk (fun f hf => (Bool.and_eq_true _ _ ▸ hf).1) (orX_ok (memoHX_ok seenTabS) envCOk.ext)
theorem awakeC : closedCall Tryz.prog (execF envS 200) 5 [] = some (.bool true) := isV_of (by kernel_rfl)
end Go.Proofs.YtiagmokcjljliaaGreatDoor
