/- Runs that end in a given way. -/
import Derived.Test.YtkpnccaoolbeeaaGreatDoorAc18
namespace Go.Ab
set_option linter.unusedVariables false
open Go

def okR (r : Option Res) (P : Ex → Frm → AHeap → Prop) : Prop := match r with | some (e, α, H) => P e α H | none => False
theorem okR_some (e : Ex) (α : Frm) (H : AHeap) (P : Ex → Frm → AHeap → Prop) : okR (some (e, α, H)) P = P e α H := (rfl)
@[congr] theorem okR_congr {r r' : Option Res} {P : Ex → Frm → AHeap → Prop} (h : r = r') : okR r P = okR r' P := by rw [h]
theorem okR_get {r : Option Res} {P : Ex → Frm → AHeap → Prop} (h : okR r P) : ∃ e α H, r = some (e, α, H) ∧ P e α H := by
  unfold okR at h
  split at h
  · exact ⟨_, _, _, rfl, h⟩
  · exact h.elim

theorem okR_imp {r : Option Res} {P Q : Ex → Frm → AHeap → Prop} (h : okR r P) (hi : ∀ e α H, P e α H → Q e α H) : okR r Q := by
  obtain ⟨e, α, H, rfl, hp⟩ := okR_get h
  exact hi _ _ _ hp

/-- A loop that counts up. 'I' holds ahead of each round. -/
theorem loop_up {g : Frm → AHeap → Option Res} (I : Nat → Frm → AHeap → Prop) (N : Nat) (P : Ex → Frm → AHeap → Prop)
    (hr : ∀ i α H, i < N → I i α H → okR (g α H) fun e α' H' => e = .normal ∧ I (i + 1) α' H')
    (he : ∀ α H, I N α H → okR (g α H) fun e α' H' => e ≠ .normal ∧ P e α' H') :
    ∀ k i α H, i + k = N → I i α H → okR (loopO g α H) P
  | 0, i, α, H, hk, h => by
    have : i = N := by omega
    subst this
    obtain ⟨e, α', H', h1, h2, h3⟩ := okR_get (he α H h)
    rw [loopO_eq, h1]
    cases e with
    | normal => exact (h2 rfl).elim
    | exit j => exact h3
    | ret => exact h3
  | k + 1, i, α, H, hk, h => by
    obtain ⟨e, α', H', h1, h2, h3⟩ := okR_get (hr i α H (by omega) h)
    subst h2
    rw [loopO_eq, h1]
    exact loop_up I N P hr he k (i + 1) α' H' (by omega) h3

theorem app_cons {A : Type} (o : A) (r b : List A) : List.append (o :: r) b = o :: List.append r b := (rfl)
theorem app_nil {A : Type} (b : List A) : List.append [] b = b := (rfl)
theorem xc_loop' {E : Env} {call : CallO} {c : Code} {α : Frm} {H : AHeap} : execC E call loopO (.loop c) α H = loopO (execC E call loopO c) α H := (rfl)
theorem block_normal {E : Env} {call : CallO} {loop : (Frm → AHeap → Option Res) → Frm → AHeap → Option Res} (id : Nat) (c : Code) (α : Frm) (H : AHeap) (P : Ex → Frm → AHeap → Prop)
    (h : okR (execC E call loop c α H) fun e α' H' => (e = .normal ∨ e = .exit id) ∧ P .normal α' H') : okR (execC E call loop (.block id c) α H) P := by
  obtain ⟨e, α', H', h1, h2, h3⟩ := okR_get h
  rw [xc_block, h1]
  rcases h2 with h2 | h2
  · subst h2; exact h3
  · subst h2
    simp only [bnd, unblock, if_true]
    exact h3
theorem seq_then {E : Env} {call : CallO} {loop : (Frm → AHeap → Option Res) → Frm → AHeap → Option Res} (a b : Code) (α : Frm) (H : AHeap) (P : Ex → Frm → AHeap → Prop)
    (h : okR (execC E call loop a α H) fun e α' H' => e = .normal ∧ okR (execC E call loop b α' H') P) : okR (execC E call loop (.seq a b) α H) P := by
  obtain ⟨e, α', H', h1, h2, h3⟩ := okR_get h
  subst h2
  rw [xc_seq, h1]
  exact h3
theorem okR_then {E : Env} {call : CallO} {loop : (Frm → AHeap → Option Res) → Frm → AHeap → Option Res} {a : Code} {g : Frm → AHeap → Option Res} {α : Frm} {H : AHeap} {P : Ex → Frm → AHeap → Prop}
    (h : okR (execC E call loop a α H) fun e α' H' => e = .normal ∧ okR (g α' H') P) : okR (bnd (execC E call loop a α H) fun r => andThen r g) P := by
  obtain ⟨e, α', H', h1, h2, h3⟩ := okR_get h
  subst h2
  rw [h1]
  exact h3
/-- The result, out of the end of the body. -/
theorem out_of {E : Env} {c : Code} {α : Frm} {H : AHeap} {call : CallO} {loop : (Frm → AHeap → Option Res) → Frm → AHeap → Option Res} {fin : Res → Option (AV × AHeap)} {v : AV}
    (h : okR (execC E call loop c α H) fun e α' H' => outOf (fin (e, α', H')) = some v) : outOf (bnd (execC E call loop c α H) fin) = some v := by
  obtain ⟨e, α', H', h1, h2⟩ := okR_get h
  rw [h1]
  exact h2

attribute [go_sem] okR_some app_cons app_nil
end Go.Ab
