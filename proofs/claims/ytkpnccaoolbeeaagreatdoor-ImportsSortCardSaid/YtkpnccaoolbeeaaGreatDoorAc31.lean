/- Frames and operations, against the model. -/
import Derived.Test.YtkpnccaoolbeeaaGreatDoorAc30
import Derived.Defers
import Derived.LoopN
namespace Go.Ab
set_option linter.unusedVariables false
open Go Go.RowKit

/-- A frame against the model's. -/
structure RelF (σ : St) (n : Nat) (ds : List Deferred) (a : Act) (α : Frm) : Prop where
  size : a.tmps.size = n
  rep : ∀ i, Rep σ (α i) (a.tmps.getD i undef)
  defers : a.defers = ds

section
variable {P : Program} {B : Nat → Prop} {W0 : World} {H H' : AHeap} {σ σ' : St} {w w' : World} {n : Nat} {a : Act} {α : Frm} {E : Env} {call : CallO} {ops : Array Oper} {ds : List Deferred}

theorem RelF.mono (h : RelF σ n ds a α) (hle : σ.le σ') : RelF σ' n ds a α := ⟨h.size, fun i => (h.rep i).mono hle, h.defers⟩

theorem RelF.eval (h : RelF σ n ds a α) (x : Operand) : Rep σ (ev α x) (a.eval x) := by
  cases x with
  | tmp t => exact h.rep t
  | const v => exact Rep.ofV v
  | global g => simp [ev, Act.eval, Rep]
  | func f => simp [ev, Act.eval, Rep, RepL]

theorem RelF.put (h : RelF σ n ds a α) {dst : Option Tmp} (hd : ∀ d, dst = some d → d < n) {v : AV} {u : Value} (hr : Rep σ v u) : RelF σ n ds (a.put dst u) (Ab.put α dst v) := by
  cases dst with
  | none => exact h
  | some d =>
    have hdn := hd d rfl
    refine ⟨by simp [Act.put, h.size], fun i => ?_, h.defers⟩
    simp only [Act.put, Ab.put]
    by_cases hi : i = d
    · subst hi
      rw [if_pos rfl]
      simpa [h.size, hdn] using hr
    · rw [if_neg hi]
      have := h.rep i
      simpa [Array.getElem?_setIfInBounds_ne (Ne.symm hi)] using this

theorem undefA_rep : Rep σ undefA undef := by simp [undefA, Rep, undef]

theorem wanted_rel (h : RelF σ n ds a α) {o : Oper} {b : Bool} (hw : wantedA ops o.guard α = some b) : Region.wanted o (yielded ops a.tmps) = b := by
  unfold wantedA at hw
  unfold Region.wanted
  cases hg : o.guard with
  | none => simp [hg] at hw; simp [hw]
  | some gw =>
    obtain ⟨j, want⟩ := gw
    simp only [hg] at hw ⊢
    cases hd : (ops[j]?).bind (·.dst) with
    | none => simp [hd] at hw
    | some d =>
      simp only [hd] at hw
      have hr := h.rep d
      unfold yielded
      rw [hd]
      simp only [Option.bind_some]
      split at hw
      · rename_i c hc
        simp only [hc, Rep] at hr
        simp only [Option.some.injEq] at hw
        have : a.tmps[d]? = some (.bool c) := by
          cases ht : a.tmps[d]? with
          | none => simp [ht, undef] at hr
          | some x => simp [ht] at hr; rw [hr]
        simp only [this]
        rw [← hw]
        cases c <;> cases want <;> rfl
      · rename_i vs hc
        simp only [hc, Rep] at hr
        simp only [Option.some.injEq] at hw
        subst hw
        cases ht : a.tmps[d]? with
        | none => rfl
        | some x => simp [ht] at hr; subst hr; rfl
      · cases hw

/-- What is known behind a piece of code. -/
def Post (P : Program) (B : Nat → Prop) (W0 : World) (σ : St) (n : Nat) (ds : List Deferred) (α' : Frm) (H' : AHeap) (a' : Act) (w' : World) : Prop :=
  ∃ σ', Ext B σ σ' ∧ Sim P B W0 H' σ' w' ∧ RelF σ' n ds a' α'

theorem Post.trans {α' : Frm} {a' : Act} (he : Ext B σ σ') (h : Post P B W0 σ' n ds α' H' a' w') : Post P B W0 σ n ds α' H' a' w' := by
  obtain ⟨σ2, h1, h2, h3⟩ := h
  exact ⟨σ2, he.trans h1, h2, h3⟩

/-- One operation that is wanted: the model's rule for it. -/
theorem wp_of_uponA {o : Oper} {K : Act → World → Prop} {Q : Exit → Act → World → Prop} {R : Value → World → Prop} (h : UponA P ((execOp a.eval o).run P w) R) (hK : ∀ u w', R u w' → K (a.put o.dst u) w') : o.wp P a w K Q := by
  unfold Oper.wp
  generalize (execOp a.eval o).run P w = r at h
  cases r with
  | ok nx w1 =>
    cases nx <;> simp only [UponA] at h
    case value u => exact hK _ _ h
    case skip => exact hK _ _ h
    case enter f args =>
      refine Calls.mono h ?_
      rintro e w2 ⟨u, rfl, hr⟩
      exact hK _ _ hr
  | halt x w1 => simp only [UponA] at h

theorem ops_sound (hc : CallOk E.P call) {Q : Exit → Act → World → Prop} {α' : Frm} {H' : AHeap} : ∀ (l : List Oper) (α : Frm) (H : AHeap) (σ : St) (a : Act) (w : World),
    execOps E call ops l α H = some (α', H') → Sim E.P B W0 H σ w → RelF σ n ds a α → (∀ o ∈ l, ∀ d, o.dst = some d → d < n) →
    (∀ a' w', Post E.P B W0 σ n ds α' H' a' w' → Q .normal a' w') → wpList E.P ops Q l a w
  | [], α, H, σ, a, w, he, hs, hr, _, hQ => by
    simp only [execOps, Option.some.injEq, Prod.mk.injEq] at he
    obtain ⟨rfl, rfl⟩ := he
    exact hQ a w ⟨σ, Ext.refl _ _, hs, hr⟩
  | o :: l, α, H, σ, a, w, he, hs, hr, hd, hQ => by
    simp only [execOps, bnd] at he
    have hd' : ∀ o ∈ l, ∀ d, o.dst = some d → d < n := fun o ho => hd o (by simp [ho])
    cases hw : wantedA ops o.guard α with
    | none => simp [hw] at he
    | some b =>
      simp only [hw] at he
      have hwc := wanted_rel hr hw
      simp only [wpList, hwc]
      cases b with
      | true =>
        simp only [sel, if_true] at he
        cases hst : stepOp E call o.op (ev α) H with
        | none => simp [hst] at he
        | some p =>
          obtain ⟨v, H1⟩ := p
          simp only [hst] at he
          simp only [if_true]
          refine .inl (wp_of_uponA (stepOp_sound hs hc o (ev α) a.eval (fun x _ => hr.eval x) hst) ?_)
          rintro u w1 ⟨σ1, hext, hsim, hrep⟩
          exact ops_sound hc l _ _ σ1 _ _ he hsim ((hr.mono hext.le).put (hd o (by simp)) hrep) hd' fun a' w' hp => hQ a' w' (hp.trans hext)
      | false =>
        simp only [sel, Bool.false_eq_true, if_false] at he ⊢
        exact ops_sound hc l _ _ σ _ _ he hs (hr.put (hd o (by simp)) undefA_rep) hd' hQ

theorem stepA_sound (hc : CallOk E.P call) {i : Nat} {K : Frm → AHeap → Prop} {K' : Act → World → Prop} {Q : Exit → Act → World → Prop} (hs : Sim E.P B W0 H σ w) (hr : RelF σ n ds a α) (hd : ∀ o, ops[i]? = some o → ∀ d, o.dst = some d → d < n)
    (h : stepA E call ops i α H K) (hK : ∀ α' H' a' w' σ', Ext B σ σ' → Sim E.P B W0 H' σ' w' → RelF σ' n ds a' α' → K α' H' → K' a' w') : wpOp E.P ops Q i K' a w := by
  unfold stepA at h
  unfold wpOp
  split
  · rename_i ho; simp only [ho] at h; exact hK _ _ _ _ σ (Ext.refl _ _) hs hr h
  · rename_i o ho
    simp only [ho] at h
    split at h
    · rename_i hw
      obtain ⟨v, H1, hst, hk⟩ := h
      rw [if_pos (wanted_rel hr hw)]
      refine .inl (wp_of_uponA (stepOp_sound hs hc o (ev α) a.eval (fun x _ => hr.eval x) hst) ?_)
      rintro u w1 ⟨σ1, hext, hsim, hrep⟩
      exact hK _ _ _ _ σ1 hext hsim ((hr.mono hext.le).put (hd o ho) hrep) hk
    · rename_i hw
      rw [if_neg (by rw [wanted_rel hr hw]; simp)]
      exact hK _ _ _ _ σ (Ext.refl _ _) hs (hr.put (hd o ho) undefA_rep) h
    · cases h

theorem any_sound (hc : CallOk E.P call) {QA : Frm → AHeap → Prop} {Q : Exit → Act → World → Prop} (hd : ∀ (i : Nat) (o : Oper), ops[i]? = some o → ∀ d, o.dst = some d → d < n) : ∀ (fuel : Nat) (listed : Array Bool) (α : Frm) (H : AHeap) (σ : St) (a : Act) (w : World),
    wpAnyA E call ops QA fuel listed α H → Sim E.P B W0 H σ w → RelF σ n ds a α →
    (∀ α' H' a' w' σ', Ext B σ σ' → Sim E.P B W0 H' σ' w' → RelF σ' n ds a' α' → QA α' H' → Q .normal a' w') → wpAny E.P .any ops Q fuel listed a w
  | 0, listed, α, H, σ, a, w, h, hs, hr, hQ => ⟨h.1, hQ _ _ _ _ σ (Ext.refl _ _) hs hr h.2⟩
  | fuel + 1, listed, α, H, σ, a, w, h, hs, hr, hQ =>
    ⟨fun h0 => hQ _ _ _ _ σ (Ext.refl _ _) hs hr (h.1 h0), fun i hi => stepA_sound hc hs hr (hd i) (h.2 i hi) fun α' H' a' w' σ' hext hsim hrel hk =>
      any_sound hc hd fuel _ α' H' σ' a' w' hk hsim hrel fun α2 H2 a2 w2 σ2 e2 s2 r2 q2 => hQ _ _ _ _ σ2 (hext.trans e2) s2 r2 q2⟩

theorem Sim.drew (h : Sim P B W0 H σ w) : Sim P B W0 H σ { w with drawn := w.drawn + 1 } := by
  refine ⟨h.below.drew, h.base, h.cells, h.one, h.fresh, h.keys, ?_, h.inj⟩
  intro id x hx
  exact (h.obj id x hx).keep σ.le_refl (fun b _ => ⟨rfl, fun _ => rfl⟩) (fun _ => rfl)


end
end Go.Ab
