/- Regions, code and functions, against the model. -/
import Derived.Test.YtkhhkfgehmogoaaAb14
import Derived.LoopN
namespace Go.Ab
set_option linter.unusedVariables false
open Go Go.RowKit

/-- A frame against the model's. -/
structure RelF (σ : St) (n : Nat) (a : Act) (α : Frm) : Prop where
  size : a.tmps.size = n
  rep : ∀ i, Rep σ (α i) (a.tmps.getD i undef)
  defers : a.defers = []

section
variable {P : Program} {B : Nat} {W0 : World} {H H' : AHeap} {σ σ' : St} {w w' : World} {n : Nat} {a : Act} {α : Frm} {E : Env} {call : CallO} {ops : Array Oper}

theorem RelF.mono (h : RelF σ n a α) (hle : σ.le σ') : RelF σ' n a α := ⟨h.size, fun i => (h.rep i).mono hle, h.defers⟩

theorem RelF.eval (h : RelF σ n a α) (x : Operand) : Rep σ (ev α x) (a.eval x) := by
  cases x with
  | tmp t => exact h.rep t
  | const v => exact Rep.ofV v
  | global g => simp [ev, Act.eval, Rep]
  | func f => simp [ev, Act.eval, Rep, RepL]

theorem RelF.put (h : RelF σ n a α) {dst : Option Tmp} (hd : ∀ d, dst = some d → d < n) {v : AV} {u : Value} (hr : Rep σ v u) : RelF σ n (a.put dst u) (Ab.put α dst v) := by
  cases dst with
  | none => exact h
  | some d =>
    have hdn := hd d rfl
    refine ⟨by simp [Act.put, h.size], fun i => ?_, h.defers⟩
    simp only [Act.put, Ab.put]
    by_cases hi : i = d
    · subst hi
      rw [if_pos rfl]
      simpa [h.size, hdn] using hr
    · rw [if_neg hi]
      have := h.rep i
      simpa [Array.getElem?_setIfInBounds_ne (Ne.symm hi)] using this

theorem undefA_rep : Rep σ undefA undef := by simp [undefA, Rep, undef]

theorem wanted_rel (h : RelF σ n a α) {o : Oper} {b : Bool} (hw : wantedA ops o.guard α = some b) : Region.wanted o (yielded ops a.tmps) = b := by
  unfold wantedA at hw
  unfold Region.wanted
  cases hg : o.guard with
  | none => simp [hg] at hw; simp [hw]
  | some gw =>
    obtain ⟨j, want⟩ := gw
    simp only [hg] at hw ⊢
    cases hd : (ops[j]?).bind (·.dst) with
    | none => simp [hd] at hw
    | some d =>
      simp only [hd] at hw
      have hr := h.rep d
      unfold yielded
      rw [hd]
      simp only [Option.bind_some]
      split at hw
      · rename_i c hc
        simp only [hc, Rep] at hr
        simp only [Option.some.injEq] at hw
        have : a.tmps[d]? = some (.bool c) := by
          cases ht : a.tmps[d]? with
          | none => simp [ht, undef] at hr
          | some x => simp [ht] at hr; rw [hr]
        simp only [this]
        rw [← hw]
        cases c <;> cases want <;> rfl
      · rename_i vs hc
        simp only [hc, Rep] at hr
        simp only [Option.some.injEq] at hw
        subst hw
        cases ht : a.tmps[d]? with
        | none => rfl
        | some x => simp [ht] at hr; subst hr; rfl
      · cases hw

/-- What is known behind a piece of code. -/
def Post (P : Program) (B : Nat) (W0 : World) (σ : St) (n : Nat) (α' : Frm) (H' : AHeap) (a' : Act) (w' : World) : Prop :=
  ∃ σ', Ext B σ σ' ∧ Sim P B W0 H' σ' w' ∧ RelF σ' n a' α'

theorem Post.trans {α' : Frm} {a' : Act} (he : Ext B σ σ') (h : Post P B W0 σ' n α' H' a' w') : Post P B W0 σ n α' H' a' w' := by
  obtain ⟨σ2, h1, h2, h3⟩ := h
  exact ⟨σ2, he.trans h1, h2, h3⟩

/-- One operation that is wanted: the model's rule for it. -/
theorem wp_of_uponA {o : Oper} {K : Act → World → Prop} {Q : Exit → Act → World → Prop} {R : Value → World → Prop} (h : UponA P ((execOp a.eval o).run P w) R) (hK : ∀ u w', R u w' → K (a.put o.dst u) w') : o.wp P a w K Q := by
  unfold Oper.wp
  generalize (execOp a.eval o).run P w = r at h
  cases r with
  | ok nx w1 =>
    cases nx <;> simp only [UponA] at h
    case value u => exact hK _ _ h
    case skip => exact hK _ _ h
    case enter f args =>
      refine Calls.mono h ?_
      rintro e w2 ⟨u, rfl, hr⟩
      exact hK _ _ hr
  | halt x w1 => simp only [UponA] at h

theorem ops_sound (hc : CallOk E.P call) {Q : Exit → Act → World → Prop} {α' : Frm} {H' : AHeap} : ∀ (l : List Oper) (α : Frm) (H : AHeap) (σ : St) (a : Act) (w : World),
    execOps E call ops l α H = some (α', H') → Sim E.P B W0 H σ w → RelF σ n a α → (∀ o ∈ l, ∀ d, o.dst = some d → d < n) →
    (∀ a' w', Post E.P B W0 σ n α' H' a' w' → Q .normal a' w') → wpList E.P ops Q l a w
  | [], α, H, σ, a, w, he, hs, hr, _, hQ => by
    simp only [execOps, Option.some.injEq, Prod.mk.injEq] at he
    obtain ⟨rfl, rfl⟩ := he
    exact hQ a w ⟨σ, Ext.refl _ _, hs, hr⟩
  | o :: l, α, H, σ, a, w, he, hs, hr, hd, hQ => by
    simp only [execOps, bnd] at he
    have hd' : ∀ o ∈ l, ∀ d, o.dst = some d → d < n := fun o ho => hd o (by simp [ho])
    cases hw : wantedA ops o.guard α with
    | none => simp [hw] at he
    | some b =>
      simp only [hw] at he
      have hwc := wanted_rel hr hw
      simp only [wpList, hwc]
      cases b with
      | true =>
        simp only [sel, if_true] at he
        cases hst : stepOp E call o.op (ev α) H with
        | none => simp [hst] at he
        | some p =>
          obtain ⟨v, H1⟩ := p
          simp only [hst] at he
          simp only [if_true]
          refine .inl (wp_of_uponA (stepOp_sound hs hc o (ev α) a.eval (fun x _ => hr.eval x) hst) ?_)
          rintro u w1 ⟨σ1, hext, hsim, hrep⟩
          exact ops_sound hc l _ _ σ1 _ _ he hsim ((hr.mono hext.le).put (hd o (by simp)) hrep) hd' fun a' w' hp => hQ a' w' (hp.trans hext)
      | false =>
        simp only [sel, Bool.false_eq_true, if_false] at he ⊢
        exact ops_sound hc l _ _ σ _ _ he hs (hr.put (hd o (by simp)) undefA_rep) hd' hQ

theorem stepA_sound (hc : CallOk E.P call) {i : Nat} {K : Frm → AHeap → Prop} {K' : Act → World → Prop} {Q : Exit → Act → World → Prop} (hs : Sim E.P B W0 H σ w) (hr : RelF σ n a α) (hd : ∀ o, ops[i]? = some o → ∀ d, o.dst = some d → d < n)
    (h : stepA E call ops i α H K) (hK : ∀ α' H' a' w' σ', Ext B σ σ' → Sim E.P B W0 H' σ' w' → RelF σ' n a' α' → K α' H' → K' a' w') : wpOp E.P ops Q i K' a w := by
  unfold stepA at h
  unfold wpOp
  split
  · rename_i ho; simp only [ho] at h; exact hK _ _ _ _ σ (Ext.refl _ _) hs hr h
  · rename_i o ho
    simp only [ho] at h
    split at h
    · rename_i hw
      obtain ⟨v, H1, hst, hk⟩ := h
      rw [if_pos (wanted_rel hr hw)]
      refine .inl (wp_of_uponA (stepOp_sound hs hc o (ev α) a.eval (fun x _ => hr.eval x) hst) ?_)
      rintro u w1 ⟨σ1, hext, hsim, hrep⟩
      exact hK _ _ _ _ σ1 hext hsim ((hr.mono hext.le).put (hd o ho) hrep) hk
    · rename_i hw
      rw [if_neg (by rw [wanted_rel hr hw]; simp)]
      exact hK _ _ _ _ σ (Ext.refl _ _) hs (hr.put (hd o ho) undefA_rep) h
    · cases h

theorem any_sound (hc : CallOk E.P call) {QA : Frm → AHeap → Prop} {Q : Exit → Act → World → Prop} (hd : ∀ (i : Nat) (o : Oper), ops[i]? = some o → ∀ d, o.dst = some d → d < n) : ∀ (fuel : Nat) (listed : Array Bool) (α : Frm) (H : AHeap) (σ : St) (a : Act) (w : World),
    wpAnyA E call ops QA fuel listed α H → Sim E.P B W0 H σ w → RelF σ n a α →
    (∀ α' H' a' w' σ', Ext B σ σ' → Sim E.P B W0 H' σ' w' → RelF σ' n a' α' → QA α' H' → Q .normal a' w') → wpAny E.P .any ops Q fuel listed a w
  | 0, listed, α, H, σ, a, w, h, hs, hr, hQ => ⟨h.1, hQ _ _ _ _ σ (Ext.refl _ _) hs hr h.2⟩
  | fuel + 1, listed, α, H, σ, a, w, h, hs, hr, hQ =>
    ⟨fun h0 => hQ _ _ _ _ σ (Ext.refl _ _) hs hr (h.1 h0), fun i hi => stepA_sound hc hs hr (hd i) (h.2 i hi) fun α' H' a' w' σ' hext hsim hrel hk =>
      any_sound hc hd fuel _ α' H' σ' a' w' hk hsim hrel fun α2 H2 a2 w2 σ2 e2 s2 r2 q2 => hQ _ _ _ _ σ2 (hext.trans e2) s2 r2 q2⟩

theorem Sim.drew (h : Sim P B W0 H σ w) : Sim P B W0 H σ { w with drawn := w.drawn + 1 } := by
  refine ⟨h.below.drew, h.base, h.cells, h.one, h.fresh, h.keys, ?_, h.inj⟩
  intro id x hx
  exact (h.obj id x hx).keep σ.le_refl (fun b _ => ⟨rfl, fun _ => rfl⟩) (fun _ => rfl)

def Ex.toExit : Ex → Exit
  | .normal => .normal
  | .exit id => .exit id
  | .ret => .ret

/-- What the text must be like: each slot lies in the frame, and no two operations that stand in no order touch the same. -/
def okC (E : Env) (n : Nat) : Code → Bool
  | .region _ ops draw => ops.all (fun o => match o.dst with | some d => decide (d < n) | none => true) && (!draw || lex2 E ops 0 ops.toList)
  | .seq a b => okC E n a && okC E n b
  | .cond _ a b => okC E n a && okC E n b
  | .block _ c => okC E n c
  | .loop c => okC E n c
  | _ => true

theorem region_sound (hc : CallOk E.P call) (hm : E.P.follows .mixedOrders = true) {id : Nat} {draw : Bool} {α' : Frm} {Q : Exit → Act → World → Prop} (hok : okC E n (.region id ops draw) = true) (hs : Sim E.P B W0 H σ w) (hr : RelF σ n a α)
    (h : execOps E call ops ops.toList α H = some (α', H')) (hQ : ∀ a' w', Post E.P B W0 σ n α' H' a' w' → Q .normal a' w') : (Code.region id ops draw).wp E.P Q a w := by
  simp only [okC, Bool.and_eq_true] at hok
  have hd : ∀ o ∈ ops.toList, ∀ d, o.dst = some d → d < n := by
    intro o ho d hdst
    have := Array.all_eq_true_iff_forall_mem.1 hok.1 o (by simpa using ho)
    simpa [hdst] using this
  cases draw with
  | false => exact wp_region_list (ops_sound hc ops.toList α H σ a w h hs hr hd hQ)
  | true =>
    refine wp_region_any hm ?_
    have hlex : orderOk E ops = true := orderOk_of_lex2 (by simpa using hok.2)
    have hA := wpAnyA_lex (E := E) (call := call) (ops := ops) (Q := fun α2 H2 => α2 = α' ∧ H2 = H') ops.toList 0 (Array.replicate ops.size false) α H α' H' (by simp) (by simpa [orderOk] using hlex) h ⟨rfl, rfl⟩
    rw [Array.length_toList] at hA
    refine any_sound hc (fun i o ho => hd o (by simpa using Array.mem_of_getElem? ho)) _ _ α H σ a _ hA hs.drew hr ?_
    rintro α2 H2 a2 w2 σ2 he hs2 hr2 ⟨rfl, rfl⟩
    exact hQ a2 w2 ⟨σ2, he, hs2, hr2⟩

def LoopOk (loop : (Frm → AHeap → Option Res) → Frm → AHeap → Option Res) : Prop := ∀ g α H r, loop g α H = some r → ∃ k, loopN g k α H = some r

theorem rounds_mono {c : Code} {Q Q' : Exit → Act → World → Prop} (h : ∀ e a w, Q e a w → Q' e a w) : ∀ (k : Nat) (a : Act) (w : World), Code.rounds P c Q k a w → Code.rounds P c Q' k a w
  | 0, _, _, hk => hk
  | k + 1, a, w, hk => by
    rw [rounds_succ] at hk ⊢
    refine wp_mono hk ?_
    intro e a' w' he
    cases e with
    | normal => exact rounds_mono h k a' w' he
    | _ => exact h _ _ _ he

theorem code_sound (hc : CallOk E.P call) (hm : E.P.follows .mixedOrders = true) {loop : (Frm → AHeap → Option Res) → Frm → AHeap → Option Res} (hl : LoopOk loop) : ∀ (c : Code) (α : Frm) (H : AHeap) (σ : St) (a : Act) (w : World) (ex : Ex) (α' : Frm) (H' : AHeap),
    okC E n c = true → execC E call loop c α H = some (ex, α', H') → Sim E.P B W0 H σ w → RelF σ n a α →
    c.wp E.P (fun e a' w' => e = ex.toExit ∧ Post E.P B W0 σ n α' H' a' w') a w
  | .skip, α, H, σ, a, w, ex, α', H', _, h, hs, hr => by
    simp only [execC, Option.some.injEq, Prod.mk.injEq] at h
    obtain ⟨rfl, rfl, rfl⟩ := h
    exact wp_skip ⟨rfl, σ, Ext.refl _ _, hs, hr⟩
  | .region id ops draw, α, H, σ, a, w, ex, α', H', hok, h, hs, hr => by
    simp only [execC] at h
    cases he : execOps E call ops ops.toList α H with
    | none => simp [he, bnd] at h
    | some p =>
      obtain ⟨α1, H1⟩ := p
      simp only [he, bnd, Option.some.injEq, Prod.mk.injEq] at h
      obtain ⟨rfl, rfl, rfl⟩ := h
      exact region_sound hc hm hok hs hr he fun a' w' hp => ⟨rfl, hp⟩
  | .seq x y, α, H, σ, a, w, ex, α', H', hok, h, hs, hr => by
    simp only [okC, Bool.and_eq_true] at hok
    simp only [execC] at h
    cases hx : execC E call loop x α H with
    | none => simp [hx, bnd] at h
    | some r =>
      obtain ⟨ex1, α1, H1⟩ := r
      simp only [hx, bnd] at h
      have ih := code_sound hc hm hl x α H σ a w ex1 α1 H1 hok.1 hx hs hr
      refine wp_seq (wp_mono ih ?_)
      rintro e a1 w1 ⟨rfl, σ1, hext, hs1, hr1⟩
      cases ex1 with
      | normal =>
        simp only [andThen] at h
        refine wp_mono (code_sound hc hm hl y α1 H1 σ1 a1 w1 ex α' H' hok.2 h hs1 hr1) ?_
        rintro e a2 w2 ⟨rfl, hp⟩
        exact ⟨rfl, hp.trans hext⟩
      | exit id =>
        simp only [andThen, Option.some.injEq, Prod.mk.injEq] at h
        obtain ⟨rfl, rfl, rfl⟩ := h
        exact ⟨rfl, σ1, hext, hs1, hr1⟩
      | ret =>
        simp only [andThen, Option.some.injEq, Prod.mk.injEq] at h
        obtain ⟨rfl, rfl, rfl⟩ := h
        exact ⟨rfl, σ1, hext, hs1, hr1⟩
  | .cond c x y, α, H, σ, a, w, ex, α', H', hok, h, hs, hr => by
    simp only [okC, Bool.and_eq_true] at hok
    simp only [execC, condA] at h
    split at h
    · rename_i v hv
      have hcv := hr.eval c
      rw [hv] at hcv
      simp only [Rep] at hcv
      refine wp_cond hcv ?_
      cases v with
      | true => exact code_sound hc hm hl x α H σ a w ex α' H' hok.1 (by simpa [sel] using h) hs hr
      | false => exact code_sound hc hm hl y α H σ a w ex α' H' hok.2 (by simpa [sel] using h) hs hr
    · cases h
  | .block id c, α, H, σ, a, w, ex, α', H', hok, h, hs, hr => by
    simp only [okC] at hok
    simp only [execC] at h
    cases hx : execC E call loop c α H with
    | none => simp [hx, bnd] at h
    | some r =>
      obtain ⟨ex1, α1, H1⟩ := r
      simp only [hx, bnd, Option.some.injEq] at h
      refine wp_block (wp_mono (code_sound hc hm hl c α H σ a w ex1 α1 H1 hok hx hs hr) ?_)
      rintro e a1 w1 ⟨rfl, hp⟩
      cases ex1 with
      | normal =>
        simp only [unblock, Prod.mk.injEq] at h
        obtain ⟨rfl, rfl, rfl⟩ := h
        exact ⟨rfl, hp⟩
      | exit j =>
        simp only [unblock] at h
        simp only [Ex.toExit, Exit.inBlock]
        by_cases hj : j = id
        · rw [if_pos hj] at h ⊢
          simp only [Prod.mk.injEq] at h
          obtain ⟨rfl, rfl, rfl⟩ := h
          exact ⟨rfl, hp⟩
        · rw [if_neg hj] at h ⊢
          simp only [Prod.mk.injEq] at h
          obtain ⟨rfl, rfl, rfl⟩ := h
          exact ⟨rfl, hp⟩
      | ret =>
        simp only [unblock, Prod.mk.injEq] at h
        obtain ⟨rfl, rfl, rfl⟩ := h
        exact ⟨rfl, hp⟩
  | .loop c, α, H, σ, a, w, ex, α', H', hok, h, hs, hr => by
    simp only [okC] at hok
    simp only [execC] at h
    obtain ⟨k, hk⟩ := hl _ _ _ _ h
    refine wp_loop_rounds k ?_
    clear h
    induction k generalizing α H σ a w with
    | zero => simp [loopN] at hk
    | succ k ih =>
      simp only [loopN] at hk
      rw [rounds_succ]
      cases hx : execC E call loop c α H with
      | none => simp [hx, bnd] at hk
      | some r =>
        obtain ⟨ex1, α1, H1⟩ := r
        simp only [hx, bnd] at hk
        refine wp_mono (code_sound hc hm hl c α H σ a w ex1 α1 H1 hok hx hs hr) ?_
        rintro e a1 w1 ⟨rfl, σ1, hext, hs1, hr1⟩
        cases ex1 with
        | normal =>
          simp only [andThen] at hk
          have := ih α1 H1 σ1 a1 w1 hs1 hr1 hk
          simp only [Ex.toExit, Exit.then]
          refine rounds_mono ?_ k a1 w1 this
          rintro e a2 w2 ⟨rfl, hp⟩
          exact ⟨rfl, hp.trans hext⟩
        | exit id =>
          simp only [andThen, Option.some.injEq, Prod.mk.injEq] at hk
          obtain ⟨rfl, rfl, rfl⟩ := hk
          exact ⟨rfl, σ1, hext, hs1, hr1⟩
        | ret =>
          simp only [andThen, Option.some.injEq, Prod.mk.injEq] at hk
          obtain ⟨rfl, rfl, rfl⟩ := hk
          exact ⟨rfl, σ1, hext, hs1, hr1⟩
  | .exit id, α, H, σ, a, w, ex, α', H', _, h, hs, hr => by
    simp only [execC, Option.some.injEq, Prod.mk.injEq] at h
    obtain ⟨rfl, rfl, rfl⟩ := h
    exact wp_exit ⟨rfl, σ, Ext.refl _ _, hs, hr⟩
  | .ret, α, H, σ, a, w, ex, α', H', _, h, hs, hr => by
    simp only [execC, Option.some.injEq, Prod.mk.injEq] at h
    obtain ⟨rfl, rfl, rfl⟩ := h
    exact wp_ret ⟨rfl, σ, Ext.refl _ _, hs, hr⟩
  | .rangeFunc _ _ _ _, _, _, _, _, _, _, _, _, _, h, _, _ => by simp [execC] at h
  | .scope _, _, _, _, _, _, _, _, _, _, h, _, _ => by simp [execC] at h
  | .label _, _, _, _, _, _, _, _, _, _, h, _, _ => by simp [execC] at h
  | .goto _, _, _, _, _, _, _, _, _, _, h, _, _ => by simp [execC] at h
  | .refuse _, _, _, _, _, _, _, _, _, _, h, _, _ => by simp [execC] at h

end
end Go.Ab
