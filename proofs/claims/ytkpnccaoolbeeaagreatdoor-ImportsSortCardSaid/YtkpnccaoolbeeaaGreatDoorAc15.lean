/- Regions, code and functions, against the model. -/
import Derived.Test.YtkpnccaoolbeeaaGreatDoorAc32
import Derived.Defers
import Derived.LoopN
namespace Go.Ab
set_option linter.unusedVariables false
open Go Go.RowKit

section
variable {P : Program} {B : Nat → Prop} {W0 : World} {H H' : AHeap} {σ σ' : St} {w w' : World} {n : Nat} {a : Act} {α : Frm} {E : Env} {call : CallO} {ops : Array Oper} {ds : List Deferred}

def Ex.toExit : Ex → Exit
  | .normal => .normal
  | .exit id => .exit id
  | .ret => .ret

/-- What the text must be like: each slot lies in the frame, and no two operations that stand in no order touch the same. -/
def okC (E : Env) (n : Nat) : Code → Bool
  | .region id ops draw => ops.all (fun o => match o.dst with | some d => decide (d < n) | none => true) && (!draw || (if E.dyn id = true then (lexD E ops || (List.range ops.size).any (lexA E ops)) else lex2 E ops 0 ops.toList))
  | .seq a b => okC E n a && okC E n b
  | .cond _ a b => okC E n a && okC E n b
  | .block _ c => okC E n c
  | .loop c => okC E n c
  | _ => true

theorem region_sound (hc : CallOk E.P call) (hm : E.P.follows .mixedOrders = true) {id : Nat} {draw : Bool} {α' : Frm} {Q : Exit → Act → World → Prop} (hok : okC E n (.region id ops draw) = true) (hs : Sim E.P B W0 H σ w) (hr : RelF σ n ds a α)
    (h : sel (draw && E.dyn id) (execOpsD E call ops 0 ops.toList [] [] α H) (execOps E call ops ops.toList α H) = some (α', H')) (hQ : ∀ a' w', Post E.P B W0 σ n ds α' H' a' w' → Q .normal a' w') : (Code.region id ops draw).wp E.P Q a w := by
  simp only [okC, Bool.and_eq_true] at hok
  have hd : ∀ o ∈ ops.toList, ∀ d, o.dst = some d → d < n := by
    intro o ho d hdst
    have := Array.all_eq_true_iff_forall_mem.1 hok.1 o (by simpa using ho)
    simpa [hdst] using this
  cases draw with
  | false =>
    simp only [Bool.false_and, sel, Bool.false_eq_true, if_false] at h
    exact wp_region_list (ops_sound hc ops.toList α H σ a w h hs hr hd hQ)
  | true =>
   by_cases hdyn : E.dyn id = true
   · refine wp_region_any hm ?_
     simp only [hdyn, Bool.and_self, sel, if_true] at h
     have hlex' : lexD E ops = true ∨ ∃ i0, lexA E ops i0 = true := by
       have := hok.2
       simp only [hdyn, Bool.not_true, Bool.false_or, if_true, Bool.or_eq_true, List.any_eq_true] at this
       rcases this with h | ⟨i, _, h⟩
       · exact .inl h
       · exact .inr ⟨i, h⟩
     rcases hlex' with hlex | ⟨i0, hlex⟩
     rotate_left
     · exact dynA_any hc hlex (fun i o ho => hd o (by simpa using Array.mem_of_getElem? ho)) h hs.drew hr fun σ1 a' w' h1 h2 h3 => hQ a' w' ⟨σ1, h1, h2, h3⟩
     have hA := dyn_any (E := E) (call := call) (ops := ops) (Q := fun α2 H2 => α2 = α' ∧ H2 = H') hlex h ⟨rfl, rfl⟩
     refine any_sound hc (fun i o ho => hd o (by simpa using Array.mem_of_getElem? ho)) _ _ α H σ a _ hA hs.drew hr ?_
     rintro α2 H2 a2 w2 σ2 he hs2 hr2 ⟨rfl, rfl⟩
     exact hQ a2 w2 ⟨σ2, he, hs2, hr2⟩
   · 
    refine wp_region_any hm ?_
    have hdyn' : E.dyn id = false := by simpa using hdyn
    simp only [hdyn', Bool.and_false, sel, Bool.false_eq_true, if_false] at h hok
    have hlex : orderOk E ops = true := orderOk_of_lex2 (by simpa using hok.2)
    have hA := wpAnyA_lex (E := E) (call := call) (ops := ops) (Q := fun α2 H2 => α2 = α' ∧ H2 = H') ops.toList 0 (Array.replicate ops.size false) α H α' H' (by simp) (by simpa [orderOk] using hlex) h ⟨rfl, rfl⟩
    rw [Array.length_toList] at hA
    refine any_sound hc (fun i o ho => hd o (by simpa using Array.mem_of_getElem? ho)) _ _ α H σ a _ hA hs.drew hr ?_
    rintro α2 H2 a2 w2 σ2 he hs2 hr2 ⟨rfl, rfl⟩
    exact hQ a2 w2 ⟨σ2, he, hs2, hr2⟩

def LoopOk (loop : (Frm → AHeap → Option Res) → Frm → AHeap → Option Res) : Prop := ∀ g α H r, loop g α H = some r → ∃ k, loopN g k α H = some r

theorem rounds_mono {c : Code} {Q Q' : Exit → Act → World → Prop} (h : ∀ e a w, Q e a w → Q' e a w) : ∀ (k : Nat) (a : Act) (w : World), Code.rounds P c Q k a w → Code.rounds P c Q' k a w
  | 0, _, _, hk => hk
  | k + 1, a, w, hk => by
    rw [rounds_succ] at hk ⊢
    refine wp_mono hk ?_
    intro e a' w' he
    cases e with
    | normal => exact rounds_mono h k a' w' he
    | _ => exact h _ _ _ he

theorem code_sound (hc : CallOk E.P call) (hm : E.P.follows .mixedOrders = true) {loop : (Frm → AHeap → Option Res) → Frm → AHeap → Option Res} (hl : LoopOk loop) : ∀ (c : Code) (α : Frm) (H : AHeap) (σ : St) (a : Act) (w : World) (ex : Ex) (α' : Frm) (H' : AHeap),
    okC E n c = true → execC E call loop c α H = some (ex, α', H') → Sim E.P B W0 H σ w → RelF σ n ds a α →
    c.wp E.P (fun e a' w' => e = ex.toExit ∧ Post E.P B W0 σ n ds α' H' a' w') a w
  | .skip, α, H, σ, a, w, ex, α', H', _, h, hs, hr => by
    simp only [execC, Option.some.injEq, Prod.mk.injEq] at h
    obtain ⟨rfl, rfl, rfl⟩ := h
    exact wp_skip ⟨rfl, σ, Ext.refl _ _, hs, hr⟩
  | .region id ops draw, α, H, σ, a, w, ex, α', H', hok, h, hs, hr => by
    simp only [execC] at h
    cases he : sel (draw && E.dyn id) (execOpsD E call ops 0 ops.toList [] [] α H) (execOps E call ops ops.toList α H) with
    | none => simp [he, bnd] at h
    | some p =>
      obtain ⟨α1, H1⟩ := p
      simp only [he, bnd, Option.some.injEq, Prod.mk.injEq] at h
      obtain ⟨rfl, rfl, rfl⟩ := h
      exact region_sound hc hm hok hs hr he fun a' w' hp => ⟨rfl, hp⟩
  | .seq x y, α, H, σ, a, w, ex, α', H', hok, h, hs, hr => by
    simp only [okC, Bool.and_eq_true] at hok
    simp only [execC] at h
    cases hx : execC E call loop x α H with
    | none => simp [hx, bnd] at h
    | some r =>
      obtain ⟨ex1, α1, H1⟩ := r
      simp only [hx, bnd] at h
      have ih := code_sound hc hm hl x α H σ a w ex1 α1 H1 hok.1 hx hs hr
      refine wp_seq (wp_mono ih ?_)
      rintro e a1 w1 ⟨rfl, σ1, hext, hs1, hr1⟩
      cases ex1 with
      | normal =>
        simp only [andThen] at h
        refine wp_mono (code_sound hc hm hl y α1 H1 σ1 a1 w1 ex α' H' hok.2 h hs1 hr1) ?_
        rintro e a2 w2 ⟨rfl, hp⟩
        exact ⟨rfl, hp.trans hext⟩
      | exit id =>
        simp only [andThen, Option.some.injEq, Prod.mk.injEq] at h
        obtain ⟨rfl, rfl, rfl⟩ := h
        exact ⟨rfl, σ1, hext, hs1, hr1⟩
      | ret =>
        simp only [andThen, Option.some.injEq, Prod.mk.injEq] at h
        obtain ⟨rfl, rfl, rfl⟩ := h
        exact ⟨rfl, σ1, hext, hs1, hr1⟩
  | .cond c x y, α, H, σ, a, w, ex, α', H', hok, h, hs, hr => by
    simp only [okC, Bool.and_eq_true] at hok
    simp only [execC, condA] at h
    split at h
    · rename_i v hv
      have hcv := hr.eval c
      rw [hv] at hcv
      simp only [Rep] at hcv
      refine wp_cond hcv ?_
      cases v with
      | true => exact code_sound hc hm hl x α H σ a w ex α' H' hok.1 (by simpa [sel] using h) hs hr
      | false => exact code_sound hc hm hl y α H σ a w ex α' H' hok.2 (by simpa [sel] using h) hs hr
    · cases h
  | .block id c, α, H, σ, a, w, ex, α', H', hok, h, hs, hr => by
    simp only [okC] at hok
    simp only [execC] at h
    cases hx : execC E call loop c α H with
    | none => simp [hx, bnd] at h
    | some r =>
      obtain ⟨ex1, α1, H1⟩ := r
      simp only [hx, bnd, Option.some.injEq] at h
      refine wp_block (wp_mono (code_sound hc hm hl c α H σ a w ex1 α1 H1 hok hx hs hr) ?_)
      rintro e a1 w1 ⟨rfl, hp⟩
      cases ex1 with
      | normal =>
        simp only [unblock, Prod.mk.injEq] at h
        obtain ⟨rfl, rfl, rfl⟩ := h
        exact ⟨rfl, hp⟩
      | exit j =>
        simp only [unblock] at h
        simp only [Ex.toExit, Exit.inBlock]
        by_cases hj : j = id
        · rw [if_pos hj] at h ⊢
          simp only [Prod.mk.injEq] at h
          obtain ⟨rfl, rfl, rfl⟩ := h
          exact ⟨rfl, hp⟩
        · rw [if_neg hj] at h ⊢
          simp only [Prod.mk.injEq] at h
          obtain ⟨rfl, rfl, rfl⟩ := h
          exact ⟨rfl, hp⟩
      | ret =>
        simp only [unblock, Prod.mk.injEq] at h
        obtain ⟨rfl, rfl, rfl⟩ := h
        exact ⟨rfl, hp⟩
  | .loop c, α, H, σ, a, w, ex, α', H', hok, h, hs, hr => by
    simp only [okC] at hok
    simp only [execC] at h
    obtain ⟨k, hk⟩ := hl _ _ _ _ h
    refine wp_loop_rounds k ?_
    clear h
    induction k generalizing α H σ a w with
    | zero => simp [loopN] at hk
    | succ k ih =>
      simp only [loopN] at hk
      rw [rounds_succ]
      cases hx : execC E call loop c α H with
      | none => simp [hx, bnd] at hk
      | some r =>
        obtain ⟨ex1, α1, H1⟩ := r
        simp only [hx, bnd] at hk
        refine wp_mono (code_sound hc hm hl c α H σ a w ex1 α1 H1 hok hx hs hr) ?_
        rintro e a1 w1 ⟨rfl, σ1, hext, hs1, hr1⟩
        cases ex1 with
        | normal =>
          simp only [andThen] at hk
          have := ih α1 H1 σ1 a1 w1 hs1 hr1 hk
          simp only [Ex.toExit, Exit.then]
          refine rounds_mono ?_ k a1 w1 this
          rintro e a2 w2 ⟨rfl, hp⟩
          exact ⟨rfl, hp.trans hext⟩
        | exit id =>
          simp only [andThen, Option.some.injEq, Prod.mk.injEq] at hk
          obtain ⟨rfl, rfl, rfl⟩ := hk
          exact ⟨rfl, σ1, hext, hs1, hr1⟩
        | ret =>
          simp only [andThen, Option.some.injEq, Prod.mk.injEq] at hk
          obtain ⟨rfl, rfl, rfl⟩ := hk
          exact ⟨rfl, σ1, hext, hs1, hr1⟩
  | .exit id, α, H, σ, a, w, ex, α', H', _, h, hs, hr => by
    simp only [execC, Option.some.injEq, Prod.mk.injEq] at h
    obtain ⟨rfl, rfl, rfl⟩ := h
    exact wp_exit ⟨rfl, σ, Ext.refl _ _, hs, hr⟩
  | .ret, α, H, σ, a, w, ex, α', H', _, h, hs, hr => by
    simp only [execC, Option.some.injEq, Prod.mk.injEq] at h
    obtain ⟨rfl, rfl, rfl⟩ := h
    exact wp_ret ⟨rfl, σ, Ext.refl _ _, hs, hr⟩
  | .rangeFunc _ _ _ _, _, _, _, _, _, _, _, _, _, h, _, _ => by simp [execC] at h
  | .scope _, _, _, _, _, _, _, _, _, _, h, _, _ => by simp [execC] at h
  | .label _, _, _, _, _, _, _, _, _, _, h, _, _ => by simp [execC] at h
  | .goto _, _, _, _, _, _, _, _, _, _, h, _, _ => by simp [execC] at h
  | .refuse _, _, _, _, _, _, _, _, _, _, h, _, _ => by simp [execC] at h

/-! ### A function that defers one closure's call -/

theorem isDef_spec {c : Code} {o d : Oper} (h : isDef c = some (o, d)) : ∃ id ops t f first cap cl, c = .region id ops false ∧ ops.toList = [o, d] ∧ o.op = .makeFunc f first cap ∧ o.dst = some t ∧ o.guard = none ∧ d.op = .defer cl ∧ d.guard = none ∧ d.dst = none ∧ cl.callee = .value (.tmp t) ∧ cl.args.toList = [] := by
  unfold isDef at h
  split at h
  · rename_i id ops draw
    split at h
    · rename_i o1 d1 hops
      split at h
      · rename_i f first cap t cl e1 e2 e3 e4 e5 e6
        split at h
        · rename_i t' hcal
          split at h
          · rename_i hc
            obtain ⟨rfl, hc2⟩ := hc
            simp only [Option.some.injEq, Prod.mk.injEq] at h
            obtain ⟨rfl, rfl⟩ := h
            exact ⟨id, ops, t, f, first, cap, cl, rfl, hops, e1, e2, e3, e4, e5, e6, hcal, by simpa using hc2⟩
          · cases h
        · cases h
      · cases h
    · cases h
  · cases h

/-- A deferred call against a closure. -/
def DefRel (P : Program) (σ : St) (d : Deferred) (v : AV) : Prop := ∃ u, Rep σ v u ∧ ∀ w, (Deferred.ofValue u #[]).run P w = .ok d w

theorem DefRel.mono {σ' : St} {d : Deferred} {v : AV} (hle : σ.le σ') (h : DefRel P σ d v) : DefRel P σ' d v := by
  obtain ⟨u, r, e⟩ := h
  exact ⟨u, r.mono hle, e⟩

theorem def_sound (hc : CallOk E.P call) (hm : E.P.follows .mixedOrders = true) {loop : (Frm → AHeap → Option Res) → Frm → AHeap → Option Res} (hl : LoopOk loop) : ∀ (c : Code) (α : Frm) (H : AHeap) (σ : St) (a : Act) (w : World) (ex : Ex) (α' : Frm) (H' : AHeap) (v : AV),
    okC E n c = true → execDef E call loop c α H = some ((ex, α', H'), v) → Sim E.P B W0 H σ w → RelF σ n [] a α →
    c.wp E.P (fun e a' w' => e = ex.toExit ∧ ∃ σ' d, Ext B σ σ' ∧ Sim E.P B W0 H' σ' w' ∧ RelF σ' n [d] a' α' ∧ DefRel E.P σ' d v) a w := by
  intro c
  induction c with
  | seq x y _ ihy =>
    intro α H σ a w ex α' H' v hok h hs hr
    simp only [okC, Bool.and_eq_true] at hok
    simp only [execDef] at h
    split at h
    · rename_i o dd hdef
      obtain ⟨id, ops, t, f, first, cap, cl, rfl, hops, e1, e2, e3, e4, e5, e6, e7, e8⟩ := isDef_spec hdef
      cases hst : stepOp E call o.op (ev α) H with
      | none => simp [hst, bnd] at h
      | some r =>
        obtain ⟨v1, H1⟩ := r
        simp only [hst, bnd] at h
        cases hx : execC E call loop y (put α o.dst v1) H1 with
        | none => simp [hx] at h
        | some q =>
          simp only [hx, Option.some.injEq, Prod.mk.injEq] at h
          obtain ⟨rfl, rfl⟩ := h
          have hdn : ∀ o ∈ ops.toList, ∀ d, o.dst = some d → d < n := by
            intro o ho d hdst
            have := hok.1
            simp only [okC, Bool.and_eq_true] at this
            have := Array.all_eq_true_iff_forall_mem.1 this.1 o (by simpa using ho)
            simpa [hdst] using this
          refine wp_seq (wp_region_list ?_)
          rw [hops]
          have w1 : Region.wanted o (yielded ops a.tmps) = true := by simp [Region.wanted, e3]
          simp only [wpList, w1, if_true]
          refine .inl (wp_of_uponA (stepOp_sound hs hc o (ev α) a.eval (fun x _ => hr.eval x) hst) ?_)
          rintro u w' ⟨σ1, hext, hsim, hrep⟩
          have hr1 := (hr.mono hext.le).put (hdn o (by rw [hops]; simp)) hrep
          have w2 : Region.wanted dd (yielded ops (a.put o.dst u).tmps) = true := by simp [Region.wanted, e5]
          simp only [w2, if_true]
          have hvt : (a.put o.dst u).eval (.tmp t) = u := by
            have htn : t < n := hdn o (by rw [hops]; simp) t e2
            have : t < a.tmps.size := by rw [hr.size]; exact htn
            simp [Act.eval, Act.put, e2, this]
          obtain ⟨us, vs, hu⟩ : ∃ us vs : List Value, u = .func f us.toArray vs.toArray := by
            have : v1 = .fn f (first.toList.map (ev α)) (cap.toList.map (ev α)) := by
              rw [e1] at hst
              simp only [stepOp, pureOp, bnd, Option.some.injEq, Prod.mk.injEq] at hst
              exact hst.1.symm
            subst this
            simp only [Rep] at hrep
            obtain ⟨us, vs, e, _⟩ := hrep
            exact ⟨us, vs, e⟩
          subst hu
          have hrun : (execOp (a.put o.dst (.func f us.toArray vs.toArray)).eval dd).run E.P w' = .ok (.defer { target := .fn f vs.toArray, args := us.toArray ++ #[] }) w' := by
            obtain ⟨dst, op, ty, pos, after, guard⟩ := dd
            simp only at e4
            subst e4
            have ha : cl.args.map (a.put o.dst (.func f us.toArray vs.toArray)).eval = #[] := by apply Array.ext'; simp [e8]
            simp only [execOp, resolve, e7, ha, hvt, Deferred.ofValue, Sem.run_bind, Sem.run_pure, Result.andThen_ok]
          refine .inl ?_
          unfold Oper.wp
          rw [hrun, Oper.upon_defer]
          simp only [e6, Act.put, Exit.then]
          have hr2 : RelF σ1 n [{ target := .fn f vs.toArray, args := us.toArray ++ #[] }] { (a.put o.dst (.func f us.toArray vs.toArray)) with defers := { target := .fn f vs.toArray, args := us.toArray ++ #[] } :: (a.put o.dst (.func f us.toArray vs.toArray)).defers } (put α o.dst v1) :=
            ⟨hr1.size, hr1.rep, by rw [hr1.defers]⟩
          refine wp_mono (code_sound (ds := [{ target := .fn f vs.toArray, args := us.toArray ++ #[] }]) hc hm hl y _ H1 σ1 _ w' ex α' H' hok.2 hx hsim hr2) ?_
          rintro e a2 w2 ⟨rfl, σ2, q1, q2, q3⟩
          refine ⟨rfl, σ2, _, hext.trans q1, q2, q3, _, hrep.mono q1.le, fun w => ?_⟩
          simp [Deferred.ofValue]
    · cases hx : execC E call loop x α H with
      | none => simp [hx, bnd] at h
      | some r =>
        obtain ⟨ex1, α1, H1⟩ := r
        simp only [hx, bnd] at h
        cases ex1 with
        | normal =>
          simp only at h
          refine wp_seq (wp_mono (code_sound hc hm hl x α H σ a w .normal α1 H1 hok.1 hx hs hr) ?_)
          rintro e a1 w1 ⟨rfl, σ1, hext, hs1, hr1⟩
          refine wp_mono (ihy α1 H1 σ1 a1 w1 ex α' H' v hok.2 h hs1 hr1) ?_
          rintro e a2 w2 ⟨rfl, σ2, d, q1, q2, q3, q4⟩
          exact ⟨rfl, σ2, d, hext.trans q1, q2, q3, q4⟩
        | exit id => simp at h
        | ret => simp at h
  | _ => intro α H σ a w ex α' H' v hok h; simp [execDef] at h

end
end Go.Ab
