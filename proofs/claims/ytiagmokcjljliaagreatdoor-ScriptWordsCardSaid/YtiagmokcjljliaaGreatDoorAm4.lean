/- The abstract machine, 4: code and functions are sound; equations. -/
import Derived.Test.YtiagmokcjljliaaGreatDoorAm3
import Derived.Defers
import Derived.LoopN
/- Regions, code and functions, against the model. -/
namespace Go.Ab
set_option linter.unusedVariables false
open Go Go.RowKit

section
variable {P : Program} {B : Nat → Prop} {W0 : World} {H H' : AHeap} {σ σ' : St} {w w' : World} {n : Nat} {a : Act} {α : Frm} {E : Env} {call : CallO} {ops : Array Oper} {ds : List Deferred}

def Ex.toExit : Ex → Exit
  | .normal => .normal
  | .exit id => .exit id
  | .ret => .ret

/-- What the text must be like: each slot lies in the frame, and no two operations that stand in no order touch the same. -/
def okC (E : Env) (n : Nat) : Code → Bool
  | .region id ops draw => ops.all (fun o => match o.dst with | some d => decide (d < n) | none => true) && (!draw || (if E.dyn id = true then (E.any ops || lexD E ops || (List.range ops.size).any (lexA E ops)) else lex2 E ops 0 ops.toList))
  | .seq a b => okC E n a && okC E n b
  | .cond _ a b => okC E n a && okC E n b
  | .block _ c => okC E n c
  | .loop c => okC E n c
  | _ => true

def CLe (c c' : CallO) : Prop := ∀ f args H r, c f args H = some r → c' f args H = some r
def GLe (g g' : Frm → AHeap → Option Res) : Prop := ∀ α H r, g α H = some r → g' α H = some r
def LLe (l l' : (Frm → AHeap → Option Res) → Frm → AHeap → Option Res) : Prop := ∀ g g', GLe g g' → GLe (l g) (l' g')

theorem bnd_some {α β : Type} {x : Option α} {f : α → Option β} {r : β} (h : bnd x f = some r) : ∃ a, x = some a ∧ f a = some r := by
  cases x with
  | none => simp [bnd] at h
  | some a => exact ⟨a, rfl, h⟩

theorem closed_mono {P : Program} {c c' : CallO} (h : CLe c c') {f : FuncId} {args : List AV} {v : AV} (hv : closedCall P c f args = some v) : closedCall P c' f args = some v := by
  unfold closedCall at *
  split at hv
  · rename_i hn
    rw [if_pos hn]
    cases hc : c f (args.map AV.erase) .empty with
    | none => simp [hc] at hv
    | some p =>
      rw [h _ _ _ _ hc]
      simpa [hc] using hv
  · cases hv

theorem step_mono {c c' : CallO} (h : CLe c c') {op : Op} {ρ : Operand → AV} {r : AV × AHeap} (hr : stepOp E c op ρ H = some r) : stepOp E c' op ρ H = some r := by
  cases op <;> simp only [stepOp] at hr ⊢ <;> (try exact hr)
  case call cl =>
    unfold stepCall at *
    cases hf : cl.callee with
    | value f =>
      simp only [hf] at hr ⊢
      unfold callA at *
      cases ht : target (ρ f) with
      | none => simp [ht] at hr
      | some p =>
        obtain ⟨g, first, cap⟩ := p
        simp only [ht] at hr ⊢
        by_cases hcl : E.cl g = true
        · rw [if_pos hcl] at hr ⊢
          obtain ⟨v, h1, h2⟩ := bnd_some hr
          simp only [closed_mono h h1, bnd]
          exact h2
        · rw [if_neg hcl] at hr ⊢
          exact h _ _ _ _ hr
    | builtin b => simp only [hf] at hr ⊢; cases b <;> exact hr
    | invoke q m => simp only [hf] at hr ⊢; exact hr

theorem wpAnyA_mono {Q Q' : Frm → AHeap → Prop} (h : ∀ α H, Q α H → Q' α H) : ∀ (fuel : Nat) (listed : Array Bool) (α : Frm) (H : AHeap), wpAnyA E call ops Q fuel listed α H → wpAnyA E call ops Q' fuel listed α H
  | 0, _, _, _, hh => ⟨hh.1, h _ _ hh.2⟩
  | fuel + 1, _, _, _, hh => ⟨fun e => h _ _ (hh.1 e), fun i hi => stepA_mono (wpAnyA_mono h fuel _) (hh.2 i hi)⟩

theorem sameEs_eq : ∀ (a b : List (AV × AV × Nat)), sameEs a b = true → a = b
  | [], b, h => by cases b with | nil => rfl | cons => simp only [sameEs, Bool.false_eq_true] at h
  | (x, y, n) :: r, b, h => by
    cases b with
    | nil => simp only [sameEs, Bool.false_eq_true] at h
    | cons z l =>
      simp only [sameEs, Bool.and_eq_true, decide_eq_true_eq] at h
      rw [sameAV_eq _ _ h.1.1.1, sameAV_eq _ _ h.1.1.2, h.1.2, sameEs_eq r l h.2]

theorem sameObj_eq : ∀ (a b : AObj), sameObj a b = true → a = b
  | .cells t cs, b, h => by
    cases b <;> simp only [sameObj, Bool.and_eq_true, decide_eq_true_eq, Bool.false_eq_true] at h
    rw [h.1, sameL_eq _ _ h.2]
  | .tip n t, b, h => by
    cases b <;> simp only [sameObj, Bool.and_eq_true, decide_eq_true_eq, Bool.false_eq_true] at h
    rw [h.1, h.2]
  | .row n t s cs, b, h => by
    cases b <;> simp only [sameObj, Bool.and_eq_true, decide_eq_true_eq, Bool.false_eq_true] at h
    rw [h.1.1.1, h.1.1.2, h.1.2, sameL_eq _ _ h.2]
  | .map es c, b, h => by
    cases b <;> simp only [sameObj, Bool.and_eq_true, decide_eq_true_eq, Bool.false_eq_true] at h
    rw [sameEs_eq _ _ h.1, h.2]

theorem sameOL_eq : ∀ (a b : List (Nat × AObj)), sameOL a b = true → a = b
  | [], b, h => by cases b with | nil => rfl | cons => simp only [sameOL, Bool.false_eq_true] at h
  | (i, x) :: r, b, h => by
    cases b with
    | nil => simp only [sameOL, Bool.false_eq_true] at h
    | cons y l =>
      simp only [sameOL, Bool.and_eq_true, decide_eq_true_eq] at h
      rw [h.1.1, sameObj_eq _ _ h.1.2, sameOL_eq r l h.2]

theorem cle_no (call : CallO) : ∀ f args H r, noCall f args H = some r → call f args H = some r := fun f args H r h => by simp [noCall] at h

theorem put_off {α : Frm} {dst : Option Tmp} {d : Tmp} (h : dst ≠ some d) (v : AV) : Ab.put α dst v d = α d := by
  cases dst with
  | none => rfl
  | some e => exact if_neg fun h' => h (by rw [h'])

theorem anyB_spec {chk : Frm → AHeap → Bool} {α0 : Frm} : ∀ (fuel : Nat) (listed : Array Bool) (α : Frm) (H : AHeap), anyB E ops chk fuel listed α H = true → (∀ d, (∀ o ∈ ops.toList, o.dst ≠ some d) → α d = α0 d) →
    wpAnyA E call ops (fun α2 H2 => chk α2 H2 = true ∧ ∀ d, (∀ o ∈ ops.toList, o.dst ≠ some d) → α2 d = α0 d) fuel listed α H
  | 0, listed, α, H, h, hk => by
    simp only [anyB, Bool.and_eq_true, List.isEmpty_iff] at h
    exact ⟨h.1, h.2, hk⟩
  | fuel + 1, listed, α, H, h, hk => by
    have keep : ∀ (i : Nat) (o : Oper) (v : AV), ops[i]? = some o → ∀ d, (∀ o ∈ ops.toList, o.dst ≠ some d) → put α o.dst v d = α0 d := by
      intro i o v ho d hd
      have hne : o.dst ≠ some d := hd o (by simpa using Array.mem_of_getElem? ho)
      rw [← hk d hd]
      exact put_off hne v
    simp only [anyB] at h
    split at h
    · rename_i i hi
      have hr := List.mem_of_find?_eq_some hi
      have hf := List.find?_some hi
      split at h
      · rename_i o ho
        split at h
        · rename_i hw
          split at h
          · rename_i v H' hs
            exact wpAnyA_first ho fuel listed α H H' (freeH_spec ho hf) hr (.inl ⟨hw, step_mono (cle_no call) hs⟩) (anyB_spec fuel _ _ _ h (keep i o v ho))
          · cases h
        · rename_i hw
          exact wpAnyA_first ho fuel listed α H H (freeH_spec ho hf) hr (.inr ⟨hw, rfl, rfl⟩) (anyB_spec fuel _ _ _ h (keep i o undefA ho))
        · cases h
      · cases h
    simp only [Bool.and_eq_true, List.all_eq_true] at h
    refine ⟨fun he => ⟨?_, hk⟩, fun i hi => ?_⟩
    · have := h.1
      simpa [he] using this
    have h2 := h.2 i hi
    unfold stepA
    split at h2
    · rename_i o ho
      simp only [ho]
      split at h2
      · rename_i hw
        simp only [hw]
        split at h2
        · rename_i v H' hs
          exact ⟨v, H', step_mono (cle_no call) hs, anyB_spec fuel _ _ _ h2 (keep i o v ho)⟩
        · cases h2
      · rename_i hw
        simp only [hw]
        exact anyB_spec fuel _ _ _ h2 (keep i o undefA ho)
      · cases h2
    · cases h2

theorem ops_off (c : CallO) {all : Array Oper} : ∀ (l : List Oper) (α : Frm) (H : AHeap) (r : Frm × AHeap), execOps E c all l α H = some r → ∀ d, (∀ o ∈ l, o.dst ≠ some d) → r.1 d = α d
  | [], α, H, r, h, d, hd => by
    simp only [execOps, Option.some.injEq] at h
    rw [← h]
  | o :: l, α, H, r, h, d, hd => by
    simp only [execOps] at h
    have hne : o.dst ≠ some d := hd o (List.mem_cons_self ..)
    have off : ∀ v, put α o.dst v d = α d := put_off hne
    have hl : ∀ o ∈ l, o.dst ≠ some d := fun o ho => hd o (List.mem_cons_of_mem _ ho)
    cases hw : wantedA all o.guard α with
    | none => simp [hw, bnd] at h
    | some b =>
      simp only [hw, bnd] at h
      cases b with
      | true =>
        simp only [sel, if_true] at h
        cases hs : stepOp E c o.op (ev α) H with
        | none => simp [hs] at h
        | some p =>
          simp only [hs] at h
          rw [ops_off c l _ _ _ h d hl, off]
      | false =>
        simp only [sel, Bool.false_eq_true, if_false] at h
        rw [ops_off c l _ _ _ h d hl, off]

theorem opsB_any {α' : Frm} (h : execOpsB E ops α H = some (α', H')) : wpAnyA E call ops (fun α2 H2 => α2 = α' ∧ H2 = H') ops.size (Array.replicate ops.size false) α H := by
  unfold execOpsB at h
  split at h
  · rename_i r hr
    unfold sel at h
    split at h
    · rename_i hb
      cases h
      have hoff := ops_off noCall ops.toList α H _ hr
      refine wpAnyA_mono (fun α2 H2 hq => ?_) _ _ _ _ (anyB_spec (α0 := α) ops.size _ α H hb fun _ _ => rfl)
      obtain ⟨hq1, hq2⟩ := hq
      simp only [sameEnd, Bool.and_eq_true, List.all_eq_true, decide_eq_true_eq] at hq1
      refine ⟨funext fun d => ?_, ?_⟩
      · by_cases hd : ∀ o ∈ ops.toList, o.dst ≠ some d
        · rw [hq2 d hd]; exact (hoff d hd).symm
        · have ⟨o, ho⟩ := Classical.not_forall.1 hd
          have ⟨ho1, ho2⟩ := Classical.not_imp.1 ho
          have ho3 := Classical.not_not.1 ho2
          have := hq1.1.1 o ho1
          rw [ho3] at this
          exact sameAV_eq _ _ this
      · have h1 := hq1.1.2
        have h2 := sameOL_eq _ _ hq1.2
        cases H2
        cases H'
        simp only at h1 h2
        rw [h1, h2]
    · cases h
  · cases h

theorem region_sound (hc : CallOk E.P call) (hm : E.P.follows .mixedOrders = true) {id : Nat} {draw : Bool} {α' : Frm} {Q : Exit → Act → World → Prop} (hok : okC E n (.region id ops draw) = true) (hs : Sim E.P B W0 H σ w) (hr : RelF σ n ds a α)
    (h : sel (draw && E.dyn id) (sel (E.any ops) (execOpsB E ops α H) (execOpsD E call ops 0 ops.toList [] [] α H)) (execOps E call ops ops.toList α H) = some (α', H')) (hQ : ∀ a' w', Post E.P B W0 σ n ds α' H' a' w' → Q .normal a' w') : (Code.region id ops draw).wp E.P Q a w := by
  simp only [okC, Bool.and_eq_true] at hok
  have hd : ∀ o ∈ ops.toList, ∀ d, o.dst = some d → d < n := by
    intro o ho d hdst
    have := Array.all_eq_true_iff_forall_mem.1 hok.1 o (by simpa using ho)
    simpa [hdst] using this
  cases draw with
  | false =>
    simp only [Bool.false_and, sel, Bool.false_eq_true, if_false] at h
    exact wp_region_list (ops_sound hc ops.toList α H σ a w h hs hr hd hQ)
  | true =>
   by_cases hdyn : E.dyn id = true
   · refine wp_region_any hm ?_
     simp only [hdyn, Bool.and_self, sel, if_true] at h
     by_cases hany : E.any ops = true
     · rw [if_pos hany] at h
       refine any_sound hc (fun i o ho => hd o (by simpa using Array.mem_of_getElem? ho)) _ _ α H σ a _ (opsB_any (call := call) h) hs.drew hr ?_
       rintro α2 H2 a2 w2 σ2 he hs2 hr2 ⟨rfl, rfl⟩
       exact hQ a2 w2 ⟨σ2, he, hs2, hr2⟩
     rw [if_neg hany] at h
     have hlex' : lexD E ops = true ∨ ∃ i0, lexA E ops i0 = true := by
       have := hok.2
       simp only [hdyn, Bool.eq_false_iff.2 hany, Bool.not_true, Bool.false_or, if_true, Bool.or_eq_true, List.any_eq_true] at this
       rcases this with h | ⟨i, _, h⟩
       · exact .inl h
       · exact .inr ⟨i, h⟩
     rcases hlex' with hlex | ⟨i0, hlex⟩
     rotate_left
     · exact dynA_any hc hlex (fun i o ho => hd o (by simpa using Array.mem_of_getElem? ho)) h hs.drew hr fun σ1 a' w' h1 h2 h3 => hQ a' w' ⟨σ1, h1, h2, h3⟩
     have hA := dyn_any (E := E) (call := call) (ops := ops) (Q := fun α2 H2 => α2 = α' ∧ H2 = H') hlex h ⟨rfl, rfl⟩
     refine any_sound hc (fun i o ho => hd o (by simpa using Array.mem_of_getElem? ho)) _ _ α H σ a _ hA hs.drew hr ?_
     rintro α2 H2 a2 w2 σ2 he hs2 hr2 ⟨rfl, rfl⟩
     exact hQ a2 w2 ⟨σ2, he, hs2, hr2⟩
   · 
    refine wp_region_any hm ?_
    have hdyn' : E.dyn id = false := by simpa using hdyn
    simp only [hdyn', Bool.and_false, sel, Bool.false_eq_true, if_false] at h hok
    have hlex : orderOk E ops = true := orderOk_of_lex2 (by simpa using hok.2)
    have hA := wpAnyA_lex (E := E) (call := call) (ops := ops) (Q := fun α2 H2 => α2 = α' ∧ H2 = H') ops.toList 0 (Array.replicate ops.size false) α H α' H' (by simp) (by simpa [orderOk] using hlex) h ⟨rfl, rfl⟩
    rw [Array.length_toList] at hA
    refine any_sound hc (fun i o ho => hd o (by simpa using Array.mem_of_getElem? ho)) _ _ α H σ a _ hA hs.drew hr ?_
    rintro α2 H2 a2 w2 σ2 he hs2 hr2 ⟨rfl, rfl⟩
    exact hQ a2 w2 ⟨σ2, he, hs2, hr2⟩

def LoopOk (loop : (Frm → AHeap → Option Res) → Frm → AHeap → Option Res) : Prop := ∀ g α H r, loop g α H = some r → ∃ k, loopN g k α H = some r

theorem rounds_mono {c : Code} {Q Q' : Exit → Act → World → Prop} (h : ∀ e a w, Q e a w → Q' e a w) : ∀ (k : Nat) (a : Act) (w : World), Code.rounds P c Q k a w → Code.rounds P c Q' k a w
  | 0, _, _, hk => hk
  | k + 1, a, w, hk => by
    rw [rounds_succ] at hk ⊢
    refine wp_mono hk ?_
    intro e a' w' he
    cases e with
    | normal => exact rounds_mono h k a' w' he
    | _ => exact h _ _ _ he

theorem code_sound (hc : CallOk E.P call) (hm : E.P.follows .mixedOrders = true) {loop : (Frm → AHeap → Option Res) → Frm → AHeap → Option Res} (hl : LoopOk loop) : ∀ (c : Code) (α : Frm) (H : AHeap) (σ : St) (a : Act) (w : World) (ex : Ex) (α' : Frm) (H' : AHeap),
    okC E n c = true → execC E call loop c α H = some (ex, α', H') → Sim E.P B W0 H σ w → RelF σ n ds a α →
    c.wp E.P (fun e a' w' => e = ex.toExit ∧ Post E.P B W0 σ n ds α' H' a' w') a w
  | .skip, α, H, σ, a, w, ex, α', H', _, h, hs, hr => by
    simp only [execC, Option.some.injEq, Prod.mk.injEq] at h
    obtain ⟨rfl, rfl, rfl⟩ := h
    exact wp_skip ⟨rfl, σ, Ext.refl _ _, hs, hr⟩
  | .region id ops draw, α, H, σ, a, w, ex, α', H', hok, h, hs, hr => by
    simp only [execC] at h
    cases he : sel (draw && E.dyn id) (sel (E.any ops) (execOpsB E ops α H) (execOpsD E call ops 0 ops.toList [] [] α H)) (execOps E call ops ops.toList α H) with
    | none => simp [he, bnd] at h
    | some p =>
      obtain ⟨α1, H1⟩ := p
      simp only [he, bnd, Option.some.injEq, Prod.mk.injEq] at h
      obtain ⟨rfl, rfl, rfl⟩ := h
      exact region_sound hc hm hok hs hr he fun a' w' hp => ⟨rfl, hp⟩
  | .seq x y, α, H, σ, a, w, ex, α', H', hok, h, hs, hr => by
    simp only [okC, Bool.and_eq_true] at hok
    simp only [execC] at h
    cases hx : execC E call loop x α H with
    | none => simp [hx, bnd] at h
    | some r =>
      obtain ⟨ex1, α1, H1⟩ := r
      simp only [hx, bnd] at h
      have ih := code_sound hc hm hl x α H σ a w ex1 α1 H1 hok.1 hx hs hr
      refine wp_seq (wp_mono ih ?_)
      rintro e a1 w1 ⟨rfl, σ1, hext, hs1, hr1⟩
      cases ex1 with
      | normal =>
        simp only [andThen] at h
        refine wp_mono (code_sound hc hm hl y α1 H1 σ1 a1 w1 ex α' H' hok.2 h hs1 hr1) ?_
        rintro e a2 w2 ⟨rfl, hp⟩
        exact ⟨rfl, hp.trans hext⟩
      | exit id =>
        simp only [andThen, Option.some.injEq, Prod.mk.injEq] at h
        obtain ⟨rfl, rfl, rfl⟩ := h
        exact ⟨rfl, σ1, hext, hs1, hr1⟩
      | ret =>
        simp only [andThen, Option.some.injEq, Prod.mk.injEq] at h
        obtain ⟨rfl, rfl, rfl⟩ := h
        exact ⟨rfl, σ1, hext, hs1, hr1⟩
  | .cond c x y, α, H, σ, a, w, ex, α', H', hok, h, hs, hr => by
    simp only [okC, Bool.and_eq_true] at hok
    simp only [execC, condA] at h
    split at h
    · rename_i v hv
      have hcv := hr.eval c
      rw [hv] at hcv
      simp only [Rep] at hcv
      refine wp_cond hcv ?_
      cases v with
      | true => exact code_sound hc hm hl x α H σ a w ex α' H' hok.1 (by simpa [sel] using h) hs hr
      | false => exact code_sound hc hm hl y α H σ a w ex α' H' hok.2 (by simpa [sel] using h) hs hr
    · cases h
  | .block id c, α, H, σ, a, w, ex, α', H', hok, h, hs, hr => by
    simp only [okC] at hok
    simp only [execC] at h
    cases hx : execC E call loop c α H with
    | none => simp [hx, bnd] at h
    | some r =>
      obtain ⟨ex1, α1, H1⟩ := r
      simp only [hx, bnd, Option.some.injEq] at h
      refine wp_block (wp_mono (code_sound hc hm hl c α H σ a w ex1 α1 H1 hok hx hs hr) ?_)
      rintro e a1 w1 ⟨rfl, hp⟩
      cases ex1 with
      | normal =>
        simp only [unblock, Prod.mk.injEq] at h
        obtain ⟨rfl, rfl, rfl⟩ := h
        exact ⟨rfl, hp⟩
      | exit j =>
        simp only [unblock] at h
        simp only [Ex.toExit, Exit.inBlock]
        by_cases hj : j = id
        · rw [if_pos hj] at h ⊢
          simp only [Prod.mk.injEq] at h
          obtain ⟨rfl, rfl, rfl⟩ := h
          exact ⟨rfl, hp⟩
        · rw [if_neg hj] at h ⊢
          simp only [Prod.mk.injEq] at h
          obtain ⟨rfl, rfl, rfl⟩ := h
          exact ⟨rfl, hp⟩
      | ret =>
        simp only [unblock, Prod.mk.injEq] at h
        obtain ⟨rfl, rfl, rfl⟩ := h
        exact ⟨rfl, hp⟩
  | .loop c, α, H, σ, a, w, ex, α', H', hok, h, hs, hr => by
    simp only [okC] at hok
    simp only [execC] at h
    obtain ⟨k, hk⟩ := hl _ _ _ _ h
    refine wp_loop_rounds k ?_
    clear h
    induction k generalizing α H σ a w with
    | zero => simp [loopN] at hk
    | succ k ih =>
      simp only [loopN] at hk
      rw [rounds_succ]
      cases hx : execC E call loop c α H with
      | none => simp [hx, bnd] at hk
      | some r =>
        obtain ⟨ex1, α1, H1⟩ := r
        simp only [hx, bnd] at hk
        refine wp_mono (code_sound hc hm hl c α H σ a w ex1 α1 H1 hok hx hs hr) ?_
        rintro e a1 w1 ⟨rfl, σ1, hext, hs1, hr1⟩
        cases ex1 with
        | normal =>
          simp only [andThen] at hk
          have := ih α1 H1 σ1 a1 w1 hs1 hr1 hk
          simp only [Ex.toExit, Exit.then]
          refine rounds_mono ?_ k a1 w1 this
          rintro e a2 w2 ⟨rfl, hp⟩
          exact ⟨rfl, hp.trans hext⟩
        | exit id =>
          simp only [andThen, Option.some.injEq, Prod.mk.injEq] at hk
          obtain ⟨rfl, rfl, rfl⟩ := hk
          exact ⟨rfl, σ1, hext, hs1, hr1⟩
        | ret =>
          simp only [andThen, Option.some.injEq, Prod.mk.injEq] at hk
          obtain ⟨rfl, rfl, rfl⟩ := hk
          exact ⟨rfl, σ1, hext, hs1, hr1⟩
  | .exit id, α, H, σ, a, w, ex, α', H', _, h, hs, hr => by
    simp only [execC, Option.some.injEq, Prod.mk.injEq] at h
    obtain ⟨rfl, rfl, rfl⟩ := h
    exact wp_exit ⟨rfl, σ, Ext.refl _ _, hs, hr⟩
  | .ret, α, H, σ, a, w, ex, α', H', _, h, hs, hr => by
    simp only [execC, Option.some.injEq, Prod.mk.injEq] at h
    obtain ⟨rfl, rfl, rfl⟩ := h
    exact wp_ret ⟨rfl, σ, Ext.refl _ _, hs, hr⟩
  | .rangeFunc _ _ _ _, _, _, _, _, _, _, _, _, _, h, _, _ => by simp [execC] at h
  | .scope _, _, _, _, _, _, _, _, _, _, h, _, _ => by simp [execC] at h
  | .label _, _, _, _, _, _, _, _, _, _, h, _, _ => by simp [execC] at h
  | .goto _, _, _, _, _, _, _, _, _, _, h, _, _ => by simp [execC] at h
  | .refuse _, _, _, _, _, _, _, _, _, _, h, _, _ => by simp [execC] at h

/-! ### A function that defers one closure's call -/

theorem isDef_spec {c : Code} {o d : Oper} (h : isDef c = some (o, d)) : ∃ id ops t f first cap cl, c = .region id ops false ∧ ops.toList = [o, d] ∧ o.op = .makeFunc f first cap ∧ o.dst = some t ∧ o.guard = none ∧ d.op = .defer cl ∧ d.guard = none ∧ d.dst = none ∧ cl.callee = .value (.tmp t) ∧ cl.args.toList = [] := by
  unfold isDef at h
  split at h
  · rename_i id ops draw
    split at h
    · rename_i o1 d1 hops
      split at h
      · rename_i f first cap t cl e1 e2 e3 e4 e5 e6
        split at h
        · rename_i t' hcal
          split at h
          · rename_i hc
            obtain ⟨rfl, hc2⟩ := hc
            simp only [Option.some.injEq, Prod.mk.injEq] at h
            obtain ⟨rfl, rfl⟩ := h
            exact ⟨id, ops, t, f, first, cap, cl, rfl, hops, e1, e2, e3, e4, e5, e6, hcal, by simpa using hc2⟩
          · cases h
        · cases h
      · cases h
    · cases h
  · cases h

/-- A deferred call against a closure. -/
def DefRel (P : Program) (σ : St) (d : Deferred) (v : AV) : Prop := ∃ u, Rep σ v u ∧ ∀ w, (Deferred.ofValue u #[]).run P w = .ok d w

theorem DefRel.mono {σ' : St} {d : Deferred} {v : AV} (hle : σ.le σ') (h : DefRel P σ d v) : DefRel P σ' d v := by
  obtain ⟨u, r, e⟩ := h
  exact ⟨u, r.mono hle, e⟩

theorem def_sound (hc : CallOk E.P call) (hm : E.P.follows .mixedOrders = true) {loop : (Frm → AHeap → Option Res) → Frm → AHeap → Option Res} (hl : LoopOk loop) : ∀ (c : Code) (α : Frm) (H : AHeap) (σ : St) (a : Act) (w : World) (ex : Ex) (α' : Frm) (H' : AHeap) (v : AV),
    okC E n c = true → execDef E call loop c α H = some ((ex, α', H'), v) → Sim E.P B W0 H σ w → RelF σ n [] a α →
    c.wp E.P (fun e a' w' => e = ex.toExit ∧ ∃ σ' d, Ext B σ σ' ∧ Sim E.P B W0 H' σ' w' ∧ RelF σ' n [d] a' α' ∧ DefRel E.P σ' d v) a w := by
  intro c
  induction c with
  | seq x y _ ihy =>
    intro α H σ a w ex α' H' v hok h hs hr
    simp only [okC, Bool.and_eq_true] at hok
    simp only [execDef] at h
    split at h
    · rename_i o dd hdef
      obtain ⟨id, ops, t, f, first, cap, cl, rfl, hops, e1, e2, e3, e4, e5, e6, e7, e8⟩ := isDef_spec hdef
      cases hst : stepOp E call o.op (ev α) H with
      | none => simp [hst, bnd] at h
      | some r =>
        obtain ⟨v1, H1⟩ := r
        simp only [hst, bnd] at h
        cases hx : execC E call loop y (put α o.dst v1) H1 with
        | none => simp [hx] at h
        | some q =>
          simp only [hx, Option.some.injEq, Prod.mk.injEq] at h
          obtain ⟨rfl, rfl⟩ := h
          have hdn : ∀ o ∈ ops.toList, ∀ d, o.dst = some d → d < n := by
            intro o ho d hdst
            have := hok.1
            simp only [okC, Bool.and_eq_true] at this
            have := Array.all_eq_true_iff_forall_mem.1 this.1 o (by simpa using ho)
            simpa [hdst] using this
          refine wp_seq (wp_region_list ?_)
          rw [hops]
          have w1 : Region.wanted o (yielded ops a.tmps) = true := by simp [Region.wanted, e3]
          simp only [wpList, w1, if_true]
          refine .inl (wp_of_uponA (stepOp_sound hs hc o (ev α) a.eval (fun x _ => hr.eval x) hst) ?_)
          rintro u w' ⟨σ1, hext, hsim, hrep⟩
          have hr1 := (hr.mono hext.le).put (hdn o (by rw [hops]; simp)) hrep
          have w2 : Region.wanted dd (yielded ops (a.put o.dst u).tmps) = true := by simp [Region.wanted, e5]
          simp only [w2, if_true]
          have hvt : (a.put o.dst u).eval (.tmp t) = u := by
            have htn : t < n := hdn o (by rw [hops]; simp) t e2
            have : t < a.tmps.size := by rw [hr.size]; exact htn
            simp [Act.eval, Act.put, e2, this]
          obtain ⟨us, vs, hu⟩ : ∃ us vs : List Value, u = .func f us.toArray vs.toArray := by
            have : v1 = .fn f (first.toList.map (ev α)) (cap.toList.map (ev α)) := by
              rw [e1] at hst
              simp only [stepOp, pureOp, bnd, Option.some.injEq, Prod.mk.injEq] at hst
              exact hst.1.symm
            subst this
            simp only [Rep] at hrep
            obtain ⟨us, vs, e, _⟩ := hrep
            exact ⟨us, vs, e⟩
          subst hu
          have hrun : (execOp (a.put o.dst (.func f us.toArray vs.toArray)).eval dd).run E.P w' = .ok (.defer { target := .fn f vs.toArray, args := us.toArray ++ #[] }) w' := by
            obtain ⟨dst, op, ty, pos, after, guard⟩ := dd
            simp only at e4
            subst e4
            have ha : cl.args.map (a.put o.dst (.func f us.toArray vs.toArray)).eval = #[] := by apply Array.ext'; simp [e8]
            simp only [execOp, resolve, e7, ha, hvt, Deferred.ofValue, Sem.run_bind, Sem.run_pure, Result.andThen_ok]
          refine .inl ?_
          unfold Oper.wp
          rw [hrun, Oper.upon_defer]
          simp only [e6, Act.put, Exit.then]
          have hr2 : RelF σ1 n [{ target := .fn f vs.toArray, args := us.toArray ++ #[] }] { (a.put o.dst (.func f us.toArray vs.toArray)) with defers := { target := .fn f vs.toArray, args := us.toArray ++ #[] } :: (a.put o.dst (.func f us.toArray vs.toArray)).defers } (put α o.dst v1) :=
            ⟨hr1.size, hr1.rep, by rw [hr1.defers]⟩
          refine wp_mono (code_sound (ds := [{ target := .fn f vs.toArray, args := us.toArray ++ #[] }]) hc hm hl y _ H1 σ1 _ w' ex α' H' hok.2 hx hsim hr2) ?_
          rintro e a2 w2 ⟨rfl, σ2, q1, q2, q3⟩
          refine ⟨rfl, σ2, _, hext.trans q1, q2, q3, _, hrep.mono q1.le, fun w => ?_⟩
          simp [Deferred.ofValue]
    · cases hx : execC E call loop x α H with
      | none => simp [hx, bnd] at h
      | some r =>
        obtain ⟨ex1, α1, H1⟩ := r
        simp only [hx, bnd] at h
        cases ex1 with
        | normal =>
          simp only at h
          refine wp_seq (wp_mono (code_sound hc hm hl x α H σ a w .normal α1 H1 hok.1 hx hs hr) ?_)
          rintro e a1 w1 ⟨rfl, σ1, hext, hs1, hr1⟩
          refine wp_mono (ihy α1 H1 σ1 a1 w1 ex α' H' v hok.2 h hs1 hr1) ?_
          rintro e a2 w2 ⟨rfl, σ2, d, q1, q2, q3, q4⟩
          exact ⟨rfl, σ2, d, hext.trans q1, q2, q3, q4⟩
        | exit id => simp at h
        | ret => simp at h
  | _ => intro α H σ a w ex α' H' v hok h; simp [execDef] at h

end
end Go.Ab

/- Functions, against the model; and the machine without a count of rounds: the equations that it meets. -/
namespace Go.Ab
set_option linter.unusedVariables false
open Go Go.RowKit

section
variable {P : Program} {B : Nat → Prop} {W0 : World} {H H' : AHeap} {σ σ' : St} {w w' : World} {n : Nat} {a : Act} {α : Frm} {E : Env} {call : CallO} {ds : List Deferred}

def rvSem (a : Act) : ResultVar → Sem Value
  | .tmp t => pure (a.tmps.getD t undef)
  | .cell x t => do loadVar t (← asAddr (a.tmps.getD x undef))

theorem results_eq (fn : Func) (a : Act) : results fn a.tmps = (do let vs ← fn.results.mapM (rvSem a); pure (if h : vs.size = 1 then vs[0] else .tuple vs)) := by
  unfold results
  congr 1

theorem results_run (hs : Sim P B W0 H σ w) (hr : RelF σ n ds a α) : ∀ (rs : List ResultVar) (vs : List AV), resultsA P α H rs = some vs →
    ∃ us : List Value, (rs.mapM (rvSem a) : Sem (List Value)).run P w = .ok us w ∧ RepL σ vs us
  | [], vs, h => by
    simp only [resultsA, Option.some.injEq] at h
    subst h
    exact ⟨[], by simp, by simp [RepL]⟩
  | .tmp t :: rs, vs, h => by
    simp only [resultsA] at h
    cases hv : resultsA P α H rs with
    | none => simp [hv, bnd] at h
    | some vs' =>
      simp only [hv, bnd, Option.some.injEq] at h
      subst h
      obtain ⟨us, h1, h2⟩ := results_run hs hr rs vs' hv
      refine ⟨a.tmps.getD t undef :: us, ?_, RepL.cons_iff.2 ⟨_, _, rfl, hr.rep t, h2⟩⟩
      simp only [List.mapM_cons, rvSem, Sem.run_bind, Sem.run_pure, Result.andThen_ok, h1]
  | .cell x t :: rs, vs, h => by
    simp only [resultsA] at h
    have hx := hr.rep x
    cases hp : α x with
    | ptr id off =>
      simp only [hp] at h hx
      cases hl : loadA P H t (.ptr id off) with
      | none => simp [hl, bnd] at h
      | some v =>
        simp only [hl, bnd] at h
        cases hv : resultsA P α H rs with
        | none => simp [hv] at h
        | some vs' =>
          simp only [hv, Option.some.injEq] at h
          subst h
          obtain ⟨us, h1, h2⟩ := results_run hs hr rs vs' hv
          obtain ⟨u, hu, ru⟩ := pure_load hs hx hl
          have hx' := hx
          simp only [Rep] at hx'
          obtain ⟨b, hb, e⟩ := hx'
          rw [e] at hu
          have hload : (loadVar t ⟨b, off, none⟩).run P w = .ok u w := by
            simp only [Instr.loadAt, Instr.sureAddr, Sem.run_bind, Sem.run_pure, Result.andThen_ok] at hu
            cases hlv : (loadVar t ⟨b, off, none⟩).run P w with
            | ok u' w' =>
              rw [hlv] at hu
              simp only [Result.andThen_ok, Result.ok.injEq, Next.value.injEq] at hu
              obtain ⟨rfl, rfl⟩ := hu
              rfl
            | halt x' w' => rw [hlv] at hu; simp at hu
          refine ⟨u :: us, ?_, RepL.cons_iff.2 ⟨_, _, rfl, ru, h2⟩⟩
          simp only [List.mapM_cons, rvSem, Sem.run_bind, Sem.run_pure, Result.andThen_ok, e, asAddr, hload, h1]
    | _ => simp [hp, bnd] at h

theorem tupled_rep {vs : List AV} {us : List Value} (h : RepL σ vs us) : Rep σ (tupled vs) (if h : us.toArray.size = 1 then us.toArray[0] else .tuple us.toArray) := by
  cases vs with
  | nil => rw [RepL.nil_iff] at h; subst h; simp [tupled, Rep, RepL]
  | cons v vs =>
    cases vs with
    | nil =>
      rw [RepL.cons_iff] at h
      obtain ⟨u, us', rfl, r, q⟩ := h
      rw [RepL.nil_iff] at q
      subst q
      simpa [tupled] using r
    | cons v2 vs =>
      have hl := h.length
      rw [dif_neg (by simp; simp at hl; omega)]
      simp only [tupled, Rep]
      exact ⟨us, rfl, h⟩

structure EnvOk (E : Env) : Prop where
  mixed : E.P.follows .mixedOrders = true
  good : ∀ f, E.G f = true → ∃ fn c, E.P.funcs[f]? = some fn ∧ fn.body = some c ∧ (fn.name == "runtime.NumGoroutine") = false ∧ okC E fn.ntmps c = true
  ext : CallOk E.P E.ext

theorem frm0_rel {args : List AV} {us : List Value} (h : RepL σ args us) (hn : args.length ≤ n) : RelF σ n [] { tmps := us.toArray ++ Array.replicate (n - us.toArray.size) undef, defers := [] } (frm0 args) := by
  have hl := h.length
  refine ⟨by simp; omega, fun i => ?_, rfl⟩
  simp only [frm0]
  by_cases hi : i < args.length
  · have ha : args[i]? = some args[i] := List.getElem?_eq_getElem hi
    obtain ⟨u, hu, ru⟩ := h.get ha
    rw [ha]
    have : (us.toArray ++ Array.replicate (n - us.toArray.size) undef)[i]? = some u := by
      rw [Array.getElem?_append_left (by simp; omega)]; simpa using hu
    simp only [Array.getD_eq_getD_getElem?, this]
    simpa using ru
  · rw [List.getElem?_eq_none (by omega)]
    have : ((us.toArray ++ Array.replicate (n - us.toArray.size) undef)[i]?).getD undef = undef := by
      rw [Array.getElem?_append_right (by simp; omega)]
      cases hq : (Array.replicate (n - us.toArray.size) undef)[i - us.toArray.size]? with
      | none => rfl
      | some q =>
        have := Array.getElem?_eq_some_iff.1 hq
        obtain ⟨h1, h2⟩ := this
        simp at h2
        simp [← h2]
    simp only [Array.getD_eq_getD_getElem?, this]
    exact undefA_rep

theorem execB_sound (hE : EnvOk E) {f : FuncId} (hG : E.G f = true) (hc : CallOk E.P call) {loop : (Frm → AHeap → Option Res) → Frm → AHeap → Option Res} (hl : LoopOk loop) {args : List AV} {v : AV}
    (h : execB E call loop f args H = some (v, H')) : callable E.P f ∧ CallsA E.P f args H v H' := by
  obtain ⟨fn, c, h1, h2, h3, h4⟩ := hE.good f hG
  refine ⟨⟨fn, h1, h3, by simp [h2]⟩, ?_⟩
  simp only [execB, h1, h2] at h
  split at h
  · rename_i hn
    intro B W0 σ w us hs hr
    cases hx : execC E call loop c (frm0 args) H with
    | none => simp [hx, bnd] at h
    | some r =>
      obtain ⟨ex, α', H1⟩ := r
      simp only [hx, bnd] at h
      refine calls_of_wp h1 h2 (wp_mono (code_sound hc hE.mixed hl c (frm0 args) H σ _ w ex α' H1 h4 hx hs (frm0_rel hr hn)) ?_)
      rintro e a1 w1 ⟨rfl, σ1, hext, hs1, hr1⟩
      have fin : ∀ {vs : List AV}, resultsA E.P α' H1 fn.results.toList = some vs → ∃ u, (results fn a1.tmps).run E.P w1 = .ok u w1 ∧ Rep σ1 (tupled vs) u := by
        intro vs hv
        obtain ⟨us1, e1, e2⟩ := results_run hs1 hr1 _ _ hv
        refine ⟨_, ?_, tupled_rep e2⟩
        rw [results_eq]
        simp only [Array.mapM_eq_mapM_toList, Sem.run_bind, Sem.run_map, e1, Result.andThen_ok, Sem.run_pure]
      cases ex with
      | exit id => simp [finish] at h
      | normal =>
        simp only [finish] at h
        cases hv : resultsA E.P α' H1 fn.results.toList with
        | none => simp [hv, bnd] at h
        | some vs =>
          simp only [hv, bnd, Option.some.injEq, Prod.mk.injEq] at h
          obtain ⟨rfl, rfl⟩ := h
          obtain ⟨u, hu, ru⟩ := fin hv
          exact ⟨hr1.defers, u, hu, u, rfl, σ1, hext, hs1, ru⟩
      | ret =>
        simp only [finish] at h
        cases hv : resultsA E.P α' H1 fn.results.toList with
        | none => simp [hv, bnd] at h
        | some vs =>
          simp only [hv, bnd, Option.some.injEq, Prod.mk.injEq] at h
          obtain ⟨rfl, rfl⟩ := h
          obtain ⟨u, hu, ru⟩ := fin hv
          exact ⟨hr1.defers, u, hu, u, rfl, σ1, hext, hs1, ru⟩
  · cases h

/-- The same contract for a call that is deferred. -/
def CallsDA (P : Program) (f : FuncId) (args : List AV) (H : AHeap) (v : AV) (H' : AHeap) : Prop :=
  ∀ B W0 σ w us, Sim P B W0 H σ w → RepL σ args us → CallsD P f us.toArray .returning w (fun e u' w' => u' = .returning ∧ ∃ u, e = .returned u ∧ Goes P B W0 σ v H' u w')

theorem execB_soundD (hE : EnvOk E) {f : FuncId} (hG : E.G f = true) (hc : CallOk E.P call) {loop : (Frm → AHeap → Option Res) → Frm → AHeap → Option Res} (hl : LoopOk loop) {args : List AV} {v : AV}
    (h : execB E call loop f args H = some (v, H')) : callable E.P f ∧ CallsDA E.P f args H v H' := by
  obtain ⟨fn, c, h1, h2, h3, h4⟩ := hE.good f hG
  refine ⟨⟨fn, h1, h3, by simp [h2]⟩, ?_⟩
  simp only [execB, h1, h2] at h
  split at h
  · rename_i hn
    intro B W0 σ w us hs hr
    cases hx : execC E call loop c (frm0 args) H with
    | none => simp [hx, bnd] at h
    | some r =>
      obtain ⟨ex, α', H1⟩ := r
      simp only [hx, bnd] at h
      refine callsD_of_wp (R := fun e w' => ∃ u, e = .returned u ∧ Goes E.P B W0 σ v H' u w') h1 h2 (wp_mono (code_sound hc hE.mixed hl c (frm0 args) H σ _ w ex α' H1 h4 hx hs (frm0_rel hr hn)) ?_)
      rintro e a1 w1 ⟨rfl, σ1, hext, hs1, hr1⟩
      have fin : ∀ {vs : List AV}, resultsA E.P α' H1 fn.results.toList = some vs → ∃ u, (results fn a1.tmps).run E.P w1 = .ok u w1 ∧ Rep σ1 (tupled vs) u := by
        intro vs hv
        obtain ⟨us1, e1, e2⟩ := results_run hs1 hr1 _ _ hv
        refine ⟨_, ?_, tupled_rep e2⟩
        rw [results_eq]
        simp only [Array.mapM_eq_mapM_toList, Sem.run_bind, Sem.run_map, e1, Result.andThen_ok, Sem.run_pure]
      cases ex with
      | exit id => simp [finish] at h
      | normal =>
        simp only [finish] at h
        cases hv : resultsA E.P α' H1 fn.results.toList with
        | none => simp [hv, bnd] at h
        | some vs =>
          simp only [hv, bnd, Option.some.injEq, Prod.mk.injEq] at h
          obtain ⟨rfl, rfl⟩ := h
          obtain ⟨u, hu, ru⟩ := fin hv
          exact ⟨hr1.defers, u, hu, u, rfl, σ1, hext, hs1, ru⟩
      | ret =>
        simp only [finish] at h
        cases hv : resultsA E.P α' H1 fn.results.toList with
        | none => simp [hv, bnd] at h
        | some vs =>
          simp only [hv, bnd, Option.some.injEq, Prod.mk.injEq] at h
          obtain ⟨rfl, rfl⟩ := h
          obtain ⟨u, hu, ru⟩ := fin hv
          exact ⟨hr1.defers, u, hu, u, rfl, σ1, hext, hs1, ru⟩
  · cases h

theorem execBD_sound (hE : EnvOk E) {f : FuncId} (hG : E.G f = true) (hc : CallOk E.P call) (hcD : ∀ g args H v H', E.G g = true → E.df g = false → call g args H = some (v, H') → callable E.P g ∧ CallsDA E.P g args H v H')
    {loop : (Frm → AHeap → Option Res) → Frm → AHeap → Option Res} (hl : LoopOk loop) {args : List AV} {v : AV}
    (h : execBD E call loop f args H = some (v, H')) : callable E.P f ∧ CallsA E.P f args H v H' := by
  obtain ⟨fn, c, h1, h2, h3, h4⟩ := hE.good f hG
  refine ⟨⟨fn, h1, h3, by simp [h2]⟩, ?_⟩
  simp only [execBD, h1, h2] at h
  split at h
  · rename_i hn
    intro B W0 σ w us hs hr
    cases hx : execDef E call loop c (frm0 args) H with
    | none => simp [hx, bnd] at h
    | some r =>
      obtain ⟨⟨ex, α', H1⟩, vc⟩ := r
      simp only [hx, bnd] at h
      refine calls_of_wp_defers h1 h2 (wp_mono (def_sound hc hE.mixed hl c (frm0 args) H σ _ w ex α' H1 vc h4 hx hs (frm0_rel hr hn)) ?_)
      rintro e a1 w1 ⟨rfl, σ1, d, hext, hs1, hr1, u0, ru0, hd⟩
      have body : ∀ {g : FuncId} {first cap : List AV}, target vc = some (g, first, cap) → (if E.G g = true ∧ E.df g = false then bnd (call g (first ++ cap) H1) fun q => finish E.P fn.results.toList (.ret, α', q.2) else none) = some (v, H') →
          Leaves E.P fn a1.tmps (fun e w' => ∃ u, e = .returned u ∧ Goes E.P B W0 σ v H' u w') a1.defers .returning w1 := by
        intro g first cap ht h
        split at h
        · rename_i hg
          cases hq : call g (first ++ cap) H1 with
          | none => simp [hq, bnd] at h
          | some q =>
            obtain ⟨vq, H2⟩ := q
            simp only [hq, bnd] at h
            obtain ⟨us0, vs0, rfl, r1, r2⟩ := target_spec ht ru0
            have hd1 := hd w1
            simp only [Deferred.ofValue, Sem.run_pure, Result.ok.injEq, and_true] at hd1
            subst hd1
            obtain ⟨k1, k2⟩ := hcD g _ _ _ _ hg.1 hg.2 hq
            rw [hr1.defers]
            refine leaves_cons (f := g) (args := (us0 ++ vs0).toArray) (by simp) ?_ ?_
            · simp only [invoke, callFunc_run k1]
              congr 2
              apply Array.ext'
              simp
            · refine (k2 B W0 σ1 w1 (us0 ++ vs0) hs1 (r1.append r2)).mono ?_
              rintro e u' w2 ⟨rfl, u, rfl, σ2, q1, q2, q3⟩
              simp only [settle]
              have hr2 := hr1.mono q1.le
              simp only [finish] at h
              cases hv : resultsA E.P α' H2 fn.results.toList with
              | none => simp [hv, bnd] at h
              | some vs =>
                simp only [hv, bnd, Option.some.injEq, Prod.mk.injEq] at h
                obtain ⟨rfl, rfl⟩ := h
                obtain ⟨us1, e1, e2⟩ := results_run q2 hr2 _ _ hv
                refine ⟨_, ?_, _, rfl, σ2, hext.trans q1, q2, tupled_rep e2⟩
                rw [results_eq]
                simp only [Array.mapM_eq_mapM_toList, Sem.run_bind, Sem.run_map, e1, Result.andThen_ok, Sem.run_pure]
        · cases h
      cases ex with
      | exit id => simp at h
      | normal =>
        cases ht : target vc with
        | none => simp [ht] at h
        | some p => obtain ⟨g, first, cap⟩ := p; simp only [ht] at h; exact body ht h
      | ret =>
        cases ht : target vc with
        | none => simp [ht] at h
        | some p => obtain ⟨g, first, cap⟩ := p; simp only [ht] at h; exact body ht h
  · cases h

theorem execF_both (hE : EnvOk E) : ∀ n, CallOk E.P (execF E n) ∧ ∀ g args H v H', E.G g = true → E.df g = false → execF E n g args H = some (v, H') → callable E.P g ∧ CallsDA E.P g args H v H'
  | 0 => ⟨fun f args H v H' h => by simp [execF] at h, fun f args H v H' _ _ h => by simp [execF] at h⟩
  | n + 1 => by
    obtain ⟨ih1, ih2⟩ := execF_both hE n
    have hl : LoopOk (fun g => loopN g n) := fun g α H r hr => ⟨n, hr⟩
    refine ⟨fun f args H v H' h => ?_, fun f args H v H' hG hdf h => ?_⟩
    · simp only [execF] at h
      split at h
      · rename_i hG
        split at h
        · exact execBD_sound hE hG ih1 ih2 hl h
        · exact execB_sound hE hG ih1 hl h
      · exact hE.ext f args H v H' h
    · simp only [execF, hG, hdf, if_true, Bool.false_eq_true, if_false] at h
      exact execB_soundD hE hG ih1 hl h

theorem execF_sound (hE : EnvOk E) (n : Nat) : CallOk E.P (execF E n) := (execF_both hE n).1

/-! ### More rounds change nothing -/

theorem ops_mono {c c' : CallO} (h : CLe c c') {all : Array Oper} : ∀ (l : List Oper) (α : Frm) (H : AHeap) (r : Frm × AHeap), execOps E c all l α H = some r → execOps E c' all l α H = some r
  | [], _, _, _, hr => hr
  | o :: l, α, H, r, hr => by
    simp only [execOps] at hr ⊢
    obtain ⟨b, h1, h2⟩ := bnd_some hr
    simp only [h1, bnd]
    cases b with
    | true =>
      simp only [sel, if_true] at h2 ⊢
      obtain ⟨p, h3, h4⟩ := bnd_some h2
      simp only [step_mono h h3]
      exact ops_mono h l _ _ _ h4
    | false =>
      simp only [sel, Bool.false_eq_true, if_false] at h2 ⊢
      exact ops_mono h l _ _ _ h2

theorem reads_mono {c c' : CallO} (h : CLe c c') {o : Oper} {α : Frm} {v : AV} {H : AHeap} (hr : reads E c o α v H = true) : reads E c' o α v H = true := by
  unfold reads at *
  split at hr
  · rename_i u H' hs
    rw [step_mono h hs]
    exact hr
  · cases hr

theorem opsD_mono {c c' : CallO} (h : CLe c c') {all : Array Oper} : ∀ (l : List Oper) (k : Nat) (rs : List (Nat × Oper × Frm × AV)) (ws : List (Nat × AHeap)) (α : Frm) (H : AHeap) (r : Frm × AHeap), execOpsD E c all k l rs ws α H = some r → execOpsD E c' all k l rs ws α H = some r
  | [], _, _, _, _, _, _, hr => hr
  | o :: l, k, rs, ws, α, H, r, hr => by
    simp only [execOpsD] at hr ⊢
    obtain ⟨b, h1, h2⟩ := bnd_some hr
    simp only [h1, bnd]
    cases b with
    | true =>
      simp only [sel, if_true] at h2 ⊢
      obtain ⟨p, h3, h4⟩ := bnd_some h2
      simp only [step_mono h h3]
      cases hk : kdOf E o.op with
      | ins => simp only [hk] at h4 ⊢; exact opsD_mono h l _ _ _ _ _ _ h4
      | rd =>
        simp only [hk] at h4 ⊢
        split at h4
        · rename_i hall
          rw [if_pos]
          · exact opsD_mono h l _ _ _ _ _ _ h4
          · rw [List.all_eq_true] at hall ⊢
            intro w hw
            have := hall w hw
            simp only [Bool.or_eq_true] at this ⊢
            exact this.imp id (reads_mono h)
        · cases h4
      | wr =>
        simp only [hk] at h4 ⊢
        split at h4
        · rename_i hall
          rw [if_pos]
          · exact opsD_mono h l _ _ _ _ _ _ h4
          · rw [List.all_eq_true] at hall ⊢
            intro w hw
            have := hall w hw
            simp only [Bool.or_eq_true] at this ⊢
            exact this.imp id (reads_mono h)
        · cases h4
    | false =>
      simp only [sel, Bool.false_eq_true, if_false] at h2 ⊢
      exact opsD_mono h l _ _ _ _ _ _ h2

theorem andThen_mono {g g' : Frm → AHeap → Option Res} (h : GLe g g') {r r' : Res} (hr : andThen r g = some r') : andThen r g' = some r' := by
  obtain ⟨ex, α, H⟩ := r
  cases ex with
  | normal => exact h _ _ _ hr
  | _ => exact hr

theorem execC_mono {c c' : CallO} (h : CLe c c') {l l' : (Frm → AHeap → Option Res) → Frm → AHeap → Option Res} (hl : LLe l l') : ∀ (x : Code), GLe (execC E c l x) (execC E c' l' x)
  | .skip, _, _, _, hr => hr
  | .region id ops d, α, H, r, hr => by
    simp only [execC] at hr ⊢
    obtain ⟨p, h1, h2⟩ := bnd_some hr
    have h3 : sel (d && E.dyn id) (sel (E.any ops) (execOpsB E ops α H) (execOpsD E c' ops 0 ops.toList [] [] α H)) (execOps E c' ops ops.toList α H) = some p := by
      unfold sel at h1 ⊢
      split at h1
      · rename_i hd
        rw [if_pos hd]
        split at h1
        · rename_i ha; rw [if_pos ha]; exact h1
        · rename_i ha; rw [if_neg ha]; exact opsD_mono h _ _ _ _ _ _ _ h1
      · rename_i hd; rw [if_neg hd]; exact ops_mono h _ _ _ _ h1
    simp only [h3, bnd]
    exact h2
  | .seq x y, α, H, r, hr => by
    simp only [execC] at hr ⊢
    obtain ⟨p, h1, h2⟩ := bnd_some hr
    simp only [execC_mono h hl x _ _ _ h1, bnd]
    exact andThen_mono (execC_mono h hl y) h2
  | .cond cd x y, α, H, r, hr => by
    simp only [execC, condA] at hr ⊢
    split at hr
    · rename_i v hv
      cases v with
      | true => simp only [sel, if_true] at hr ⊢; exact execC_mono h hl x _ _ _ hr
      | false => simp only [sel, Bool.false_eq_true, if_false] at hr ⊢; exact execC_mono h hl y _ _ _ hr
    · cases hr
  | .block id x, α, H, r, hr => by
    simp only [execC] at hr ⊢
    obtain ⟨p, h1, h2⟩ := bnd_some hr
    simp only [execC_mono h hl x _ _ _ h1, bnd]
    exact h2
  | .loop x, α, H, r, hr => by
    simp only [execC] at hr ⊢
    exact hl _ _ (execC_mono h hl x) _ _ _ hr
  | .exit id, _, _, _, hr => hr
  | .ret, _, _, _, hr => hr
  | .rangeFunc _ _ _ _, _, _, _, hr => by simp [execC] at hr
  | .scope _, _, _, _, hr => by simp [execC] at hr
  | .label _, _, _, _, hr => by simp [execC] at hr
  | .goto _, _, _, _, hr => by simp [execC] at hr
  | .refuse _, _, _, _, hr => by simp [execC] at hr

theorem execB_mono {c c' : CallO} (h : CLe c c') {l l' : (Frm → AHeap → Option Res) → Frm → AHeap → Option Res} (hl : LLe l l') {f : FuncId} {args : List AV} {r : AV × AHeap} (hr : execB E c l f args H = some r) :
    execB E c' l' f args H = some r := by
  unfold execB at *
  split at hr
  · split at hr
    · split at hr
      · rename_i hn
        rw [if_pos hn]
        obtain ⟨p, h1, h2⟩ := bnd_some hr
        rw [execC_mono h hl _ _ _ _ h1]
        exact h2
      · cases hr
    · cases hr
  · cases hr

theorem def_mono {c c' : CallO} (h : CLe c c') {l l' : (Frm → AHeap → Option Res) → Frm → AHeap → Option Res} (hl : LLe l l') : ∀ (x : Code) (α : Frm) (H : AHeap) (r : Res × AV), execDef E c l x α H = some r → execDef E c' l' x α H = some r := by
  intro x
  induction x with
  | seq a b _ ih =>
    intro α H r hr
    simp only [execDef] at hr ⊢
    split at hr
    · rename_i o d hd
      obtain ⟨p, h1, h2⟩ := bnd_some hr
      obtain ⟨q, h3, h4⟩ := bnd_some h2
      simp only [step_mono h h1, bnd, execC_mono h hl _ _ _ _ h3]
      exact h4
    · obtain ⟨p, h1, h2⟩ := bnd_some hr
      simp only [execC_mono h hl _ _ _ _ h1, bnd]
      split at h2
      · exact ih _ _ _ h2
      · cases h2
  | _ => intro α H r hr; simp [execDef] at hr

theorem execBD_mono {c c' : CallO} (h : CLe c c') {l l' : (Frm → AHeap → Option Res) → Frm → AHeap → Option Res} (hl : LLe l l') {f : FuncId} {args : List AV} {r : AV × AHeap} (hr : execBD E c l f args H = some r) :
    execBD E c' l' f args H = some r := by
  unfold execBD at *
  split at hr
  · split at hr
    · split at hr
      · rename_i hn
        rw [if_pos hn]
        obtain ⟨p, h1, h2⟩ := bnd_some hr
        simp only [def_mono h hl _ _ _ _ h1, bnd]
        split at h2
        · cases h2
        · split at h2
          · rename_i hg
            rw [if_pos hg]
            obtain ⟨q, h3, h4⟩ := bnd_some h2
            simp only [h _ _ _ _ h3]
            exact h4
          · cases h2
        · cases h2
      · cases hr
    · cases hr
  · cases hr

theorem loopN_mono {g g' : Frm → AHeap → Option Res} (h : GLe g g') : ∀ (k k' : Nat), k ≤ k' → GLe (loopN g k) (loopN g' k')
  | 0, _, _, _, _, _, hr => by simp [loopN] at hr
  | k + 1, 0, hk, _, _, _, _ => by omega
  | k + 1, k' + 1, hk, α, H, r, hr => by
    simp only [loopN] at hr ⊢
    obtain ⟨p, h1, h2⟩ := bnd_some hr
    simp only [h _ _ _ h1, bnd]
    exact andThen_mono (loopN_mono h k k' (by omega)) h2

theorem execF_mono : ∀ (n m : Nat), n ≤ m → CLe (execF E n) (execF E m)
  | 0, _, _, _, _, _, _, hr => by simp [execF] at hr
  | n + 1, 0, hn, _, _, _, _, _ => by omega
  | n + 1, m + 1, hn, f, args, H, r, hr => by
    simp only [execF] at hr ⊢
    split
    · rename_i hG
      rw [if_pos hG] at hr
      split
      · rename_i hd
        rw [if_pos hd] at hr
        exact execBD_mono (execF_mono n m (by omega)) (fun g g' hg => loopN_mono hg n m (by omega)) hr
      · rename_i hd
        rw [if_neg hd] at hr
        exact execB_mono (execF_mono n m (by omega)) (fun g g' hg => loopN_mono hg n m (by omega)) hr
    · rename_i hG
      rw [if_neg hG] at hr
      exact hr

/-! ### Without a count -/

open Classical in
noncomputable def run (E : Env) : CallO := fun f args H => if h : ∃ r n, execF E n f args H = some r then some h.choose else none

open Classical in
noncomputable def loopO (g : Frm → AHeap → Option Res) (α : Frm) (H : AHeap) : Option Res := if h : ∃ r n, loopN g n α H = some r then some h.choose else none

theorem run_iff {f : FuncId} {args : List AV} {r : AV × AHeap} : run E f args H = some r ↔ ∃ n, execF E n f args H = some r := by
  unfold run
  constructor
  · intro h
    split at h
    · rename_i hx
      simp only [Option.some.injEq] at h
      rw [← h]
      exact hx.choose_spec
    · cases h
  · rintro ⟨n, hn⟩
    have hx : ∃ r n, execF E n f args H = some r := ⟨r, n, hn⟩
    rw [dif_pos hx]
    obtain ⟨m, hm⟩ := hx.choose_spec
    have h1 := execF_mono (E := E) n (max n m) (by omega) _ _ _ _ hn
    have h2 := execF_mono (E := E) m (max n m) (by omega) _ _ _ _ hm
    rw [h1] at h2
    exact h2.symm

theorem loopO_iff {g : Frm → AHeap → Option Res} {α : Frm} {r : Res} : loopO g α H = some r ↔ ∃ n, loopN g n α H = some r := by
  unfold loopO
  constructor
  · intro h
    split at h
    · rename_i hx
      simp only [Option.some.injEq] at h
      rw [← h]
      exact hx.choose_spec
    · cases h
  · rintro ⟨n, hn⟩
    have hx : ∃ r n, loopN g n α H = some r := ⟨r, n, hn⟩
    rw [dif_pos hx]
    obtain ⟨m, hm⟩ := hx.choose_spec
    have h1 := loopN_mono (fun _ _ _ h => h) n (max n m) (by omega) _ _ _ hn
    have h2 := loopN_mono (fun _ _ _ h => h) m (max n m) (by omega) _ _ _ hm
    rw [h1] at h2
    exact h2.symm

/-- One round of a loop. -/
theorem loopO_eq (g : Frm → AHeap → Option Res) (α : Frm) (H : AHeap) : loopO g α H = bnd (g α H) fun r => andThen r (loopO g) := by
  apply Option.ext
  intro r
  rw [loopO_iff]
  constructor
  · rintro ⟨n, hn⟩
    cases n with
    | zero => simp [loopN] at hn
    | succ n =>
      simp only [loopN] at hn
      obtain ⟨p, h1, h2⟩ := bnd_some hn
      simp only [h1, bnd]
      exact andThen_mono (fun _ _ _ h => loopO_iff.2 ⟨n, h⟩) h2
  · intro h
    obtain ⟨p, h1, h2⟩ := bnd_some h
    obtain ⟨ex, α', H'⟩ := p
    cases ex with
    | normal =>
      obtain ⟨n, hn⟩ := loopO_iff.1 h2
      exact ⟨n + 1, by simp only [loopN, h1, bnd, andThen]; exact hn⟩
    | exit id => exact ⟨1, by simp only [loopN, h1, bnd]; exact h2⟩
    | ret => exact ⟨1, by simp only [loopN, h1, bnd]; exact h2⟩

theorem run_sound (hE : EnvOk E) : CallOk E.P (run E) := fun f args H v H' h => by
  obtain ⟨n, hn⟩ := run_iff.1 h
  exact execF_sound hE n f args H v H' hn

theorem loopO_ok : LoopOk loopO := fun g α H r h => loopO_iff.1 h

end
end Go.Ab

/- The equations of the machine without a count. -/
namespace Go.Ab
set_option linter.unusedVariables false
open Go

section
variable {H : AHeap} {E : Env}

theorem cle (n m : Nat) (h : n ≤ m) : CLe (execF E n) (execF E m) := execF_mono n m h
theorem lle (n m : Nat) (h : n ≤ m) : LLe (fun g => loopN g n) (fun g => loopN g m) := fun g g' hg => loopN_mono hg n m h

theorem closed_cont {P : Program} {f : FuncId} {args : List AV} {v : AV} (h : closedCall P (run E) f args = some v) : ∃ n, closedCall P (execF E n) f args = some v := by
  unfold closedCall at h
  split at h
  · rename_i hn
    cases hc : run E f (args.map AV.erase) .empty with
    | none => simp [hc] at h
    | some p =>
      obtain ⟨n, hn'⟩ := run_iff.1 hc
      refine ⟨n, ?_⟩
      unfold closedCall
      rw [if_pos hn, hn']
      simpa [hc] using h
  · cases h

theorem step_cont {op : Op} {ρ : Operand → AV} {r : AV × AHeap} (hr : stepOp E (run E) op ρ H = some r) : ∃ n, stepOp E (execF E n) op ρ H = some r := by
  cases op <;> simp only [stepOp] at hr ⊢ <;> (try exact ⟨0, hr⟩)
  case call cl =>
    unfold stepCall at *
    cases hf : cl.callee with
    | value f =>
      simp only [hf] at hr ⊢
      unfold callA at *
      cases ht : target (ρ f) with
      | none => simp [ht] at hr
      | some p =>
        obtain ⟨g, first, cap⟩ := p
        simp only [ht] at hr ⊢
        by_cases hcl : E.cl g = true
        · rw [if_pos hcl] at hr
          obtain ⟨v, h1, h2⟩ := bnd_some hr
          obtain ⟨n, hn⟩ := closed_cont h1
          refine ⟨n, ?_⟩
          rw [if_pos hcl]
          simp only [hn, bnd]
          exact h2
        · rw [if_neg hcl] at hr
          obtain ⟨n, hn⟩ := run_iff.1 hr
          exact ⟨n, by rw [if_neg hcl]; exact hn⟩
    | builtin b => simp only [hf] at hr ⊢; cases b <;> exact ⟨0, hr⟩
    | invoke q m => simp only [hf] at hr ⊢; exact ⟨0, hr⟩

theorem ops_cont {all : Array Oper} : ∀ (l : List Oper) (α : Frm) (H : AHeap) (r : Frm × AHeap), execOps E (run E) all l α H = some r → ∃ n, execOps E (execF E n) all l α H = some r
  | [], _, _, _, hr => ⟨0, hr⟩
  | o :: l, α, H, r, hr => by
    simp only [execOps] at hr ⊢
    obtain ⟨b, h1, h2⟩ := bnd_some hr
    simp only [h1, bnd]
    cases b with
    | true =>
      simp only [sel, if_true] at h2 ⊢
      obtain ⟨p, h3, h4⟩ := bnd_some h2
      obtain ⟨n1, e1⟩ := step_cont h3
      obtain ⟨n2, e2⟩ := ops_cont l _ _ _ h4
      refine ⟨max n1 n2, ?_⟩
      rw [step_mono (cle n1 _ (by omega)) e1]
      exact ops_mono (cle n2 _ (by omega)) l _ _ _ e2
    | false =>
      simp only [sel, Bool.false_eq_true, if_false] at h2 ⊢
      exact ops_cont l _ _ _ h2

theorem reads_cont {o : Oper} {α : Frm} {v : AV} {H : AHeap} (h : reads E (run E) o α v H = true) : ∃ n, reads E (execF E n) o α v H = true := by
  unfold reads at h
  split at h
  · rename_i u H' hs
    obtain ⟨n, hn⟩ := step_cont hs
    exact ⟨n, by unfold reads; rw [hn]; exact h⟩
  · cases h

theorem all_cont {A : Type} (g : A → Bool) (f : A → Oper × Frm × AV × AHeap) : ∀ (l : List A), (l.all fun q => g q || reads E (run E) (f q).1 (f q).2.1 (f q).2.2.1 (f q).2.2.2) = true → ∃ n, ∀ m, n ≤ m → (l.all fun q => g q || reads E (execF E m) (f q).1 (f q).2.1 (f q).2.2.1 (f q).2.2.2) = true
  | [], _ => ⟨0, fun _ _ => rfl⟩
  | q :: l, h => by
    simp only [List.all_cons, Bool.and_eq_true] at h
    obtain ⟨n, hn⟩ := all_cont g f l h.2
    have h1 := h.1
    simp only [Bool.or_eq_true] at h1
    rcases h1 with h1 | h1
    · exact ⟨n, fun m hm => by simp only [List.all_cons, Bool.and_eq_true]; exact ⟨by simp [h1], hn m hm⟩⟩
    · obtain ⟨k, hk⟩ := reads_cont h1
      refine ⟨max n k, fun m hm => ?_⟩
      simp only [List.all_cons, Bool.and_eq_true]
      exact ⟨by rw [reads_mono (cle k m (by omega)) hk]; simp, hn m (by omega)⟩

theorem opsD_cont {all : Array Oper} : ∀ (l : List Oper) (k : Nat) (rs : List (Nat × Oper × Frm × AV)) (ws : List (Nat × AHeap)) (α : Frm) (H : AHeap) (r : Frm × AHeap), execOpsD E (run E) all k l rs ws α H = some r → ∃ n, execOpsD E (execF E n) all k l rs ws α H = some r
  | [], _, _, _, _, _, _, hr => ⟨0, hr⟩
  | o :: l, k, rs, ws, α, H, r, hr => by
    simp only [execOpsD] at hr ⊢
    obtain ⟨b, h1, h2⟩ := bnd_some hr
    simp only [h1, bnd]
    cases b with
    | true =>
      simp only [sel, if_true] at h2 ⊢
      obtain ⟨p, h3, h4⟩ := bnd_some h2
      obtain ⟨n1, e1⟩ := step_cont h3
      cases hk : kdOf E o.op with
      | ins =>
        simp only [hk] at h4 ⊢
        obtain ⟨n2, e2⟩ := opsD_cont l _ _ _ _ _ _ h4
        refine ⟨max n1 n2, ?_⟩
        rw [step_mono (cle n1 _ (by omega)) e1]
        exact opsD_mono (cle n2 _ (by omega)) l _ _ _ _ _ _ e2
      | rd =>
        simp only [hk] at h4 ⊢
        split at h4
        · rename_i hall
          obtain ⟨n2, e2⟩ := opsD_cont l _ _ _ _ _ _ h4
          obtain ⟨n3, e3⟩ := all_cont (fun w : Nat × AHeap => behind all all.size k w.1) (fun w => (o, α, p.1, w.2)) ws hall
          refine ⟨max n1 (max n2 n3), ?_⟩
          rw [step_mono (cle n1 _ (by omega)) e1]
          simp only
          rw [if_pos (e3 _ (by omega))]
          exact opsD_mono (cle n2 _ (by omega)) l _ _ _ _ _ _ e2
        · cases h4
      | wr =>
        simp only [hk] at h4 ⊢
        split at h4
        · rename_i hall
          obtain ⟨n2, e2⟩ := opsD_cont l _ _ _ _ _ _ h4
          obtain ⟨n3, e3⟩ := all_cont (fun q : Nat × Oper × Frm × AV => behind all all.size k q.1) (fun q => (q.2.1, q.2.2.1, q.2.2.2, p.2)) rs hall
          refine ⟨max n1 (max n2 n3), ?_⟩
          rw [step_mono (cle n1 _ (by omega)) e1]
          simp only
          rw [if_pos (e3 _ (by omega))]
          exact opsD_mono (cle n2 _ (by omega)) l _ _ _ _ _ _ e2
        · cases h4
    | false =>
      simp only [sel, Bool.false_eq_true, if_false] at h2 ⊢
      exact opsD_cont l _ _ _ _ _ _ h2

theorem loopN_succ (g : Frm → AHeap → Option Res) (n : Nat) (α : Frm) (H : AHeap) : loopN g (n + 1) α H = bnd (g α H) fun r => andThen r (loopN g n) := rfl

theorem execC_cont : ∀ (x : Code) (α : Frm) (H : AHeap) (r : Res), execC E (run E) loopO x α H = some r → ∃ n, execC E (execF E n) (fun g => loopN g n) x α H = some r
  | .skip, _, _, _, hr => ⟨0, hr⟩
  | .region id ops d, α, H, r, hr => by
    simp only [execC] at hr ⊢
    obtain ⟨p, h1, h2⟩ := bnd_some hr
    unfold sel at h1 ⊢
    split at h1
    · rename_i hd
      split at h1
      · rename_i ha
        exact ⟨0, by rw [if_pos hd, if_pos ha, h1]; exact h2⟩
      rename_i ha
      obtain ⟨n, hn⟩ := opsD_cont _ _ _ _ _ _ _ h1
      exact ⟨n, by rw [if_pos hd, if_neg ha, hn]; exact h2⟩
    · rename_i hd
      obtain ⟨n, hn⟩ := ops_cont _ _ _ _ h1
      exact ⟨n, by rw [if_neg hd, hn]; exact h2⟩
  | .seq x y, α, H, r, hr => by
    simp only [execC] at hr ⊢
    obtain ⟨p, h1, h2⟩ := bnd_some hr
    obtain ⟨n1, e1⟩ := execC_cont x _ _ _ h1
    obtain ⟨ex, α1, H1⟩ := p
    cases ex with
    | normal =>
      obtain ⟨n2, e2⟩ := execC_cont y _ _ _ h2
      refine ⟨max n1 n2, ?_⟩
      rw [execC_mono (cle n1 _ (by omega)) (lle n1 (max n1 n2) (by omega)) x _ _ _ e1]
      exact execC_mono (cle n2 _ (by omega)) (lle n2 (max n1 n2) (by omega)) y _ _ _ e2
    | exit id => exact ⟨n1, by rw [e1]; exact h2⟩
    | ret => exact ⟨n1, by rw [e1]; exact h2⟩
  | .cond cd x y, α, H, r, hr => by
    simp only [execC, condA] at hr ⊢
    split at hr
    · rename_i v hv
      cases v with
      | true => simp only [sel, if_true] at hr ⊢; exact execC_cont x _ _ _ hr
      | false => simp only [sel, Bool.false_eq_true, if_false] at hr ⊢; exact execC_cont y _ _ _ hr
    · cases hr
  | .block id x, α, H, r, hr => by
    simp only [execC] at hr ⊢
    obtain ⟨p, h1, h2⟩ := bnd_some hr
    obtain ⟨n, hn⟩ := execC_cont x _ _ _ h1
    exact ⟨n, by rw [hn]; exact h2⟩
  | .loop x, α, H, r, hr => by
    simp only [execC] at hr ⊢
    obtain ⟨k, hk⟩ := loopO_iff.1 hr
    clear hr
    have : ∀ (k : Nat) (α : Frm) (H : AHeap), loopN (execC E (run E) loopO x) k α H = some r → ∃ n, ∀ m, n ≤ m → loopN (execC E (execF E m) (fun g => loopN g m) x) m α H = some r := by
      intro k
      induction k with
      | zero => intro α H h; simp [loopN] at h
      | succ k ih =>
        intro α H h
        simp only [loopN] at h
        obtain ⟨p, h1, h2⟩ := bnd_some h
        obtain ⟨n1, e1⟩ := execC_cont x _ _ _ h1
        have up : ∀ m, n1 ≤ m → execC E (execF E m) (fun g => loopN g m) x α H = some p := fun m hm => execC_mono (cle n1 m hm) (lle n1 m hm) x _ _ _ e1
        obtain ⟨ex, α1, H1⟩ := p
        cases ex with
        | normal =>
          obtain ⟨n2, e2⟩ := ih α1 H1 h2
          refine ⟨max n1 (n2 + 1), fun m hm => ?_⟩
          cases m with
          | zero => omega
          | succ m =>
            rw [loopN_succ, up (m + 1) (by omega)]
            show loopN _ m α1 H1 = some r
            refine loopN_mono ?_ m m (Nat.le_refl _) _ _ _ (e2 m (by omega))
            exact execC_mono (cle m (m + 1) (by omega)) (lle m (m + 1) (by omega)) x
        | exit id =>
          refine ⟨max n1 1, fun m hm => ?_⟩
          cases m with
          | zero => omega
          | succ m => rw [loopN_succ, up (m + 1) (by omega)]; exact h2
        | ret =>
          refine ⟨max n1 1, fun m hm => ?_⟩
          cases m with
          | zero => omega
          | succ m => rw [loopN_succ, up (m + 1) (by omega)]; exact h2
    obtain ⟨n, hn⟩ := this k α H hk
    exact ⟨n, hn n (Nat.le_refl _)⟩
  | .exit id, _, _, _, hr => ⟨0, hr⟩
  | .ret, _, _, _, hr => ⟨0, hr⟩
  | .rangeFunc _ _ _ _, _, _, _, hr => by simp [execC] at hr
  | .scope _, _, _, _, hr => by simp [execC] at hr
  | .label _, _, _, _, hr => by simp [execC] at hr
  | .goto _, _, _, _, hr => by simp [execC] at hr
  | .refuse _, _, _, _, hr => by simp [execC] at hr

theorem run_eq {f : FuncId} (hG : E.G f = true) (hdf : E.df f = false) (args : List AV) (H : AHeap) : run E f args H = execB E (run E) loopO f args H := by
  apply Option.ext
  intro r
  rw [run_iff]
  constructor
  · rintro ⟨n, hn⟩
    cases n with
    | zero => simp [execF] at hn
    | succ n =>
      simp only [execF, hG, hdf, if_true, Bool.false_eq_true, if_false] at hn
      have hc : CLe (execF E n) (run E) := fun f args H r h => run_iff.2 ⟨n, h⟩
      have hl : LLe (fun g => loopN g n) loopO := fun g g' hg α H r h => loopO_iff.2 ⟨n, loopN_mono hg n n (Nat.le_refl _) _ _ _ h⟩
      exact execB_mono hc hl hn
  · intro h
    unfold execB at h
    cases h1 : E.P.funcs[f]? with
    | none => simp [h1] at h
    | some fn =>
      cases h2 : fn.body with
      | none => simp [h1, h2] at h
      | some c =>
        simp only [h1, h2] at h
        split at h
        · rename_i hn
          obtain ⟨p, e1, e2⟩ := bnd_some h
          obtain ⟨n, hn'⟩ := execC_cont c _ _ _ e1
          refine ⟨n + 1, ?_⟩
          simp only [execF, hG, hdf, if_true, Bool.false_eq_true, if_false, execB, h1, h2, if_pos hn, hn', bnd]
          exact e2
        · cases h

theorem run_ext {f : FuncId} (hG : E.G f = false) (args : List AV) (H : AHeap) : run E f args H = E.ext f args H := by
  apply Option.ext
  intro r
  rw [run_iff]
  constructor
  · rintro ⟨n, hn⟩
    cases n with
    | zero => simp [execF] at hn
    | succ n => simpa [execF, hG] using hn
  · intro h
    exact ⟨1, by simpa [execF, hG] using h⟩

/-- The body of a function, run. -/
theorem run_body {f : FuncId} {fn : Func} {c : Code} (hG : E.G f = true) (hdf : E.df f = false) (h1 : E.P.funcs[f]? = some fn) (h2 : fn.body = some c) {args : List AV} (hn : args.length ≤ fn.ntmps) (H : AHeap) :
    run E f args H = bnd (execC E (run E) loopO c (frm0 args) H) (finish E.P fn.results.toList) := by
  rw [run_eq hG hdf]
  simp only [execB, h1, h2, if_pos hn]

end
end Go.Ab

/- How a run is reckoned by simp: one equation a form of code, a form of operation. -/
namespace Go.Ab
set_option linter.unusedVariables false
open Go

section
variable {E : Env} {call : CallO} {loop : (Frm → AHeap → Option Res) → Frm → AHeap → Option Res} {α : Frm} {H : AHeap} {ρ : Operand → AV}

@[congr] theorem bnd_congr {A B : Type} {x x' : Option A} {f : A → Option B} (h : x = x') : bnd x f = bnd x' f := by rw [h]
@[congr] theorem sel_congr {A : Type} {c c' : Bool} {x y : A} (h : c = c') : sel c x y = sel c' x y := by rw [h]

theorem bnd_ok {A B : Type} (a : A) (f : A → Option B) : bnd (some a) f = f a := (rfl)
theorem bnd_no {A B : Type} (f : A → Option B) : bnd none f = none := (rfl)
theorem sel_t {A : Type} (x y : A) : sel true x y = x := (rfl)
theorem sel_f {A : Type} (x y : A) : sel false x y = y := (rfl)
theorem bnd_sel {A B : Type} (c : Bool) (x y : Option A) (f : A → Option B) : bnd (sel c x y) f = sel c (bnd x f) (bnd y f) := by cases c <;> exact (rfl)
theorem bnd_bnd {A B C : Type} (x : Option A) (f : A → Option B) (g : B → Option C) : bnd (bnd x f) g = bnd x fun a => bnd (f a) g := by cases x <;> rfl

theorem xc_skip : execC E call loop .skip α H = some (.normal, α, H) := (rfl)
theorem xc_region (id : Nat) (l : List Oper) : execC E call loop (.region id l.toArray false) α H = bnd (execOps E call l.toArray l α H) fun r => some (.normal, r.1, r.2) := (rfl)
theorem xc_region_n (id : Nat) (l : List Oper) (hd : E.dyn id = false) : execC E call loop (.region id l.toArray true) α H = bnd (execOps E call l.toArray l α H) fun r => some (.normal, r.1, r.2) := by simp [execC, hd, sel]
theorem xc_region_d (id : Nat) (l : List Oper) (hd : E.dyn id = true) (ha : E.any l.toArray = false) : execC E call loop (.region id l.toArray true) α H = bnd (execOpsD E call l.toArray 0 l [] [] α H) fun r => some (.normal, r.1, r.2) := by simp [execC, hd, ha, sel]
theorem xc_seq (a b : Code) : execC E call loop (.seq a b) α H = bnd (execC E call loop a α H) fun r => andThen r (execC E call loop b) := (rfl)
theorem xc_cond (c : Operand) (a b : Code) : execC E call loop (.cond c a b) α H = condA α c (execC E call loop a α H) (execC E call loop b α H) := (rfl)
theorem xc_block (id : Nat) (c : Code) : execC E call loop (.block id c) α H = bnd (execC E call loop c α H) fun r => some (unblock id r) := (rfl)
theorem xc_loop (c : Code) : execC E call loop (.loop c) α H = loop (execC E call loop c) α H := (rfl)
theorem xc_exit (id : Nat) : execC E call loop (.exit id) α H = some (.exit id, α, H) := (rfl)
theorem xc_ret : execC E call loop .ret α H = some (.ret, α, H) := (rfl)

theorem xc_seq_region (id : Nat) (l : List Oper) (b : Code) : execC E call loop (.seq (.region id l.toArray false) b) α H = bnd (execOps E call l.toArray l α H) fun r => execC E call loop b r.1 r.2 := by
  rw [xc_seq, xc_region, bnd_bnd]
  congr 1
theorem xc_seq_region_n (id : Nat) (l : List Oper) (b : Code) (hd : E.dyn id = false) : execC E call loop (.seq (.region id l.toArray true) b) α H = bnd (execOps E call l.toArray l α H) fun r => execC E call loop b r.1 r.2 := by
  rw [xc_seq, xc_region_n _ _ hd, bnd_bnd]
  congr 1
theorem xc_seq_region_d (id : Nat) (l : List Oper) (b : Code) (hd : E.dyn id = true) (ha : E.any l.toArray = false) : execC E call loop (.seq (.region id l.toArray true) b) α H = bnd (execOpsD E call l.toArray 0 l [] [] α H) fun r => execC E call loop b r.1 r.2 := by
  rw [xc_seq, xc_region_d _ _ hd ha, bnd_bnd]
  congr 1

theorem then_normal (f : Frm → AHeap → Option Res) : andThen (.normal, α, H) f = f α H := (rfl)
theorem then_exit (id : Nat) (f : Frm → AHeap → Option Res) : andThen (.exit id, α, H) f = some (.exit id, α, H) := (rfl)
theorem then_ret (f : Frm → AHeap → Option Res) : andThen (.ret, α, H) f = some (.ret, α, H) := (rfl)
theorem unblock_normal (id : Nat) : unblock id (.normal, α, H) = (.normal, α, H) := (rfl)
theorem unblock_ret (id : Nat) : unblock id (.ret, α, H) = (.ret, α, H) := (rfl)
theorem unblock_exit (id : Nat) : unblock id (.exit id, α, H) = (.normal, α, H) := by simp [unblock]
theorem unblock_other {id j : Nat} (h : j ≠ id) : unblock id (.exit j, α, H) = (.exit j, α, H) := by simp [unblock, h]

def condB (v : AV) (x y : Option Res) : Option Res :=
  match v with
  | .bool c => sel c x y
  | _ => none
theorem condA_eq (c : Operand) (x y : Option Res) : condA α c x y = condB (ev α c) x y := (rfl)
@[congr] theorem condB_congr {v v' : AV} {x y : Option Res} (h : v = v') : condB v x y = condB v' x y := by rw [h]
theorem condB_bool (c : Bool) (x y : Option Res) : condB (.bool c) x y = sel c x y := (rfl)

theorem xo_nil (all : Array Oper) : execOps E call all [] α H = some (α, H) := (rfl)
theorem xo_cons (all : Array Oper) (dst : Option Tmp) (op : Op) (ty : TypeId) (pos : String) (after : Array Edge) (rest : List Oper) :
    execOps E call all (⟨dst, op, ty, pos, after, none⟩ :: rest) α H = bnd (stepOp E call op (ev α) H) fun r => execOps E call all rest (put α dst r.1) r.2 := (rfl)

/-! A region that is looked at while it runs. -/
def xdK (kd : Kd) (E : Env) (call : CallO) (all : Array Oper) (k : Nat) (o : Oper) (rest : List Oper) (rs : List (Nat × Oper × Frm × AV)) (ws : List (Nat × AHeap)) (α : Frm) (H : AHeap) (r : AV × AHeap) : Option (Frm × AHeap) :=
  match kd with
  | .ins => execOpsD E call all (k + 1) rest rs ws (put α o.dst r.1) r.2
  | .rd => sel (ws.all fun w => behind all all.size k w.1 || reads E call o α r.1 w.2) (execOpsD E call all (k + 1) rest ((k, o, α, r.1) :: rs) ws (put α o.dst r.1) r.2) none
  | .wr => sel (rs.all fun q => behind all all.size k q.1 || reads E call q.2.1 q.2.2.1 q.2.2.2 r.2) (execOpsD E call all (k + 1) rest rs ((k, H) :: ws) (put α o.dst r.1) r.2) none
@[congr] theorem xdK_congr {kd kd' : Kd} {all : Array Oper} {k : Nat} {o : Oper} {rest : List Oper} {rs : List (Nat × Oper × Frm × AV)} {ws : List (Nat × AHeap)} {r : AV × AHeap} (h : kd = kd') : xdK kd E call all k o rest rs ws α H r = xdK kd' E call all k o rest rs ws α H r := by rw [h]
theorem xdK_ins (all : Array Oper) (k : Nat) (o : Oper) (rest : List Oper) (rs : List (Nat × Oper × Frm × AV)) (ws : List (Nat × AHeap)) (r : AV × AHeap) : xdK .ins E call all k o rest rs ws α H r = execOpsD E call all (k + 1) rest rs ws (put α o.dst r.1) r.2 := (rfl)
theorem xdK_rd (all : Array Oper) (k : Nat) (o : Oper) (rest : List Oper) (rs : List (Nat × Oper × Frm × AV)) (ws : List (Nat × AHeap)) (r : AV × AHeap) : xdK .rd E call all k o rest rs ws α H r = sel (ws.all fun w => behind all all.size k w.1 || reads E call o α r.1 w.2) (execOpsD E call all (k + 1) rest ((k, o, α, r.1) :: rs) ws (put α o.dst r.1) r.2) none := (rfl)
theorem xdK_wr (all : Array Oper) (k : Nat) (o : Oper) (rest : List Oper) (rs : List (Nat × Oper × Frm × AV)) (ws : List (Nat × AHeap)) (r : AV × AHeap) : xdK .wr E call all k o rest rs ws α H r = sel (rs.all fun q => behind all all.size k q.1 || reads E call q.2.1 q.2.2.1 q.2.2.2 r.2) (execOpsD E call all (k + 1) rest rs ((k, H) :: ws) (put α o.dst r.1) r.2) none := (rfl)
theorem xd_nil (all : Array Oper) (k : Nat) (rs : List (Nat × Oper × Frm × AV)) (ws : List (Nat × AHeap)) : execOpsD E call all k [] rs ws α H = some (α, H) := (rfl)
theorem xd_cons (all : Array Oper) (k : Nat) (dst : Option Tmp) (op : Op) (ty : TypeId) (pos : String) (after : Array Edge) (rest : List Oper) (rs : List (Nat × Oper × Frm × AV)) (ws : List (Nat × AHeap)) :
    execOpsD E call all k (⟨dst, op, ty, pos, after, none⟩ :: rest) rs ws α H = bnd (stepOp E call op (ev α) H) fun r => xdK (kdOf E op) E call all k ⟨dst, op, ty, pos, after, none⟩ rest rs ws α H r := by
  simp only [execOpsD, wantedA, bnd, sel, if_true]
  rfl
theorem kd_load (t : TypeId) (x : Operand) : kdOf E (.load t x) = .rd := (rfl)
theorem kd_alloc (t : TypeId) : kdOf E (.alloc t) = .wr := (rfl)
theorem kd_store (t : TypeId) (x y : Operand) : kdOf E (.store t x y) = .wr := (rfl)
theorem kd_fieldAddr (t : TypeId) (x : Operand) (f : Nat) : kdOf E (.fieldAddr t x f) = .ins := (rfl)
theorem kd_move (x : Operand) : kdOf E (.move x) = .ins := (rfl)
theorem kd_assign (x : Operand) : kdOf E (.assign x) = .ins := (rfl)
theorem kd_build (t : TypeId) (l : Array (Nat × Operand)) : kdOf E (.build t l) = .ins := (rfl)
def sameO (r : Option (AV × AHeap)) (v : AV) : Bool := match r with | some p => sameAV p.1 v | none => false
theorem sameO_some (u v : AV) : sameO (some (u, H)) v = sameAV u v := (rfl)
@[congr] theorem sameO_congr {r r' : Option (AV × AHeap)} {v : AV} (h : r = r') : sameO r v = sameO r' v := by rw [h]
theorem reads_eq (o : Oper) (v : AV) : reads E call o α v H = sameO (stepOp E call o.op (ev α) H) v := by
  unfold reads sameO
  cases stepOp E call o.op (ev α) H <;> rfl
theorem sa_int (k : IntKind) (a : Int) : sameAV (.int k a) (.int k a) = true := by simp [sameAV]
theorem sa_any : sameAV .any .any = true := by simp [sameAV]
theorem sa_bool (a : Bool) : sameAV (.bool a) (.bool a) = true := by simp [sameAV]
theorem sa_str (a : List UInt8) : sameAV (.str a) (.str a) = true := by simp [sameAV]
theorem sa_agg (xs ys : List AV) : sameAV (.agg xs) (.agg ys) = sameL xs ys := by simp [sameAV]
theorem sa_cons (x y : AV) (xs ys : List AV) : sameL (x :: xs) (y :: ys) = (sameAV x y && sameL xs ys) := by simp [sameL]
theorem sa_nil : sameL [] [] = true := by simp [sameL]
attribute [go_sem] sa_int sa_any sa_bool sa_str sa_agg sa_cons sa_nil
attribute [go_sem ↓] xd_nil xd_cons kd_load kd_alloc kd_store kd_fieldAddr kd_move kd_assign kd_build
attribute [go_sem] xdK_ins xdK_rd xdK_wr reads_eq sameO_some xc_region_n xc_region_d xc_seq_region_n xc_seq_region_d List.all_cons List.all_nil Bool.or_true Bool.and_true Bool.and_self

def wantedB (b : Bool) (v : AV) : Option Bool :=
  match v with
  | .bool c => some (c == b)
  | .val (.tuple _) => some false
  | _ => none
theorem wantedB_bool (b c : Bool) : wantedB b (.bool c) = some (c == b) := (rfl)
theorem wantedB_tt : wantedB true (.bool true) = some true := (rfl)
theorem wantedB_tf : wantedB true (.bool false) = some false := (rfl)
theorem wantedB_ft : wantedB false (.bool true) = some false := (rfl)
theorem wantedB_ff : wantedB false (.bool false) = some true := (rfl)
theorem wantedB_undef (b : Bool) : wantedB b undefA = some false := (rfl)

def slotOf (all : Array Oper) (j : Nat) : Option Tmp := (all[j]?).bind (·.dst)

def wantS (b : Bool) (α : Frm) (d : Option Tmp) : Option Bool :=
  match d with
  | some d => wantedB b (α d)
  | none => none
theorem wantS_some (b : Bool) (d : Tmp) : wantS b α (some d) = wantedB b (α d) := (rfl)
@[congr] theorem wantS_congr {b : Bool} {d d' : Option Tmp} (h : d = d') : wantS b α d = wantS b α d' := by rw [h]
@[congr] theorem wantedB_congr {b : Bool} {v v' : AV} (h : v = v') : wantedB b v = wantedB b v' := by rw [h]

theorem wantedA_eq (all : Array Oper) (j : Nat) (b : Bool) : wantedA all (some (j, b)) α = wantS b α (slotOf all j) := by
  unfold wantedA wantS slotOf
  cases h : (all[j]?).bind (·.dst) with
  | none => simp only [h]
  | some d => simp only [h]; rfl

theorem xo_guard (all : Array Oper) (dst : Option Tmp) (op : Op) (ty : TypeId) (pos : String) (after : Array Edge) (rest : List Oper) (j : Nat) (b : Bool) :
    execOps E call all (⟨dst, op, ty, pos, after, some (j, b)⟩ :: rest) α H = bnd (wantS b α (slotOf all j)) fun c =>
      sel c (bnd (stepOp E call op (ev α) H) fun r => execOps E call all rest (put α dst r.1) r.2) (execOps E call all rest (put α dst undefA) H) := by
  rw [← wantedA_eq]; rfl

def slotL : List Oper → Nat → Option Tmp
  | [], _ => none
  | o :: _, 0 => o.dst
  | _ :: r, n + 1 => slotL r n
theorem slotOf_list (l : List Oper) (j : Nat) : slotOf l.toArray j = slotL l j := by
  unfold slotOf
  induction l generalizing j with
  | nil => simp [slotL]
  | cons o r ih => cases j with
    | zero => simp [slotL]
    | succ n => simpa [slotL] using ih n
theorem slotL_zero (o : Oper) (r : List Oper) : slotL (o :: r) 0 = o.dst := (rfl)
theorem slotL_succ (o : Oper) (r : List Oper) (n : Nat) : slotL (o :: r) (n + 1) = slotL r n := (rfl)

theorem box_agg (cs : List AV) : boxA (.agg cs) H = some (.ptr H.next 0, H.push (.cells none cs)) := by simp [boxA, AV.width, AV.cells]
theorem box_int (k : IntKind) (n : Int) : boxA (.int k n) H = some (.ptr H.next 0, H.push (.cells none [.int k n])) := by simp [boxA, AV.width, AV.cells]
theorem heap_push (n : Nat) (l : List (Nat × AObj)) (x : AObj) : AHeap.push ⟨n, l⟩ x = ⟨n + 1, (n, x) :: l⟩ := (rfl)
theorem heap_set (n : Nat) (l : List (Nat × AObj)) (i : Nat) (x : AObj) : AHeap.set ⟨n, l⟩ i x = ⟨n, setL l i x⟩ := (rfl)
theorem heap_next (n : Nat) (l : List (Nat × AObj)) : AHeap.next ⟨n, l⟩ = n := (rfl)
def cellsQ (l : List (Nat × AObj)) (id : Nat) : Option (List AV) := match getL l id with | some (.cells _ cs) => some cs | some (.row _ _ _ cs) => some cs | _ => none
/-- The object that is written again. -/
def reObj (o : Option AObj) (cs : List AV) : AObj := match o with | some (.row n et s _) => .row n et s cs | some (.cells te _) => .cells te cs | _ => .cells none cs
theorem reObj_cells (te : Option TypeId) (cs ds : List AV) : reObj (some (.cells te cs)) ds = .cells te ds := (rfl)
theorem getL_cons (k : Nat) (x : AObj) (r : List (Nat × AObj)) (id : Nat) : getL ((k, x) :: r) id = if k = id then some x else getL r id := (rfl)
theorem cellsQ_cons (k : Nat) (te : Option TypeId) (cs : List AV) (r : List (Nat × AObj)) (id : Nat) : cellsQ ((k, .cells te cs) :: r) id = if k = id then some cs else cellsQ r id := by
  by_cases h : k = id <;> simp [cellsQ, getL, h]
theorem cellsQ_tip (k n : Nat) (et : TypeId) (r : List (Nat × AObj)) (id : Nat) : cellsQ ((k, .tip n et) :: r) id = if k = id then none else cellsQ r id := by
  by_cases h : k = id <;> simp [cellsQ, getL, h]
theorem setL_cons (k : Nat) (x y : AObj) (r : List (Nat × AObj)) (id : Nat) : setL ((k, x) :: r) id y = if k = id then (k, y) :: r else (k, x) :: setL r id y := (rfl)

/-- Reading a place of a block. -/
theorem load_ptr (P : Program) (t : TypeId) (n : Nat) (l : List (Nat × AObj)) (id off : Nat) : loadA P ⟨n, l⟩ t (.ptr id off) = if id < n then bnd (cellsQ l id) fun cs => ldA P t cs off else none := by
  by_cases h : id < n
  · simp only [loadA, AHeap.get, cellsQ, h, if_true]
    cases getL l id with
    | none => rfl
    | some o => cases o <;> rfl
  · simp only [loadA, AHeap.get, h, if_false]
theorem load_rptr (P : Program) (t : TypeId) (cs : List AV) : loadA P H t (.rptr cs) = ldA P t cs 0 := (rfl)
theorem ld_one {P : Program} {t : TypeId} (h : aggQ P t = some false) (cs : List AV) (off : Nat) : ldA P t cs off = cs[off]? := by simp [ldA, h]
theorem ld_agg {P : Program} {t : TypeId} {n : Nat} (h : aggQ P t = some true) (h2 : szQ P t = some n) (cs : List AV) (off : Nat) : ldA P t cs off = if off + n ≤ cs.length then some (.agg ((cs.drop off).take n)) else none := by simp [ldA, h, h2]
theorem fa_ptr {P : Program} {s : TypeId} {fs : List (Nat × TypeId)} (h : fieldsQ P s = some fs) (f : Nat) (id o : Nat) {off : Nat} {ft : TypeId} {n : Nat} (h2 : fs[f]? = some (off, ft)) (h3 : szQ P ft = some (n + 1)) :
    fieldAddrA P s f (.ptr id o) = some (.ptr id (o + off)) := by simp [fieldAddrA, h, h2, h3]
theorem fa_rptr {P : Program} {s : TypeId} {fs : List (Nat × TypeId)} (h : fieldsQ P s = some fs) (f : Nat) (cs : List AV) {off : Nat} {ft : TypeId} {n : Nat} (h2 : fs[f]? = some (off, ft)) (h3 : szQ P ft = some (n + 1)) :
    fieldAddrA P s f (.rptr cs) = if off ≤ cs.length then some (.rptr (cs.drop off)) else none := by simp [fieldAddrA, h, h2, h3]
theorem store_ptr (P : Program) (t : TypeId) (n : Nat) (l : List (Nat × AObj)) (id off : Nat) (x : AV) :
    storeA P t (.ptr id off) x ⟨n, l⟩ = if id < n then bnd (cellsQ l id) fun cs => if szQ P t = x.width ∧ x.width ≠ none ∧ off + x.cells.length ≤ cs.length ∧ allOne x.cells = true then some (undefA, ⟨n, setL l id (reObj (getL l id) (overlay cs off x.cells))⟩) else none else none := by
  by_cases h : id < n
  · simp only [storeA, AHeap.get, cellsQ, AHeap.set, h, if_true]
    cases getL l id with
    | none => rfl
    | some o => cases o <;> rfl
  · simp only [storeA, AHeap.get, h, if_false]

theorem ev_tmp (t : Tmp) : ev α (.tmp t) = α t := (rfl)
theorem ev_const (v : Value) : ev α (.const v) = ofV v := (rfl)
theorem ev_func (f : FuncId) : ev α (.func f) = .fn (.func f) [] [] := (rfl)
theorem ofV_int (k : IntKind) (n : Int) : ofV (.int k n) = .int k n := (rfl)
theorem ofV_bool (b : Bool) : ofV (.bool b) = .bool b := (rfl)
theorem ofV_str (l : List UInt8) : ofV (.string ⟨l.toArray⟩) = .str l := by simp [ofV, ofV1]
theorem ofV_nil : ofV (.slice none 0 0) = .vec .nil [] := (rfl)

theorem put_some (d : Tmp) (v : AV) (i : Nat) : put α (some d) v i = if i = d then v else α i := (rfl)
theorem put_none (v : AV) : put α none v = α := (rfl)
theorem frm0_at (args : List AV) (i : Nat) : frm0 args i = (args[i]?).getD undefA := (rfl)

theorem so_move (x : Operand) : stepOp E call (.move x) ρ H = some (ρ x, H) := (rfl)
theorem so_assign (x : Operand) : stepOp E call (.assign x) ρ H = some (ρ x, H) := (rfl)
theorem so_pick (c a b : Operand) : stepOp E call (.pick c a b) ρ H = bnd (pickA (ρ a) (ρ b) (ρ c)) fun v => some (v, H) := (rfl)
theorem so_load (t : TypeId) (a : Operand) : stepOp E call (.load t a) ρ H = bnd (loadA E.P H t (ρ a)) fun v => some (v, H) := (rfl)
theorem so_fieldAddr (s : TypeId) (x : Operand) (f : Nat) : stepOp E call (.fieldAddr s x f) ρ H = bnd (fieldAddrA E.P s f (ρ x)) fun v => some (v, H) := (rfl)
theorem so_indexAddr (t : TypeId) (x i : Operand) : stepOp E call (.indexAddr t x i) ρ H = bnd (indexAddrA E.P t (ρ x) (ρ i)) fun v => some (v, H) := (rfl)
theorem so_index (t : TypeId) (x i : Operand) : stepOp E call (.index t x i) ρ H = bnd (indexA E.P t (ρ x) (ρ i)) fun v => some (v, H) := (rfl)
theorem so_binOp (op : BinOp) (t t' : TypeId) (x y : Operand) : stepOp E call (.binOp op t x y t') ρ H = bnd (binC E.P op t (isConstO x || isConstO y) (ρ x) (ρ y)) fun v => some (v, H) := (rfl)
theorem so_unOp (op : UnOp) (t : TypeId) (x : Operand) : stepOp E call (.unOp op t x) ρ H = bnd (unA op (ρ x)) fun v => some (v, H) := (rfl)
theorem so_convert (s d : TypeId) (x : Operand) : stepOp E call (.convert s d x) ρ H = convOp E.P s d (ρ x) H := (rfl)
theorem co_int (P : Program) (s d : TypeId) (k : IntKind) (n : Int) : convOp P s d (.int k n) H = bnd (convA P s d (.int k n)) fun v => some (v, H) := (rfl)
attribute [go_sem ↓] co_int
theorem so_extract (x : Operand) (i : Nat) : stepOp E call (.extract x i) ρ H = bnd (extractA i (ρ x)) fun v => some (v, H) := (rfl)
theorem so_build (t : TypeId) (l : List (Nat × Operand)) : stepOp E call (.build t l.toArray) ρ H = bnd (buildA E.P t (l.map fun p => (p.1, ρ p.2))) fun v => some (v, H) := by simp [stepOp, pureOp]
theorem so_slice (t : TypeId) (x : Operand) (lo hi : Option Operand) : stepOp E call (.slice t x lo hi none) ρ H = bnd (sliceA E.P t (lo.map ρ) (hi.map ρ) (ρ x)) fun v => some (v, H) := (rfl)
theorem so_makeFunc (f : Fn) (first cap : List Operand) : stepOp E call (.makeFunc f first.toArray cap.toArray) ρ H = some (.fn f (first.map ρ) (cap.map ρ), H) := by simp [stepOp, pureOp, bnd]
theorem so_nilCheck (x : Operand) : stepOp E call (.nilCheck x) ρ H = bnd (nilCheckA (ρ x)) fun v => some (v, H) := (rfl)
theorem so_alloc (t : TypeId) : stepOp E call (.alloc t) ρ H = allocA E.P t H := (rfl)
theorem so_box (t : TypeId) (x : Operand) : stepOp E call (.box t x) ρ H = boxA (ρ x) H := (rfl)
theorem so_store (t : TypeId) (a x : Operand) : stepOp E call (.store t a x) ρ H = storeA E.P t (ρ a) (ρ x) H := (rfl)
theorem so_buildSlice (t : TypeId) (n : Nat) (l : List (Nat × Operand)) : stepOp E call (.buildSlice t n l.toArray) ρ H = buildSliceA E.P t n (l.map fun p => (p.1, ρ p.2)) H := by simp [stepOp]
theorem so_call (f : Operand) (l : List Operand) (tys : Array TypeId) : stepOp E call (.call ⟨.value f, l.toArray, tys⟩) ρ H = callA E call (ρ f) (l.map ρ) H := by simp [stepOp, stepCall]
theorem so_append (l : List Operand) (tys : List TypeId) : stepOp E call (.call ⟨.builtin .append, l.toArray, tys.toArray⟩) ρ H = appendOp E.mutT E.P tys (l.map ρ) H := by simp [stepOp, stepCall]
theorem so_len (l : List Operand) (tys : Array TypeId) : stepOp E call (.call ⟨.builtin .len, l.toArray, tys⟩) ρ H = lenOp E.P tys (l.map ρ) H := by simp [stepOp, stepCall]
theorem lo_str (P : Program) (tys : Array TypeId) (l : List UInt8) (H : AHeap) : lenOp P tys [.str l] H = bnd (lenA P tys [.str l]) fun v => some (v, H) := (rfl)
theorem lo_vec (P : Program) (tys : Array TypeId) (o : Own) (l : List AV) (H : AHeap) : lenOp P tys [.vec o l] H = bnd (lenA P tys [.vec o l]) fun v => some (v, H) := (rfl)
theorem lo_sl (P : Program) (tys : Array TypeId) (a b c d : Nat) (H : AHeap) : lenOp P tys [.sl a b c d] H = bnd (lenA P tys [.sl a b c d]) fun v => some (v, H) := (rfl)
attribute [go_sem ↓] lo_str lo_vec lo_sl
theorem so_max (l : List Operand) (tys : Array TypeId) : stepOp E call (.call ⟨.builtin .max, l.toArray, tys⟩) ρ H = bnd (maxA (l.map ρ)) fun v => some (v, H) := by simp [stepOp, stepCall, pureOp]
theorem so_min (l : List Operand) (tys : Array TypeId) : stepOp E call (.call ⟨.builtin .min, l.toArray, tys⟩) ρ H = bnd (minA (l.map ρ)) fun v => some (v, H) := by simp [stepOp, stepCall, pureOp]

theorem callA_closed {f : FuncId} (h : E.cl f = true) (args : List AV) : callA E call (.fn (.func f) [] []) args H = bnd (closedCall E.P call f args) fun v => some (v, H) := by simp [callA, target, h]
theorem callA_open {f : FuncId} (h : E.cl f = false) (args : List AV) : callA E call (.fn (.func f) [] []) args H = call f args H := by simp [callA, target, h]

theorem pickA_bool (a b : AV) (c : Bool) : pickA a b (.bool c) = some (if c then a else b) := (rfl)
theorem pickA_t (a b : AV) : pickA a b (.bool true) = some a := (rfl)
theorem pickA_f (a b : AV) : pickA a b (.bool false) = some b := (rfl)
theorem pick_and (c d : Bool) : (if c then AV.bool d else AV.bool false) = .bool (c && d) := by cases c <;> exact (rfl)
theorem pick_or (c d : Bool) : (if c then AV.bool true else AV.bool d) = .bool (c || d) := by cases c <;> exact (rfl)
theorem binA_int (P : Program) (op : BinOp) (t : TypeId) (k : IntKind) (a b : Int) (h : isShift op = false) : binA P op t (.int k a) (.int k b) = intBin op k a b := by simp [binA, h]
theorem bi_add (P : Program) (t : TypeId) (k : IntKind) (a b : Int) : binA P .add t (.int k a) (.int k b) = some (.int k (k.wrap (a + b))) := by simp [binA, isShift, intBin]
theorem bi_sub (P : Program) (t : TypeId) (k : IntKind) (a b : Int) : binA P .sub t (.int k a) (.int k b) = some (.int k (k.wrap (a - b))) := by simp [binA, isShift, intBin]
theorem bi_mul (P : Program) (t : TypeId) (k : IntKind) (a b : Int) : binA P .mul t (.int k a) (.int k b) = some (.int k (k.wrap (a * b))) := by simp [binA, isShift, intBin]
theorem bi_eql (P : Program) (t : TypeId) (k : IntKind) (a b : Int) : binA P .eql t (.int k a) (.int k b) = some (.bool (a == b)) := by simp [binA, isShift, intBin]
theorem bi_neq (P : Program) (t : TypeId) (k : IntKind) (a b : Int) : binA P .neq t (.int k a) (.int k b) = some (.bool (a != b)) := by simp [binA, isShift, intBin]
theorem bi_lss (P : Program) (t : TypeId) (k : IntKind) (a b : Int) : binA P .lss t (.int k a) (.int k b) = some (.bool (decide (a < b))) := by simp [binA, isShift, intBin]
theorem bi_leq (P : Program) (t : TypeId) (k : IntKind) (a b : Int) : binA P .leq t (.int k a) (.int k b) = some (.bool (decide (a ≤ b))) := by simp [binA, isShift, intBin]
theorem bi_gtr (P : Program) (t : TypeId) (k : IntKind) (a b : Int) : binA P .gtr t (.int k a) (.int k b) = some (.bool (decide (a > b))) := by simp [binA, isShift, intBin]
theorem bi_geq (P : Program) (t : TypeId) (k : IntKind) (a b : Int) : binA P .geq t (.int k a) (.int k b) = some (.bool (decide (a ≥ b))) := by simp [binA, isShift, intBin]
theorem bi_rem (P : Program) (t : TypeId) (k : IntKind) (a b : Int) : binA P .rem t (.int k a) (.int k b) = if b = 0 then none else some (.int k (a.tmod b)) := by simp [binA, isShift, intBin]
theorem bi_quo (P : Program) (t : TypeId) (k : IntKind) (a b : Int) : binA P .quo t (.int k a) (.int k b) = if b = 0 then none else some (.int k (k.wrap (a.tdiv b))) := by simp [binA, isShift, intBin]
theorem binC_of {P : Program} {op : BinOp} {t : TypeId} {c : Bool} {x y : AV} (h : bothNil x y = false) : binC P op t c x y = binA P op t x y := by simp [binC, h]
theorem bc_int (P : Program) (op : BinOp) (t : TypeId) (c : Bool) (k : IntKind) (a : Int) (y : AV) : binC P op t c (.int k a) y = binA P op t (.int k a) y := binC_of rfl
theorem bc_bool (P : Program) (op : BinOp) (t : TypeId) (c : Bool) (a : Bool) (y : AV) : binC P op t c (.bool a) y = binA P op t (.bool a) y := binC_of rfl
theorem bc_str (P : Program) (op : BinOp) (t : TypeId) (c : Bool) (a : List UInt8) (y : AV) : binC P op t c (.str a) y = binA P op t (.str a) y := binC_of rfl
theorem bc_agg (P : Program) (op : BinOp) (t : TypeId) (c : Bool) (a : List AV) (y : AV) : binC P op t c (.agg a) y = binA P op t (.agg a) y := binC_of rfl
theorem bc_vec (P : Program) (op : BinOp) (t : TypeId) (c : Bool) (o : Own) (a : List AV) (y : AV) : binC P op t c (.vec o a) y = binA P op t (.vec o a) y := binC_of rfl
theorem bc_ptr (P : Program) (op : BinOp) (t : TypeId) (c : Bool) (a b : Nat) (y : AV) : binC P op t c (.ptr a b) y = binA P op t (.ptr a b) y := binC_of rfl
theorem bc_rptr (P : Program) (op : BinOp) (t : TypeId) (c : Bool) (a : List AV) (y : AV) : binC P op t c (.rptr a) y = binA P op t (.rptr a) y := binC_of rfl
attribute [go_sem ↓] bc_int bc_bool bc_str bc_agg bc_vec bc_ptr bc_rptr
theorem binA_str (P : Program) (op : BinOp) (t : TypeId) (a b : List UInt8) : binA P op t (.str a) (.str b) = strBin op a b := (rfl)

theorem fin_ret (P : Program) (rs : List ResultVar) : finish P rs (.ret, α, H) = bnd (resultsA P α H rs) fun vs => some (tupled vs, H) := (rfl)
theorem fin_normal (P : Program) (rs : List ResultVar) : finish P rs (.normal, α, H) = bnd (resultsA P α H rs) fun vs => some (tupled vs, H) := (rfl)
theorem res_nil (P : Program) : resultsA P α H [] = some [] := (rfl)
theorem res_tmp (P : Program) (t : Tmp) (r : List ResultVar) : resultsA P α H (.tmp t :: r) = bnd (resultsA P α H r) fun vs => some (α t :: vs) := (rfl)
def cellRes (P : Program) (H : AHeap) (t : TypeId) (v : AV) : Option AV := match v with | .ptr id off => loadA P H t (.ptr id off) | _ => none
theorem cellRes_ptr (P : Program) (t : TypeId) (id off : Nat) : cellRes P H t (.ptr id off) = loadA P H t (.ptr id off) := (rfl)
theorem res_cell (P : Program) (a : Tmp) (t : TypeId) (r : List ResultVar) : resultsA P α H (.cell a t :: r) = bnd (cellRes P H t (α a)) fun v => bnd (resultsA P α H r) fun vs => some (v :: vs) := (rfl)
theorem tupled_one (v : AV) : tupled [v] = v := (rfl)
theorem tupled_two (v v2 : AV) : tupled [v, v2] = .tup [v, v2] := (rfl)
theorem tupled_three (v v2 v3 : AV) : tupled [v, v2, v3] = .tup [v, v2, v3] := (rfl)

def outOf (r : Option (AV × AHeap)) : Option AV := match r with | some p => some p.1 | none => none
theorem outOf_some (v : AV) : outOf (some (v, H)) = some v := (rfl)
theorem outOf_sel (c : Bool) (x y : Option (AV × AHeap)) : outOf (sel c x y) = sel c (outOf x) (outOf y) := by cases c <;> exact (rfl)
@[congr] theorem outOf_congr {r r' : Option (AV × AHeap)} (h : r = r') : outOf r = outOf r' := by rw [h]

/-- A closed call, out of the run of its body. -/
theorem closed_of {f : FuncId} {fn : Func} {c : Code} {args args' : List AV} {v v' : AV} (hG : E.G f = true) (hdf : E.df f = false) (h1 : E.P.funcs[f]? = some fn) (h2 : fn.body = some c) (hn : args.length ≤ fn.ntmps) (he : args.map AV.erase = args')
    (hp : AV.noPtr.go args' = true) (hr : outOf (bnd (execC E (run E) loopO c (frm0 args') .empty) (finish E.P fn.results.toList)) = some v) (hv : v.erase = v') (hv2 : v'.noPtr = true) :
    closedCall E.P (run E) f args = some v' := by
  unfold closedCall
  rw [he, if_pos hp, run_body hG hdf h1 h2 (by rw [← he]; simpa using hn)]
  cases hq : bnd (execC E (run E) loopO c (frm0 args') .empty) (finish E.P fn.results.toList) with
  | none => rw [hq] at hr; cases hr
  | some p =>
    obtain ⟨u, H'⟩ := p
    rw [hq] at hr
    simp only [outOf, Option.some.injEq] at hr
    subst hr
    simp only
    rw [hv, if_pos hv2]

end

theorem er_agg (cs : List AV) : (AV.agg cs).erase = .agg (cs.map AV.bare) := (rfl)
theorem er_int (k : IntKind) (n : Int) : (AV.int k n).erase = .int k n := (rfl)
theorem er_bool (b : Bool) : (AV.bool b).erase = .bool b := (rfl)
theorem er_str (l : List UInt8) : (AV.str l).erase = .str l := (rfl)
theorem er_vec (o : Own) (l : List AV) : (AV.vec o l).erase = .vec o.bare l := (rfl)
theorem ba_int (k : IntKind) (n : Int) : (AV.int k n).bare = .int k n := (rfl)
theorem ba_bool (b : Bool) : (AV.bool b).bare = .bool b := (rfl)
theorem ba_str (l : List UInt8) : (AV.str l).bare = .str l := (rfl)
theorem ba_vec (o : Own) (l : List AV) : (AV.vec o l).bare = .vec o.bare l := (rfl)

theorem dec_t (i : Decidable True) : @decide True i = true := by simp
theorem dec_f (i : Decidable False) : @decide False i = false := by simp
attribute [go_sem] reObj_cells getL_cons
attribute [go_sem] Option.map_some Option.map_none load_rptr dec_t dec_f er_agg er_int er_bool er_str er_vec ba_int ba_bool ba_str ba_vec
attribute [go_sem ↓] xc_seq_region xc_ret xc_skip xc_cond xc_block xc_exit xc_seq xc_region xo_nil xo_cons xo_guard wantS_some so_move so_assign so_pick so_load so_fieldAddr so_indexAddr so_index so_binOp so_unOp so_convert so_extract so_build so_slice so_makeFunc so_nilCheck so_alloc so_box so_store so_buildSlice so_call so_append so_len so_max so_min
attribute [go_sem ↓] bnd_ok sel_t sel_f ev_tmp ev_const put_some wantedB_tt wantedB_tf wantedB_ft wantedB_ff wantedB_undef condB_bool then_normal then_exit then_ret
attribute [go_sem] bnd_ok bnd_no sel_t sel_f wantedB_tt wantedB_tf wantedB_ft wantedB_ff wantedB_undef ev_tmp ev_const ev_func ofV_int ofV_bool ofV_str ofV_nil put_some put_none frm0_at then_normal then_exit then_ret unblock_normal unblock_ret unblock_exit condA_eq condB_bool slotOf_list slotL_zero slotL_succ box_agg box_int AHeap.empty heap_push heap_set heap_next cellsQ_cons cellsQ_tip setL_cons load_ptr bi_add bi_sub bi_mul bi_eql bi_neq bi_lss bi_leq bi_gtr bi_geq bi_rem bi_quo binA_str pickA_t pickA_f fin_ret fin_normal res_nil res_tmp cellRes_ptr res_cell tupled_one tupled_two tupled_three outOf_some
attribute [go_sem] List.getElem?_cons_zero List.getElem?_cons_succ Option.getD_some List.map_cons List.map_nil
end Go.Ab

/- Runs that end in a given way. -/
namespace Go.Ab
set_option linter.unusedVariables false
open Go

def okR (r : Option Res) (P : Ex → Frm → AHeap → Prop) : Prop := match r with | some (e, α, H) => P e α H | none => False
theorem okR_some (e : Ex) (α : Frm) (H : AHeap) (P : Ex → Frm → AHeap → Prop) : okR (some (e, α, H)) P = P e α H := (rfl)
@[congr] theorem okR_congr {r r' : Option Res} {P : Ex → Frm → AHeap → Prop} (h : r = r') : okR r P = okR r' P := by rw [h]
theorem okR_get {r : Option Res} {P : Ex → Frm → AHeap → Prop} (h : okR r P) : ∃ e α H, r = some (e, α, H) ∧ P e α H := by
  unfold okR at h
  split at h
  · exact ⟨_, _, _, rfl, h⟩
  · exact h.elim

theorem okR_imp {r : Option Res} {P Q : Ex → Frm → AHeap → Prop} (h : okR r P) (hi : ∀ e α H, P e α H → Q e α H) : okR r Q := by
  obtain ⟨e, α, H, rfl, hp⟩ := okR_get h
  exact hi _ _ _ hp

/-- A loop that counts up. 'I' holds ahead of each round. -/
theorem loop_up {g : Frm → AHeap → Option Res} (I : Nat → Frm → AHeap → Prop) (N : Nat) (P : Ex → Frm → AHeap → Prop)
    (hr : ∀ i α H, i < N → I i α H → okR (g α H) fun e α' H' => e = .normal ∧ I (i + 1) α' H')
    (he : ∀ α H, I N α H → okR (g α H) fun e α' H' => e ≠ .normal ∧ P e α' H') :
    ∀ k i α H, i + k = N → I i α H → okR (loopO g α H) P
  | 0, i, α, H, hk, h => by
    have : i = N := by omega
    subst this
    obtain ⟨e, α', H', h1, h2, h3⟩ := okR_get (he α H h)
    rw [loopO_eq, h1]
    cases e with
    | normal => exact (h2 rfl).elim
    | exit j => exact h3
    | ret => exact h3
  | k + 1, i, α, H, hk, h => by
    obtain ⟨e, α', H', h1, h2, h3⟩ := okR_get (hr i α H (by omega) h)
    subst h2
    rw [loopO_eq, h1]
    exact loop_up I N P hr he k (i + 1) α' H' (by omega) h3

theorem app_cons {A : Type} (o : A) (r b : List A) : List.append (o :: r) b = o :: List.append r b := (rfl)
theorem app_nil {A : Type} (b : List A) : List.append [] b = b := (rfl)
theorem xc_loop' {E : Env} {call : CallO} {c : Code} {α : Frm} {H : AHeap} : execC E call loopO (.loop c) α H = loopO (execC E call loopO c) α H := (rfl)
theorem block_normal {E : Env} {call : CallO} {loop : (Frm → AHeap → Option Res) → Frm → AHeap → Option Res} (id : Nat) (c : Code) (α : Frm) (H : AHeap) (P : Ex → Frm → AHeap → Prop)
    (h : okR (execC E call loop c α H) fun e α' H' => (e = .normal ∨ e = .exit id) ∧ P .normal α' H') : okR (execC E call loop (.block id c) α H) P := by
  obtain ⟨e, α', H', h1, h2, h3⟩ := okR_get h
  rw [xc_block, h1]
  rcases h2 with h2 | h2
  · subst h2; exact h3
  · subst h2
    simp only [bnd, unblock, if_true]
    exact h3
theorem seq_then {E : Env} {call : CallO} {loop : (Frm → AHeap → Option Res) → Frm → AHeap → Option Res} (a b : Code) (α : Frm) (H : AHeap) (P : Ex → Frm → AHeap → Prop)
    (h : okR (execC E call loop a α H) fun e α' H' => e = .normal ∧ okR (execC E call loop b α' H') P) : okR (execC E call loop (.seq a b) α H) P := by
  obtain ⟨e, α', H', h1, h2, h3⟩ := okR_get h
  subst h2
  rw [xc_seq, h1]
  exact h3
theorem okR_then {E : Env} {call : CallO} {loop : (Frm → AHeap → Option Res) → Frm → AHeap → Option Res} {a : Code} {g : Frm → AHeap → Option Res} {α : Frm} {H : AHeap} {P : Ex → Frm → AHeap → Prop}
    (h : okR (execC E call loop a α H) fun e α' H' => e = .normal ∧ okR (g α' H') P) : okR (bnd (execC E call loop a α H) fun r => andThen r g) P := by
  obtain ⟨e, α', H', h1, h2, h3⟩ := okR_get h
  subst h2
  rw [h1]
  exact h3
/-- The result, out of the end of the body. -/
theorem out_of {E : Env} {c : Code} {α : Frm} {H : AHeap} {call : CallO} {loop : (Frm → AHeap → Option Res) → Frm → AHeap → Option Res} {fin : Res → Option (AV × AHeap)} {v : AV}
    (h : okR (execC E call loop c α H) fun e α' H' => outOf (fin (e, α', H')) = some v) : outOf (bnd (execC E call loop c α H) fin) = some v := by
  obtain ⟨e, α', H', h1, h2⟩ := okR_get h
  rw [h1]
  exact h2

attribute [go_sem] okR_some app_cons app_nil
end Go.Ab
