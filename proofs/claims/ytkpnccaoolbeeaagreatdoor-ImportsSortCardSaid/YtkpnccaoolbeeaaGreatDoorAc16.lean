/- Functions, against the model; and the machine without a count of rounds: the equations that it meets. -/
import Derived.Test.YtkpnccaoolbeeaaGreatDoorAc15
namespace Go.Ab
set_option linter.unusedVariables false
open Go Go.RowKit

section
variable {P : Program} {B : Nat → Prop} {W0 : World} {H H' : AHeap} {σ σ' : St} {w w' : World} {n : Nat} {a : Act} {α : Frm} {E : Env} {call : CallO} {ds : List Deferred}

def rvSem (a : Act) : ResultVar → Sem Value
  | .tmp t => pure (a.tmps.getD t undef)
  | .cell x t => do loadVar t (← asAddr (a.tmps.getD x undef))

theorem results_eq (fn : Func) (a : Act) : results fn a.tmps = (do let vs ← fn.results.mapM (rvSem a); pure (if h : vs.size = 1 then vs[0] else .tuple vs)) := by
  unfold results
  congr 1

theorem results_run (hs : Sim P B W0 H σ w) (hr : RelF σ n ds a α) : ∀ (rs : List ResultVar) (vs : List AV), resultsA P α H rs = some vs →
    ∃ us : List Value, (rs.mapM (rvSem a) : Sem (List Value)).run P w = .ok us w ∧ RepL σ vs us
  | [], vs, h => by
    simp only [resultsA, Option.some.injEq] at h
    subst h
    exact ⟨[], by simp, by simp [RepL]⟩
  | .tmp t :: rs, vs, h => by
    simp only [resultsA] at h
    cases hv : resultsA P α H rs with
    | none => simp [hv, bnd] at h
    | some vs' =>
      simp only [hv, bnd, Option.some.injEq] at h
      subst h
      obtain ⟨us, h1, h2⟩ := results_run hs hr rs vs' hv
      refine ⟨a.tmps.getD t undef :: us, ?_, RepL.cons_iff.2 ⟨_, _, rfl, hr.rep t, h2⟩⟩
      simp only [List.mapM_cons, rvSem, Sem.run_bind, Sem.run_pure, Result.andThen_ok, h1]
  | .cell x t :: rs, vs, h => by
    simp only [resultsA] at h
    have hx := hr.rep x
    cases hp : α x with
    | ptr id off =>
      simp only [hp] at h hx
      cases hl : loadA P H t (.ptr id off) with
      | none => simp [hl, bnd] at h
      | some v =>
        simp only [hl, bnd] at h
        cases hv : resultsA P α H rs with
        | none => simp [hv] at h
        | some vs' =>
          simp only [hv, Option.some.injEq] at h
          subst h
          obtain ⟨us, h1, h2⟩ := results_run hs hr rs vs' hv
          obtain ⟨u, hu, ru⟩ := pure_load hs hx hl
          have hx' := hx
          simp only [Rep] at hx'
          obtain ⟨b, hb, e⟩ := hx'
          rw [e] at hu
          have hload : (loadVar t ⟨b, off, none⟩).run P w = .ok u w := by
            simp only [Instr.loadAt, Instr.sureAddr, Sem.run_bind, Sem.run_pure, Result.andThen_ok] at hu
            cases hlv : (loadVar t ⟨b, off, none⟩).run P w with
            | ok u' w' =>
              rw [hlv] at hu
              simp only [Result.andThen_ok, Result.ok.injEq, Next.value.injEq] at hu
              obtain ⟨rfl, rfl⟩ := hu
              rfl
            | halt x' w' => rw [hlv] at hu; simp at hu
          refine ⟨u :: us, ?_, RepL.cons_iff.2 ⟨_, _, rfl, ru, h2⟩⟩
          simp only [List.mapM_cons, rvSem, Sem.run_bind, Sem.run_pure, Result.andThen_ok, e, asAddr, hload, h1]
    | _ => simp [hp, bnd] at h

theorem tupled_rep {vs : List AV} {us : List Value} (h : RepL σ vs us) : Rep σ (tupled vs) (if h : us.toArray.size = 1 then us.toArray[0] else .tuple us.toArray) := by
  cases vs with
  | nil => rw [RepL.nil_iff] at h; subst h; simp [tupled, Rep, RepL]
  | cons v vs =>
    cases vs with
    | nil =>
      rw [RepL.cons_iff] at h
      obtain ⟨u, us', rfl, r, q⟩ := h
      rw [RepL.nil_iff] at q
      subst q
      simpa [tupled] using r
    | cons v2 vs =>
      have hl := h.length
      rw [dif_neg (by simp; simp at hl; omega)]
      simp only [tupled, Rep]
      exact ⟨us, rfl, h⟩

structure EnvOk (E : Env) : Prop where
  mixed : E.P.follows .mixedOrders = true
  good : ∀ f, E.G f = true → ∃ fn c, E.P.funcs[f]? = some fn ∧ fn.body = some c ∧ (fn.name == "runtime.NumGoroutine") = false ∧ okC E fn.ntmps c = true
  ext : CallOk E.P E.ext

theorem frm0_rel {args : List AV} {us : List Value} (h : RepL σ args us) (hn : args.length ≤ n) : RelF σ n [] { tmps := us.toArray ++ Array.replicate (n - us.toArray.size) undef, defers := [] } (frm0 args) := by
  have hl := h.length
  refine ⟨by simp; omega, fun i => ?_, rfl⟩
  simp only [frm0]
  by_cases hi : i < args.length
  · have ha : args[i]? = some args[i] := List.getElem?_eq_getElem hi
    obtain ⟨u, hu, ru⟩ := h.get ha
    rw [ha]
    have : (us.toArray ++ Array.replicate (n - us.toArray.size) undef)[i]? = some u := by
      rw [Array.getElem?_append_left (by simp; omega)]; simpa using hu
    simp only [Array.getD_eq_getD_getElem?, this]
    simpa using ru
  · rw [List.getElem?_eq_none (by omega)]
    have : ((us.toArray ++ Array.replicate (n - us.toArray.size) undef)[i]?).getD undef = undef := by
      rw [Array.getElem?_append_right (by simp; omega)]
      cases hq : (Array.replicate (n - us.toArray.size) undef)[i - us.toArray.size]? with
      | none => rfl
      | some q =>
        have := Array.getElem?_eq_some_iff.1 hq
        obtain ⟨h1, h2⟩ := this
        simp at h2
        simp [← h2]
    simp only [Array.getD_eq_getD_getElem?, this]
    exact undefA_rep

theorem execB_sound (hE : EnvOk E) {f : FuncId} (hG : E.G f = true) (hc : CallOk E.P call) {loop : (Frm → AHeap → Option Res) → Frm → AHeap → Option Res} (hl : LoopOk loop) {args : List AV} {v : AV}
    (h : execB E call loop f args H = some (v, H')) : callable E.P f ∧ CallsA E.P f args H v H' := by
  obtain ⟨fn, c, h1, h2, h3, h4⟩ := hE.good f hG
  refine ⟨⟨fn, h1, h3, by simp [h2]⟩, ?_⟩
  simp only [execB, h1, h2] at h
  split at h
  · rename_i hn
    intro B W0 σ w us hs hr
    cases hx : execC E call loop c (frm0 args) H with
    | none => simp [hx, bnd] at h
    | some r =>
      obtain ⟨ex, α', H1⟩ := r
      simp only [hx, bnd] at h
      refine calls_of_wp h1 h2 (wp_mono (code_sound hc hE.mixed hl c (frm0 args) H σ _ w ex α' H1 h4 hx hs (frm0_rel hr hn)) ?_)
      rintro e a1 w1 ⟨rfl, σ1, hext, hs1, hr1⟩
      have fin : ∀ {vs : List AV}, resultsA E.P α' H1 fn.results.toList = some vs → ∃ u, (results fn a1.tmps).run E.P w1 = .ok u w1 ∧ Rep σ1 (tupled vs) u := by
        intro vs hv
        obtain ⟨us1, e1, e2⟩ := results_run hs1 hr1 _ _ hv
        refine ⟨_, ?_, tupled_rep e2⟩
        rw [results_eq]
        simp only [Array.mapM_eq_mapM_toList, Sem.run_bind, Sem.run_map, e1, Result.andThen_ok, Sem.run_pure]
      cases ex with
      | exit id => simp [finish] at h
      | normal =>
        simp only [finish] at h
        cases hv : resultsA E.P α' H1 fn.results.toList with
        | none => simp [hv, bnd] at h
        | some vs =>
          simp only [hv, bnd, Option.some.injEq, Prod.mk.injEq] at h
          obtain ⟨rfl, rfl⟩ := h
          obtain ⟨u, hu, ru⟩ := fin hv
          exact ⟨hr1.defers, u, hu, u, rfl, σ1, hext, hs1, ru⟩
      | ret =>
        simp only [finish] at h
        cases hv : resultsA E.P α' H1 fn.results.toList with
        | none => simp [hv, bnd] at h
        | some vs =>
          simp only [hv, bnd, Option.some.injEq, Prod.mk.injEq] at h
          obtain ⟨rfl, rfl⟩ := h
          obtain ⟨u, hu, ru⟩ := fin hv
          exact ⟨hr1.defers, u, hu, u, rfl, σ1, hext, hs1, ru⟩
  · cases h

/-- The same contract for a call that is deferred. -/
def CallsDA (P : Program) (f : FuncId) (args : List AV) (H : AHeap) (v : AV) (H' : AHeap) : Prop :=
  ∀ B W0 σ w us, Sim P B W0 H σ w → RepL σ args us → CallsD P f us.toArray .returning w (fun e u' w' => u' = .returning ∧ ∃ u, e = .returned u ∧ Goes P B W0 σ v H' u w')

theorem execB_soundD (hE : EnvOk E) {f : FuncId} (hG : E.G f = true) (hc : CallOk E.P call) {loop : (Frm → AHeap → Option Res) → Frm → AHeap → Option Res} (hl : LoopOk loop) {args : List AV} {v : AV}
    (h : execB E call loop f args H = some (v, H')) : callable E.P f ∧ CallsDA E.P f args H v H' := by
  obtain ⟨fn, c, h1, h2, h3, h4⟩ := hE.good f hG
  refine ⟨⟨fn, h1, h3, by simp [h2]⟩, ?_⟩
  simp only [execB, h1, h2] at h
  split at h
  · rename_i hn
    intro B W0 σ w us hs hr
    cases hx : execC E call loop c (frm0 args) H with
    | none => simp [hx, bnd] at h
    | some r =>
      obtain ⟨ex, α', H1⟩ := r
      simp only [hx, bnd] at h
      refine callsD_of_wp (R := fun e w' => ∃ u, e = .returned u ∧ Goes E.P B W0 σ v H' u w') h1 h2 (wp_mono (code_sound hc hE.mixed hl c (frm0 args) H σ _ w ex α' H1 h4 hx hs (frm0_rel hr hn)) ?_)
      rintro e a1 w1 ⟨rfl, σ1, hext, hs1, hr1⟩
      have fin : ∀ {vs : List AV}, resultsA E.P α' H1 fn.results.toList = some vs → ∃ u, (results fn a1.tmps).run E.P w1 = .ok u w1 ∧ Rep σ1 (tupled vs) u := by
        intro vs hv
        obtain ⟨us1, e1, e2⟩ := results_run hs1 hr1 _ _ hv
        refine ⟨_, ?_, tupled_rep e2⟩
        rw [results_eq]
        simp only [Array.mapM_eq_mapM_toList, Sem.run_bind, Sem.run_map, e1, Result.andThen_ok, Sem.run_pure]
      cases ex with
      | exit id => simp [finish] at h
      | normal =>
        simp only [finish] at h
        cases hv : resultsA E.P α' H1 fn.results.toList with
        | none => simp [hv, bnd] at h
        | some vs =>
          simp only [hv, bnd, Option.some.injEq, Prod.mk.injEq] at h
          obtain ⟨rfl, rfl⟩ := h
          obtain ⟨u, hu, ru⟩ := fin hv
          exact ⟨hr1.defers, u, hu, u, rfl, σ1, hext, hs1, ru⟩
      | ret =>
        simp only [finish] at h
        cases hv : resultsA E.P α' H1 fn.results.toList with
        | none => simp [hv, bnd] at h
        | some vs =>
          simp only [hv, bnd, Option.some.injEq, Prod.mk.injEq] at h
          obtain ⟨rfl, rfl⟩ := h
          obtain ⟨u, hu, ru⟩ := fin hv
          exact ⟨hr1.defers, u, hu, u, rfl, σ1, hext, hs1, ru⟩
  · cases h

theorem execBD_sound (hE : EnvOk E) {f : FuncId} (hG : E.G f = true) (hc : CallOk E.P call) (hcD : ∀ g args H v H', E.G g = true → E.df g = false → call g args H = some (v, H') → callable E.P g ∧ CallsDA E.P g args H v H')
    {loop : (Frm → AHeap → Option Res) → Frm → AHeap → Option Res} (hl : LoopOk loop) {args : List AV} {v : AV}
    (h : execBD E call loop f args H = some (v, H')) : callable E.P f ∧ CallsA E.P f args H v H' := by
  obtain ⟨fn, c, h1, h2, h3, h4⟩ := hE.good f hG
  refine ⟨⟨fn, h1, h3, by simp [h2]⟩, ?_⟩
  simp only [execBD, h1, h2] at h
  split at h
  · rename_i hn
    intro B W0 σ w us hs hr
    cases hx : execDef E call loop c (frm0 args) H with
    | none => simp [hx, bnd] at h
    | some r =>
      obtain ⟨⟨ex, α', H1⟩, vc⟩ := r
      simp only [hx, bnd] at h
      refine calls_of_wp_defers h1 h2 (wp_mono (def_sound hc hE.mixed hl c (frm0 args) H σ _ w ex α' H1 vc h4 hx hs (frm0_rel hr hn)) ?_)
      rintro e a1 w1 ⟨rfl, σ1, d, hext, hs1, hr1, u0, ru0, hd⟩
      have body : ∀ {g : FuncId} {first cap : List AV}, target vc = some (g, first, cap) → (if E.G g = true ∧ E.df g = false then bnd (call g (first ++ cap) H1) fun q => finish E.P fn.results.toList (.ret, α', q.2) else none) = some (v, H') →
          Leaves E.P fn a1.tmps (fun e w' => ∃ u, e = .returned u ∧ Goes E.P B W0 σ v H' u w') a1.defers .returning w1 := by
        intro g first cap ht h
        split at h
        · rename_i hg
          cases hq : call g (first ++ cap) H1 with
          | none => simp [hq, bnd] at h
          | some q =>
            obtain ⟨vq, H2⟩ := q
            simp only [hq, bnd] at h
            obtain ⟨us0, vs0, rfl, r1, r2⟩ := target_spec ht ru0
            have hd1 := hd w1
            simp only [Deferred.ofValue, Sem.run_pure, Result.ok.injEq, and_true] at hd1
            subst hd1
            obtain ⟨k1, k2⟩ := hcD g _ _ _ _ hg.1 hg.2 hq
            rw [hr1.defers]
            refine leaves_cons (f := g) (args := (us0 ++ vs0).toArray) (by simp) ?_ ?_
            · simp only [invoke, callFunc_run k1]
              congr 2
              apply Array.ext'
              simp
            · refine (k2 B W0 σ1 w1 (us0 ++ vs0) hs1 (r1.append r2)).mono ?_
              rintro e u' w2 ⟨rfl, u, rfl, σ2, q1, q2, q3⟩
              simp only [settle]
              have hr2 := hr1.mono q1.le
              simp only [finish] at h
              cases hv : resultsA E.P α' H2 fn.results.toList with
              | none => simp [hv, bnd] at h
              | some vs =>
                simp only [hv, bnd, Option.some.injEq, Prod.mk.injEq] at h
                obtain ⟨rfl, rfl⟩ := h
                obtain ⟨us1, e1, e2⟩ := results_run q2 hr2 _ _ hv
                refine ⟨_, ?_, _, rfl, σ2, hext.trans q1, q2, tupled_rep e2⟩
                rw [results_eq]
                simp only [Array.mapM_eq_mapM_toList, Sem.run_bind, Sem.run_map, e1, Result.andThen_ok, Sem.run_pure]
        · cases h
      cases ex with
      | exit id => simp at h
      | normal =>
        cases ht : target vc with
        | none => simp [ht] at h
        | some p => obtain ⟨g, first, cap⟩ := p; simp only [ht] at h; exact body ht h
      | ret =>
        cases ht : target vc with
        | none => simp [ht] at h
        | some p => obtain ⟨g, first, cap⟩ := p; simp only [ht] at h; exact body ht h
  · cases h

theorem execF_both (hE : EnvOk E) : ∀ n, CallOk E.P (execF E n) ∧ ∀ g args H v H', E.G g = true → E.df g = false → execF E n g args H = some (v, H') → callable E.P g ∧ CallsDA E.P g args H v H'
  | 0 => ⟨fun f args H v H' h => by simp [execF] at h, fun f args H v H' _ _ h => by simp [execF] at h⟩
  | n + 1 => by
    obtain ⟨ih1, ih2⟩ := execF_both hE n
    have hl : LoopOk (fun g => loopN g n) := fun g α H r hr => ⟨n, hr⟩
    refine ⟨fun f args H v H' h => ?_, fun f args H v H' hG hdf h => ?_⟩
    · simp only [execF] at h
      split at h
      · rename_i hG
        split at h
        · exact execBD_sound hE hG ih1 ih2 hl h
        · exact execB_sound hE hG ih1 hl h
      · exact hE.ext f args H v H' h
    · simp only [execF, hG, hdf, if_true, Bool.false_eq_true, if_false] at h
      exact execB_soundD hE hG ih1 hl h

theorem execF_sound (hE : EnvOk E) (n : Nat) : CallOk E.P (execF E n) := (execF_both hE n).1

/-! ### More rounds change nothing -/

def CLe (c c' : CallO) : Prop := ∀ f args H r, c f args H = some r → c' f args H = some r
def GLe (g g' : Frm → AHeap → Option Res) : Prop := ∀ α H r, g α H = some r → g' α H = some r
def LLe (l l' : (Frm → AHeap → Option Res) → Frm → AHeap → Option Res) : Prop := ∀ g g', GLe g g' → GLe (l g) (l' g')

theorem bnd_some {α β : Type} {x : Option α} {f : α → Option β} {r : β} (h : bnd x f = some r) : ∃ a, x = some a ∧ f a = some r := by
  cases x with
  | none => simp [bnd] at h
  | some a => exact ⟨a, rfl, h⟩

theorem closed_mono {P : Program} {c c' : CallO} (h : CLe c c') {f : FuncId} {args : List AV} {v : AV} (hv : closedCall P c f args = some v) : closedCall P c' f args = some v := by
  unfold closedCall at *
  split at hv
  · rename_i hn
    rw [if_pos hn]
    cases hc : c f (args.map AV.erase) .empty with
    | none => simp [hc] at hv
    | some p =>
      rw [h _ _ _ _ hc]
      simpa [hc] using hv
  · cases hv

theorem step_mono {c c' : CallO} (h : CLe c c') {op : Op} {ρ : Operand → AV} {r : AV × AHeap} (hr : stepOp E c op ρ H = some r) : stepOp E c' op ρ H = some r := by
  cases op <;> simp only [stepOp] at hr ⊢ <;> (try exact hr)
  case call cl =>
    unfold stepCall at *
    cases hf : cl.callee with
    | value f =>
      simp only [hf] at hr ⊢
      unfold callA at *
      cases ht : target (ρ f) with
      | none => simp [ht] at hr
      | some p =>
        obtain ⟨g, first, cap⟩ := p
        simp only [ht] at hr ⊢
        by_cases hcl : E.cl g = true
        · rw [if_pos hcl] at hr ⊢
          obtain ⟨v, h1, h2⟩ := bnd_some hr
          simp only [closed_mono h h1, bnd]
          exact h2
        · rw [if_neg hcl] at hr ⊢
          exact h _ _ _ _ hr
    | builtin b => simp only [hf] at hr ⊢; cases b <;> exact hr
    | invoke q m => simp only [hf] at hr ⊢; exact hr

theorem ops_mono {c c' : CallO} (h : CLe c c') {all : Array Oper} : ∀ (l : List Oper) (α : Frm) (H : AHeap) (r : Frm × AHeap), execOps E c all l α H = some r → execOps E c' all l α H = some r
  | [], _, _, _, hr => hr
  | o :: l, α, H, r, hr => by
    simp only [execOps] at hr ⊢
    obtain ⟨b, h1, h2⟩ := bnd_some hr
    simp only [h1, bnd]
    cases b with
    | true =>
      simp only [sel, if_true] at h2 ⊢
      obtain ⟨p, h3, h4⟩ := bnd_some h2
      simp only [step_mono h h3]
      exact ops_mono h l _ _ _ h4
    | false =>
      simp only [sel, Bool.false_eq_true, if_false] at h2 ⊢
      exact ops_mono h l _ _ _ h2

theorem reads_mono {c c' : CallO} (h : CLe c c') {o : Oper} {α : Frm} {v : AV} {H : AHeap} (hr : reads E c o α v H = true) : reads E c' o α v H = true := by
  unfold reads at *
  split at hr
  · rename_i u H' hs
    rw [step_mono h hs]
    exact hr
  · cases hr

theorem opsD_mono {c c' : CallO} (h : CLe c c') {all : Array Oper} : ∀ (l : List Oper) (k : Nat) (rs : List (Nat × Oper × Frm × AV)) (ws : List (Nat × AHeap)) (α : Frm) (H : AHeap) (r : Frm × AHeap), execOpsD E c all k l rs ws α H = some r → execOpsD E c' all k l rs ws α H = some r
  | [], _, _, _, _, _, _, hr => hr
  | o :: l, k, rs, ws, α, H, r, hr => by
    simp only [execOpsD] at hr ⊢
    obtain ⟨b, h1, h2⟩ := bnd_some hr
    simp only [h1, bnd]
    cases b with
    | true =>
      simp only [sel, if_true] at h2 ⊢
      obtain ⟨p, h3, h4⟩ := bnd_some h2
      simp only [step_mono h h3]
      cases hk : kdOf E o.op with
      | ins => simp only [hk] at h4 ⊢; exact opsD_mono h l _ _ _ _ _ _ h4
      | rd =>
        simp only [hk] at h4 ⊢
        split at h4
        · rename_i hall
          rw [if_pos]
          · exact opsD_mono h l _ _ _ _ _ _ h4
          · rw [List.all_eq_true] at hall ⊢
            intro w hw
            have := hall w hw
            simp only [Bool.or_eq_true] at this ⊢
            exact this.imp id (reads_mono h)
        · cases h4
      | wr =>
        simp only [hk] at h4 ⊢
        split at h4
        · rename_i hall
          rw [if_pos]
          · exact opsD_mono h l _ _ _ _ _ _ h4
          · rw [List.all_eq_true] at hall ⊢
            intro w hw
            have := hall w hw
            simp only [Bool.or_eq_true] at this ⊢
            exact this.imp id (reads_mono h)
        · cases h4
    | false =>
      simp only [sel, Bool.false_eq_true, if_false] at h2 ⊢
      exact opsD_mono h l _ _ _ _ _ _ h2

theorem andThen_mono {g g' : Frm → AHeap → Option Res} (h : GLe g g') {r r' : Res} (hr : andThen r g = some r') : andThen r g' = some r' := by
  obtain ⟨ex, α, H⟩ := r
  cases ex with
  | normal => exact h _ _ _ hr
  | _ => exact hr

theorem execC_mono {c c' : CallO} (h : CLe c c') {l l' : (Frm → AHeap → Option Res) → Frm → AHeap → Option Res} (hl : LLe l l') : ∀ (x : Code), GLe (execC E c l x) (execC E c' l' x)
  | .skip, _, _, _, hr => hr
  | .region id ops d, α, H, r, hr => by
    simp only [execC] at hr ⊢
    obtain ⟨p, h1, h2⟩ := bnd_some hr
    have h3 : sel (d && E.dyn id) (execOpsD E c' ops 0 ops.toList [] [] α H) (execOps E c' ops ops.toList α H) = some p := by
      unfold sel at h1 ⊢
      split at h1
      · rename_i hd; rw [if_pos hd]; exact opsD_mono h _ _ _ _ _ _ _ h1
      · rename_i hd; rw [if_neg hd]; exact ops_mono h _ _ _ _ h1
    simp only [h3, bnd]
    exact h2
  | .seq x y, α, H, r, hr => by
    simp only [execC] at hr ⊢
    obtain ⟨p, h1, h2⟩ := bnd_some hr
    simp only [execC_mono h hl x _ _ _ h1, bnd]
    exact andThen_mono (execC_mono h hl y) h2
  | .cond cd x y, α, H, r, hr => by
    simp only [execC, condA] at hr ⊢
    split at hr
    · rename_i v hv
      cases v with
      | true => simp only [sel, if_true] at hr ⊢; exact execC_mono h hl x _ _ _ hr
      | false => simp only [sel, Bool.false_eq_true, if_false] at hr ⊢; exact execC_mono h hl y _ _ _ hr
    · cases hr
  | .block id x, α, H, r, hr => by
    simp only [execC] at hr ⊢
    obtain ⟨p, h1, h2⟩ := bnd_some hr
    simp only [execC_mono h hl x _ _ _ h1, bnd]
    exact h2
  | .loop x, α, H, r, hr => by
    simp only [execC] at hr ⊢
    exact hl _ _ (execC_mono h hl x) _ _ _ hr
  | .exit id, _, _, _, hr => hr
  | .ret, _, _, _, hr => hr
  | .rangeFunc _ _ _ _, _, _, _, hr => by simp [execC] at hr
  | .scope _, _, _, _, hr => by simp [execC] at hr
  | .label _, _, _, _, hr => by simp [execC] at hr
  | .goto _, _, _, _, hr => by simp [execC] at hr
  | .refuse _, _, _, _, hr => by simp [execC] at hr

theorem execB_mono {c c' : CallO} (h : CLe c c') {l l' : (Frm → AHeap → Option Res) → Frm → AHeap → Option Res} (hl : LLe l l') {f : FuncId} {args : List AV} {r : AV × AHeap} (hr : execB E c l f args H = some r) :
    execB E c' l' f args H = some r := by
  unfold execB at *
  split at hr
  · split at hr
    · split at hr
      · rename_i hn
        rw [if_pos hn]
        obtain ⟨p, h1, h2⟩ := bnd_some hr
        rw [execC_mono h hl _ _ _ _ h1]
        exact h2
      · cases hr
    · cases hr
  · cases hr

theorem def_mono {c c' : CallO} (h : CLe c c') {l l' : (Frm → AHeap → Option Res) → Frm → AHeap → Option Res} (hl : LLe l l') : ∀ (x : Code) (α : Frm) (H : AHeap) (r : Res × AV), execDef E c l x α H = some r → execDef E c' l' x α H = some r := by
  intro x
  induction x with
  | seq a b _ ih =>
    intro α H r hr
    simp only [execDef] at hr ⊢
    split at hr
    · rename_i o d hd
      obtain ⟨p, h1, h2⟩ := bnd_some hr
      obtain ⟨q, h3, h4⟩ := bnd_some h2
      simp only [step_mono h h1, bnd, execC_mono h hl _ _ _ _ h3]
      exact h4
    · obtain ⟨p, h1, h2⟩ := bnd_some hr
      simp only [execC_mono h hl _ _ _ _ h1, bnd]
      split at h2
      · exact ih _ _ _ h2
      · cases h2
  | _ => intro α H r hr; simp [execDef] at hr

theorem execBD_mono {c c' : CallO} (h : CLe c c') {l l' : (Frm → AHeap → Option Res) → Frm → AHeap → Option Res} (hl : LLe l l') {f : FuncId} {args : List AV} {r : AV × AHeap} (hr : execBD E c l f args H = some r) :
    execBD E c' l' f args H = some r := by
  unfold execBD at *
  split at hr
  · split at hr
    · split at hr
      · rename_i hn
        rw [if_pos hn]
        obtain ⟨p, h1, h2⟩ := bnd_some hr
        simp only [def_mono h hl _ _ _ _ h1, bnd]
        split at h2
        · cases h2
        · split at h2
          · rename_i hg
            rw [if_pos hg]
            obtain ⟨q, h3, h4⟩ := bnd_some h2
            simp only [h _ _ _ _ h3]
            exact h4
          · cases h2
        · cases h2
      · cases hr
    · cases hr
  · cases hr

theorem loopN_mono {g g' : Frm → AHeap → Option Res} (h : GLe g g') : ∀ (k k' : Nat), k ≤ k' → GLe (loopN g k) (loopN g' k')
  | 0, _, _, _, _, _, hr => by simp [loopN] at hr
  | k + 1, 0, hk, _, _, _, _ => by omega
  | k + 1, k' + 1, hk, α, H, r, hr => by
    simp only [loopN] at hr ⊢
    obtain ⟨p, h1, h2⟩ := bnd_some hr
    simp only [h _ _ _ h1, bnd]
    exact andThen_mono (loopN_mono h k k' (by omega)) h2

theorem execF_mono : ∀ (n m : Nat), n ≤ m → CLe (execF E n) (execF E m)
  | 0, _, _, _, _, _, _, hr => by simp [execF] at hr
  | n + 1, 0, hn, _, _, _, _, _ => by omega
  | n + 1, m + 1, hn, f, args, H, r, hr => by
    simp only [execF] at hr ⊢
    split
    · rename_i hG
      rw [if_pos hG] at hr
      split
      · rename_i hd
        rw [if_pos hd] at hr
        exact execBD_mono (execF_mono n m (by omega)) (fun g g' hg => loopN_mono hg n m (by omega)) hr
      · rename_i hd
        rw [if_neg hd] at hr
        exact execB_mono (execF_mono n m (by omega)) (fun g g' hg => loopN_mono hg n m (by omega)) hr
    · rename_i hG
      rw [if_neg hG] at hr
      exact hr

/-! ### Without a count -/

open Classical in
noncomputable def run (E : Env) : CallO := fun f args H => if h : ∃ r n, execF E n f args H = some r then some h.choose else none

open Classical in
noncomputable def loopO (g : Frm → AHeap → Option Res) (α : Frm) (H : AHeap) : Option Res := if h : ∃ r n, loopN g n α H = some r then some h.choose else none

theorem run_iff {f : FuncId} {args : List AV} {r : AV × AHeap} : run E f args H = some r ↔ ∃ n, execF E n f args H = some r := by
  unfold run
  constructor
  · intro h
    split at h
    · rename_i hx
      simp only [Option.some.injEq] at h
      rw [← h]
      exact hx.choose_spec
    · cases h
  · rintro ⟨n, hn⟩
    have hx : ∃ r n, execF E n f args H = some r := ⟨r, n, hn⟩
    rw [dif_pos hx]
    obtain ⟨m, hm⟩ := hx.choose_spec
    have h1 := execF_mono (E := E) n (max n m) (by omega) _ _ _ _ hn
    have h2 := execF_mono (E := E) m (max n m) (by omega) _ _ _ _ hm
    rw [h1] at h2
    exact h2.symm

theorem loopO_iff {g : Frm → AHeap → Option Res} {α : Frm} {r : Res} : loopO g α H = some r ↔ ∃ n, loopN g n α H = some r := by
  unfold loopO
  constructor
  · intro h
    split at h
    · rename_i hx
      simp only [Option.some.injEq] at h
      rw [← h]
      exact hx.choose_spec
    · cases h
  · rintro ⟨n, hn⟩
    have hx : ∃ r n, loopN g n α H = some r := ⟨r, n, hn⟩
    rw [dif_pos hx]
    obtain ⟨m, hm⟩ := hx.choose_spec
    have h1 := loopN_mono (fun _ _ _ h => h) n (max n m) (by omega) _ _ _ hn
    have h2 := loopN_mono (fun _ _ _ h => h) m (max n m) (by omega) _ _ _ hm
    rw [h1] at h2
    exact h2.symm

/-- One round of a loop. -/
theorem loopO_eq (g : Frm → AHeap → Option Res) (α : Frm) (H : AHeap) : loopO g α H = bnd (g α H) fun r => andThen r (loopO g) := by
  apply Option.ext
  intro r
  rw [loopO_iff]
  constructor
  · rintro ⟨n, hn⟩
    cases n with
    | zero => simp [loopN] at hn
    | succ n =>
      simp only [loopN] at hn
      obtain ⟨p, h1, h2⟩ := bnd_some hn
      simp only [h1, bnd]
      exact andThen_mono (fun _ _ _ h => loopO_iff.2 ⟨n, h⟩) h2
  · intro h
    obtain ⟨p, h1, h2⟩ := bnd_some h
    obtain ⟨ex, α', H'⟩ := p
    cases ex with
    | normal =>
      obtain ⟨n, hn⟩ := loopO_iff.1 h2
      exact ⟨n + 1, by simp only [loopN, h1, bnd, andThen]; exact hn⟩
    | exit id => exact ⟨1, by simp only [loopN, h1, bnd]; exact h2⟩
    | ret => exact ⟨1, by simp only [loopN, h1, bnd]; exact h2⟩

theorem run_sound (hE : EnvOk E) : CallOk E.P (run E) := fun f args H v H' h => by
  obtain ⟨n, hn⟩ := run_iff.1 h
  exact execF_sound hE n f args H v H' hn

theorem loopO_ok : LoopOk loopO := fun g α H r h => loopO_iff.1 h

end
end Go.Ab
