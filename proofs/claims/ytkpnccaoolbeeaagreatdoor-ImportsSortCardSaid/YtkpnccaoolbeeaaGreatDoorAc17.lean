/- The equations of the machine without a count. -/
import Derived.Test.YtkpnccaoolbeeaaGreatDoorAc16
namespace Go.Ab
set_option linter.unusedVariables false
open Go

section
variable {H : AHeap} {E : Env}

theorem cle (n m : Nat) (h : n ≤ m) : CLe (execF E n) (execF E m) := execF_mono n m h
theorem lle (n m : Nat) (h : n ≤ m) : LLe (fun g => loopN g n) (fun g => loopN g m) := fun g g' hg => loopN_mono hg n m h

theorem closed_cont {P : Program} {f : FuncId} {args : List AV} {v : AV} (h : closedCall P (run E) f args = some v) : ∃ n, closedCall P (execF E n) f args = some v := by
  unfold closedCall at h
  split at h
  · rename_i hn
    cases hc : run E f (args.map AV.erase) .empty with
    | none => simp [hc] at h
    | some p =>
      obtain ⟨n, hn'⟩ := run_iff.1 hc
      refine ⟨n, ?_⟩
      unfold closedCall
      rw [if_pos hn, hn']
      simpa [hc] using h
  · cases h

theorem step_cont {op : Op} {ρ : Operand → AV} {r : AV × AHeap} (hr : stepOp E (run E) op ρ H = some r) : ∃ n, stepOp E (execF E n) op ρ H = some r := by
  cases op <;> simp only [stepOp] at hr ⊢ <;> (try exact ⟨0, hr⟩)
  case call cl =>
    unfold stepCall at *
    cases hf : cl.callee with
    | value f =>
      simp only [hf] at hr ⊢
      unfold callA at *
      cases ht : target (ρ f) with
      | none => simp [ht] at hr
      | some p =>
        obtain ⟨g, first, cap⟩ := p
        simp only [ht] at hr ⊢
        by_cases hcl : E.cl g = true
        · rw [if_pos hcl] at hr
          obtain ⟨v, h1, h2⟩ := bnd_some hr
          obtain ⟨n, hn⟩ := closed_cont h1
          refine ⟨n, ?_⟩
          rw [if_pos hcl]
          simp only [hn, bnd]
          exact h2
        · rw [if_neg hcl] at hr
          obtain ⟨n, hn⟩ := run_iff.1 hr
          exact ⟨n, by rw [if_neg hcl]; exact hn⟩
    | builtin b => simp only [hf] at hr ⊢; cases b <;> exact ⟨0, hr⟩
    | invoke q m => simp only [hf] at hr ⊢; exact ⟨0, hr⟩

theorem ops_cont {all : Array Oper} : ∀ (l : List Oper) (α : Frm) (H : AHeap) (r : Frm × AHeap), execOps E (run E) all l α H = some r → ∃ n, execOps E (execF E n) all l α H = some r
  | [], _, _, _, hr => ⟨0, hr⟩
  | o :: l, α, H, r, hr => by
    simp only [execOps] at hr ⊢
    obtain ⟨b, h1, h2⟩ := bnd_some hr
    simp only [h1, bnd]
    cases b with
    | true =>
      simp only [sel, if_true] at h2 ⊢
      obtain ⟨p, h3, h4⟩ := bnd_some h2
      obtain ⟨n1, e1⟩ := step_cont h3
      obtain ⟨n2, e2⟩ := ops_cont l _ _ _ h4
      refine ⟨max n1 n2, ?_⟩
      rw [step_mono (cle n1 _ (by omega)) e1]
      exact ops_mono (cle n2 _ (by omega)) l _ _ _ e2
    | false =>
      simp only [sel, Bool.false_eq_true, if_false] at h2 ⊢
      exact ops_cont l _ _ _ h2

theorem reads_cont {o : Oper} {α : Frm} {v : AV} {H : AHeap} (h : reads E (run E) o α v H = true) : ∃ n, reads E (execF E n) o α v H = true := by
  unfold reads at h
  split at h
  · rename_i u H' hs
    obtain ⟨n, hn⟩ := step_cont hs
    exact ⟨n, by unfold reads; rw [hn]; exact h⟩
  · cases h

theorem all_cont {A : Type} (g : A → Bool) (f : A → Oper × Frm × AV × AHeap) : ∀ (l : List A), (l.all fun q => g q || reads E (run E) (f q).1 (f q).2.1 (f q).2.2.1 (f q).2.2.2) = true → ∃ n, ∀ m, n ≤ m → (l.all fun q => g q || reads E (execF E m) (f q).1 (f q).2.1 (f q).2.2.1 (f q).2.2.2) = true
  | [], _ => ⟨0, fun _ _ => rfl⟩
  | q :: l, h => by
    simp only [List.all_cons, Bool.and_eq_true] at h
    obtain ⟨n, hn⟩ := all_cont g f l h.2
    have h1 := h.1
    simp only [Bool.or_eq_true] at h1
    rcases h1 with h1 | h1
    · exact ⟨n, fun m hm => by simp only [List.all_cons, Bool.and_eq_true]; exact ⟨by simp [h1], hn m hm⟩⟩
    · obtain ⟨k, hk⟩ := reads_cont h1
      refine ⟨max n k, fun m hm => ?_⟩
      simp only [List.all_cons, Bool.and_eq_true]
      exact ⟨by rw [reads_mono (cle k m (by omega)) hk]; simp, hn m (by omega)⟩

theorem opsD_cont {all : Array Oper} : ∀ (l : List Oper) (k : Nat) (rs : List (Nat × Oper × Frm × AV)) (ws : List (Nat × AHeap)) (α : Frm) (H : AHeap) (r : Frm × AHeap), execOpsD E (run E) all k l rs ws α H = some r → ∃ n, execOpsD E (execF E n) all k l rs ws α H = some r
  | [], _, _, _, _, _, _, hr => ⟨0, hr⟩
  | o :: l, k, rs, ws, α, H, r, hr => by
    simp only [execOpsD] at hr ⊢
    obtain ⟨b, h1, h2⟩ := bnd_some hr
    simp only [h1, bnd]
    cases b with
    | true =>
      simp only [sel, if_true] at h2 ⊢
      obtain ⟨p, h3, h4⟩ := bnd_some h2
      obtain ⟨n1, e1⟩ := step_cont h3
      cases hk : kdOf E o.op with
      | ins =>
        simp only [hk] at h4 ⊢
        obtain ⟨n2, e2⟩ := opsD_cont l _ _ _ _ _ _ h4
        refine ⟨max n1 n2, ?_⟩
        rw [step_mono (cle n1 _ (by omega)) e1]
        exact opsD_mono (cle n2 _ (by omega)) l _ _ _ _ _ _ e2
      | rd =>
        simp only [hk] at h4 ⊢
        split at h4
        · rename_i hall
          obtain ⟨n2, e2⟩ := opsD_cont l _ _ _ _ _ _ h4
          obtain ⟨n3, e3⟩ := all_cont (fun w : Nat × AHeap => behind all all.size k w.1) (fun w => (o, α, p.1, w.2)) ws hall
          refine ⟨max n1 (max n2 n3), ?_⟩
          rw [step_mono (cle n1 _ (by omega)) e1]
          simp only
          rw [if_pos (e3 _ (by omega))]
          exact opsD_mono (cle n2 _ (by omega)) l _ _ _ _ _ _ e2
        · cases h4
      | wr =>
        simp only [hk] at h4 ⊢
        split at h4
        · rename_i hall
          obtain ⟨n2, e2⟩ := opsD_cont l _ _ _ _ _ _ h4
          obtain ⟨n3, e3⟩ := all_cont (fun q : Nat × Oper × Frm × AV => behind all all.size k q.1) (fun q => (q.2.1, q.2.2.1, q.2.2.2, p.2)) rs hall
          refine ⟨max n1 (max n2 n3), ?_⟩
          rw [step_mono (cle n1 _ (by omega)) e1]
          simp only
          rw [if_pos (e3 _ (by omega))]
          exact opsD_mono (cle n2 _ (by omega)) l _ _ _ _ _ _ e2
        · cases h4
    | false =>
      simp only [sel, Bool.false_eq_true, if_false] at h2 ⊢
      exact opsD_cont l _ _ _ _ _ _ h2

theorem loopN_succ (g : Frm → AHeap → Option Res) (n : Nat) (α : Frm) (H : AHeap) : loopN g (n + 1) α H = bnd (g α H) fun r => andThen r (loopN g n) := rfl

theorem execC_cont : ∀ (x : Code) (α : Frm) (H : AHeap) (r : Res), execC E (run E) loopO x α H = some r → ∃ n, execC E (execF E n) (fun g => loopN g n) x α H = some r
  | .skip, _, _, _, hr => ⟨0, hr⟩
  | .region id ops d, α, H, r, hr => by
    simp only [execC] at hr ⊢
    obtain ⟨p, h1, h2⟩ := bnd_some hr
    unfold sel at h1 ⊢
    split at h1
    · rename_i hd
      obtain ⟨n, hn⟩ := opsD_cont _ _ _ _ _ _ _ h1
      exact ⟨n, by rw [if_pos hd, hn]; exact h2⟩
    · rename_i hd
      obtain ⟨n, hn⟩ := ops_cont _ _ _ _ h1
      exact ⟨n, by rw [if_neg hd, hn]; exact h2⟩
  | .seq x y, α, H, r, hr => by
    simp only [execC] at hr ⊢
    obtain ⟨p, h1, h2⟩ := bnd_some hr
    obtain ⟨n1, e1⟩ := execC_cont x _ _ _ h1
    obtain ⟨ex, α1, H1⟩ := p
    cases ex with
    | normal =>
      obtain ⟨n2, e2⟩ := execC_cont y _ _ _ h2
      refine ⟨max n1 n2, ?_⟩
      rw [execC_mono (cle n1 _ (by omega)) (lle n1 (max n1 n2) (by omega)) x _ _ _ e1]
      exact execC_mono (cle n2 _ (by omega)) (lle n2 (max n1 n2) (by omega)) y _ _ _ e2
    | exit id => exact ⟨n1, by rw [e1]; exact h2⟩
    | ret => exact ⟨n1, by rw [e1]; exact h2⟩
  | .cond cd x y, α, H, r, hr => by
    simp only [execC, condA] at hr ⊢
    split at hr
    · rename_i v hv
      cases v with
      | true => simp only [sel, if_true] at hr ⊢; exact execC_cont x _ _ _ hr
      | false => simp only [sel, Bool.false_eq_true, if_false] at hr ⊢; exact execC_cont y _ _ _ hr
    · cases hr
  | .block id x, α, H, r, hr => by
    simp only [execC] at hr ⊢
    obtain ⟨p, h1, h2⟩ := bnd_some hr
    obtain ⟨n, hn⟩ := execC_cont x _ _ _ h1
    exact ⟨n, by rw [hn]; exact h2⟩
  | .loop x, α, H, r, hr => by
    simp only [execC] at hr ⊢
    obtain ⟨k, hk⟩ := loopO_iff.1 hr
    clear hr
    have : ∀ (k : Nat) (α : Frm) (H : AHeap), loopN (execC E (run E) loopO x) k α H = some r → ∃ n, ∀ m, n ≤ m → loopN (execC E (execF E m) (fun g => loopN g m) x) m α H = some r := by
      intro k
      induction k with
      | zero => intro α H h; simp [loopN] at h
      | succ k ih =>
        intro α H h
        simp only [loopN] at h
        obtain ⟨p, h1, h2⟩ := bnd_some h
        obtain ⟨n1, e1⟩ := execC_cont x _ _ _ h1
        have up : ∀ m, n1 ≤ m → execC E (execF E m) (fun g => loopN g m) x α H = some p := fun m hm => execC_mono (cle n1 m hm) (lle n1 m hm) x _ _ _ e1
        obtain ⟨ex, α1, H1⟩ := p
        cases ex with
        | normal =>
          obtain ⟨n2, e2⟩ := ih α1 H1 h2
          refine ⟨max n1 (n2 + 1), fun m hm => ?_⟩
          cases m with
          | zero => omega
          | succ m =>
            rw [loopN_succ, up (m + 1) (by omega)]
            show loopN _ m α1 H1 = some r
            refine loopN_mono ?_ m m (Nat.le_refl _) _ _ _ (e2 m (by omega))
            exact execC_mono (cle m (m + 1) (by omega)) (lle m (m + 1) (by omega)) x
        | exit id =>
          refine ⟨max n1 1, fun m hm => ?_⟩
          cases m with
          | zero => omega
          | succ m => rw [loopN_succ, up (m + 1) (by omega)]; exact h2
        | ret =>
          refine ⟨max n1 1, fun m hm => ?_⟩
          cases m with
          | zero => omega
          | succ m => rw [loopN_succ, up (m + 1) (by omega)]; exact h2
    obtain ⟨n, hn⟩ := this k α H hk
    exact ⟨n, hn n (Nat.le_refl _)⟩
  | .exit id, _, _, _, hr => ⟨0, hr⟩
  | .ret, _, _, _, hr => ⟨0, hr⟩
  | .rangeFunc _ _ _ _, _, _, _, hr => by simp [execC] at hr
  | .scope _, _, _, _, hr => by simp [execC] at hr
  | .label _, _, _, _, hr => by simp [execC] at hr
  | .goto _, _, _, _, hr => by simp [execC] at hr
  | .refuse _, _, _, _, hr => by simp [execC] at hr

theorem run_eq {f : FuncId} (hG : E.G f = true) (hdf : E.df f = false) (args : List AV) (H : AHeap) : run E f args H = execB E (run E) loopO f args H := by
  apply Option.ext
  intro r
  rw [run_iff]
  constructor
  · rintro ⟨n, hn⟩
    cases n with
    | zero => simp [execF] at hn
    | succ n =>
      simp only [execF, hG, hdf, if_true, Bool.false_eq_true, if_false] at hn
      have hc : CLe (execF E n) (run E) := fun f args H r h => run_iff.2 ⟨n, h⟩
      have hl : LLe (fun g => loopN g n) loopO := fun g g' hg α H r h => loopO_iff.2 ⟨n, loopN_mono hg n n (Nat.le_refl _) _ _ _ h⟩
      exact execB_mono hc hl hn
  · intro h
    unfold execB at h
    cases h1 : E.P.funcs[f]? with
    | none => simp [h1] at h
    | some fn =>
      cases h2 : fn.body with
      | none => simp [h1, h2] at h
      | some c =>
        simp only [h1, h2] at h
        split at h
        · rename_i hn
          obtain ⟨p, e1, e2⟩ := bnd_some h
          obtain ⟨n, hn'⟩ := execC_cont c _ _ _ e1
          refine ⟨n + 1, ?_⟩
          simp only [execF, hG, hdf, if_true, Bool.false_eq_true, if_false, execB, h1, h2, if_pos hn, hn', bnd]
          exact e2
        · cases h

theorem run_ext {f : FuncId} (hG : E.G f = false) (args : List AV) (H : AHeap) : run E f args H = E.ext f args H := by
  apply Option.ext
  intro r
  rw [run_iff]
  constructor
  · rintro ⟨n, hn⟩
    cases n with
    | zero => simp [execF] at hn
    | succ n => simpa [execF, hG] using hn
  · intro h
    exact ⟨1, by simpa [execF, hG] using h⟩

/-- The body of a function, run. -/
theorem run_body {f : FuncId} {fn : Func} {c : Code} (hG : E.G f = true) (hdf : E.df f = false) (h1 : E.P.funcs[f]? = some fn) (h2 : fn.body = some c) {args : List AV} (hn : args.length ≤ fn.ntmps) (H : AHeap) :
    run E f args H = bnd (execC E (run E) loopO c (frm0 args) H) (finish E.P fn.results.toList) := by
  rw [run_eq hG hdf]
  simp only [execB, h1, h2, if_pos hn]

end
end Go.Ab
