/- Regions that draw their order, continued: the run in the text's order serves every order. -/
import Derived.Test.YtkpnccaoolbeeaaGreatDoorAc13
namespace Go.Ab
set_option linter.unusedVariables false
open Go Go.RowKit

section
variable {E : Env} {call : CallO} {ops : Array Oper}

def stepA (E : Env) (call : CallO) (ops : Array Oper) (i : Nat) (α : Frm) (H : AHeap) (K : Frm → AHeap → Prop) : Prop :=
  match ops[i]? with
  | none => K α H
  | some o => match wantedA ops o.guard α with
    | some true => ∃ v H', stepOp E call o.op (ev α) H = some (v, H') ∧ K (put α o.dst v) H'
    | some false => K (put α o.dst undefA) H
    | none => False

theorem stepA_mono {i : Nat} {α : Frm} {H : AHeap} {K K' : Frm → AHeap → Prop} (h : ∀ α H, K α H → K' α H) (hh : stepA E call ops i α H K) : stepA E call ops i α H K' := by
  unfold stepA at *
  split
  · rename_i ho; simp only [ho] at hh; exact h _ _ hh
  · rename_i o ho
    simp only [ho] at hh
    split
    · rename_i hw
      simp only [hw] at hh
      obtain ⟨v, H', h1, h2⟩ := hh
      exact ⟨v, H', h1, h _ _ h2⟩
    · rename_i hw; simp only [hw] at hh; exact h _ _ hh
    · rename_i hw; simp only [hw] at hh

def wpAnyA (E : Env) (call : CallO) (ops : Array Oper) (Q : Frm → AHeap → Prop) : Nat → Array Bool → Frm → AHeap → Prop
  | 0, listed, α, H => Region.ready .any ops listed = [] ∧ Q α H
  | fuel + 1, listed, α, H =>
    (Region.ready .any ops listed = [] → Q α H) ∧
    ∀ i ∈ Region.ready .any ops listed, stepA E call ops i α H (wpAnyA E call ops Q fuel (listed.setIfInBounds i true))

/-- In this state the operation leaves v in its slot, and this memory. -/
def YieldsA (E : Env) (call : CallO) (ops : Array Oper) (o : Oper) (α : Frm) (H : AHeap) (v : AV) (H' : AHeap) : Prop :=
  (wantedA ops o.guard α = some true ∧ stepOp E call o.op (ev α) H = some (v, H')) ∨ (wantedA ops o.guard α = some false ∧ v = undefA ∧ H' = H)

theorem YieldsA.stepA {i : Nat} {o : Oper} {α : Frm} {H H' : AHeap} {v : AV} (hi : ops[i]? = some o) (hy : YieldsA E call ops o α H v H') {K : Frm → AHeap → Prop} (h : K (put α o.dst v) H') : stepA E call ops i α H K := by
  unfold Ab.stepA
  simp only [hi]
  rcases hy with ⟨hw, hs⟩ | ⟨hw, rfl, rfl⟩
  · simp only [hw]; exact ⟨v, H', hs, h⟩
  · simp only [hw]; exact h

theorem yields_of_stepA {i : Nat} {o : Oper} {α : Frm} {H : AHeap} {K : Frm → AHeap → Prop} (hi : ops[i]? = some o) (h : stepA E call ops i α H K) : ∃ v H', YieldsA E call ops o α H v H' ∧ K (put α o.dst v) H' := by
  unfold stepA at h
  simp only [hi] at h
  split at h
  · rename_i hw; obtain ⟨v, H', h1, h2⟩ := h; exact ⟨v, H', .inl ⟨hw, h1⟩, h2⟩
  · rename_i hw; exact ⟨undefA, H, .inr ⟨hw, rfl, rfl⟩, h⟩
  · cases h

theorem put_comm (α : Frm) {x y : Option Tmp} (v u : AV) (h : ∀ d, x = some d → y ≠ some d) : put (put α x v) y u = put (put α y u) x v := by
  cases x with
  | none => rfl
  | some d =>
    cases y with
    | none => rfl
    | some e =>
      have hne : d ≠ e := fun he => h d rfl (he ▸ rfl)
      funext i
      simp only [put]
      by_cases h1 : i = e
      · subst h1; simp [Ne.symm hne]
      · by_cases h2 : i = d
        · subst h2; simp [h1]
        · simp [h1, h2]

theorem ev_put {α : Frm} {dst : Option Tmp} {v : AV} {x : Operand} (h : ∀ d, dst = some d → x ≠ .tmp d) : ev (put α dst v) x = ev α x := by
  cases dst with
  | none => rfl
  | some d =>
    cases x with
    | tmp t =>
      have hne : t ≠ d := fun e => h d rfl (e ▸ rfl)
      simp [ev, put, hne]
    | _ => rfl

theorem step_put (o : Oper) (α : Frm) (dst : Option Tmp) (v : AV) (h : ∀ d, dst = some d → d ∉ o.looksAt ops) (H : AHeap) : stepOp E call o.op (ev (put α dst v)) H = stepOp E call o.op (ev α) H :=
  stepOp_congr o.op (fun x hx => ev_put fun d hd hxd => h d hd (by
    subst hxd
    exact List.mem_append_left _ (List.mem_filterMap.2 ⟨.tmp d, by simpa using hx, rfl⟩))) H

theorem wantedA_put (o : Oper) (α : Frm) (dst : Option Tmp) (v : AV) (h : ∀ d, dst = some d → d ∉ o.looksAt ops) : wantedA ops o.guard (put α dst v) = wantedA ops o.guard α := by
  cases dst with
  | none => rfl
  | some d =>
    unfold wantedA
    cases hg : o.guard with
    | none => rfl
    | some gw =>
      obtain ⟨g, want⟩ := gw
      simp only
      cases ht : (ops[g]?).bind (·.dst) with
      | none => rfl
      | some t =>
        have hne : t ≠ d := fun e => h d rfl (by subst e; simp [Oper.looksAt, hg, ht])
        simp [put, hne]

theorem YieldsA.put {o : Oper} {α : Frm} {H H' : AHeap} {v : AV} (hy : YieldsA E call ops o α H v H') (dst : Option Tmp) (u : AV) (h : ∀ d, dst = some d → d ∉ o.looksAt ops) : YieldsA E call ops o (put α dst u) H v H' := by
  unfold YieldsA at *
  rw [wantedA_put o α dst u h, step_put o α dst u h]
  exact hy

theorem rd_same {op : Op} (h : kdOf E op = .rd) {ρ : Operand → AV} {H H' : AHeap} {v : AV} (hs : stepOp E call op ρ H = some (v, H')) : H' = H := by
  cases op <;> simp only [kdOf, reduceCtorEq] at h
  case load t a =>
    simp only [stepOp] at hs
    cases hl : pureOp E.P (.load t a) ρ H with
    | none => simp [hl, bnd] at hs
    | some x =>
      simp only [hl, bnd, Option.some.injEq, Prod.mk.injEq] at hs
      exact hs.2.symm
  case lookup t m k ok =>
    simp only [stepOp] at hs
    cases hl : pureOp E.P (.lookup t m k ok) ρ H with
    | none => simp [hl, bnd] at hs
    | some x =>
      simp only [hl, bnd, Option.some.injEq, Prod.mk.injEq] at hs
      exact hs.2.symm
  case call c =>
    split at h
    · split at h <;> cases h
    · cases h
    · cases h
    · cases h
    · cases h
    · rename_i hc
      simp only [stepOp, stepCall, hc] at hs
      unfold lenOp at hs
      split at hs
      · split at hs
        · split at hs
          · simp only [Option.some.injEq, Prod.mk.injEq] at hs; exact hs.2.symm
          · cases hs
        · cases hs
      · cases hl : lenA E.P c.argTypes (c.args.toList.map ρ) with
        | none => simp [hl, bnd] at hs
        | some x =>
          simp only [hl, bnd, Option.some.injEq, Prod.mk.injEq] at hs
          exact hs.2.symm
    · cases h

theorem ins_same {op : Op} (h : kdOf E op = .ins) {α : Frm} {H H' : AHeap} {v : AV} (hs : stepOp E call op (ev α) H = some (v, H')) : H' = H ∧ ∀ H2, stepOp E call op (ev α) H2 = some (v, H2) := by
  obtain ⟨r, hr⟩ := step_ins (call := call) op h (ev α) (hf_ev α)
  rw [hr] at hs
  cases r with
  | none => simp at hs
  | some x =>
    simp only [Option.map_some, Option.some.injEq, Prod.mk.injEq] at hs
    obtain ⟨rfl, rfl⟩ := hs
    exact ⟨rfl, fun H2 => by rw [hr]; rfl⟩

/-- Two operations that touch nothing in common: what either does, and leaves, does not hang on which of them comes first. -/
theorem two_steps {oi oj : Oper} (hap : heapApart (kdOf E oi.op) (kdOf E oj.op) = true) {α : Frm} {H H1 H2 : AHeap} {v u : AV}
    (h1 : stepOp E call oi.op (ev α) H = some (v, H1)) (h2 : stepOp E call oj.op (ev α) H1 = some (u, H2)) :
    ∃ H1', stepOp E call oj.op (ev α) H = some (u, H1') ∧ stepOp E call oi.op (ev α) H1' = some (v, H2) := by
  cases hi : kdOf E oi.op with
  | ins =>
    obtain ⟨rfl, hall⟩ := ins_same hi h1
    exact ⟨H2, h2, hall H2⟩
  | rd =>
    have := rd_same hi h1
    subst this
    cases hj : kdOf E oj.op with
    | ins => obtain ⟨rfl, _⟩ := ins_same hj h2; exact ⟨H2, h2, h1⟩
    | rd => have := rd_same hj h2; subst this; exact ⟨H2, h2, h1⟩
    | wr => rw [hi, hj] at hap; simp [heapApart] at hap
  | wr =>
    cases hj : kdOf E oj.op with
    | ins => obtain ⟨rfl, hall⟩ := ins_same hj h2; exact ⟨H, hall H, h1⟩
    | rd => rw [hi, hj] at hap; simp [heapApart] at hap
    | wr => rw [hi, hj] at hap; simp [heapApart] at hap

theorem stepA_put {j : Nat} {oi oj : Oper} {v : AV} {α : Frm} {H H1 : AHeap} (hj : ops[j]? = some oj) (hap : oi.apart ops oj = true) (hheap : heapApart (kdOf E oi.op) (kdOf E oj.op) = true) {K : Frm → AHeap → Prop}
    (hy : YieldsA E call ops oi α H v H1) (h : stepA E call ops j (put α oi.dst v) H1 K) :
    stepA E call ops j α H (fun α' H' => ∃ H1', YieldsA E call ops oi α' H' v H1' ∧ K (put α' oi.dst v) H1') := by
  obtain ⟨h1, h2, h3⟩ := Oper.apart_spec hap
  obtain ⟨u, H2, hyj, hK⟩ := yields_of_stepA hj h
  have hyj' : YieldsA E call ops oj α H1 u H2 := by
    unfold YieldsA at hyj ⊢
    rwa [wantedA_put oj α oi.dst v h1, step_put oj α oi.dst v h1] at hyj
  rw [put_comm α v u h2] at hK
  rcases hy with ⟨wi, si⟩ | ⟨wi, rfl, rfl⟩
  · rcases hyj' with ⟨wj, sj⟩ | ⟨wj, rfl, rfl⟩
    · obtain ⟨H1', e1, e2⟩ := two_steps hheap si sj
      exact YieldsA.stepA hj (.inl ⟨wj, e1⟩) ⟨H2, YieldsA.put (.inl ⟨wi, e2⟩) _ _ h3, hK⟩
    · exact YieldsA.stepA hj (.inr ⟨wj, rfl, rfl⟩) ⟨H2, YieldsA.put (.inl ⟨wi, si⟩) _ _ h3, hK⟩
  · exact YieldsA.stepA hj hyj' ⟨H2, YieldsA.put (.inr ⟨wi, rfl, rfl⟩) _ _ h3, hK⟩

theorem freeH_spec {i : Nat} {oi : Oper} {listed : Array Bool} (hi : ops[i]? = some oi) (h : freeH E ops listed i = true) (j : Nat) (oj : Oper) (hj : ops[j]? = some oj) (hne : j ≠ i) (hun : listed.getD j true = false)
    (hno : ∀ e ∈ oj.after, Region.binds .any e = true → e.on ≠ i) : oi.apart ops oj = true ∧ heapApart (kdOf E oi.op) (kdOf E oj.op) = true := by
  simp only [freeH, hi, List.all_eq_true, List.mem_range] at h
  have h1 := h j (Array.getElem?_eq_some_iff.1 hj).1
  simp only [hj, Bool.or_eq_true, beq_iff_eq, hne, false_or, hun, Bool.false_eq_true] at h1
  rcases h1 with h1 | h1
  · obtain ⟨e, he, hb⟩ := Array.any_eq_true'.1 h1
    simp only [Bool.and_eq_true, beq_iff_eq] at hb
    exact absurd hb.2 (hno e he hb.1)
  · simpa using h1

theorem wpAnyA_first {Q : Frm → AHeap → Prop} {i : Nat} {oi : Oper} {v : AV} (hi : ops[i]? = some oi) :
    ∀ (fuel : Nat) (listed : Array Bool) (α : Frm) (H H1 : AHeap),
      (∀ j oj, ops[j]? = some oj → j ≠ i → listed.getD j true = false → (∀ e ∈ oj.after, Region.binds .any e = true → e.on ≠ i) → oi.apart ops oj = true ∧ heapApart (kdOf E oi.op) (kdOf E oj.op) = true) →
      i ∈ Region.ready .any ops listed → YieldsA E call ops oi α H v H1 →
      wpAnyA E call ops Q fuel (listed.setIfInBounds i true) (put α oi.dst v) H1 → wpAnyA E call ops Q (fuel + 1) listed α H := by
  intro fuel
  induction fuel with
  | zero =>
    intro listed α H H1 _ hr hy hh
    refine ⟨fun h => (by rw [h] at hr; cases hr), fun j hj => ?_⟩
    by_cases hji : j = i
    · subst hji; exact hy.stepA hi hh
    · have := ready_mono hj hji
      rw [hh.1] at this
      cases this
  | succ fuel ih =>
    intro listed α H H1 hfree hr hy hh
    refine ⟨fun h => (by rw [h] at hr; cases hr), fun j hj => ?_⟩
    by_cases hji : j = i
    · subst hji; exact hy.stepA hi hh
    · have h1 := hh.2 j (ready_mono hj hji)
      obtain ⟨hjun, oj, hoj, hall⟩ := mem_ready.1 hj
      have hnot : ∀ e ∈ oj.after, Region.binds .any e = true → e.on ≠ i := fun e he hb heq => by
        have h1 := hall e he hb
        have h0 := (mem_ready.1 hr).1
        rw [heq] at h1
        rcases Nat.lt_or_ge i listed.size with h' | h'
        · simp [h'] at h0 h1; rw [h0] at h1; cases h1
        · simp [Array.getElem?_eq_none h'] at h1
      obtain ⟨hap1, hap2⟩ := hfree j oj hoj hji hjun hnot
      have h2 := stepA_put hoj hap1 hap2 hy h1
      have hfree' : ∀ k ok, ops[k]? = some ok → k ≠ i → (listed.setIfInBounds j true).getD k true = false →
          (∀ e ∈ ok.after, Region.binds .any e = true → e.on ≠ i) → oi.apart ops ok = true ∧ heapApart (kdOf E oi.op) (kdOf E ok.op) = true := fun k ok hk hki hun hno => by
        refine hfree k ok hk hki ?_ hno
        by_cases hjk : j = k
        · subst hjk; exact hjun
        · rw [getD_set_ne true hjk] at hun; exact hun
      refine stepA_mono (fun α' H' h3 => ?_) h2
      obtain ⟨H1', hy', h4⟩ := h3
      refine ih (listed.setIfInBounds j true) α' H' H1' hfree' (ready_mono hr (Ne.symm hji)) hy' ?_
      rw [Array.setIfInBounds_comm _ _ hji]
      exact h4

theorem wpAnyA_lex {Q : Frm → AHeap → Prop} : ∀ (l : List Oper) (k : Nat) (listed : Array Bool) (α : Frm) (H : AHeap) (α' : Frm) (H' : AHeap), (∀ (j : Nat), l[j]? = ops[k + j]?) →
    lexH E ops l.length k listed = true → execOps E call ops l α H = some (α', H') → Q α' H' → wpAnyA E call ops Q l.length listed α H
  | [], _, listed, α, H, α', H', _, hB, he, hQ => by
    simp only [execOps, Option.some.injEq, Prod.mk.injEq] at he
    obtain ⟨rfl, rfl⟩ := he
    exact ⟨by simpa [lexH] using hB, hQ⟩
  | o :: l, k, listed, α, H, α', H', hl, hB, he, hQ => by
    have h0 : ops[k]? = some o := by simpa using (hl 0).symm
    simp only [List.length_cons, lexH, Bool.and_eq_true] at hB
    obtain ⟨⟨hr, hf⟩, hB'⟩ := hB
    have hl' : ∀ (j : Nat), l[j]? = ops[k + 1 + j]? := fun j => by have := hl (j + 1); simpa [Nat.add_assoc, Nat.add_comm 1 j] using this
    simp only [execOps, bnd] at he
    cases hw : wantedA ops o.guard α with
    | none => simp [hw] at he
    | some b =>
      simp only [hw] at he
      cases b with
      | true =>
        simp only [sel, if_true] at he
        cases hs : stepOp E call o.op (ev α) H with
        | none => simp [hs] at he
        | some p =>
          obtain ⟨v, H1⟩ := p
          simp only [hs] at he
          exact wpAnyA_first h0 l.length listed α H H1 (freeH_spec h0 hf) (by simpa using hr) (.inl ⟨hw, hs⟩) (wpAnyA_lex l (k + 1) _ _ _ _ _ hl' hB' he hQ)
      | false =>
        simp only [sel, Bool.false_eq_true, if_false] at he
        exact wpAnyA_first h0 l.length listed α H H (freeH_spec h0 hf) (by simpa using hr) (.inr ⟨hw, rfl, rfl⟩) (wpAnyA_lex l (k + 1) _ _ _ _ _ hl' hB' he hQ)

/-- What is listed when k operations have been. -/
def Listed (n k : Nat) (listed : Array Bool) : Prop := listed.size = n ∧ ∀ j d, listed.getD j d = if j < n then decide (j < k) else d

theorem Listed.set {n k : Nat} {listed : Array Bool} (h : Listed n k listed) (hk : k < n) : Listed n (k + 1) (listed.setIfInBounds k true) := by
  refine ⟨by simp [h.1], fun j d => ?_⟩
  by_cases hj : j = k
  · subst hj
    simp [h.1, hk]
  · have := h.2 j d
    simp only [Array.getD_eq_getD_getElem?] at this ⊢
    rw [Array.getElem?_setIfInBounds_ne (Ne.symm hj), this]
    by_cases hjn : j < n
    · simp only [hjn, if_true]
      have : (j < k) = (j < k + 1) := by apply propext; omega
      simp [this]
    · simp [hjn]

theorem lexH_of_lex2 : ∀ (l : List Oper) (k : Nat) (listed : Array Bool), (∀ (j : Nat), l[j]? = ops[k + j]?) → k + l.length = ops.size → Listed ops.size k listed → lex2 E ops k l = true → lexH E ops l.length k listed = true
  | [], k, listed, hl, hn, hL, _ => by
    simp only [List.length_nil, lexH, List.isEmpty_iff]
    rw [List.eq_nil_iff_forall_not_mem]
    intro j hj
    obtain ⟨h1, o, ho, _⟩ := mem_ready.1 hj
    have hlt : j < ops.size := (Array.getElem?_eq_some_iff.1 ho).1
    rw [hL.2, if_pos hlt] at h1
    simp at hn h1
    omega
  | o :: l, k, listed, hl, hn, hL, h => by
    simp only [lex2, Bool.and_eq_true] at h
    obtain ⟨⟨h1, h2⟩, h3⟩ := h
    simp only [List.length_cons] at hn
    have hk : k < ops.size := by omega
    have h0 : ops[k]? = some o := by simpa using (hl 0).symm
    have hl' : ∀ (j : Nat), l[j]? = ops[k + 1 + j]? := fun j => by have := hl (j + 1); simpa [Nat.add_assoc, Nat.add_comm 1 j] using this
    simp only [List.length_cons, lexH, Bool.and_eq_true]
    refine ⟨⟨?_, ?_⟩, lexH_of_lex2 l (k + 1) _ hl' (by omega) (hL.set hk) h3⟩
    · rw [List.contains_iff_mem, mem_ready]
      refine ⟨by rw [hL.2, if_pos hk]; simp, o, h0, fun e he hb => ?_⟩
      have := Array.all_eq_true_iff_forall_mem.1 h1 e he
      simp only [hb, Bool.not_true, Bool.false_or, decide_eq_true_eq] at this
      rw [hL.2, if_pos (by omega)]
      simpa using this
    · simp only [freeH, h0, List.all_eq_true, List.mem_range]
      intro j hj
      by_cases hjk : j = k
      · simp [hjk]
      · by_cases hlt : j < k
        · rw [hL.2, if_pos hj]
          simp [hlt]
        · have hoj : ops[j]? = some ops[j] := Array.getElem?_eq_getElem hj
          have hmem : ops[j] ∈ l := by
            have := hl' (j - (k + 1))
            rw [show k + 1 + (j - (k + 1)) = j from by omega, hoj] at this
            exact List.mem_of_getElem? this
          have := List.all_eq_true.1 h2 _ hmem
          simp only [hoj]
          rw [this]
          simp

theorem orderOk_of_lex2 (h : lex2 E ops 0 ops.toList = true) : orderOk E ops = true := by
  unfold orderOk
  have := lexH_of_lex2 (E := E) (ops := ops) ops.toList 0 (Array.replicate ops.size false) (by simp) (by simp) ⟨by simp, fun j d => by
    by_cases hj : j < ops.size
    · simp [hj]
    · simp [hj]⟩ h
  simpa using this

/-! ### Regions that are looked at while they run -/

theorem sameVal_eq : ∀ (a b : Value), sameVal a b = true → a = b := by
  intro a b h
  unfold sameVal at h
  split at h
  · split at h
    · rename_i a b
      simp only [Bool.and_eq_true, Option.isNone_iff_eq_none] at h
      rw [h.1, h.2]
    · cases h
  · split at h
    · rfl
    · cases h
  · split at h
    · rfl
    · cases h
  · split at h
    · rename_i a b
      simp only [Bool.and_eq_true, Option.isNone_iff_eq_none] at h
      rw [h.1, h.2]
    · cases h
  · cases h

theorem sameFn_eq : ∀ (a b : Fn), sameFn a b = true → a = b := by
  intro a b h
  unfold sameFn at h
  split at h
  · split at h
    · simp only [beq_iff_eq] at h; rw [h]
    · cases h
  · cases h

theorem sameOwn_eq : ∀ (a b : Own), sameOwn a b = true → a = b := by
  intro a b h
  unfold sameOwn at h
  split at h <;> (try rfl)
  · simp only [beq_iff_eq] at h; rw [h]
  · cases h

mutual
theorem sameAV_eq : ∀ (a b : AV), sameAV a b = true → a = b
  | .int k a, b, h => by
    cases b <;> simp only [sameAV, Bool.false_eq_true] at h
    simp only [Bool.and_eq_true, decide_eq_true_eq, beq_iff_eq] at h
    rw [h.1, h.2]
  | .bool a, b, h => by
    cases b <;> simp only [sameAV, Bool.false_eq_true] at h
    simp only [beq_iff_eq] at h
    rw [h]
  | .str a, b, h => by
    cases b <;> simp only [sameAV, Bool.false_eq_true] at h
    simp only [beq_iff_eq] at h
    rw [h]
  | .agg xs, b, h => by
    cases b <;> simp only [sameAV, Bool.false_eq_true] at h
    rw [sameL_eq xs _ h]
  | .tup xs, b, h => by
    cases b <;> simp only [sameAV, Bool.false_eq_true] at h
    rw [sameL_eq xs _ h]
  | .rptr xs, b, h => by
    cases b <;> simp only [sameAV, Bool.false_eq_true] at h
    rw [sameL_eq xs _ h]
  | .ptr a c, b, h => by
    cases b <;> simp only [sameAV, Bool.false_eq_true] at h
    simp only [Bool.and_eq_true, beq_iff_eq] at h
    rw [h.1, h.2]
  | .sl a c d e, b, h => by
    cases b <;> simp only [sameAV, Bool.false_eq_true] at h
    simp only [Bool.and_eq_true, beq_iff_eq] at h
    rw [h.1.1.1, h.1.1.2, h.1.2, h.2]
  | .map a, b, h => by
    cases b <;> simp only [sameAV, Bool.false_eq_true] at h
    simp only [beq_iff_eq] at h
    rw [h]
  | .vec o xs, b, h => by
    cases b <;> simp only [sameAV, Bool.false_eq_true] at h
    simp only [Bool.and_eq_true] at h
    rw [sameOwn_eq _ _ h.1, sameL_eq xs _ h.2]
  | .val v, b, h => by
    cases b <;> simp only [sameAV, Bool.false_eq_true] at h
    rw [sameVal_eq _ _ h]
  | .fn f xs ys, b, h => by
    cases b <;> simp only [sameAV, Bool.false_eq_true] at h
    simp only [Bool.and_eq_true] at h
    rw [sameFn_eq _ _ h.1.1, sameL_eq xs _ h.1.2, sameL_eq ys _ h.2]
  | .junk, b, h => by simp only [sameAV, Bool.false_eq_true] at h
  | .any, b, h => by cases b <;> first | rfl | (simp only [sameAV, Bool.false_eq_true] at h)
  | .iface _ _, b, h => by simp only [sameAV, Bool.false_eq_true] at h
theorem sameL_eq : ∀ (xs ys : List AV), sameL xs ys = true → xs = ys
  | [], ys, h => by cases ys with | nil => rfl | cons => simp only [sameL, Bool.false_eq_true] at h
  | a :: xs, ys, h => by
    cases ys with
    | nil => simp only [sameL, Bool.false_eq_true] at h
    | cons b ys =>
      simp only [sameL, Bool.and_eq_true] at h
      rw [sameAV_eq a b h.1, sameL_eq xs ys h.2]
end

theorem reads_spec {o : Oper} {α : Frm} {v : AV} {H : AHeap} (h : reads E call o α v H = true) : ∃ H', stepOp E call o.op (ev α) H = some (v, H') := by
  unfold reads at h
  split at h
  · rename_i u H' hs
    exact ⟨H', by rw [hs, sameAV_eq u v h]⟩
  · cases h

/-- One operation, wanted or not. -/
def stepX (E : Env) (call : CallO) (ops : Array Oper) (o : Oper) (α : Frm) (H : AHeap) : Option (Bool × AV × AHeap) :=
  bnd (wantedA ops o.guard α) fun b => sel b (bnd (stepOp E call o.op (ev α) H) fun r => some (true, r.1, r.2)) (some (false, undefA, H))

/-- The state behind the first k operations. -/
def tr (E : Env) (call : CallO) (ops : Array Oper) (α : Frm) (H : AHeap) : Nat → Frm × AHeap
  | 0 => (α, H)
  | k + 1 => match ops[k]? with
    | some o => match stepX E call ops o (tr E call ops α H k).1 (tr E call ops α H k).2 with
      | some r => (put (tr E call ops α H k).1 o.dst r.2.1, r.2.2)
      | none => tr E call ops α H k
    | none => tr E call ops α H k

/-- What was seen of operation m: she ran; reads and writes that stand in no order do not meet. -/
def OkAt (E : Env) (call : CallO) (ops : Array Oper) (α : Frm) (H : AHeap) (m : Nat) : Prop :=
  ∃ o r, ops[m]? = some o ∧ stepX E call ops o (tr E call ops α H m).1 (tr E call ops α H m).2 = some r ∧
    (r.1 = true → kdOf E o.op = .rd → ∀ j oj rj, j < m → ops[j]? = some oj → stepX E call ops oj (tr E call ops α H j).1 (tr E call ops α H j).2 = some rj → rj.1 = true → kdOf E oj.op = .wr →
      behind ops ops.size m j = true ∨ reads E call o (tr E call ops α H m).1 r.2.1 (tr E call ops α H j).2 = true) ∧
    (r.1 = true → kdOf E o.op = .wr → ∀ i oi ri, i < m → ops[i]? = some oi → stepX E call ops oi (tr E call ops α H i).1 (tr E call ops α H i).2 = some ri → ri.1 = true → kdOf E oi.op = .rd →
      behind ops ops.size m i = true ∨ reads E call oi (tr E call ops α H i).1 ri.2.1 r.2.2 = true)

theorem okD {α : Frm} {H : AHeap} : ∀ (l : List Oper) (k : Nat) (rs : List (Nat × Oper × Frm × AV)) (ws : List (Nat × AHeap)) (α' : Frm) (H' : AHeap), (∀ (j : Nat), l[j]? = ops[k + j]?) → k + l.length = ops.size →
    (∀ i oi ri, i < k → ops[i]? = some oi → stepX E call ops oi (tr E call ops α H i).1 (tr E call ops α H i).2 = some ri → ri.1 = true → kdOf E oi.op = .rd → (i, oi, (tr E call ops α H i).1, ri.2.1) ∈ rs) →
    (∀ j oj rj, j < k → ops[j]? = some oj → stepX E call ops oj (tr E call ops α H j).1 (tr E call ops α H j).2 = some rj → rj.1 = true → kdOf E oj.op = .wr → (j, (tr E call ops α H j).2) ∈ ws) →
    execOpsD E call ops k l rs ws (tr E call ops α H k).1 (tr E call ops α H k).2 = some (α', H') →
    (∀ m, k ≤ m → m < ops.size → OkAt E call ops α H m) ∧ tr E call ops α H ops.size = (α', H')
  | [], k, rs, ws, α', H', _, hn, _, _, h => by
    simp only [execOpsD, Option.some.injEq, Prod.mk.injEq] at h
    simp only [List.length_nil, Nat.add_zero] at hn
    subst hn
    exact ⟨fun m h1 h2 => absurd h2 (by omega), by rw [← h.1, ← h.2]⟩
  | o :: l, k, rs, ws, α', H', hl, hn, hrs, hws, h => by
    have h0 : ops[k]? = some o := by simpa using (hl 0).symm
    have hl' : ∀ (j : Nat), l[j]? = ops[k + 1 + j]? := fun j => by have := hl (j + 1); simpa [Nat.add_assoc, Nat.add_comm 1 j] using this
    simp only [List.length_cons] at hn
    simp only [execOpsD] at h
    have key : ∀ r rs' ws', stepX E call ops o (tr E call ops α H k).1 (tr E call ops α H k).2 = some r →
        (r.1 = true → kdOf E o.op = .rd → (k, o, (tr E call ops α H k).1, r.2.1) ∈ rs') → (∀ q ∈ rs, q ∈ rs') → (r.1 = true → kdOf E o.op = .wr → (k, (tr E call ops α H k).2) ∈ ws') → (∀ q ∈ ws, q ∈ ws') →
        execOpsD E call ops (k + 1) l rs' ws' (put (tr E call ops α H k).1 o.dst r.2.1) r.2.2 = some (α', H') → OkAt E call ops α H k →
        (∀ m, k ≤ m → m < ops.size → OkAt E call ops α H m) ∧ tr E call ops α H ops.size = (α', H') := by
      intro r rs' ws' hr q1 q2 q3 q4 hrun hok
      have htr : tr E call ops α H (k + 1) = (put (tr E call ops α H k).1 o.dst r.2.1, r.2.2) := by simp only [tr, h0, hr]
      have := okD (α := α) (H := H) l (k + 1) rs' ws' α' H' hl' (by omega) ?_ ?_ (by rw [htr]; exact hrun)
      · refine ⟨fun m h1 h2 => ?_, this.2⟩
        by_cases e : m = k
        · subst e; exact hok
        · exact this.1 m (by omega) h2
      · intro i oi ri hi hoi hri h1 h2
        by_cases e : i = k
        · subst e
          rw [h0] at hoi; cases hoi
          rw [hr] at hri; cases hri
          exact q1 h1 h2
        · exact q2 _ (hrs i oi ri (by omega) hoi hri h1 h2)
      · intro j oj rj hj hoj hrj h1 h2
        by_cases e : j = k
        · subst e
          rw [h0] at hoj; cases hoj
          rw [hr] at hrj; cases hrj
          exact q3 h1 h2
        · exact q4 _ (hws j oj rj (by omega) hoj hrj h1 h2)
    cases hw : wantedA ops o.guard (tr E call ops α H k).1 with
    | none => simp [hw, bnd] at h
    | some b =>
      simp only [hw, bnd] at h
      cases b with
      | false =>
        simp only [sel, Bool.false_eq_true, if_false] at h
        have hr : stepX E call ops o (tr E call ops α H k).1 (tr E call ops α H k).2 = some (false, undefA, (tr E call ops α H k).2) := by simp [stepX, hw, bnd, sel]
        exact key _ rs ws hr (by simp) (fun _ h => h) (by simp) (fun _ h => h) h ⟨o, _, h0, hr, by simp, by simp⟩
      | true =>
        simp only [sel, if_true] at h
        cases hs : stepOp E call o.op (ev (tr E call ops α H k).1) (tr E call ops α H k).2 with
        | none => simp [hs] at h
        | some p =>
          simp only [hs] at h
          have hr : stepX E call ops o (tr E call ops α H k).1 (tr E call ops α H k).2 = some (true, p.1, p.2) := by simp [stepX, hw, bnd, sel, hs]
          cases hk : kdOf E o.op with
          | ins =>
            simp only [hk] at h
            exact key _ rs ws hr (by simp [hk]) (fun _ h => h) (by simp [hk]) (fun _ h => h) h ⟨o, _, h0, hr, by simp [hk], by simp [hk]⟩
          | rd =>
            simp only [hk] at h
            split at h
            · rename_i hall
              refine key _ _ ws hr (fun _ _ => by simp) (fun q hq => by simp [hq]) (by simp [hk]) (fun _ h => h) h ⟨o, _, h0, hr, fun _ _ j oj rj hj hoj hrj h1 h2 => ?_, by simp [hk]⟩
              have := List.all_eq_true.1 hall _ (hws j oj rj hj hoj hrj h1 h2)
              simpa using this
            · cases h
          | wr =>
            simp only [hk] at h
            split at h
            · rename_i hall
              refine key _ rs _ hr (by simp [hk]) (fun _ h => h) (fun _ _ => by simp) (fun q hq => by simp [hq]) h ⟨o, _, h0, hr, by simp [hk], fun _ _ i oi ri hi hoi hri h1 h2 => ?_⟩
              have := List.all_eq_true.1 hall _ (hrs i oi ri hi hoi hri h1 h2)
              simpa using this
            · cases h

/-- What the text of such a region must be like. -/
def lexD (E : Env) (ops : Array Oper) : Bool :=
  (List.range ops.size).all fun k => match ops[k]? with
    | some o => o.after.all (fun e => !Region.binds .any e || decide (e.on < k)) &&
        (List.range k).all fun i => behind ops ops.size k i || match ops[i]? with
          | some oi => oi.apart ops o && !(kdOf E oi.op == .wr && kdOf E o.op == .wr)
          | none => false
    | none => false


end
end Go.Ab
