/- The abstract machine, 3: regions that draw their order. -/
import Derived.Test.YtiagmokcjljliaaGreatDoorAm2
import Derived.Defers
import Derived.LoopN
/- Regions that draw their order: one run in the text's order serves every order, where no two operations that stand in no order touch the same. -/
namespace Go.Ab
set_option linter.unusedVariables false
open Go Go.RowKit

def lexH (E : Env) (ops : Array Oper) : Nat → Nat → Array Bool → Bool
  | 0, _, listed => (Region.ready .any ops listed).isEmpty
  | fuel + 1, k, listed => (Region.ready .any ops listed).contains k && freeH E ops listed k && lexH E ops fuel (k + 1) (listed.setIfInBounds k true)

/-- The same, asked in one pass: behind operation k stand those of the list. -/
def lex2 (E : Env) (ops : Array Oper) : Nat → List Oper → Bool
  | _, [] => true
  | k, o :: rest => o.after.all (fun e => !Region.binds .any e || decide (e.on < k)) &&
      rest.all (fun oj => oj.after.any (fun e => Region.binds .any e && e.on == k) || (o.apart ops oj && heapApart (kdOf E o.op) (kdOf E oj.op))) && lex2 E ops (k + 1) rest

def orderOk (E : Env) (ops : Array Oper) : Bool := lexH E ops ops.size 0 (Array.replicate ops.size false)

section
variable {E : Env} {call : CallO}

theorem ev_congr {α α' : Frm} {x : Operand} (h : ∀ t, x = .tmp t → α t = α' t) : ev α x = ev α' x := by
  cases x with
  | tmp t => exact h t rfl
  | _ => rfl

theorem pureOp_congr {P : Program} (op : Op) {ρ ρ' : Operand → AV} (h : ∀ x ∈ op.operands, ρ x = ρ' x) (H : AHeap) : pureOp P op ρ H = pureOp P op ρ' H := by
  cases op <;> simp only [Op.operands] at h <;> simp only [pureOp]
  case build t ps =>
    rw [List.map_congr_left (l := ps.toList) (g := fun p => (p.1, ρ' p.2))]
    intro p hp
    rw [h p.2 (by simp; exact ⟨p.1, by simpa using hp⟩)]
  case makeFunc f first cap =>
    rw [List.map_congr_left (l := first.toList) (g := ρ') fun x hx => h x (by simp at hx; simp [hx]), List.map_congr_left (l := cap.toList) (g := ρ') fun x hx => h x (by simp at hx; simp [hx])]
  case slice t x lo hi mx =>
    cases mx <;> simp only <;> cases lo <;> cases hi <;> simp_all
  case call c =>
    have : c.args.toList.map ρ = c.args.toList.map ρ' := List.map_congr_left fun x hx => h x (by simp only [Call.operands]; exact Array.mem_append.2 (.inr (by simpa using hx)))
    rw [this]
  all_goals (first | rfl | (simp_all; done))

theorem stepOp_congr (op : Op) {ρ ρ' : Operand → AV} (h : ∀ x ∈ op.operands, ρ x = ρ' x) (H : AHeap) : stepOp E call op ρ H = stepOp E call op ρ' H := by
  have hp := pureOp_congr (P := E.P) op h H
  cases op <;> simp only [stepOp] <;> (try rw [hp]) <;> simp only [Op.operands] at h
  case box t x => rw [h x (by simp)]
  case makeSlice t l c => rw [h l (by simp), h c (by simp)]
  case convert s d x => rw [h x (by simp)]
  case mapUpdate t m k x => rw [h m (by simp), h k (by simp), h x (by simp)]
  case insert t m k x => rw [h m (by simp), h k (by simp), h x (by simp)]
  case store t a x => rw [h a (by simp), h x (by simp)]
  case buildSlice t n ps =>
    rw [List.map_congr_left (l := ps.toList) (g := fun p => (p.1, ρ' p.2))]
    intro p hp
    rw [h p.2 (by simp; exact ⟨p.1, by simpa using hp⟩)]
  case call c =>
    have : c.args.toList.map ρ = c.args.toList.map ρ' := List.map_congr_left fun x hx => h x (by simp only [Call.operands]; exact Array.mem_append.2 (.inr (by simpa using hx)))
    unfold stepCall
    cases hc : c.callee with
    | value f =>
      simp only
      rw [this, h f (by simp [Call.operands, hc])]
    | builtin b => cases b <;> simp only <;> (first | rw [this] | rw [hp])
    | invoke r m => simp only; rw [hp]

theorem pureOp_ins {P : Program} (op : Op) (hl : ∀ t a, op ≠ .load t a) (hm : ∀ t m k ok, op ≠ .lookup t m k ok) (ρ : Operand → AV) (H H' : AHeap) : pureOp P op ρ H = pureOp P op ρ H' := by
  cases op <;> simp only [pureOp]
  case load t a => exact absurd rfl (hl t a)
  case lookup t m k ok => exact absurd rfl (hm t m k ok)

/-- An operation that asks nothing of the memory. -/
theorem step_ins (op : Op) (h : kdOf E op = .ins) (ρ : Operand → AV) (hf : ∀ g, ρ (.func g) = .fn (.func g) [] []) : ∃ r : Option AV, ∀ H, stepOp E call op ρ H = r.map fun v => (v, H) := by
  have base : ∀ op' : Op, (∀ t a, op' ≠ .load t a) → (∀ t m k ok, op' ≠ .lookup t m k ok) → ∃ r : Option AV, ∀ H, (bnd (pureOp E.P op' ρ H) fun v => some (v, H)) = r.map fun v => (v, H) := fun op' hl hm =>
    ⟨pureOp E.P op' ρ .empty, fun H => by rw [pureOp_ins op' hl hm ρ H .empty]; cases pureOp E.P op' ρ .empty <;> rfl⟩
  cases op <;> simp only [kdOf, reduceCtorEq] at h <;> simp only [stepOp]
  case convert s d x =>
    refine ⟨(convOp E.P s d (ρ x) .empty).map (·.1), fun H => ?_⟩
    unfold convOp
    split
    · split <;> rfl
    · rename_i e0 es _
      cases bytesA (e0 :: es) <;> split <;> rfl
    · cases convA E.P s d (ρ x) <;> rfl
  case buildSlice t len parts =>
    refine ⟨(buildSliceA E.P t len (parts.toList.map fun p => (p.1, ρ p.2)) .empty).map (·.1), fun H => ?_⟩
    unfold buildSliceA
    split <;> (try rfl)
    split <;> (try rfl)
    split <;> rfl
  case call c =>
    unfold stepCall
    cases hc : c.callee with
    | value f =>
      simp only [hc] at h
      cases f with
      | func g =>
        simp only at h
        split at h
        · rename_i hcl
          simp only [callA, hf, target, hcl, if_true]
          exact ⟨closedCall E.P call g ([] ++ c.args.toList.map ρ ++ []), fun H => by cases closedCall E.P call g ([] ++ c.args.toList.map ρ ++ []) <;> rfl⟩
        · cases h
      | _ => simp at h
    | builtin b =>
      cases b
      case len =>
        simp only [hc] at h
        refine ⟨(lenOp E.P c.argTypes (c.args.toList.map ρ) .empty).map (·.1), fun H => ?_⟩
        simp only
        unfold lenOp
        split
        · split
          · rename_i hm; simp [hm] at h
          · rfl
        · cases lenA E.P c.argTypes (c.args.toList.map ρ) <;> rfl
      all_goals (simp only [hc, reduceCtorEq] at h <;> exact base _ (fun _ _ => by simp) (fun _ _ _ _ => by simp))
    | invoke r m => exact base _ (fun _ _ => by simp) (fun _ _ _ _ => by simp)
  all_goals exact base _ (fun _ _ => by simp) (fun _ _ _ _ => by simp)

theorem hf_ev (α : Frm) : ∀ g, ev α (.func g) = .fn (.func g) [] [] := fun _ => rfl

end
end Go.Ab

/- Regions that draw their order, continued: the run in the text's order serves every order. -/
namespace Go.Ab
set_option linter.unusedVariables false
open Go Go.RowKit

section
variable {E : Env} {call : CallO} {ops : Array Oper}

def stepA (E : Env) (call : CallO) (ops : Array Oper) (i : Nat) (α : Frm) (H : AHeap) (K : Frm → AHeap → Prop) : Prop :=
  match ops[i]? with
  | none => K α H
  | some o => match wantedA ops o.guard α with
    | some true => ∃ v H', stepOp E call o.op (ev α) H = some (v, H') ∧ K (put α o.dst v) H'
    | some false => K (put α o.dst undefA) H
    | none => False

theorem stepA_mono {i : Nat} {α : Frm} {H : AHeap} {K K' : Frm → AHeap → Prop} (h : ∀ α H, K α H → K' α H) (hh : stepA E call ops i α H K) : stepA E call ops i α H K' := by
  unfold stepA at *
  split
  · rename_i ho; simp only [ho] at hh; exact h _ _ hh
  · rename_i o ho
    simp only [ho] at hh
    split
    · rename_i hw
      simp only [hw] at hh
      obtain ⟨v, H', h1, h2⟩ := hh
      exact ⟨v, H', h1, h _ _ h2⟩
    · rename_i hw; simp only [hw] at hh; exact h _ _ hh
    · rename_i hw; simp only [hw] at hh

def wpAnyA (E : Env) (call : CallO) (ops : Array Oper) (Q : Frm → AHeap → Prop) : Nat → Array Bool → Frm → AHeap → Prop
  | 0, listed, α, H => Region.ready .any ops listed = [] ∧ Q α H
  | fuel + 1, listed, α, H =>
    (Region.ready .any ops listed = [] → Q α H) ∧
    ∀ i ∈ Region.ready .any ops listed, stepA E call ops i α H (wpAnyA E call ops Q fuel (listed.setIfInBounds i true))

/-- In this state the operation leaves v in its slot, and this memory. -/
def YieldsA (E : Env) (call : CallO) (ops : Array Oper) (o : Oper) (α : Frm) (H : AHeap) (v : AV) (H' : AHeap) : Prop :=
  (wantedA ops o.guard α = some true ∧ stepOp E call o.op (ev α) H = some (v, H')) ∨ (wantedA ops o.guard α = some false ∧ v = undefA ∧ H' = H)

theorem YieldsA.stepA {i : Nat} {o : Oper} {α : Frm} {H H' : AHeap} {v : AV} (hi : ops[i]? = some o) (hy : YieldsA E call ops o α H v H') {K : Frm → AHeap → Prop} (h : K (put α o.dst v) H') : stepA E call ops i α H K := by
  unfold Ab.stepA
  simp only [hi]
  rcases hy with ⟨hw, hs⟩ | ⟨hw, rfl, rfl⟩
  · simp only [hw]; exact ⟨v, H', hs, h⟩
  · simp only [hw]; exact h

theorem yields_of_stepA {i : Nat} {o : Oper} {α : Frm} {H : AHeap} {K : Frm → AHeap → Prop} (hi : ops[i]? = some o) (h : stepA E call ops i α H K) : ∃ v H', YieldsA E call ops o α H v H' ∧ K (put α o.dst v) H' := by
  unfold stepA at h
  simp only [hi] at h
  split at h
  · rename_i hw; obtain ⟨v, H', h1, h2⟩ := h; exact ⟨v, H', .inl ⟨hw, h1⟩, h2⟩
  · rename_i hw; exact ⟨undefA, H, .inr ⟨hw, rfl, rfl⟩, h⟩
  · cases h

theorem put_comm (α : Frm) {x y : Option Tmp} (v u : AV) (h : ∀ d, x = some d → y ≠ some d) : put (put α x v) y u = put (put α y u) x v := by
  cases x with
  | none => rfl
  | some d =>
    cases y with
    | none => rfl
    | some e =>
      have hne : d ≠ e := fun he => h d rfl (he ▸ rfl)
      funext i
      simp only [put]
      by_cases h1 : i = e
      · subst h1; simp [Ne.symm hne]
      · by_cases h2 : i = d
        · subst h2; simp [h1]
        · simp [h1, h2]

theorem ev_put {α : Frm} {dst : Option Tmp} {v : AV} {x : Operand} (h : ∀ d, dst = some d → x ≠ .tmp d) : ev (put α dst v) x = ev α x := by
  cases dst with
  | none => rfl
  | some d =>
    cases x with
    | tmp t =>
      have hne : t ≠ d := fun e => h d rfl (e ▸ rfl)
      simp [ev, put, hne]
    | _ => rfl

theorem step_put (o : Oper) (α : Frm) (dst : Option Tmp) (v : AV) (h : ∀ d, dst = some d → d ∉ o.looksAt ops) (H : AHeap) : stepOp E call o.op (ev (put α dst v)) H = stepOp E call o.op (ev α) H :=
  stepOp_congr o.op (fun x hx => ev_put fun d hd hxd => h d hd (by
    subst hxd
    exact List.mem_append_left _ (List.mem_filterMap.2 ⟨.tmp d, by simpa using hx, rfl⟩))) H

theorem wantedA_put (o : Oper) (α : Frm) (dst : Option Tmp) (v : AV) (h : ∀ d, dst = some d → d ∉ o.looksAt ops) : wantedA ops o.guard (put α dst v) = wantedA ops o.guard α := by
  cases dst with
  | none => rfl
  | some d =>
    unfold wantedA
    cases hg : o.guard with
    | none => rfl
    | some gw =>
      obtain ⟨g, want⟩ := gw
      simp only
      cases ht : (ops[g]?).bind (·.dst) with
      | none => rfl
      | some t =>
        have hne : t ≠ d := fun e => h d rfl (by subst e; simp [Oper.looksAt, hg, ht])
        simp [put, hne]

theorem YieldsA.put {o : Oper} {α : Frm} {H H' : AHeap} {v : AV} (hy : YieldsA E call ops o α H v H') (dst : Option Tmp) (u : AV) (h : ∀ d, dst = some d → d ∉ o.looksAt ops) : YieldsA E call ops o (put α dst u) H v H' := by
  unfold YieldsA at *
  rw [wantedA_put o α dst u h, step_put o α dst u h]
  exact hy

theorem rd_same {op : Op} (h : kdOf E op = .rd) {ρ : Operand → AV} {H H' : AHeap} {v : AV} (hs : stepOp E call op ρ H = some (v, H')) : H' = H := by
  cases op <;> simp only [kdOf, reduceCtorEq] at h
  case load t a =>
    simp only [stepOp] at hs
    cases hl : pureOp E.P (.load t a) ρ H with
    | none => simp [hl, bnd] at hs
    | some x =>
      simp only [hl, bnd, Option.some.injEq, Prod.mk.injEq] at hs
      exact hs.2.symm
  case lookup t m k ok =>
    simp only [stepOp] at hs
    cases hl : pureOp E.P (.lookup t m k ok) ρ H with
    | none => simp [hl, bnd] at hs
    | some x =>
      simp only [hl, bnd, Option.some.injEq, Prod.mk.injEq] at hs
      exact hs.2.symm
  case call c =>
    split at h
    · split at h <;> cases h
    · cases h
    · cases h
    · cases h
    · cases h
    · rename_i hc
      simp only [stepOp, stepCall, hc] at hs
      unfold lenOp at hs
      split at hs
      · split at hs
        · split at hs
          · simp only [Option.some.injEq, Prod.mk.injEq] at hs; exact hs.2.symm
          · cases hs
        · cases hs
      · cases hl : lenA E.P c.argTypes (c.args.toList.map ρ) with
        | none => simp [hl, bnd] at hs
        | some x =>
          simp only [hl, bnd, Option.some.injEq, Prod.mk.injEq] at hs
          exact hs.2.symm
    · cases h

theorem ins_same {op : Op} (h : kdOf E op = .ins) {α : Frm} {H H' : AHeap} {v : AV} (hs : stepOp E call op (ev α) H = some (v, H')) : H' = H ∧ ∀ H2, stepOp E call op (ev α) H2 = some (v, H2) := by
  obtain ⟨r, hr⟩ := step_ins (call := call) op h (ev α) (hf_ev α)
  rw [hr] at hs
  cases r with
  | none => simp at hs
  | some x =>
    simp only [Option.map_some, Option.some.injEq, Prod.mk.injEq] at hs
    obtain ⟨rfl, rfl⟩ := hs
    exact ⟨rfl, fun H2 => by rw [hr]; rfl⟩

/-- Two operations that touch nothing in common: what either does, and leaves, does not hang on which of them comes first. -/
theorem two_steps {oi oj : Oper} (hap : heapApart (kdOf E oi.op) (kdOf E oj.op) = true) {α : Frm} {H H1 H2 : AHeap} {v u : AV}
    (h1 : stepOp E call oi.op (ev α) H = some (v, H1)) (h2 : stepOp E call oj.op (ev α) H1 = some (u, H2)) :
    ∃ H1', stepOp E call oj.op (ev α) H = some (u, H1') ∧ stepOp E call oi.op (ev α) H1' = some (v, H2) := by
  cases hi : kdOf E oi.op with
  | ins =>
    obtain ⟨rfl, hall⟩ := ins_same hi h1
    exact ⟨H2, h2, hall H2⟩
  | rd =>
    have := rd_same hi h1
    subst this
    cases hj : kdOf E oj.op with
    | ins => obtain ⟨rfl, _⟩ := ins_same hj h2; exact ⟨H2, h2, h1⟩
    | rd => have := rd_same hj h2; subst this; exact ⟨H2, h2, h1⟩
    | wr => rw [hi, hj] at hap; simp [heapApart] at hap
  | wr =>
    cases hj : kdOf E oj.op with
    | ins => obtain ⟨rfl, hall⟩ := ins_same hj h2; exact ⟨H, hall H, h1⟩
    | rd => rw [hi, hj] at hap; simp [heapApart] at hap
    | wr => rw [hi, hj] at hap; simp [heapApart] at hap

theorem stepA_put {j : Nat} {oi oj : Oper} {v : AV} {α : Frm} {H H1 : AHeap} (hj : ops[j]? = some oj) (hap : oi.apart ops oj = true) (hheap : heapApart (kdOf E oi.op) (kdOf E oj.op) = true) {K : Frm → AHeap → Prop}
    (hy : YieldsA E call ops oi α H v H1) (h : stepA E call ops j (put α oi.dst v) H1 K) :
    stepA E call ops j α H (fun α' H' => ∃ H1', YieldsA E call ops oi α' H' v H1' ∧ K (put α' oi.dst v) H1') := by
  obtain ⟨h1, h2, h3⟩ := Oper.apart_spec hap
  obtain ⟨u, H2, hyj, hK⟩ := yields_of_stepA hj h
  have hyj' : YieldsA E call ops oj α H1 u H2 := by
    unfold YieldsA at hyj ⊢
    rwa [wantedA_put oj α oi.dst v h1, step_put oj α oi.dst v h1] at hyj
  rw [put_comm α v u h2] at hK
  rcases hy with ⟨wi, si⟩ | ⟨wi, rfl, rfl⟩
  · rcases hyj' with ⟨wj, sj⟩ | ⟨wj, rfl, rfl⟩
    · obtain ⟨H1', e1, e2⟩ := two_steps hheap si sj
      exact YieldsA.stepA hj (.inl ⟨wj, e1⟩) ⟨H2, YieldsA.put (.inl ⟨wi, e2⟩) _ _ h3, hK⟩
    · exact YieldsA.stepA hj (.inr ⟨wj, rfl, rfl⟩) ⟨H2, YieldsA.put (.inl ⟨wi, si⟩) _ _ h3, hK⟩
  · exact YieldsA.stepA hj hyj' ⟨H2, YieldsA.put (.inr ⟨wi, rfl, rfl⟩) _ _ h3, hK⟩

theorem freeH_spec {i : Nat} {oi : Oper} {listed : Array Bool} (hi : ops[i]? = some oi) (h : freeH E ops listed i = true) (j : Nat) (oj : Oper) (hj : ops[j]? = some oj) (hne : j ≠ i) (hun : listed.getD j true = false)
    (hno : ∀ e ∈ oj.after, Region.binds .any e = true → e.on ≠ i) : oi.apart ops oj = true ∧ heapApart (kdOf E oi.op) (kdOf E oj.op) = true := by
  simp only [freeH, hi, List.all_eq_true, List.mem_range] at h
  have h1 := h j (Array.getElem?_eq_some_iff.1 hj).1
  simp only [hj, Bool.or_eq_true, beq_iff_eq, hne, false_or, hun, Bool.false_eq_true] at h1
  rcases h1 with h1 | h1
  · obtain ⟨e, he, hb⟩ := Array.any_eq_true'.1 h1
    simp only [Bool.and_eq_true, beq_iff_eq] at hb
    exact absurd hb.2 (hno e he hb.1)
  · simpa using h1

theorem wpAnyA_first {Q : Frm → AHeap → Prop} {i : Nat} {oi : Oper} {v : AV} (hi : ops[i]? = some oi) :
    ∀ (fuel : Nat) (listed : Array Bool) (α : Frm) (H H1 : AHeap),
      (∀ j oj, ops[j]? = some oj → j ≠ i → listed.getD j true = false → (∀ e ∈ oj.after, Region.binds .any e = true → e.on ≠ i) → oi.apart ops oj = true ∧ heapApart (kdOf E oi.op) (kdOf E oj.op) = true) →
      i ∈ Region.ready .any ops listed → YieldsA E call ops oi α H v H1 →
      wpAnyA E call ops Q fuel (listed.setIfInBounds i true) (put α oi.dst v) H1 → wpAnyA E call ops Q (fuel + 1) listed α H := by
  intro fuel
  induction fuel with
  | zero =>
    intro listed α H H1 _ hr hy hh
    refine ⟨fun h => (by rw [h] at hr; cases hr), fun j hj => ?_⟩
    by_cases hji : j = i
    · subst hji; exact hy.stepA hi hh
    · have := ready_mono hj hji
      rw [hh.1] at this
      cases this
  | succ fuel ih =>
    intro listed α H H1 hfree hr hy hh
    refine ⟨fun h => (by rw [h] at hr; cases hr), fun j hj => ?_⟩
    by_cases hji : j = i
    · subst hji; exact hy.stepA hi hh
    · have h1 := hh.2 j (ready_mono hj hji)
      obtain ⟨hjun, oj, hoj, hall⟩ := mem_ready.1 hj
      have hnot : ∀ e ∈ oj.after, Region.binds .any e = true → e.on ≠ i := fun e he hb heq => by
        have h1 := hall e he hb
        have h0 := (mem_ready.1 hr).1
        rw [heq] at h1
        rcases Nat.lt_or_ge i listed.size with h' | h'
        · simp [h'] at h0 h1; rw [h0] at h1; cases h1
        · simp [Array.getElem?_eq_none h'] at h1
      obtain ⟨hap1, hap2⟩ := hfree j oj hoj hji hjun hnot
      have h2 := stepA_put hoj hap1 hap2 hy h1
      have hfree' : ∀ k ok, ops[k]? = some ok → k ≠ i → (listed.setIfInBounds j true).getD k true = false →
          (∀ e ∈ ok.after, Region.binds .any e = true → e.on ≠ i) → oi.apart ops ok = true ∧ heapApart (kdOf E oi.op) (kdOf E ok.op) = true := fun k ok hk hki hun hno => by
        refine hfree k ok hk hki ?_ hno
        by_cases hjk : j = k
        · subst hjk; exact hjun
        · rw [getD_set_ne true hjk] at hun; exact hun
      refine stepA_mono (fun α' H' h3 => ?_) h2
      obtain ⟨H1', hy', h4⟩ := h3
      refine ih (listed.setIfInBounds j true) α' H' H1' hfree' (ready_mono hr (Ne.symm hji)) hy' ?_
      rw [Array.setIfInBounds_comm _ _ hji]
      exact h4

theorem wpAnyA_lex {Q : Frm → AHeap → Prop} : ∀ (l : List Oper) (k : Nat) (listed : Array Bool) (α : Frm) (H : AHeap) (α' : Frm) (H' : AHeap), (∀ (j : Nat), l[j]? = ops[k + j]?) →
    lexH E ops l.length k listed = true → execOps E call ops l α H = some (α', H') → Q α' H' → wpAnyA E call ops Q l.length listed α H
  | [], _, listed, α, H, α', H', _, hB, he, hQ => by
    simp only [execOps, Option.some.injEq, Prod.mk.injEq] at he
    obtain ⟨rfl, rfl⟩ := he
    exact ⟨by simpa [lexH] using hB, hQ⟩
  | o :: l, k, listed, α, H, α', H', hl, hB, he, hQ => by
    have h0 : ops[k]? = some o := by simpa using (hl 0).symm
    simp only [List.length_cons, lexH, Bool.and_eq_true] at hB
    obtain ⟨⟨hr, hf⟩, hB'⟩ := hB
    have hl' : ∀ (j : Nat), l[j]? = ops[k + 1 + j]? := fun j => by have := hl (j + 1); simpa [Nat.add_assoc, Nat.add_comm 1 j] using this
    simp only [execOps, bnd] at he
    cases hw : wantedA ops o.guard α with
    | none => simp [hw] at he
    | some b =>
      simp only [hw] at he
      cases b with
      | true =>
        simp only [sel, if_true] at he
        cases hs : stepOp E call o.op (ev α) H with
        | none => simp [hs] at he
        | some p =>
          obtain ⟨v, H1⟩ := p
          simp only [hs] at he
          exact wpAnyA_first h0 l.length listed α H H1 (freeH_spec h0 hf) (by simpa using hr) (.inl ⟨hw, hs⟩) (wpAnyA_lex l (k + 1) _ _ _ _ _ hl' hB' he hQ)
      | false =>
        simp only [sel, Bool.false_eq_true, if_false] at he
        exact wpAnyA_first h0 l.length listed α H H (freeH_spec h0 hf) (by simpa using hr) (.inr ⟨hw, rfl, rfl⟩) (wpAnyA_lex l (k + 1) _ _ _ _ _ hl' hB' he hQ)

/-- What is listed when k operations have been. -/
def Listed (n k : Nat) (listed : Array Bool) : Prop := listed.size = n ∧ ∀ j d, listed.getD j d = if j < n then decide (j < k) else d

theorem Listed.set {n k : Nat} {listed : Array Bool} (h : Listed n k listed) (hk : k < n) : Listed n (k + 1) (listed.setIfInBounds k true) := by
  refine ⟨by simp [h.1], fun j d => ?_⟩
  by_cases hj : j = k
  · subst hj
    simp [h.1, hk]
  · have := h.2 j d
    simp only [Array.getD_eq_getD_getElem?] at this ⊢
    rw [Array.getElem?_setIfInBounds_ne (Ne.symm hj), this]
    by_cases hjn : j < n
    · simp only [hjn, if_true]
      have : (j < k) = (j < k + 1) := by apply propext; omega
      simp [this]
    · simp [hjn]

theorem lexH_of_lex2 : ∀ (l : List Oper) (k : Nat) (listed : Array Bool), (∀ (j : Nat), l[j]? = ops[k + j]?) → k + l.length = ops.size → Listed ops.size k listed → lex2 E ops k l = true → lexH E ops l.length k listed = true
  | [], k, listed, hl, hn, hL, _ => by
    simp only [List.length_nil, lexH, List.isEmpty_iff]
    rw [List.eq_nil_iff_forall_not_mem]
    intro j hj
    obtain ⟨h1, o, ho, _⟩ := mem_ready.1 hj
    have hlt : j < ops.size := (Array.getElem?_eq_some_iff.1 ho).1
    rw [hL.2, if_pos hlt] at h1
    simp at hn h1
    omega
  | o :: l, k, listed, hl, hn, hL, h => by
    simp only [lex2, Bool.and_eq_true] at h
    obtain ⟨⟨h1, h2⟩, h3⟩ := h
    simp only [List.length_cons] at hn
    have hk : k < ops.size := by omega
    have h0 : ops[k]? = some o := by simpa using (hl 0).symm
    have hl' : ∀ (j : Nat), l[j]? = ops[k + 1 + j]? := fun j => by have := hl (j + 1); simpa [Nat.add_assoc, Nat.add_comm 1 j] using this
    simp only [List.length_cons, lexH, Bool.and_eq_true]
    refine ⟨⟨?_, ?_⟩, lexH_of_lex2 l (k + 1) _ hl' (by omega) (hL.set hk) h3⟩
    · rw [List.contains_iff_mem, mem_ready]
      refine ⟨by rw [hL.2, if_pos hk]; simp, o, h0, fun e he hb => ?_⟩
      have := Array.all_eq_true_iff_forall_mem.1 h1 e he
      simp only [hb, Bool.not_true, Bool.false_or, decide_eq_true_eq] at this
      rw [hL.2, if_pos (by omega)]
      simpa using this
    · simp only [freeH, h0, List.all_eq_true, List.mem_range]
      intro j hj
      by_cases hjk : j = k
      · simp [hjk]
      · by_cases hlt : j < k
        · rw [hL.2, if_pos hj]
          simp [hlt]
        · have hoj : ops[j]? = some ops[j] := Array.getElem?_eq_getElem hj
          have hmem : ops[j] ∈ l := by
            have := hl' (j - (k + 1))
            rw [show k + 1 + (j - (k + 1)) = j from by omega, hoj] at this
            exact List.mem_of_getElem? this
          have := List.all_eq_true.1 h2 _ hmem
          simp only [hoj]
          rw [this]
          simp

theorem orderOk_of_lex2 (h : lex2 E ops 0 ops.toList = true) : orderOk E ops = true := by
  unfold orderOk
  have := lexH_of_lex2 (E := E) (ops := ops) ops.toList 0 (Array.replicate ops.size false) (by simp) (by simp) ⟨by simp, fun j d => by
    by_cases hj : j < ops.size
    · simp [hj]
    · simp [hj]⟩ h
  simpa using this

/-! ### Regions that are looked at while they run -/

theorem sameVal_eq : ∀ (a b : Value), sameVal a b = true → a = b := by
  intro a b h
  unfold sameVal at h
  split at h
  · split at h
    · rename_i a b
      simp only [decide_eq_true_eq] at h
      rw [h]
    · cases h
  · split at h
    · rfl
    · cases h
  · split at h
    · rfl
    · cases h
  · split at h
    · rename_i a b
      simp only [Bool.and_eq_true, Option.isNone_iff_eq_none] at h
      rw [h.1, h.2]
    · cases h
  · cases h

theorem sameFn_eq : ∀ (a b : Fn), sameFn a b = true → a = b := by
  intro a b h
  unfold sameFn at h
  split at h
  · split at h
    · simp only [beq_iff_eq] at h; rw [h]
    · cases h
  · cases h

theorem sameOwn_eq : ∀ (a b : Own), sameOwn a b = true → a = b := by
  intro a b h
  unfold sameOwn at h
  split at h <;> (try rfl)
  · simp only [beq_iff_eq] at h; rw [h]
  · cases h

mutual
theorem sameAV_eq : ∀ (a b : AV), sameAV a b = true → a = b
  | .int k a, b, h => by
    cases b <;> simp only [sameAV, Bool.false_eq_true] at h
    simp only [Bool.and_eq_true, decide_eq_true_eq, beq_iff_eq] at h
    rw [h.1, h.2]
  | .bool a, b, h => by
    cases b <;> simp only [sameAV, Bool.false_eq_true] at h
    simp only [beq_iff_eq] at h
    rw [h]
  | .str a, b, h => by
    cases b <;> simp only [sameAV, Bool.false_eq_true] at h
    simp only [beq_iff_eq] at h
    rw [h]
  | .agg xs, b, h => by
    cases b <;> simp only [sameAV, Bool.false_eq_true] at h
    rw [sameL_eq xs _ h]
  | .tup xs, b, h => by
    cases b <;> simp only [sameAV, Bool.false_eq_true] at h
    rw [sameL_eq xs _ h]
  | .rptr xs, b, h => by
    cases b <;> simp only [sameAV, Bool.false_eq_true] at h
    rw [sameL_eq xs _ h]
  | .ptr a c, b, h => by
    cases b <;> simp only [sameAV, Bool.false_eq_true] at h
    simp only [Bool.and_eq_true, beq_iff_eq] at h
    rw [h.1, h.2]
  | .sl a c d e, b, h => by
    cases b <;> simp only [sameAV, Bool.false_eq_true] at h
    simp only [Bool.and_eq_true, beq_iff_eq] at h
    rw [h.1.1.1, h.1.1.2, h.1.2, h.2]
  | .map a, b, h => by
    cases b <;> simp only [sameAV, Bool.false_eq_true] at h
    simp only [beq_iff_eq] at h
    rw [h]
  | .vec o xs, b, h => by
    cases b <;> simp only [sameAV, Bool.false_eq_true] at h
    simp only [Bool.and_eq_true] at h
    rw [sameOwn_eq _ _ h.1, sameL_eq xs _ h.2]
  | .val v, b, h => by
    cases b <;> simp only [sameAV, Bool.false_eq_true] at h
    rw [sameVal_eq _ _ h]
  | .fn f xs ys, b, h => by
    cases b <;> simp only [sameAV, Bool.false_eq_true] at h
    simp only [Bool.and_eq_true] at h
    rw [sameFn_eq _ _ h.1.1, sameL_eq xs _ h.1.2, sameL_eq ys _ h.2]
  | .junk, b, h => by cases b <;> first | rfl | (simp only [sameAV, Bool.false_eq_true] at h)
  | .any, b, h => by cases b <;> first | rfl | (simp only [sameAV, Bool.false_eq_true] at h)
  | .iface t x, b, h => by
    cases b <;> simp only [sameAV, Bool.false_eq_true] at h
    simp only [Bool.and_eq_true, decide_eq_true_eq] at h
    rw [h.1, sameAV_eq x _ h.2]
theorem sameL_eq : ∀ (xs ys : List AV), sameL xs ys = true → xs = ys
  | [], ys, h => by cases ys with | nil => rfl | cons => simp only [sameL, Bool.false_eq_true] at h
  | a :: xs, ys, h => by
    cases ys with
    | nil => simp only [sameL, Bool.false_eq_true] at h
    | cons b ys =>
      simp only [sameL, Bool.and_eq_true] at h
      rw [sameAV_eq a b h.1, sameL_eq xs ys h.2]
end

theorem reads_spec {o : Oper} {α : Frm} {v : AV} {H : AHeap} (h : reads E call o α v H = true) : ∃ H', stepOp E call o.op (ev α) H = some (v, H') := by
  unfold reads at h
  split at h
  · rename_i u H' hs
    exact ⟨H', by rw [hs, sameAV_eq u v h]⟩
  · cases h

/-- One operation, wanted or not. -/
def stepX (E : Env) (call : CallO) (ops : Array Oper) (o : Oper) (α : Frm) (H : AHeap) : Option (Bool × AV × AHeap) :=
  bnd (wantedA ops o.guard α) fun b => sel b (bnd (stepOp E call o.op (ev α) H) fun r => some (true, r.1, r.2)) (some (false, undefA, H))

/-- The state behind the first k operations. -/
def tr (E : Env) (call : CallO) (ops : Array Oper) (α : Frm) (H : AHeap) : Nat → Frm × AHeap
  | 0 => (α, H)
  | k + 1 => match ops[k]? with
    | some o => match stepX E call ops o (tr E call ops α H k).1 (tr E call ops α H k).2 with
      | some r => (put (tr E call ops α H k).1 o.dst r.2.1, r.2.2)
      | none => tr E call ops α H k
    | none => tr E call ops α H k

/-- What was seen of operation m: she ran; reads and writes that stand in no order do not meet. -/
def OkAt (E : Env) (call : CallO) (ops : Array Oper) (α : Frm) (H : AHeap) (m : Nat) : Prop :=
  ∃ o r, ops[m]? = some o ∧ stepX E call ops o (tr E call ops α H m).1 (tr E call ops α H m).2 = some r ∧
    (r.1 = true → kdOf E o.op = .rd → ∀ j oj rj, j < m → ops[j]? = some oj → stepX E call ops oj (tr E call ops α H j).1 (tr E call ops α H j).2 = some rj → rj.1 = true → kdOf E oj.op = .wr →
      behind ops ops.size m j = true ∨ reads E call o (tr E call ops α H m).1 r.2.1 (tr E call ops α H j).2 = true) ∧
    (r.1 = true → kdOf E o.op = .wr → ∀ i oi ri, i < m → ops[i]? = some oi → stepX E call ops oi (tr E call ops α H i).1 (tr E call ops α H i).2 = some ri → ri.1 = true → kdOf E oi.op = .rd →
      behind ops ops.size m i = true ∨ reads E call oi (tr E call ops α H i).1 ri.2.1 r.2.2 = true)

theorem okD {α : Frm} {H : AHeap} : ∀ (l : List Oper) (k : Nat) (rs : List (Nat × Oper × Frm × AV)) (ws : List (Nat × AHeap)) (α' : Frm) (H' : AHeap), (∀ (j : Nat), l[j]? = ops[k + j]?) → k + l.length = ops.size →
    (∀ i oi ri, i < k → ops[i]? = some oi → stepX E call ops oi (tr E call ops α H i).1 (tr E call ops α H i).2 = some ri → ri.1 = true → kdOf E oi.op = .rd → (i, oi, (tr E call ops α H i).1, ri.2.1) ∈ rs) →
    (∀ j oj rj, j < k → ops[j]? = some oj → stepX E call ops oj (tr E call ops α H j).1 (tr E call ops α H j).2 = some rj → rj.1 = true → kdOf E oj.op = .wr → (j, (tr E call ops α H j).2) ∈ ws) →
    execOpsD E call ops k l rs ws (tr E call ops α H k).1 (tr E call ops α H k).2 = some (α', H') →
    (∀ m, k ≤ m → m < ops.size → OkAt E call ops α H m) ∧ tr E call ops α H ops.size = (α', H')
  | [], k, rs, ws, α', H', _, hn, _, _, h => by
    simp only [execOpsD, Option.some.injEq, Prod.mk.injEq] at h
    simp only [List.length_nil, Nat.add_zero] at hn
    subst hn
    exact ⟨fun m h1 h2 => absurd h2 (by omega), by rw [← h.1, ← h.2]⟩
  | o :: l, k, rs, ws, α', H', hl, hn, hrs, hws, h => by
    have h0 : ops[k]? = some o := by simpa using (hl 0).symm
    have hl' : ∀ (j : Nat), l[j]? = ops[k + 1 + j]? := fun j => by have := hl (j + 1); simpa [Nat.add_assoc, Nat.add_comm 1 j] using this
    simp only [List.length_cons] at hn
    simp only [execOpsD] at h
    have key : ∀ r rs' ws', stepX E call ops o (tr E call ops α H k).1 (tr E call ops α H k).2 = some r →
        (r.1 = true → kdOf E o.op = .rd → (k, o, (tr E call ops α H k).1, r.2.1) ∈ rs') → (∀ q ∈ rs, q ∈ rs') → (r.1 = true → kdOf E o.op = .wr → (k, (tr E call ops α H k).2) ∈ ws') → (∀ q ∈ ws, q ∈ ws') →
        execOpsD E call ops (k + 1) l rs' ws' (put (tr E call ops α H k).1 o.dst r.2.1) r.2.2 = some (α', H') → OkAt E call ops α H k →
        (∀ m, k ≤ m → m < ops.size → OkAt E call ops α H m) ∧ tr E call ops α H ops.size = (α', H') := by
      intro r rs' ws' hr q1 q2 q3 q4 hrun hok
      have htr : tr E call ops α H (k + 1) = (put (tr E call ops α H k).1 o.dst r.2.1, r.2.2) := by simp only [tr, h0, hr]
      have := okD (α := α) (H := H) l (k + 1) rs' ws' α' H' hl' (by omega) ?_ ?_ (by rw [htr]; exact hrun)
      · refine ⟨fun m h1 h2 => ?_, this.2⟩
        by_cases e : m = k
        · subst e; exact hok
        · exact this.1 m (by omega) h2
      · intro i oi ri hi hoi hri h1 h2
        by_cases e : i = k
        · subst e
          rw [h0] at hoi; cases hoi
          rw [hr] at hri; cases hri
          exact q1 h1 h2
        · exact q2 _ (hrs i oi ri (by omega) hoi hri h1 h2)
      · intro j oj rj hj hoj hrj h1 h2
        by_cases e : j = k
        · subst e
          rw [h0] at hoj; cases hoj
          rw [hr] at hrj; cases hrj
          exact q3 h1 h2
        · exact q4 _ (hws j oj rj (by omega) hoj hrj h1 h2)
    cases hw : wantedA ops o.guard (tr E call ops α H k).1 with
    | none => simp [hw, bnd] at h
    | some b =>
      simp only [hw, bnd] at h
      cases b with
      | false =>
        simp only [sel, Bool.false_eq_true, if_false] at h
        have hr : stepX E call ops o (tr E call ops α H k).1 (tr E call ops α H k).2 = some (false, undefA, (tr E call ops α H k).2) := by simp [stepX, hw, bnd, sel]
        exact key _ rs ws hr (by simp) (fun _ h => h) (by simp) (fun _ h => h) h ⟨o, _, h0, hr, by simp, by simp⟩
      | true =>
        simp only [sel, if_true] at h
        cases hs : stepOp E call o.op (ev (tr E call ops α H k).1) (tr E call ops α H k).2 with
        | none => simp [hs] at h
        | some p =>
          simp only [hs] at h
          have hr : stepX E call ops o (tr E call ops α H k).1 (tr E call ops α H k).2 = some (true, p.1, p.2) := by simp [stepX, hw, bnd, sel, hs]
          cases hk : kdOf E o.op with
          | ins =>
            simp only [hk] at h
            exact key _ rs ws hr (by simp [hk]) (fun _ h => h) (by simp [hk]) (fun _ h => h) h ⟨o, _, h0, hr, by simp [hk], by simp [hk]⟩
          | rd =>
            simp only [hk] at h
            split at h
            · rename_i hall
              refine key _ _ ws hr (fun _ _ => by simp) (fun q hq => by simp [hq]) (by simp [hk]) (fun _ h => h) h ⟨o, _, h0, hr, fun _ _ j oj rj hj hoj hrj h1 h2 => ?_, by simp [hk]⟩
              have := List.all_eq_true.1 hall _ (hws j oj rj hj hoj hrj h1 h2)
              simpa using this
            · cases h
          | wr =>
            simp only [hk] at h
            split at h
            · rename_i hall
              refine key _ rs _ hr (by simp [hk]) (fun _ h => h) (fun _ _ => by simp) (fun q hq => by simp [hq]) h ⟨o, _, h0, hr, by simp [hk], fun _ _ i oi ri hi hoi hri h1 h2 => ?_⟩
              have := List.all_eq_true.1 hall _ (hrs i oi ri hi hoi hri h1 h2)
              simpa using this
            · cases h

/-- What the text of such a region must be like. -/
def lexD (E : Env) (ops : Array Oper) : Bool :=
  (List.range ops.size).all fun k => match ops[k]? with
    | some o => o.after.all (fun e => !Region.binds .any e || decide (e.on < k)) &&
        (List.range k).all fun i => behind ops ops.size k i || match ops[i]? with
          | some oi => oi.apart ops o && !(kdOf E oi.op == .wr && kdOf E o.op == .wr)
          | none => false
    | none => false


end
end Go.Ab

/- A region that is looked at while it runs: one run in the text's order serves every order. -/
namespace Go.Ab
set_option linter.unusedVariables false
set_option linter.unusedSimpArgs false
open Go Go.RowKit

section
variable {E : Env} {call : CallO} {ops : Array Oper} {α : Frm} {H : AHeap}

def dstAt (ops : Array Oper) (m : Nat) : Option Tmp := (ops[m]?).bind (·.dst)
def resAt (E : Env) (call : CallO) (ops : Array Oper) (α : Frm) (H : AHeap) (m : Nat) : Option (Bool × AV × AHeap) :=
  bnd ops[m]? fun o => stepX E call ops o (tr E call ops α H m).1 (tr E call ops α H m).2
def valAt (E : Env) (call : CallO) (ops : Array Oper) (α : Frm) (H : AHeap) (m : Nat) : AV := match resAt E call ops α H m with | some r => r.2.1 | none => undefA
/-- It ran, and wrote. -/
def wrAt (E : Env) (call : CallO) (ops : Array Oper) (α : Frm) (H : AHeap) (m : Nat) : Bool :=
  match resAt E call ops α H m, ops[m]? with | some r, some o => r.1 && decide (kdOf E o.op = .wr) | _, _ => false

def Fk (E : Env) (call : CallO) (ops : Array Oper) (α : Frm) (H : AHeap) (p : Nat → Bool) : Nat → Frm
  | 0 => α
  | k + 1 => if p k = true then put (Fk E call ops α H p k) (dstAt ops k) (valAt E call ops α H k) else Fk E call ops α H p k
def Hk (E : Env) (call : CallO) (ops : Array Oper) (α : Frm) (H : AHeap) (p : Nat → Bool) : Nat → AHeap
  | 0 => H
  | k + 1 => if p k = true ∧ wrAt E call ops α H k = true then (tr E call ops α H (k + 1)).2 else Hk E call ops α H p k

theorem stepX_keep {o : Oper} {r : Bool × AV × AHeap} {α : Frm} {H : AHeap} (h : stepX E call ops o α H = some r) (hk : ¬ (r.1 = true ∧ kdOf E o.op = .wr)) : r.2.2 = H := by
  unfold stepX at h
  cases hw : wantedA ops o.guard α with
  | none => simp [hw, bnd] at h
  | some b =>
    simp only [hw, bnd] at h
    cases b with
    | false => simp only [sel, Bool.false_eq_true, if_false, Option.some.injEq] at h; rw [← h]
    | true =>
      simp only [sel, if_true] at h
      cases hs : stepOp E call o.op (ev α) H with
      | none => simp [hs] at h
      | some q =>
        simp only [hs, Option.some.injEq] at h
        subst h
        cases hk' : kdOf E o.op with
        | ins => exact (ins_same hk' hs).1
        | rd => exact rd_same hk' hs
        | wr => exact absurd ⟨rfl, hk'⟩ hk

theorem tr_succ {m : Nat} (h : OkAt E call ops α H m) : tr E call ops α H (m + 1) = (put (tr E call ops α H m).1 (dstAt ops m) (valAt E call ops α H m), (tr E call ops α H (m + 1)).2) ∧
    (wrAt E call ops α H m = false → (tr E call ops α H (m + 1)).2 = (tr E call ops α H m).2) := by
  obtain ⟨o, r, ho, hr, _, _⟩ := h
  have hres : resAt E call ops α H m = some r := by simp [resAt, ho, bnd, hr]
  have htr : tr E call ops α H (m + 1) = (put (tr E call ops α H m).1 o.dst r.2.1, r.2.2) := by simp only [tr, ho, hr]
  constructor
  · rw [htr]
    simp [dstAt, ho, valAt, hres]
  · intro hw
    rw [htr]
    simp only [wrAt, hres, ho, Bool.and_eq_false_iff, decide_eq_false_iff_not] at hw
    exact stepX_keep hr (by rintro ⟨h1, h2⟩; rcases hw with h | h; · rw [h1] at h; cases h
                            · exact h h2)

theorem Fk_lt {i : Nat} (hok : ∀ m, m < i → OkAt E call ops α H m) : ∀ k, k ≤ i → Fk E call ops α H (fun m => decide (m < i)) k = (tr E call ops α H k).1
  | 0, _ => rfl
  | k + 1, hk => by
    simp only [Fk]
    rw [if_pos (by simp; omega), Fk_lt hok k (by omega)]
    have := (tr_succ (hok k (by omega))).1
    rw [this]

theorem Fk_ge {i : Nat} : ∀ k, i ≤ k → Fk E call ops α H (fun m => decide (m < i)) k = Fk E call ops α H (fun m => decide (m < i)) i
  | 0, hk => by have : i = 0 := by omega
                subst this; rfl
  | k + 1, hk => by
    by_cases e : i = k + 1
    · subst e; rfl
    · simp only [Fk]
      rw [if_neg (by simp; omega)]
      exact Fk_ge k (by omega)

theorem Hk_lt {i : Nat} (hok : ∀ m, m < i → OkAt E call ops α H m) : ∀ k, k ≤ i → Hk E call ops α H (fun m => decide (m < i)) k = (tr E call ops α H k).2
  | 0, _ => rfl
  | k + 1, hk => by
    simp only [Hk]
    by_cases hw : wrAt E call ops α H k = true
    · rw [if_pos ⟨by simp; omega, hw⟩]
    · rw [if_neg (fun h => hw h.2), Hk_lt hok k (by omega)]
      exact ((tr_succ (hok k (by omega))).2 (by simpa using hw)).symm

theorem Hk_ge {i : Nat} : ∀ k, i ≤ k → Hk E call ops α H (fun m => decide (m < i)) k = Hk E call ops α H (fun m => decide (m < i)) i
  | 0, hk => by have : i = 0 := by omega
                subst this; rfl
  | k + 1, hk => by
    by_cases e : i = k + 1
    · subst e; rfl
    · simp only [Hk]
      rw [if_neg (by simp; omega)]
      exact Hk_ge k (by omega)

theorem Fk_agree {p q : Nat → Bool} {t : Tmp} : ∀ k, (∀ m, m < k → p m ≠ q m → dstAt ops m ≠ some t) → Fk E call ops α H p k t = Fk E call ops α H q k t
  | 0, _ => rfl
  | k + 1, h => by
    have ih := Fk_agree (p := p) (q := q) (t := t) k fun m hm => h m (by omega)
    have hput : ∀ f : Frm, dstAt ops k ≠ some t → put f (dstAt ops k) (valAt E call ops α H k) t = f t := by
      intro f hne
      cases hd : dstAt ops k with
      | none => rfl
      | some d =>
        simp only [put]
        rw [if_neg]
        rintro rfl
        exact hne hd
    have hput2 : ∀ f g : Frm, f t = g t → put f (dstAt ops k) (valAt E call ops α H k) t = put g (dstAt ops k) (valAt E call ops α H k) t := by
      intro f g hfg
      cases hd : dstAt ops k with
      | none => exact hfg
      | some d => simp only [put]; split <;> simp_all
    simp only [Fk]
    by_cases hpq : p k = q k
    · rw [hpq]
      split
      · exact hput2 _ _ ih
      · exact ih
    · have hne := h k (by omega) hpq
      by_cases hp : p k = true
      · rw [if_pos hp, if_neg (by rw [hp] at hpq; exact fun e => hpq e.symm), hput _ hne]
        exact ih
      · rw [if_neg hp, if_pos (by cases hq : q k <;> simp_all), hput _ hne]
        exact ih

theorem Hk_agree {p q : Nat → Bool} : ∀ k, (∀ m, m < k → wrAt E call ops α H m = true → p m = q m) → Hk E call ops α H p k = Hk E call ops α H q k
  | 0, _ => rfl
  | k + 1, h => by
    have ih := Hk_agree (p := p) (q := q) k fun m hm => h m (by omega)
    simp only [Hk]
    by_cases hw : wrAt E call ops α H k = true
    · rw [h k (by omega) hw, ih]
    · rw [if_neg (fun h => hw h.2), if_neg (fun h => hw h.2), ih]

def insP (p : Nat → Bool) (i : Nat) : Nat → Bool := fun m => if m = i then true else p m
theorem insP_self (p : Nat → Bool) (i : Nat) : insP p i i = true := by simp [insP]
theorem insP_ne {p : Nat → Bool} {i m : Nat} (h : ¬ m = i) : insP p i m = p m := by simp [insP, h]

theorem Fk_insert {p : Nat → Bool} {i : Nat} (hpi : p i = false) : ∀ k, (∀ m, i < m → m < k → p m = true → ∀ d, dstAt ops i = some d → dstAt ops m ≠ some d) →
    Fk E call ops α H (insP p i) k = if i < k then put (Fk E call ops α H p k) (dstAt ops i) (valAt E call ops α H i) else Fk E call ops α H p k
  | 0, _ => by simp [Fk]
  | k + 1, h => by
    have ih := Fk_insert hpi k fun m h1 h2 => h m h1 (by omega)
    simp only [Fk]
    rcases Nat.lt_trichotomy k i with hlt | heq | hgt
    · rw [insP_ne (by omega : ¬ k = i), ih, if_neg (by omega : ¬ i < k), if_neg (by omega : ¬ i < k + 1)]
    · subst heq
      rw [insP_self, if_pos rfl, ih]
      simp [hpi]
    · rw [insP_ne (by omega : ¬ k = i), ih, if_pos hgt, if_pos (by omega : i < k + 1)]
      by_cases hp : p k = true
      · rw [if_pos hp, if_pos hp]
        exact put_comm _ _ _ (h k hgt (by omega) hp)
      · rw [if_neg hp, if_neg hp]

theorem Hk_insert_wr {p : Nat → Bool} {i : Nat} (hw : wrAt E call ops α H i = true) : ∀ k, i < k → (∀ m, i < m → m < k → p m = true → wrAt E call ops α H m = false) →
    Hk E call ops α H (insP p i) k = (tr E call ops α H (i + 1)).2
  | 0, hk, _ => by omega
  | k + 1, hk, h => by
    simp only [Hk]
    by_cases e : k = i
    · subst e
      rw [if_pos ⟨insP_self _ _, hw⟩]
    · rw [if_neg (fun hh => by
        have hp := hh.1
        rw [insP_ne e] at hp
        have := h k (by omega) (by omega) hp
        rw [this] at hh
        exact absurd hh.2 (by simp))]
      exact Hk_insert_wr hw k (by omega) fun m h1 h2 => h m h1 (by omega)

theorem Hk_last {p : Nat → Bool} : ∀ k, (∃ j, j < k ∧ p j = true ∧ wrAt E call ops α H j = true ∧ Hk E call ops α H p k = (tr E call ops α H (j + 1)).2 ∧ ∀ m, j < m → m < k → ¬ (p m = true ∧ wrAt E call ops α H m = true)) ∨
    ((∀ m, m < k → ¬ (p m = true ∧ wrAt E call ops α H m = true)) ∧ Hk E call ops α H p k = H)
  | 0 => .inr ⟨fun m hm => absurd hm (by omega), rfl⟩
  | k + 1 => by
    simp only [Hk]
    by_cases hw : p k = true ∧ wrAt E call ops α H k = true
    · exact .inl ⟨k, by omega, hw.1, hw.2, by rw [if_pos hw], fun m h1 h2 => absurd h1 (by omega)⟩
    · rw [if_neg hw]
      rcases Hk_last (p := p) k with ⟨j, h1, h2, h3, h4, h5⟩ | ⟨h1, h2⟩
      · refine .inl ⟨j, by omega, h2, h3, h4, fun m a b => ?_⟩
        by_cases e : m = k
        · subst e; exact hw
        · exact h5 m a (by omega)
      · refine .inr ⟨fun m hm => ?_, h2⟩
        by_cases e : m = k
        · subst e; exact hw
        · exact h1 m (by omega)

theorem tr_const {a : Nat} : ∀ b, a ≤ b → (∀ m, a ≤ m → m < b → OkAt E call ops α H m) → (∀ m, a ≤ m → m < b → wrAt E call ops α H m = false) → (tr E call ops α H b).2 = (tr E call ops α H a).2
  | 0, h, _, _ => by have : a = 0 := by omega
                     subst this; rfl
  | b + 1, h, hok, hw => by
    by_cases e : a = b + 1
    · subst e; rfl
    · rw [(tr_succ (hok b (by omega) (by omega))).2 (hw b (by omega) (by omega))]
      exact tr_const b (by omega) (fun m h1 h2 => hok m h1 (by omega)) (fun m h1 h2 => hw m h1 (by omega))

theorem firstWr (f : Nat → Bool) (a : Nat) : ∀ b, (∀ m, a ≤ m → m < b → f m = false) ∨ ∃ m, a ≤ m ∧ m < b ∧ f m = true ∧ ∀ m', a ≤ m' → m' < m → f m' = false
  | 0 => .inl fun m _ h => absurd h (by omega)
  | b + 1 => by
    rcases firstWr f a b with h | ⟨m, h1, h2, h3, h4⟩
    · by_cases hb : a ≤ b ∧ f b = true
      · exact .inr ⟨b, hb.1, by omega, hb.2, fun m' h1 h2 => h m' h1 h2⟩
      · refine .inl fun m h1 h2 => ?_
        by_cases e : m = b
        · subst e; simpa [h1] using hb
        · exact h m h1 (by omega)
    · exact .inr ⟨m, h1, by omega, h3, h4⟩

/-- With an operation all are listed that come ahead of it. -/
def DownP (ops : Array Oper) (p : Nat → Bool) : Prop := ∀ j o e, p j = true → ops[j]? = some o → e ∈ o.after → Region.binds .any e = true → p e.on = true

theorem behind_down {p : Nat → Bool} (hd : DownP ops p) : ∀ (n j k : Nat), p j = true → behind ops n j k = true → p k = true
  | 0, j, k, _, h => by simp [behind] at h
  | n + 1, j, k, hj, h => by
    simp only [behind] at h
    split at h
    · rename_i o ho
      obtain ⟨e, he, hb⟩ := Array.any_eq_true'.1 h
      simp only [Bool.and_eq_true, Bool.or_eq_true, beq_iff_eq] at hb
      have h1 := hd j o e hj ho he hb.1
      rcases hb.2 with h2 | h2
      · rw [← h2]; exact h1
      · exact behind_down hd n e.on k h1 h2
    · cases h

theorem behind_ready {p : Nat → Bool} (hd : DownP ops p) {i : Nat} {o : Oper} (ho : ops[i]? = some o) (hr : ∀ e ∈ o.after, Region.binds .any e = true → p e.on = true) (n k : Nat) (h : behind ops n i k = true) : p k = true := by
  cases n with
  | zero => simp [behind] at h
  | succ n =>
    simp only [behind, ho] at h
    obtain ⟨e, he, hb⟩ := Array.any_eq_true'.1 h
    simp only [Bool.and_eq_true, Bool.or_eq_true, beq_iff_eq] at hb
    have h1 := hr e he hb.1
    rcases hb.2 with h2 | h2
    · rw [← h2]; exact h1
    · exact behind_down hd n e.on k h1 h2

theorem lexD_spec (h : lexD E ops = true) {k : Nat} {o : Oper} (ho : ops[k]? = some o) : (∀ e ∈ o.after, Region.binds .any e = true → e.on < k) ∧
    ∀ i oi, i < k → ops[i]? = some oi → behind ops ops.size k i = true ∨ (oi.apart ops o = true ∧ ¬ (kdOf E oi.op = .wr ∧ kdOf E o.op = .wr)) := by
  unfold lexD at h
  rw [List.all_eq_true] at h
  have hlt : k < ops.size := (Array.getElem?_eq_some_iff.1 ho).1
  have hk := h k (List.mem_range.2 hlt)
  simp only [ho, Bool.and_eq_true, List.all_eq_true, List.mem_range, Bool.or_eq_true] at hk
  obtain ⟨h1, h2⟩ := hk
  refine ⟨fun e he hb => ?_, fun i oi hi hoi => ?_⟩
  · have := Array.all_eq_true_iff_forall_mem.1 h1 e he
    simp only [hb, Bool.not_true, Bool.false_or, decide_eq_true_eq] at this
    exact this
  · rcases h2 i hi with h3 | h3
    · exact .inl h3
    · right
      simp only [hoi, Bool.and_eq_true, Bool.not_eq_true', Bool.and_eq_false_iff, beq_eq_false_iff_ne] at h3
      refine ⟨h3.1, ?_⟩
      rintro ⟨a, b⟩
      rcases h3.2 with h4 | h4
      · exact h4 a
      · exact h4 b

theorem apart_dst {x y : Oper} (h : x.apart ops y = true) : (∀ d, x.dst = some d → d ∉ y.looksAt ops) ∧ (∀ d, x.dst = some d → y.dst ≠ some d) ∧ (∀ d, y.dst = some d → d ∉ x.looksAt ops) := Oper.apart_spec h

/-- The step of operation i, wherever she stands. -/
theorem step_core (hok : ∀ m, m < ops.size → OkAt E call ops α H m) {p : Nat → Bool} (hd : DownP ops p) {i : Nat} {o : Oper} (ho : ops[i]? = some o) (hpi : p i = false)
    (hr : ∀ e ∈ o.after, Region.binds .any e = true → p e.on = true)
    (ap1 : ∀ m om, m < i → p m = false → behind ops ops.size i m = false → ops[m]? = some om → om.apart ops o = true ∧ ¬ (kdOf E om.op = .wr ∧ kdOf E o.op = .wr))
    (ap2 : ∀ m om, i < m → p m = true → behind ops ops.size m i = false → ops[m]? = some om → o.apart ops om = true ∧ ¬ (kdOf E o.op = .wr ∧ kdOf E om.op = .wr)) :
    ∃ H', YieldsA E call ops o (Fk E call ops α H p ops.size) (Hk E call ops α H p ops.size) (valAt E call ops α H i) H' ∧
      put (Fk E call ops α H p ops.size) o.dst (valAt E call ops α H i) = Fk E call ops α H (insP p i) ops.size ∧ H' = Hk E call ops α H (insP p i) ops.size := by
  have hin : i < ops.size := (Array.getElem?_eq_some_iff.1 ho).1
  have hdst : dstAt ops i = o.dst := by simp [dstAt, ho]
  have nb1 : ∀ m, m < i → p m = false → behind ops ops.size i m = false := fun m hm hp => by
    cases h : behind ops ops.size i m with
    | false => rfl
    | true => have := behind_ready hd ho hr _ _ h; rw [hp] at this; cases this
  have nb2 : ∀ m, p m = true → behind ops ops.size m i = false := fun m hp => by
    cases h : behind ops ops.size m i with
    | false => rfl
    | true => have := behind_down hd _ _ _ hp h; rw [hpi] at this; cases this
  replace ap1 : ∀ m om, m < i → p m = false → ops[m]? = some om → om.apart ops o = true ∧ ¬ (kdOf E om.op = .wr ∧ kdOf E o.op = .wr) := fun m om hm hp hom => ap1 m om hm hp (nb1 m hm hp) hom
  replace ap2 : ∀ m om, i < m → p m = true → ops[m]? = some om → o.apart ops om = true ∧ ¬ (kdOf E o.op = .wr ∧ kdOf E om.op = .wr) := fun m om hm hp hom => ap2 m om hm hp (nb2 m hp) hom
  -- the frame
  have hframe : ∀ t, t ∈ o.looksAt ops → Fk E call ops α H p ops.size t = (tr E call ops α H i).1 t := by
    intro t ht
    rw [← Fk_lt (fun m hm => hok m (by omega)) i (Nat.le_refl _), ← Fk_ge ops.size (by omega)]
    refine Fk_agree _ fun m hm hne => ?_
    have hom : ops[m]? = some ops[m] := Array.getElem?_eq_getElem hm
    rcases Nat.lt_trichotomy m i with hlt | heq | hgt
    · have hp : p m = false := by simpa [hlt] using hne
      have := (apart_dst (ap1 m _ hlt hp hom).1).1
      simp only [dstAt, hom, Option.bind_some]
      intro hd'
      exact this t hd' ht
    · subst heq
      simp [hpi] at hne
    · have hp : p m = true := by
        have : decide (m < i) = false := by simp; omega
        rw [this] at hne
        simpa using hne
      have := (apart_dst (ap2 m _ hgt hp hom).1).2.2
      simp only [dstAt, hom, Option.bind_some]
      intro hd'
      exact this t hd' ht
  have hops : ∀ x ∈ o.op.operands, ev (Fk E call ops α H p ops.size) x = ev (tr E call ops α H i).1 x := fun x hx => ev_congr fun t ht => hframe t (by
    subst ht
    exact List.mem_append_left _ (List.mem_filterMap.2 ⟨.tmp t, by simpa using hx, rfl⟩))
  have hstep : ∀ H2, stepOp E call o.op (ev (Fk E call ops α H p ops.size)) H2 = stepOp E call o.op (ev (tr E call ops α H i).1) H2 := fun H2 => stepOp_congr o.op hops H2
  have hwant : wantedA ops o.guard (Fk E call ops α H p ops.size) = wantedA ops o.guard (tr E call ops α H i).1 := by
    unfold wantedA
    cases hg : o.guard with
    | none => rfl
    | some gw =>
      obtain ⟨g, want⟩ := gw
      simp only
      cases ht : (ops[g]?).bind (·.dst) with
      | none => rfl
      | some t => simp only; rw [hframe t (by simp [Oper.looksAt, hg, ht])]
  -- what she does in the text's order
  obtain ⟨o', r, ho', hres, hrd, hwr⟩ := hok i hin
  rw [ho] at ho'
  cases ho'
  have hresAt : resAt E call ops α H i = some r := by simp [resAt, ho, bnd, hres]
  have hval : valAt E call ops α H i = r.2.1 := by simp [valAt, hresAt]
  have hnext : (tr E call ops α H (i + 1)).2 = r.2.2 := by simp only [tr, ho, hres]
  have hput : put (Fk E call ops α H p ops.size) o.dst (valAt E call ops α H i) = Fk E call ops α H (insP p i) ops.size := by
    rw [Fk_insert hpi ops.size, if_pos hin, hdst]
    intro m hm hmn hp d hdd
    have hom : ops[m]? = some ops[m] := Array.getElem?_eq_getElem hmn
    have := (apart_dst (ap2 m _ hm hp hom).1).2.1 d (by rw [← hdst]; exact hdd)
    simpa [dstAt, hom] using this
  have hkeepH : wrAt E call ops α H i = false → Hk E call ops α H (insP p i) ops.size = Hk E call ops α H p ops.size := fun hw => Hk_agree _ fun m hm hmw => by
    by_cases e : m = i
    · subst e; rw [hw] at hmw; cases hmw
    · rw [insP_ne e]
  unfold stepX at hres
  cases hw : wantedA ops o.guard (tr E call ops α H i).1 with
  | none => simp [hw, bnd] at hres
  | some b =>
    simp only [hw, bnd] at hres
    cases b with
    | false =>
      simp only [sel, Bool.false_eq_true, if_false, Option.some.injEq] at hres
      subst hres
      refine ⟨_, .inr ⟨by rw [hwant, hw], hval, rfl⟩, hput, ?_⟩
      rw [hkeepH (by simp [wrAt, hresAt, ho])]
    | true =>
      simp only [sel, if_true] at hres
      cases hs : stepOp E call o.op (ev (tr E call ops α H i).1) (tr E call ops α H i).2 with
      | none => simp [hs] at hres
      | some q =>
        simp only [hs, Option.some.injEq] at hres
        subst hres
        simp only at hval hnext hrd hwr
        cases hk : kdOf E o.op with
        | ins =>
          obtain ⟨_, hall⟩ := ins_same hk hs
          refine ⟨_, .inl ⟨by rw [hwant, hw], ?_⟩, hput, (hkeepH (by simp [wrAt, hresAt, ho, hk])).symm⟩
          rw [hstep, hval]
          exact hall _
        | wr =>
          have hwat : wrAt E call ops α H i = true := by simp [wrAt, hresAt, ho, hk]
          have hheap : Hk E call ops α H p ops.size = (tr E call ops α H i).2 := by
            rw [← Hk_lt (fun m hm => hok m (by omega)) i (Nat.le_refl _), ← Hk_ge ops.size (by omega)]
            refine Hk_agree _ fun m hm hmw => ?_
            obtain ⟨om, rm, hom, hrm, _, _⟩ := hok m hm
            have hmk : kdOf E om.op = .wr := by
              simp only [wrAt, resAt, hom, bnd, hrm, Bool.and_eq_true, decide_eq_true_eq] at hmw
              exact hmw.2
            rcases Nat.lt_trichotomy m i with hlt | heq | hgt
            · cases hp : p m with
              | true => simp [hlt]
              | false => exact absurd ⟨hmk, hk⟩ (ap1 m om hlt hp hom).2
            · subst heq; simp [hpi]
            · cases hp : p m with
              | false => simp; omega
              | true => exact absurd ⟨hk, hmk⟩ (ap2 m om hgt hp hom).2
          refine ⟨q.2, .inl ⟨by rw [hwant, hw], ?_⟩, hput, ?_⟩
          · rw [hstep, hheap, hs, hval]
          · rw [Hk_insert_wr hwat ops.size hin, hnext]
            intro m hm hmn hp
            cases hmw : wrAt E call ops α H m with
            | false => rfl
            | true =>
              obtain ⟨om, rm, hom, hrm, _, _⟩ := hok m hmn
              have hmk : kdOf E om.op = .wr := by
                simp only [wrAt, resAt, hom, bnd, hrm, Bool.and_eq_true, decide_eq_true_eq] at hmw
                exact hmw.2
              exact absurd ⟨hk, hmk⟩ (ap2 m om hm hp hom).2
        | rd =>
          have hsame : q.2 = (tr E call ops α H i).2 := rd_same hk hs
          have hread : ∃ H2, stepOp E call o.op (ev (tr E call ops α H i).1) (Hk E call ops α H p ops.size) = some (q.1, H2) := by
            have look : ∀ a, a ≤ i → (∀ m, a ≤ m → m < i → wrAt E call ops α H m = true → p m = false) → ∃ H2, stepOp E call o.op (ev (tr E call ops α H i).1) (tr E call ops α H a).2 = some (q.1, H2) := by
              intro a ha hno
              rcases firstWr (wrAt E call ops α H) a i with h | ⟨m, h1, h2, h3, h4⟩
              · rw [← tr_const i ha (fun m h1 h2 => hok m (by omega)) h]
                exact ⟨_, hs⟩
              · have hp := hno m h1 h2 h3
                obtain ⟨om, rm, hom, hrm, _, _⟩ := hok m (by omega)
                have hmw : rm.1 = true ∧ kdOf E om.op = .wr := by
                  simpa only [wrAt, resAt, hom, bnd, hrm, Bool.and_eq_true, decide_eq_true_eq] using h3
                rcases hrd trivial hk m om rm h2 hom hrm hmw.1 hmw.2 with h5 | h5
                · rw [nb1 m h2 hp] at h5; cases h5
                · rw [← tr_const m h1 (fun m' a1 a2 => hok m' (by omega)) h4]
                  exact reads_spec h5
            rcases Hk_last (E := E) (call := call) (ops := ops) (α := α) (H := H) (p := p) ops.size with ⟨j, h1, h2, h3, h4, h5⟩ | ⟨h1, h2⟩
            · rw [h4]
              rcases Nat.lt_trichotomy j i with hlt | heq | hgt
              · refine look (j + 1) (by omega) fun m a b c => ?_
                cases hp : p m with
                | false => rfl
                | true => exact absurd ⟨hp, c⟩ (h5 m (by omega) (by omega))
              · subst heq; rw [hpi] at h2; cases h2
              · obtain ⟨oj, rj, hoj, hrj, _, hwj⟩ := hok j h1
                have hjw : rj.1 = true ∧ kdOf E oj.op = .wr := by
                  simpa only [wrAt, resAt, hoj, bnd, hrj, Bool.and_eq_true, decide_eq_true_eq] using h3
                have hjn : (tr E call ops α H (j + 1)).2 = rj.2.2 := by simp only [tr, hoj, hrj]
                rcases hwj hjw.1 hjw.2 i o (true, q.1, q.2) hgt ho (by simp [stepX, hw, bnd, sel, hs]) rfl hk with h6 | h6
                · rw [nb2 j h2] at h6; cases h6
                · rw [hjn]; exact reads_spec h6
            · rw [h2]
              refine look 0 (by omega) fun m a b c => ?_
              cases hp : p m with
              | false => rfl
              | true => exact absurd ⟨hp, c⟩ (h1 m (by omega))
          obtain ⟨H2, h2⟩ := hread
          have h2' := rd_same hk h2
          subst h2'
          refine ⟨_, .inl ⟨by rw [hwant, hw], ?_⟩, hput, (hkeepH (by simp [wrAt, hresAt, ho, hk])).symm⟩
          rw [hstep, hval]
          exact h2

/-- The step of operation i, wherever she stands. -/
theorem step_at (hlex : lexD E ops = true) (hok : ∀ m, m < ops.size → OkAt E call ops α H m) {p : Nat → Bool} (hd : DownP ops p) {i : Nat} {o : Oper} (ho : ops[i]? = some o) (hpi : p i = false)
    (hr : ∀ e ∈ o.after, Region.binds .any e = true → p e.on = true) :
    ∃ H', YieldsA E call ops o (Fk E call ops α H p ops.size) (Hk E call ops α H p ops.size) (valAt E call ops α H i) H' ∧
      put (Fk E call ops α H p ops.size) o.dst (valAt E call ops α H i) = Fk E call ops α H (insP p i) ops.size ∧ H' = Hk E call ops α H (insP p i) ops.size :=
  step_core hok hd ho hpi hr
    (fun m om hm _ hb hom => by
      rcases (lexD_spec hlex ho).2 m om hm hom with h | h
      · rw [hb] at h; cases h
      · exact h)
    (fun m om hm _ hb hom => by
      rcases (lexD_spec hlex hom).2 i o hm ho with h | h
      · rw [hb] at h; cases h
      · exact h)

def cntP (p : Nat → Bool) : Nat → Nat
  | 0 => 0
  | k + 1 => cntP p k + (if p k = true then 0 else 1)

theorem cntP_set {p : Nat → Bool} {i : Nat} (hpi : p i = false) : ∀ k, cntP (insP p i) k + (if i < k then 1 else 0) = cntP p k
  | 0 => by simp [cntP]
  | k + 1 => by
    have ih := cntP_set hpi k
    simp only [cntP]
    rcases Nat.lt_trichotomy k i with hlt | heq | hgt
    · rw [insP_ne (by omega : ¬ k = i), if_neg (by omega : ¬ i < k + 1)]
      rw [if_neg (by omega : ¬ i < k)] at ih
      omega
    · subst heq
      rw [insP_self, if_pos rfl]
      simp only [hpi, Bool.false_eq_true, if_false]
      rw [if_neg (by omega : ¬ k < k)] at ih
      rw [if_pos (by omega : k < k + 1)]
      omega
    · rw [insP_ne (by omega : ¬ k = i), if_pos (by omega : i < k + 1)]
      rw [if_pos hgt] at ih
      omega

theorem cntP_zero {p : Nat → Bool} : ∀ k, cntP p k = 0 → ∀ m, m < k → p m = true
  | 0, _, m, hm => by omega
  | k + 1, h, m, hm => by
    simp only [cntP] at h
    by_cases e : m = k
    · subst e
      cases hp : p m with
      | true => rfl
      | false => simp [hp] at h
    · exact cntP_zero k (by omega) m (by omega)

theorem cntP_all {p : Nat → Bool} : ∀ k, (∀ m, m < k → p m = true) → cntP p k = 0
  | 0, _ => rfl
  | k + 1, h => by simp [cntP, h k (by omega), cntP_all k fun m hm => h m (by omega)]

theorem wpAny_trace (hlex : lexD E ops = true) (hok : ∀ m, m < ops.size → OkAt E call ops α H m) {Q : Frm → AHeap → Prop} (hQ : Q (tr E call ops α H ops.size).1 (tr E call ops α H ops.size).2) : ∀ (fuel : Nat) (listed : Array Bool), listed.size = ops.size →
    DownP ops (fun m => listed.getD m false) → cntP (fun m => listed.getD m false) ops.size = fuel → wpAnyA E call ops Q fuel listed (Fk E call ops α H (fun m => listed.getD m false) ops.size) (Hk E call ops α H (fun m => listed.getD m false) ops.size) := by
  have hpn : ∀ listed : Array Bool, listed.size = ops.size → ∀ m, listed.getD m false = true → m < ops.size := fun listed hs m h => by
    rcases Nat.lt_or_ge m listed.size with h' | h'
    · omega
    · simp [Array.getElem?_eq_none h'] at h
  have hrd : ∀ listed : Array Bool, listed.size = ops.size → ∀ m, m < ops.size → listed.getD m true = listed.getD m false := fun listed hs m hm => by
    have : m < listed.size := by omega
    simp [this]
  intro fuel
  induction fuel with
  | zero =>
    intro listed hs hd hc
    have hall := cntP_zero _ hc
    refine ⟨?_, ?_⟩
    · rw [List.eq_nil_iff_forall_not_mem]
      intro j hj
      obtain ⟨h1, o, ho, _⟩ := mem_ready.1 hj
      have hlt : j < ops.size := (Array.getElem?_eq_some_iff.1 ho).1
      have h2 : listed.getD j false = true := hall j hlt
      rw [hrd listed hs j hlt, h2] at h1
      cases h1
    · have e1 : Fk E call ops α H (fun m => listed.getD m false) ops.size = (tr E call ops α H ops.size).1 := by
        rw [← Fk_lt hok ops.size (Nat.le_refl _)]
        funext t
        refine Fk_agree _ fun m hm hne => ?_
        have : listed.getD m false = true := hall m hm
        simp [this, hm] at hne
      have e2 : Hk E call ops α H (fun m => listed.getD m false) ops.size = (tr E call ops α H ops.size).2 := by
        rw [← Hk_lt hok ops.size (Nat.le_refl _)]
        refine Hk_agree _ fun m hm _ => ?_
        have : listed.getD m false = true := hall m hm
        simp [this, hm]
      rw [e1, e2]
      exact hQ
  | succ fuel ih =>
    intro listed hs hd hc
    refine ⟨fun hnil => ?_, fun i hi => ?_⟩
    · exfalso
      rcases firstWr (fun m => !listed.getD m false) 0 ops.size with h | ⟨m, _, h2, h3, h4⟩
      · have := cntP_all (p := fun m => listed.getD m false) ops.size fun m hm => by have := h m (by omega) hm; simpa using this
        omega
      · have hom : ops[m]? = some ops[m] := Array.getElem?_eq_getElem h2
        have : m ∈ Region.ready .any ops listed := mem_ready.2 ⟨by rw [hrd listed hs m h2]; simpa using h3, _, hom, fun e he hb => by
          have := h4 e.on (by omega) ((lexD_spec hlex hom).1 e he hb)
          simpa using this⟩
        rw [hnil] at this
        cases this
    · obtain ⟨h1, o, ho, hall⟩ := mem_ready.1 hi
      have hin : i < ops.size := (Array.getElem?_eq_some_iff.1 ho).1
      rw [hrd listed hs i hin] at h1
      obtain ⟨H', hy, hput, hH⟩ := step_at (call := call) (α := α) (H := H) hlex hok hd ho h1 hall
      have hset : (fun m => (listed.setIfInBounds i true).getD m false) = insP (fun m => listed.getD m false) i := by
        funext m
        by_cases e : m = i
        · subst e
          have : m < listed.size := by omega
          simp [this, insP]
        · rw [insP_ne e]
          exact getD_set_ne false (Ne.symm e)
      refine hy.stepA ho ?_
      rw [hput, hH]
      have := ih (listed.setIfInBounds i true) (by simp [hs]) (by
        rw [hset]
        intro j oj e hj hoj he hb
        by_cases e1 : e.on = i
        · rw [e1]; exact insP_self _ _
        · rw [insP_ne e1]
          by_cases e2 : j = i
          · subst e2
            rw [ho] at hoj; cases hoj
            exact hall e he hb
          · rw [insP_ne e2] at hj
            exact hd j oj e hj hoj he hb) (by
        rw [hset]
        have := cntP_set (p := fun m => listed.getD m false) h1 ops.size
        rw [if_pos hin] at this
        omega)
      rw [hset] at this
      exact this

/-- The run in the text's order serves every order. -/
theorem dyn_any (hlex : lexD E ops = true) {α' : Frm} {H' : AHeap} (h : execOpsD E call ops 0 ops.toList [] [] α H = some (α', H')) {Q : Frm → AHeap → Prop} (hQ : Q α' H') : wpAnyA E call ops Q ops.size (Array.replicate ops.size false) α H := by
  obtain ⟨hok, htr⟩ := okD (E := E) (call := call) (ops := ops) (α := α) (H := H) ops.toList 0 [] [] α' H' (by simp) (by simp) (fun i _ _ hi => absurd hi (by omega)) (fun i _ _ hi => absurd hi (by omega)) h
  have hrep : ∀ m : Nat, (Array.replicate ops.size false).getD m false = false := fun m => by
    by_cases hm : m < ops.size
    · simp [hm]
    · simp [hm]
  have hp : (fun m => (Array.replicate ops.size false).getD m false) = fun _ => false := by funext m; exact hrep m
  have := wpAny_trace (call := call) (α := α) (H := H) hlex (fun m hm => hok m (by omega) hm) (Q := Q) (by rw [htr]; exact hQ) ops.size (Array.replicate ops.size false) (by simp) (by rw [hp]; intro j o e hj; cases hj) (by
    rw [hp]
    have : ∀ k, cntP (fun _ => false) k = k := fun k => by
      induction k with
      | zero => rfl
      | succ k ih => simp [cntP, ih]
    exact this _)
  rw [hp] at this
  have hF : ∀ k, Fk E call ops α H (fun _ => false) k = α := fun k => by
    induction k with
    | zero => rfl
    | succ k ih => simp [Fk, ih]
  have hH : ∀ k, Hk E call ops α H (fun _ => false) k = H := fun k => by
    induction k with
    | zero => rfl
    | succ k ih => simp [Hk, ih]
  rw [hF, hH] at this
  exact this

end
end Go.Ab

/- Frames and operations, against the model. -/
namespace Go.Ab
set_option linter.unusedVariables false
open Go Go.RowKit

/-- A frame against the model's. -/
structure RelF (σ : St) (n : Nat) (ds : List Deferred) (a : Act) (α : Frm) : Prop where
  size : a.tmps.size = n
  rep : ∀ i, Rep σ (α i) (a.tmps.getD i undef)
  defers : a.defers = ds

section
variable {P : Program} {B : Nat → Prop} {W0 : World} {H H' : AHeap} {σ σ' : St} {w w' : World} {n : Nat} {a : Act} {α : Frm} {E : Env} {call : CallO} {ops : Array Oper} {ds : List Deferred}

theorem RelF.mono (h : RelF σ n ds a α) (hle : σ.le σ') : RelF σ' n ds a α := ⟨h.size, fun i => (h.rep i).mono hle, h.defers⟩

theorem RelF.eval (h : RelF σ n ds a α) (x : Operand) : Rep σ (ev α x) (a.eval x) := by
  cases x with
  | tmp t => exact h.rep t
  | const v => exact Rep.ofV v
  | global g => simp [ev, Act.eval, Rep]
  | func f => simp [ev, Act.eval, Rep, RepL]

theorem RelF.put (h : RelF σ n ds a α) {dst : Option Tmp} (hd : ∀ d, dst = some d → d < n) {v : AV} {u : Value} (hr : Rep σ v u) : RelF σ n ds (a.put dst u) (Ab.put α dst v) := by
  cases dst with
  | none => exact h
  | some d =>
    have hdn := hd d rfl
    refine ⟨by simp [Act.put, h.size], fun i => ?_, h.defers⟩
    simp only [Act.put, Ab.put]
    by_cases hi : i = d
    · subst hi
      rw [if_pos rfl]
      simpa [h.size, hdn] using hr
    · rw [if_neg hi]
      have := h.rep i
      simpa [Array.getElem?_setIfInBounds_ne (Ne.symm hi)] using this

theorem undefA_rep : Rep σ undefA undef := by simp [undefA, Rep, undef]

theorem wanted_rel (h : RelF σ n ds a α) {o : Oper} {b : Bool} (hw : wantedA ops o.guard α = some b) : Region.wanted o (yielded ops a.tmps) = b := by
  unfold wantedA at hw
  unfold Region.wanted
  cases hg : o.guard with
  | none => simp [hg] at hw; simp [hw]
  | some gw =>
    obtain ⟨j, want⟩ := gw
    simp only [hg] at hw ⊢
    cases hd : (ops[j]?).bind (·.dst) with
    | none => simp [hd] at hw
    | some d =>
      simp only [hd] at hw
      have hr := h.rep d
      unfold yielded
      rw [hd]
      simp only [Option.bind_some]
      split at hw
      · rename_i c hc
        simp only [hc, Rep] at hr
        simp only [Option.some.injEq] at hw
        have : a.tmps[d]? = some (.bool c) := by
          cases ht : a.tmps[d]? with
          | none => simp [ht, undef] at hr
          | some x => simp [ht] at hr; rw [hr]
        simp only [this]
        rw [← hw]
        cases c <;> cases want <;> rfl
      · rename_i vs hc
        simp only [hc, Rep] at hr
        simp only [Option.some.injEq] at hw
        subst hw
        cases ht : a.tmps[d]? with
        | none => rfl
        | some x => simp [ht] at hr; subst hr; rfl
      · cases hw

/-- What is known behind a piece of code. -/
def Post (P : Program) (B : Nat → Prop) (W0 : World) (σ : St) (n : Nat) (ds : List Deferred) (α' : Frm) (H' : AHeap) (a' : Act) (w' : World) : Prop :=
  ∃ σ', Ext B σ σ' ∧ Sim P B W0 H' σ' w' ∧ RelF σ' n ds a' α'

theorem Post.trans {α' : Frm} {a' : Act} (he : Ext B σ σ') (h : Post P B W0 σ' n ds α' H' a' w') : Post P B W0 σ n ds α' H' a' w' := by
  obtain ⟨σ2, h1, h2, h3⟩ := h
  exact ⟨σ2, he.trans h1, h2, h3⟩

/-- One operation that is wanted: the model's rule for it. -/
theorem wp_of_uponA {o : Oper} {K : Act → World → Prop} {Q : Exit → Act → World → Prop} {R : Value → World → Prop} (h : UponA P ((execOp a.eval o).run P w) R) (hK : ∀ u w', R u w' → K (a.put o.dst u) w') : o.wp P a w K Q := by
  unfold Oper.wp
  generalize (execOp a.eval o).run P w = r at h
  cases r with
  | ok nx w1 =>
    cases nx <;> simp only [UponA] at h
    case value u => exact hK _ _ h
    case skip => exact hK _ _ h
    case enter f args =>
      refine Calls.mono h ?_
      rintro e w2 ⟨u, rfl, hr⟩
      exact hK _ _ hr
  | halt x w1 => simp only [UponA] at h

theorem ops_sound (hc : CallOk E.P call) {Q : Exit → Act → World → Prop} {α' : Frm} {H' : AHeap} : ∀ (l : List Oper) (α : Frm) (H : AHeap) (σ : St) (a : Act) (w : World),
    execOps E call ops l α H = some (α', H') → Sim E.P B W0 H σ w → RelF σ n ds a α → (∀ o ∈ l, ∀ d, o.dst = some d → d < n) →
    (∀ a' w', Post E.P B W0 σ n ds α' H' a' w' → Q .normal a' w') → wpList E.P ops Q l a w
  | [], α, H, σ, a, w, he, hs, hr, _, hQ => by
    simp only [execOps, Option.some.injEq, Prod.mk.injEq] at he
    obtain ⟨rfl, rfl⟩ := he
    exact hQ a w ⟨σ, Ext.refl _ _, hs, hr⟩
  | o :: l, α, H, σ, a, w, he, hs, hr, hd, hQ => by
    simp only [execOps, bnd] at he
    have hd' : ∀ o ∈ l, ∀ d, o.dst = some d → d < n := fun o ho => hd o (by simp [ho])
    cases hw : wantedA ops o.guard α with
    | none => simp [hw] at he
    | some b =>
      simp only [hw] at he
      have hwc := wanted_rel hr hw
      simp only [wpList, hwc]
      cases b with
      | true =>
        simp only [sel, if_true] at he
        cases hst : stepOp E call o.op (ev α) H with
        | none => simp [hst] at he
        | some p =>
          obtain ⟨v, H1⟩ := p
          simp only [hst] at he
          simp only [if_true]
          refine .inl (wp_of_uponA (stepOp_sound hs hc o (ev α) a.eval (fun x _ => hr.eval x) hst) ?_)
          rintro u w1 ⟨σ1, hext, hsim, hrep⟩
          exact ops_sound hc l _ _ σ1 _ _ he hsim ((hr.mono hext.le).put (hd o (by simp)) hrep) hd' fun a' w' hp => hQ a' w' (hp.trans hext)
      | false =>
        simp only [sel, Bool.false_eq_true, if_false] at he ⊢
        exact ops_sound hc l _ _ σ _ _ he hs (hr.put (hd o (by simp)) undefA_rep) hd' hQ

theorem stepA_sound (hc : CallOk E.P call) {i : Nat} {K : Frm → AHeap → Prop} {K' : Act → World → Prop} {Q : Exit → Act → World → Prop} (hs : Sim E.P B W0 H σ w) (hr : RelF σ n ds a α) (hd : ∀ o, ops[i]? = some o → ∀ d, o.dst = some d → d < n)
    (h : stepA E call ops i α H K) (hK : ∀ α' H' a' w' σ', Ext B σ σ' → Sim E.P B W0 H' σ' w' → RelF σ' n ds a' α' → K α' H' → K' a' w') : wpOp E.P ops Q i K' a w := by
  unfold stepA at h
  unfold wpOp
  split
  · rename_i ho; simp only [ho] at h; exact hK _ _ _ _ σ (Ext.refl _ _) hs hr h
  · rename_i o ho
    simp only [ho] at h
    split at h
    · rename_i hw
      obtain ⟨v, H1, hst, hk⟩ := h
      rw [if_pos (wanted_rel hr hw)]
      refine .inl (wp_of_uponA (stepOp_sound hs hc o (ev α) a.eval (fun x _ => hr.eval x) hst) ?_)
      rintro u w1 ⟨σ1, hext, hsim, hrep⟩
      exact hK _ _ _ _ σ1 hext hsim ((hr.mono hext.le).put (hd o ho) hrep) hk
    · rename_i hw
      rw [if_neg (by rw [wanted_rel hr hw]; simp)]
      exact hK _ _ _ _ σ (Ext.refl _ _) hs (hr.put (hd o ho) undefA_rep) h
    · cases h

theorem any_sound (hc : CallOk E.P call) {QA : Frm → AHeap → Prop} {Q : Exit → Act → World → Prop} (hd : ∀ (i : Nat) (o : Oper), ops[i]? = some o → ∀ d, o.dst = some d → d < n) : ∀ (fuel : Nat) (listed : Array Bool) (α : Frm) (H : AHeap) (σ : St) (a : Act) (w : World),
    wpAnyA E call ops QA fuel listed α H → Sim E.P B W0 H σ w → RelF σ n ds a α →
    (∀ α' H' a' w' σ', Ext B σ σ' → Sim E.P B W0 H' σ' w' → RelF σ' n ds a' α' → QA α' H' → Q .normal a' w') → wpAny E.P .any ops Q fuel listed a w
  | 0, listed, α, H, σ, a, w, h, hs, hr, hQ => ⟨h.1, hQ _ _ _ _ σ (Ext.refl _ _) hs hr h.2⟩
  | fuel + 1, listed, α, H, σ, a, w, h, hs, hr, hQ =>
    ⟨fun h0 => hQ _ _ _ _ σ (Ext.refl _ _) hs hr (h.1 h0), fun i hi => stepA_sound hc hs hr (hd i) (h.2 i hi) fun α' H' a' w' σ' hext hsim hrel hk =>
      any_sound hc hd fuel _ α' H' σ' a' w' hk hsim hrel fun α2 H2 a2 w2 σ2 e2 s2 r2 q2 => hQ _ _ _ _ σ2 (hext.trans e2) s2 r2 q2⟩

theorem Sim.drew (h : Sim P B W0 H σ w) : Sim P B W0 H σ { w with drawn := w.drawn + 1 } := by
  refine ⟨h.below.drew, h.base, h.cells, h.one, h.fresh, h.keys, ?_, h.inj⟩
  intro id x hx
  exact (h.obj id x hx).keep σ.le_refl (fun b _ => ⟨rfl, fun _ => rfl⟩) (fun _ => rfl)


end
end Go.Ab

/- A region that draws, in which one variable is laid beside a call: she may be laid ahead of the call, and lies hidden till the text's order comes to her. -/
namespace Go.Ab
set_option linter.unusedVariables false
set_option linter.unusedSimpArgs false
open Go Go.RowKit

def isAl (o : Oper) : Bool := match o.op, o.guard, o.dst with | .alloc _, none, some _ => true | _, _, _ => false

/-- What the text of such a region must be like: i0 lays the variable. -/
def lexA (E : Env) (ops : Array Oper) (i0 : Nat) : Bool :=
  (match ops[i0]? with | some o => isAl o | none => false) &&
  ((List.range ops.size).all fun k => match ops[k]? with
    | some o => o.after.all (fun e => !Region.binds .any e || decide (e.on < k)) &&
        (List.range k).all fun i => behind ops ops.size k i || match ops[i]? with
          | some oi => oi.apart ops o && (!(kdOf E oi.op == .wr && kdOf E o.op == .wr) || k == i0)
          | none => false
    | none => false) &&
  ((List.range ops.size).all fun j => !behind ops ops.size j i0 || (List.range i0).all fun m => match ops[m]? with
    | some om => !(kdOf E om.op == .wr) || behind ops ops.size j m
    | none => true)

section
variable {P : Program} {B : Nat → Prop} {W0 : World} {H : AHeap} {σ σ' : St} {w w' : World} {n : Nat} {a : Act} {α : Frm} {E : Env} {call : CallO} {ops : Array Oper} {ds : List Deferred} {i0 : Nat}

theorem lexA_al (h : lexA E ops i0 = true) : ∃ o t d, ops[i0]? = some o ∧ o.op = .alloc t ∧ o.guard = none ∧ o.dst = some d := by
  unfold lexA at h
  simp only [Bool.and_eq_true] at h
  have h1 := h.1.1
  split at h1
  · rename_i o ho
    unfold isAl at h1
    split at h1
    · rename_i t d e1 e2 e3
      exact ⟨o, t, d, ho, e1, e2, e3⟩
    · cases h1
  · cases h1

theorem lexA_spec (h : lexA E ops i0 = true) {k : Nat} {o : Oper} (ho : ops[k]? = some o) : (∀ e ∈ o.after, Region.binds .any e = true → e.on < k) ∧
    ∀ i oi, i < k → ops[i]? = some oi → behind ops ops.size k i = true ∨ (oi.apart ops o = true ∧ (¬ (kdOf E oi.op = .wr ∧ kdOf E o.op = .wr) ∨ k = i0)) := by
  unfold lexA at h
  simp only [Bool.and_eq_true] at h
  have h1 := h.1.2
  rw [List.all_eq_true] at h1
  have hlt : k < ops.size := (Array.getElem?_eq_some_iff.1 ho).1
  have hk := h1 k (List.mem_range.2 hlt)
  simp only [ho, Bool.and_eq_true, List.all_eq_true, List.mem_range, Bool.or_eq_true] at hk
  obtain ⟨g1, g2⟩ := hk
  refine ⟨fun e he hb => ?_, fun i oi hi hoi => ?_⟩
  · have := Array.all_eq_true_iff_forall_mem.1 g1 e he
    simp only [hb, Bool.not_true, Bool.false_or, decide_eq_true_eq] at this
    exact this
  · rcases g2 i hi with h3 | h3
    · exact .inl h3
    · right
      simp only [hoi, Bool.and_eq_true, Bool.or_eq_true, Bool.not_eq_true', Bool.and_eq_false_iff, beq_eq_false_iff_ne, beq_iff_eq] at h3
      refine ⟨h3.1, ?_⟩
      rcases h3.2 with h4 | h4
      · left
        rintro ⟨a, b⟩
        rcases h4 with h4 | h4
        · exact h4 a
        · exact h4 b
      · exact .inr h4

theorem lexA_dep (h : lexA E ops i0 = true) {j m : Nat} {om : Oper} (hj : j < ops.size) (hb : behind ops ops.size j i0 = true) (hm : m < i0) (hom : ops[m]? = some om) (hw : kdOf E om.op = .wr) : behind ops ops.size j m = true := by
  unfold lexA at h
  simp only [Bool.and_eq_true] at h
  have h1 := List.all_eq_true.1 h.2 j (List.mem_range.2 hj)
  simp only [hb, Bool.not_true, Bool.false_or, List.all_eq_true, List.mem_range] at h1
  have h2 := h1 m hm
  simp only [hom, hw, BEq.rfl, Bool.not_true, Bool.false_or] at h2
  exact h2

/-- A frame against the model's, but for one slot. -/
structure RelX (σ : St) (n : Nat) (ds : List Deferred) (d0 : Tmp) (a : Act) (α : Frm) : Prop where
  size : a.tmps.size = n
  rep : ∀ i, i ≠ d0 → Rep σ (α i) (a.tmps.getD i undef)
  defers : a.defers = ds

theorem RelX.mono {d0 : Tmp} (h : RelX σ n ds d0 a α) (hle : σ.le σ') : RelX σ' n ds d0 a α := ⟨h.size, fun i hi => (h.rep i hi).mono hle, h.defers⟩

theorem RelX.put {d0 : Tmp} (h : RelX σ n ds d0 a α) {dst : Option Tmp} (hd : ∀ d, dst = some d → d < n) {v : AV} {u : Value} (hr : Rep σ v u) : RelX σ n ds d0 (a.put dst u) (Ab.put α dst v) := by
  cases dst with
  | none => exact h
  | some d =>
    have hdn := hd d rfl
    refine ⟨by simp [Act.put, h.size], fun i hi0 => ?_, h.defers⟩
    simp only [Act.put, Ab.put]
    by_cases hi : i = d
    · subst hi
      rw [if_pos rfl]
      simpa [h.size, hdn] using hr
    · rw [if_neg hi]
      have := h.rep i hi0
      simpa [Array.getElem?_setIfInBounds_ne (Ne.symm hi)] using this

theorem wanted_relX {o : Oper} (hrep : ∀ g w, o.guard = some (g, w) → ∀ d, (ops[g]?).bind (·.dst) = some d → Rep σ (α d) (a.tmps.getD d undef)) {b : Bool} (hw : wantedA ops o.guard α = some b) : Region.wanted o (yielded ops a.tmps) = b := by
  unfold wantedA at hw
  unfold Region.wanted
  cases hg : o.guard with
  | none => simp [hg] at hw; simp [hw]
  | some gw =>
    obtain ⟨j, want⟩ := gw
    simp only [hg] at hw ⊢
    cases hd : (ops[j]?).bind (·.dst) with
    | none => simp [hd] at hw
    | some d =>
      simp only [hd] at hw
      have hr := hrep j want hg d hd
      unfold yielded
      rw [hd]
      simp only [Option.bind_some]
      split at hw
      · rename_i c hc
        simp only [hc, Rep] at hr
        simp only [Option.some.injEq] at hw
        have : a.tmps[d]? = some (.bool c) := by
          cases ht : a.tmps[d]? with
          | none => simp [ht, undef] at hr
          | some x => simp [ht] at hr; rw [hr]
        simp only [this]
        rw [← hw]
        cases c <;> cases want <;> rfl
      · rename_i vs hc
        simp only [hc, Rep] at hr
        simp only [Option.some.injEq] at hw
        subst hw
        cases ht : a.tmps[d]? with
        | none => rfl
        | some x => simp [ht] at hr; subst hr; rfl
      · cases hw

/-- One operation that does not look at the hidden slot. -/
theorem yields_sound (hc : CallOk E.P call) {d0 : Tmp} {o : Oper} {i : Nat} (ho : ops[i]? = some o) (hs : Sim E.P B W0 H σ w) (hr : RelX σ n ds d0 a α) (hd : ∀ d, o.dst = some d → d < n) (hlook : d0 ∉ o.looksAt ops) {v : AV} {H' : AHeap}
    (hy : YieldsA E call ops o α H v H') {K : Act → World → Prop} {Q : Exit → Act → World → Prop} (hK : ∀ u w' σ', Ext B σ σ' → Sim E.P B W0 H' σ' w' → RelX σ' n ds d0 (a.put o.dst u) (put α o.dst v) → K (a.put o.dst u) w') : wpOp E.P ops Q i K a w := by
  have hguard : ∀ g w', o.guard = some (g, w') → ∀ d, (ops[g]?).bind (·.dst) = some d → Rep σ (α d) (a.tmps.getD d undef) := fun g w' hg d hgd => hr.rep d (by
    rintro rfl
    exact hlook (by simp [Oper.looksAt, hg, hgd]))
  have hev : ∀ x ∈ o.op.operands, Rep σ (ev α x) (a.eval x) := fun x hx => by
    cases x with
    | tmp t => exact hr.rep t (by
        rintro rfl
        exact hlook (List.mem_append_left _ (List.mem_filterMap.2 ⟨.tmp t, by simpa using hx, rfl⟩)))
    | const v => exact Rep.ofV v
    | global g => simp [ev, Act.eval, Rep]
    | func f => simp [ev, Act.eval, Rep, RepL]
  unfold wpOp
  rw [ho]
  simp only
  rcases hy with ⟨hw, hst⟩ | ⟨hw, rfl, rfl⟩
  · rw [if_pos (wanted_relX hguard hw)]
    refine .inl (wp_of_uponA (stepOp_sound hs hc o (ev α) a.eval hev hst) ?_)
    rintro u w1 ⟨σ1, hext, hsim, hrep⟩
    exact hK u w1 σ1 hext hsim ((hr.mono hext.le).put hd hrep)
  · rw [if_neg (by rw [wanted_relX hguard hw]; simp)]
    exact hK _ _ σ (Ext.refl _ _) hs (hr.put hd undefA_rep)

/-- One operation, with nothing hidden. -/
theorem yieldsF_sound (hc : CallOk E.P call) {o : Oper} {i : Nat} (ho : ops[i]? = some o) (hs : Sim E.P B W0 H σ w) (hr : RelF σ n ds a α) (hd : ∀ d, o.dst = some d → d < n) {v : AV} {H' : AHeap}
    (hy : YieldsA E call ops o α H v H') {K : Act → World → Prop} {Q : Exit → Act → World → Prop} (hK : ∀ u w' σ', Ext B σ σ' → Sim E.P B W0 H' σ' w' → RelF σ' n ds (a.put o.dst u) (put α o.dst v) → K (a.put o.dst u) w') : wpOp E.P ops Q i K a w := by
  unfold wpOp
  rw [ho]
  simp only
  rcases hy with ⟨hw, hst⟩ | ⟨hw, rfl, rfl⟩
  · rw [if_pos (wanted_rel hr hw)]
    refine .inl (wp_of_uponA (stepOp_sound hs hc o (ev α) a.eval (fun x _ => hr.eval x) hst) ?_)
    rintro u w1 ⟨σ1, hext, hsim, hrep⟩
    exact hK u w1 σ1 hext hsim ((hr.mono hext.le).put hd hrep)
  · rw [if_neg (by rw [wanted_rel hr hw]; simp)]
    exact hK _ _ σ (Ext.refl _ _) hs (hr.put hd undefA_rep)

theorem RelF.toX (h : RelF σ n ds a α) (d0 : Tmp) : RelX σ n ds d0 a α := ⟨h.size, fun i _ => h.rep i, h.defers⟩

def remP (p : Nat → Bool) (i : Nat) : Nat → Bool := fun m => if m = i then false else p m
theorem remP_self (p : Nat → Bool) (i : Nat) : remP p i i = false := by simp [remP]
theorem remP_ne {p : Nat → Bool} {i m : Nat} (h : ¬ m = i) : remP p i m = p m := by simp [remP, h]
theorem remP_true {p : Nat → Bool} {i m : Nat} (h : remP p i m = true) : m ≠ i ∧ p m = true := by
  unfold remP at h
  split at h
  · cases h
  · rename_i e; exact ⟨e, h⟩

/-- All writes ahead of i0 are made. -/
def AllWr (E : Env) (ops : Array Oper) (i0 : Nat) (p : Nat → Bool) : Prop := ∀ m om, m < i0 → ops[m]? = some om → kdOf E om.op = .wr → p m = true

/-- A state in which no variable is hidden. -/
def NormS (E : Env) (call : CallO) (ops : Array Oper) (α0 : Frm) (H0 : AHeap) (B : Nat → Prop) (W0 : World) (σ : St) (n : Nat) (ds : List Deferred) (i0 : Nat) (p : Nat → Bool) (a : Act) (w : World) : Prop :=
  (p i0 = true → AllWr E ops i0 p) ∧ ∃ σ1, Ext B σ σ1 ∧ Sim E.P B W0 (Hk E call ops α0 H0 p ops.size) σ1 w ∧ RelF σ1 n ds a (Fk E call ops α0 H0 p ops.size)

/-- A state in which i0's variable is laid already, and hidden. -/
def PendS (E : Env) (call : CallO) (ops : Array Oper) (α0 : Frm) (H0 : AHeap) (B : Nat → Prop) (W0 : World) (σ : St) (n : Nat) (ds : List Deferred) (i0 : Nat) (d0 : Tmp) (t0 : TypeId) (zv : Value) (p : Nat → Bool) (a : Act) (w : World) : Prop :=
  p i0 = true ∧ ¬ AllWr E ops i0 p ∧ ∃ σ1 b W1, Ext B σ σ1 ∧ BelowS B W0 W1 ∧ Base E.P B W0 ∧ ¬ B b ∧ W1.heap[b]? = some (.cells zv.cells t0 (0, 0)) ∧ (∀ o, σ1.cells b o = none) ∧
    Sim E.P (fun k => B k ∨ k = b) W1 (Hk E call ops α0 H0 (remP p i0) ops.size) σ1 w ∧ RelX σ1 n ds d0 a (Fk E call ops α0 H0 (remP p i0) ops.size) ∧ a.tmps.getD d0 undef = .pointer (some ⟨b, 0, none⟩)

theorem Ext.sub {A : Nat → Prop} {σ σ' : St} (h : Ext B σ σ') (k : ∀ i, A i → B i) : Ext A σ σ' := ⟨h.le, fun b o hb => h.old b o (k b hb)⟩

/-- A new block is hidden. -/
theorem Sim.hide (hs : Sim P B W0 H σ w) (o : Obj) : Sim P (fun k => B k ∨ k = w.heap.size) (w.alloc o) H σ (w.alloc o) := by
  have hold : ∀ b, b < w.heap.size → (w.alloc o).heap[b]? = w.heap[b]? := fun b hb => heap_old w o hb
  have hsz : (w.alloc o).heap.size = w.heap.size + 1 := by show (w.heap.push o).size = _; simp
  refine ⟨BelowS.refl _ _, ⟨fun k hk => ?_, fun b' o' p hk => ?_⟩, fun b' o' v h => ?_, hs.one, hs.fresh, hs.keys, fun id x hx => ?_, hs.inj⟩
  · rw [hsz]
    rcases hk with hk | rfl
    · have := hs.size k hk; omega
    · omega
  · obtain ⟨hB, _⟩ := hs.base.tab b' o' p hk
    obtain ⟨_, v, hv, hp⟩ := hs.baseNow.tab b' o' p hk
    refine ⟨.inl hB, v, ?_, hp⟩
    rw [cell_of_heap (hold b' (hs.size b' hB))]
    exact hv
  · rw [cell_of_heap (hold b' (hs.cells_lt h))]; exact hs.cells b' o' v h
  · have ho := hs.obj id x hx
    have hk : ObjOk P B σ (w.alloc o) id x := ho.keep σ.le_refl (fun b hb => ⟨hold b (by
      obtain ⟨b', hb', _, hlt⟩ := ho.blk
      rw [hb] at hb'; cases hb'; exact hlt), fun _ => rfl⟩) (fun _ => rfl)
    obtain ⟨bb, hb1, _, hblt⟩ := ho.blk
    have up : ∀ {b : Nat}, blk σ id x = some b → ¬ B b → ¬ (B b ∨ b = w.heap.size) := fun {b} hb hn => by
      rintro (h | rfl)
      · exact hn h
      · rw [hb1] at hb; cases hb; omega
    cases x with
    | cells te cs => obtain ⟨b, c, e, h1, h2, h3⟩ := hk; exact ⟨b, c, e, h1, up h1 h2, h3⟩
    | tip m et => obtain ⟨b, cap, c, s, h1, h2, h3⟩ := hk; exact ⟨b, cap, c, s, h1, up (by simp [Ab.blk, h1]) h2, h3⟩
    | row m et s cs => obtain ⟨b, cap, c, h1, h1', h2, h3⟩ := hk; exact ⟨b, cap, c, h1, h1', up h1 h2, h3⟩
    | map es cl => obtain ⟨b, ms, h1, h2, h3⟩ := hk; exact ⟨b, ms, h1, up h1 h2, h3⟩

/-- What was hidden is hidden no more. -/
theorem Sim.unhide {b : Nat} {W1 : World} (hs : Sim P (fun k => B k ∨ k = b) W1 H σ w) (hbel : BelowS B W0 W1) (hbase : Base P B W0) : Sim P B W0 H σ w ∧ (∀ id x, H.get id = some x → blk σ id x ≠ some b) := by
  refine ⟨⟨hbel.trans (hs.below.mono fun i hi => .inl hi), hbase, hs.cells, hs.one, hs.fresh, hs.keys, fun id x hx => ?_, hs.inj⟩, fun id x hx he => ?_⟩
  · have hk := hs.obj id x hx
    cases x with
    | cells te cs => obtain ⟨b, c, e, h1, h2, h3⟩ := hk; exact ⟨b, c, e, h1, fun h => h2 (.inl h), h3⟩
    | tip m et => obtain ⟨b, cap, c, s, h1, h2, h3⟩ := hk; exact ⟨b, cap, c, s, h1, fun h => h2 (.inl h), h3⟩
    | row m et s cs => obtain ⟨b, cap, c, h1, h1', h2, h3⟩ := hk; exact ⟨b, cap, c, h1, h1', fun h => h2 (.inl h), h3⟩
    | map es cl => obtain ⟨b, ms, h1, h2, h3⟩ := hk; exact ⟨b, ms, h1, fun h => h2 (.inl h), h3⟩
  · obtain ⟨b', hb', hn, _⟩ := (hs.obj id x hx).blk
    rw [he] at hb'
    cases hb'
    exact hn (.inr rfl)

section
variable {α0 : Frm} {H0 : AHeap} {o0 : Oper} {t0 : TypeId} {d0 : Tmp} {zv : Value}

theorem wr_kd {m : Nat} {om : Oper} (hom : ops[m]? = some om) (h : wrAt E call ops α0 H0 m = true) : kdOf E om.op = .wr := by
  unfold wrAt at h
  split at h
  · rename_i r o hr ho
    rw [hom] at ho
    cases ho
    simp only [Bool.and_eq_true, decide_eq_true_eq] at h
    exact h.2
  · cases h

/-- What lies behind i0 is not made while she is hidden. -/
theorem no_dep (hlex : lexA E ops i0 = true) {p : Nat → Bool} (hd : DownP ops p) (hna : ¬ AllWr E ops i0 p) {j : Nat} (hj : j < ops.size) (hpj : p j = true) : behind ops ops.size j i0 = false := by
  cases hb : behind ops ops.size j i0 with
  | false => rfl
  | true =>
    exfalso
    apply hna
    intro m om hm hom hw
    exact behind_down hd _ _ _ hpj (lexA_dep hlex hj hb hm hom hw)

theorem no_dep_ready (hlex : lexA E ops i0 = true) {p : Nat → Bool} (hd : DownP ops p) (hna : ¬ AllWr E ops i0 p) {j : Nat} {o : Oper} (ho : ops[j]? = some o) (hr : ∀ e ∈ o.after, Region.binds .any e = true → p e.on = true) : behind ops ops.size j i0 = false := by
  cases hb : behind ops ops.size j i0 with
  | false => rfl
  | true =>
    exfalso
    apply hna
    intro m om hm hom hw
    exact behind_ready hd ho hr _ _ (lexA_dep hlex (Array.getElem?_eq_some_iff.1 ho).1 hb hm hom hw)

theorem al_step (hlex : lexA E ops i0 = true) (ho0 : ops[i0]? = some o0) (hop : o0.op = .alloc t0) (hgd : o0.guard = none) (hok : OkAt E call ops α0 H0 i0) : ∃ z zv i, zeroQ E.P t0 = some z ∧ E.P.info? t0 = some i ∧ i.zero = some zv ∧ z = zv.cells.toList.map ofV1 ∧
    valAt E call ops α0 H0 i0 = .ptr (tr E call ops α0 H0 i0).2.next 0 ∧ (tr E call ops α0 H0 (i0 + 1)).2 = (tr E call ops α0 H0 i0).2.push (.cells (some t0) z) ∧ wrAt E call ops α0 H0 i0 = true := by
  obtain ⟨o, r, ho, hr, _, _⟩ := hok
  rw [ho0] at ho
  cases ho
  have hres : resAt E call ops α0 H0 i0 = some r := by simp [resAt, ho0, bnd, hr]
  have htr : (tr E call ops α0 H0 (i0 + 1)).2 = r.2.2 := by simp only [tr, ho0, hr]
  unfold stepX at hr
  rw [hgd] at hr
  simp only [wantedA, bnd, sel, if_true, hop, stepOp] at hr
  cases hal : allocA E.P t0 (tr E call ops α0 H0 i0).2 with
  | none => simp [hal] at hr
  | some q =>
    simp only [hal, Option.some.injEq] at hr
    subst hr
    unfold allocA at hal
    split at hal
    · rename_i z hz
      obtain ⟨i, zv, hi, hzv, hze⟩ := zeroQ_spec hz
      simp only [Option.some.injEq] at hal
      subst hal
      exact ⟨z, zv, i, hz, hi, hzv, hze, by simp [valAt, hres], htr, by simp [wrAt, hres, ho0, hop, kdOf]⟩
    · cases hal

theorem insP_rem {p : Nat → Bool} {i j : Nat} (h : j ≠ i) : remP (insP p j) i = insP (remP p i) j := by
  funext m
  by_cases e : m = i
  · subst e; rw [remP_self, insP_ne (Ne.symm h), remP_self]
  · rw [remP_ne e]
    by_cases e2 : m = j
    · subst e2; rw [insP_self, insP_self]
    · rw [insP_ne e2, insP_ne e2, remP_ne e]

theorem rem_ins {p : Nat → Bool} {i : Nat} (h : p i = true) : insP (remP p i) i = p := by
  funext m
  by_cases e : m = i
  · subst e; rw [insP_self, h]
  · rw [insP_ne e, remP_ne e]

/-- The hidden variable comes to light. -/
theorem to_light (hlex : lexA E ops i0 = true) (hok : ∀ m, m < ops.size → OkAt E call ops α0 H0 m) (ho0 : ops[i0]? = some o0) (hop : o0.op = .alloc t0) (hgd : o0.guard = none) (hdst : o0.dst = some d0) (hdn : d0 < n) {p : Nat → Bool}
    (hpn : p i0 = true) (hall : AllWr E ops i0 p) (hnod : ∀ m, i0 < m → m < ops.size → p m = true → behind ops ops.size m i0 = false) {σ1 : St} {b : Nat} {W1 : World} (hext : Ext B σ σ1) (hbel : BelowS B W0 W1) (hbase : Base E.P B W0) (hB : ¬ B b)
    (hzvq : ∀ i, E.P.info? t0 = some i → i.zero = some zv) (hW1 : W1.heap[b]? = some (.cells zv.cells t0 (0, 0))) (hnone : ∀ o, σ1.cells b o = none)
    (hs : Sim E.P (fun k => B k ∨ k = b) W1 (Hk E call ops α0 H0 (remP p i0) ops.size) σ1 w) (hr : RelX σ1 n ds d0 a (Fk E call ops α0 H0 (remP p i0) ops.size)) (hptr : a.tmps.getD d0 undef = .pointer (some ⟨b, 0, none⟩)) :
    NormS E call ops α0 H0 B W0 σ n ds i0 p a w := by
  have hin : i0 < ops.size := (Array.getElem?_eq_some_iff.1 ho0).1
  obtain ⟨z, zv', i, hz, hi, hzv', hze, hval, hnext, hwr⟩ := al_step hlex ho0 hop hgd (hok i0 hin)
  have : zv' = zv := by
    have := hzvq i hi
    rw [hzv'] at this
    exact Option.some.inj this
  subst this
  have hnw : ∀ m, i0 < m → m < ops.size → p m = true → wrAt E call ops α0 H0 m = false := fun m hm hmn hp => by
    cases hw : wrAt E call ops α0 H0 m with
    | false => rfl
    | true =>
      have hom : ops[m]? = some ops[m] := Array.getElem?_eq_getElem hmn
      rcases (lexA_spec hlex hom).2 i0 o0 hm ho0 with h | ⟨_, h⟩
      · rw [hnod m hm hmn hp] at h; cases h
      · rcases h with h | h
        · exact absurd ⟨by rw [hop]; rfl, wr_kd hom hw⟩ h
        · omega
  have hH : Hk E call ops α0 H0 (remP p i0) ops.size = (tr E call ops α0 H0 i0).2 := by
    rw [← Hk_lt (fun m hm => hok m (by omega)) i0 (Nat.le_refl _), ← Hk_ge ops.size (by omega)]
    refine Hk_agree _ fun m hm hmw => ?_
    have hom : ops[m]? = some ops[m] := Array.getElem?_eq_getElem hm
    rcases Nat.lt_trichotomy m i0 with hlt | heq | hgt
    · rw [remP_ne (by omega), hall m _ hlt hom (wr_kd hom hmw)]; simp [hlt]
    · subst heq; rw [remP_self]; simp
    · rw [remP_ne (by omega)]
      cases hp : p m with
      | false => simp; omega
      | true => rw [hnw m hgt hm hp] at hmw; cases hmw
  have hH2 : Hk E call ops α0 H0 p ops.size = (tr E call ops α0 H0 i0).2.push (.cells (some t0) z) := by
    have := Hk_insert_wr (p := remP p i0) hwr ops.size hin fun m h1 h2 hp => hnw m h1 h2 (remP_true hp).2
    rw [rem_ins hpn] at this
    rw [this, hnext]
  have hF : Fk E call ops α0 H0 p ops.size = put (Fk E call ops α0 H0 (remP p i0) ops.size) (some d0) (.ptr (tr E call ops α0 H0 i0).2.next 0) := by
    have := Fk_insert (E := E) (call := call) (ops := ops) (α := α0) (H := H0) (p := remP p i0) (i := i0) (remP_self p i0) ops.size (fun m h1 h2 hp d hdd => by
      have hom : ops[m]? = some ops[m] := Array.getElem?_eq_getElem h2
      rcases (lexA_spec hlex hom).2 i0 o0 h1 ho0 with h | ⟨h, _⟩
      · rw [hnod m h1 h2 (remP_true hp).2] at h; cases h
      · have := (apart_dst h).2.1 d (by simpa [dstAt, ho0] using hdd)
        simpa [dstAt, hom] using this)
    rw [rem_ins hpn, if_pos hin] at this
    rw [this, hval]
    simp [dstAt, ho0, hdst]
  obtain ⟨hs2, hfree⟩ := hs.unhide hbel hbase
  rw [hH] at hs2 hfree
  have hwb : w.heap[b]? = some (.cells zv'.cells t0 (0, 0)) := by
    rw [hs.below.block b (.inr rfl)]; exact hW1
  obtain ⟨q1, q2⟩ := hs2.pushAt (b := b) (cap := 0) (x := .cells (some t0) z) (w' := w) hB (fun _ _ _ => rfl) hs2.below hfree hnone (by simp [blk, St.bindR]) ⟨b, zv'.cells, t0, by simp [St.bindR], hB, hwb, by rw [hze]; exact RepL.ofV1 _, hnone, fun _ h => Option.some.inj h⟩
  refine ⟨fun _ => hall, _, hext.trans q2, by rw [hH2]; exact q1, ?_⟩
  rw [hF]
  have hr2 := hr.mono q2.le
  refine ⟨hr2.size, fun k => ?_, hr2.defers⟩
  simp only [Ab.put]
  by_cases hk : k = d0
  · subst hk
    rw [if_pos rfl, hptr]
    simp only [Rep]
    exact ⟨b, by simp [St.bindR], rfl⟩
  · rw [if_neg hk]
    exact hr2.rep k hk

theorem AllWr.ins {p : Nat → Bool} {j : Nat} (h : AllWr E ops i0 p) : AllWr E ops i0 (insP p j) := fun m om hm hom hw => by
  by_cases e : m = j
  · subst e; exact insP_self _ _
  · rw [insP_ne e]; exact h m om hm hom hw

theorem behind_edge {k : Nat} {o : Oper} {e : Edge} {i : Nat} {N : Nat} (hN : 0 < N) (ho : ops[k]? = some o) (he : e ∈ o.after) (hb : Region.binds .any e = true) (h : e.on = i) : behind ops N k i = true := by
  cases N with
  | zero => omega
  | succ N =>
    simp only [behind, ho]
    rw [Array.any_eq_true']
    exact ⟨e, he, by simp [hb, h]⟩

open Classical in
/-- One operation, wherever she stands. -/
theorem al_one (hc : CallOk E.P call) (hlex : lexA E ops i0 = true) (hok : ∀ m, m < ops.size → OkAt E call ops α0 H0 m) (hdn : ∀ (i : Nat) (o : Oper), ops[i]? = some o → ∀ d, o.dst = some d → d < n) (ho0 : ops[i0]? = some o0) (hop : o0.op = .alloc t0) (hgd : o0.guard = none) (hdst : o0.dst = some d0)
    (hzvq : ∀ i, E.P.info? t0 = some i → i.zero = some zv) {p : Nat → Bool} (hd : DownP ops p) {j : Nat} {o : Oper} (ho : ops[j]? = some o) (hpj : p j = false) (hrdy : ∀ e ∈ o.after, Region.binds .any e = true → p e.on = true)
    (hst : NormS E call ops α0 H0 B W0 σ n ds i0 p a w ∨ PendS E call ops α0 H0 B W0 σ n ds i0 d0 t0 zv p a w) {Q : Exit → Act → World → Prop} {K : Act → World → Prop}
    (hK : ∀ a' w', NormS E call ops α0 H0 B W0 σ n ds i0 (insP p j) a' w' ∨ PendS E call ops α0 H0 B W0 σ n ds i0 d0 t0 zv (insP p j) a' w' → K a' w') : wpOp E.P ops Q j K a w := by
  have hin : i0 < ops.size := (Array.getElem?_eq_some_iff.1 ho0).1
  have hjn : j < ops.size := (Array.getElem?_eq_some_iff.1 ho).1
  have hd0n : d0 < n := hdn i0 o0 ho0 d0 hdst
  rcases hst with ⟨hinv, σ1, hext, hs, hr⟩ | ⟨hp0, hna, σ1, b, W1, hext, hbel, hbase, hB, hW1, hnone, hs, hr, hptr⟩
  · -- nothing is hidden
    by_cases hj0 : j = i0 ∧ ¬ AllWr E ops i0 p
    · -- she is laid ahead of her time
      obtain ⟨rfl, hna⟩ := hj0
      rw [ho0] at ho
      cases ho
      obtain ⟨z, zv', i, hz, hi, hzv', hze, _⟩ := al_step hlex ho0 hop hgd (hok j hin)
      have hzz : zv' = zv := by
        have := hzvq i hi
        rw [hzv'] at this
        exact Option.some.inj this
      subst hzz
      have hrun : (Instr.alloc t0 true (.tuple #[])).run E.P w = .ok (.pointer (some ⟨w.heap.size, 0, none⟩)) (w.alloc (.cells zv'.cells t0)) := by
        simp [Instr.alloc, zeroValue, typeInfo, hi, hzv', newVar, newRow]
      unfold wpOp
      rw [ho0]
      simp only
      rw [if_pos (by simp [Region.wanted, hgd])]
      refine .inl (wp_of_uponA (R := fun u w' => u = .pointer (some ⟨w.heap.size, 0, none⟩) ∧ w' = w.alloc (.cells zv'.cells t0)) ?_ ?_)
      · obtain ⟨dst, op, ty, pos, after, guard⟩ := o0
        simp only at hop
        subst hop
        simp only [execOp, Sem.run_bind, hrun, Result.andThen_ok, Sem.run_pure, UponA, and_self]
      · rintro u w' ⟨rfl, rfl⟩
        refine hK _ _ (.inr ⟨insP_self _ _, fun hall => hna fun m om hm hom hw => ?_, σ1, w.heap.size, w.alloc (.cells zv'.cells t0), hext, hs.below.alloc hs.size _, hs.base, hs.notNew, heap_new w _, fun o => hs.cells_new o, ?_, ?_, ?_⟩)
        · have := hall m om hm hom hw
          rwa [insP_ne (by omega)] at this
        · have : remP (insP p j) j = p := by
            funext m
            by_cases e : m = j
            · subst e; rw [remP_self, hpj]
            · rw [remP_ne e, insP_ne e]
          rw [this]
          exact hs.hide _
        · have : remP (insP p j) j = p := by
            funext m
            by_cases e : m = j
            · subst e; rw [remP_self, hpj]
            · rw [remP_ne e, insP_ne e]
          rw [this, hdst]
          refine ⟨by simp [Act.put, hr.size], fun k hk => ?_, hr.defers⟩
          have := hr.rep k
          simpa [Act.put, Array.getElem?_setIfInBounds_ne (Ne.symm hk)] using this
        · rw [hdst]
          have : d0 < a.tmps.size := by rw [hr.size]; exact hd0n
          simp [Act.put, this]
    · -- as ever
      obtain ⟨H', hy, hput, hH⟩ := step_core (call := call) (α := α0) (H := H0) hok hd ho hpj hrdy
        (fun m om hm hp hb hom => by
          rcases (lexA_spec hlex ho).2 m om hm hom with h | ⟨h1, h2⟩
          · rw [hb] at h; cases h
          · refine ⟨h1, ?_⟩
            rcases h2 with h2 | rfl
            · exact h2
            · rintro ⟨hw, _⟩
              have hall : AllWr E ops j p := by
                by_cases h : AllWr E ops j p
                · exact h
                · exact absurd ⟨rfl, h⟩ hj0
              rw [hall m om hm hom hw] at hp
              cases hp)
        (fun m om hm hp hb hom => by
          rcases (lexA_spec hlex hom).2 j o hm ho with h | ⟨h1, h2⟩
          · rw [hb] at h; cases h
          · refine ⟨h1, ?_⟩
            rcases h2 with h2 | rfl
            · exact h2
            · rintro ⟨hw, _⟩
              have := hinv hp j o hm ho hw
              rw [hpj] at this
              cases this)
      refine yieldsF_sound (K := K) hc ho hs hr (hdn j o ho) hy ?_
      intro u w' σ' he' hs' hr'
      refine hK _ _ (.inl ⟨fun hp => ?_, σ', hext.trans he', hH ▸ hs', hput ▸ hr'⟩)
      have hall : AllWr E ops i0 p := by
        by_cases e : j = i0
        · by_cases h : AllWr E ops i0 p
          · exact h
          · exact absurd ⟨e, h⟩ hj0
        · rw [insP_ne (Ne.symm e)] at hp
          exact hinv hp
      exact hall.ins
  · -- she is hidden
    have hji : j ≠ i0 := by
      rintro rfl
      rw [hp0] at hpj
      cases hpj
    have hbj : behind ops ops.size j i0 = false := no_dep_ready hlex hd hna ho hrdy
    have hbi : behind ops ops.size i0 j = false := by
      cases h : behind ops ops.size i0 j with
      | false => rfl
      | true => have := behind_down hd _ _ _ hp0 h; rw [hpj] at this; cases this
    have hd' : DownP ops (remP p i0) := by
      intro k ok e hk hok' he hb
      obtain ⟨hk1, hk2⟩ := remP_true hk
      have h1 := hd k ok e hk2 hok' he hb
      have hkn : k < ops.size := (Array.getElem?_eq_some_iff.1 hok').1
      by_cases h2 : e.on = i0
      · have := no_dep hlex hd hna hkn hk2
        rw [behind_edge (by omega) hok' he hb h2] at this
        cases this
      · rw [remP_ne h2]; exact h1
    have hrdy' : ∀ e ∈ o.after, Region.binds .any e = true → remP p i0 e.on = true := by
      intro e he hb
      by_cases h2 : e.on = i0
      · rw [behind_edge (by omega) ho he hb h2] at hbj
        cases hbj
      · rw [remP_ne h2]; exact hrdy e he hb
    obtain ⟨H', hy, hput, hH⟩ := step_core (call := call) (α := α0) (H := H0) hok hd' ho (by rw [remP_ne hji]; exact hpj) hrdy'
      (fun m om hm hp hb hom => by
        rcases (lexA_spec hlex ho).2 m om hm hom with h | ⟨h1, h2⟩
        · rw [hb] at h; cases h
        · refine ⟨h1, ?_⟩
          rcases h2 with h2 | h2
          · exact h2
          · exact absurd h2 hji)
      (fun m om hm hp hb hom => by
        rcases (lexA_spec hlex hom).2 j o hm ho with h | ⟨h1, h2⟩
        · rw [hb] at h; cases h
        · refine ⟨h1, ?_⟩
          rcases h2 with h2 | h2
          · exact h2
          · exact absurd h2 (remP_true hp).1)
    have hap : d0 ∉ o.looksAt ops ∧ o.dst ≠ some d0 := by
      rcases Nat.lt_trichotomy i0 j with hlt | heq | hgt
      · rcases (lexA_spec hlex ho).2 i0 o0 hlt ho0 with h | ⟨h, _⟩
        · rw [hbj] at h; cases h
        · exact ⟨(apart_dst h).1 d0 hdst, (apart_dst h).2.1 d0 hdst⟩
      · exact absurd heq.symm hji
      · rcases (lexA_spec hlex ho0).2 j o hgt ho with h | ⟨h, _⟩
        · rw [hbi] at h; cases h
        · exact ⟨(apart_dst h).2.2 d0 hdst, fun e => (apart_dst h).2.1 d0 e hdst⟩
    refine yields_sound (d0 := d0) (K := K) hc ho hs hr (hdn j o ho) hap.1 hy ?_
    intro u w' σ' he' hs' hr'
    have hptr' : (a.put o.dst u).tmps.getD d0 undef = .pointer (some ⟨b, 0, none⟩) := by
      rw [← hptr]
      cases hdd : o.dst with
      | none => rfl
      | some d =>
        have : d ≠ d0 := fun e => hap.2 (by rw [hdd, e])
        simp [Act.put, Array.getElem?_setIfInBounds_ne this]
    have hnone' : ∀ o, σ'.cells b o = none := fun o => by rw [he'.old b o (.inr rfl)]; exact hnone o
    rw [hH] at hs'
    rw [hput] at hr'
    rw [← insP_rem hji] at hs' hr'
    have hext' : Ext B σ σ' := hext.trans (he'.sub fun _ h => .inl h)
    have hp0' : insP p j i0 = true := by rw [insP_ne (Ne.symm hji)]; exact hp0
    by_cases hall : AllWr E ops i0 (insP p j)
    · refine hK _ _ (.inl (to_light (zv := zv) hlex hok ho0 hop hgd hdst hd0n hp0' hall ?_ hext' hbel hbase hB hzvq hW1 hnone' hs' hr' hptr'))
      intro m hm hmn hpm
      by_cases e : m = j
      · subst e; exact hbj
      · rw [insP_ne e] at hpm
        exact no_dep hlex hd hna hmn hpm
    · exact hK _ _ (.inr ⟨hp0', hall, σ', b, W1, hext', hbel, hbase, hB, hW1, hnone', hs', hr', hptr'⟩)

theorem AllWr.all {p : Nat → Bool} (h : ∀ m, m < ops.size → p m = true) : AllWr E ops i0 p := fun m om _ hom _ => h m (Array.getElem?_eq_some_iff.1 hom).1

/-- Every order, from any state. -/
theorem al_any (hc : CallOk E.P call) (hlex : lexA E ops i0 = true) (hok : ∀ m, m < ops.size → OkAt E call ops α0 H0 m) (hdn : ∀ (i : Nat) (o : Oper), ops[i]? = some o → ∀ d, o.dst = some d → d < n) (ho0 : ops[i0]? = some o0) (hop : o0.op = .alloc t0) (hgd : o0.guard = none) (hdst : o0.dst = some d0)
    (hzvq : ∀ i, E.P.info? t0 = some i → i.zero = some zv) {Q : Exit → Act → World → Prop}
    (hQ : ∀ σ1 a' w', Ext B σ σ1 → Sim E.P B W0 (tr E call ops α0 H0 ops.size).2 σ1 w' → RelF σ1 n ds a' (tr E call ops α0 H0 ops.size).1 → Q .normal a' w') : ∀ (fuel : Nat) (listed : Array Bool) (a : Act) (w : World), listed.size = ops.size →
    DownP ops (fun m => listed.getD m false) → cntP (fun m => listed.getD m false) ops.size = fuel →
    (NormS E call ops α0 H0 B W0 σ n ds i0 (fun m => listed.getD m false) a w ∨ PendS E call ops α0 H0 B W0 σ n ds i0 d0 t0 zv (fun m => listed.getD m false) a w) → wpAny E.P .any ops Q fuel listed a w := by
  have hrd : ∀ listed : Array Bool, listed.size = ops.size → ∀ m, m < ops.size → listed.getD m true = listed.getD m false := fun listed hs m hm => by
    have : m < listed.size := by omega
    simp [this]
  intro fuel
  induction fuel with
  | zero =>
    intro listed a w hs hd hcnt hst
    have hall := cntP_zero _ hcnt
    refine ⟨?_, ?_⟩
    · rw [List.eq_nil_iff_forall_not_mem]
      intro j hj
      obtain ⟨h1, o, ho, _⟩ := mem_ready.1 hj
      have hlt : j < ops.size := (Array.getElem?_eq_some_iff.1 ho).1
      have h2 : listed.getD j false = true := hall j hlt
      rw [hrd listed hs j hlt, h2] at h1
      cases h1
    · rcases hst with ⟨_, σ1, h1, h2, h3⟩ | ⟨_, hna, _⟩
      · have e1 : Fk E call ops α0 H0 (fun m => listed.getD m false) ops.size = (tr E call ops α0 H0 ops.size).1 := by
          rw [← Fk_lt hok ops.size (Nat.le_refl _)]
          funext t
          refine Fk_agree _ fun m hm hne => ?_
          have : listed.getD m false = true := hall m hm
          simp [this, hm] at hne
        have e2 : Hk E call ops α0 H0 (fun m => listed.getD m false) ops.size = (tr E call ops α0 H0 ops.size).2 := by
          rw [← Hk_lt hok ops.size (Nat.le_refl _)]
          refine Hk_agree _ fun m hm _ => ?_
          have : listed.getD m false = true := hall m hm
          simp [this, hm]
        rw [e1] at h3
        rw [e2] at h2
        exact hQ σ1 a w h1 h2 h3
      · exact absurd (AllWr.all hall) hna
  | succ fuel ih =>
    intro listed a w hs hd hcnt hst
    refine ⟨fun hnil => ?_, fun i hi => ?_⟩
    · exfalso
      rcases firstWr (fun m => !listed.getD m false) 0 ops.size with h | ⟨m, _, h2, h3, h4⟩
      · have := cntP_all (p := fun m => listed.getD m false) ops.size fun m hm => by have := h m (by omega) hm; simpa using this
        omega
      · have hom : ops[m]? = some ops[m] := Array.getElem?_eq_getElem h2
        have : m ∈ Region.ready .any ops listed := mem_ready.2 ⟨by rw [hrd listed hs m h2]; simpa using h3, _, hom, fun e he hb => by
          have := h4 e.on (by omega) ((lexA_spec hlex hom).1 e he hb)
          simpa using this⟩
        rw [hnil] at this
        cases this
    · obtain ⟨h1, o, ho, hall⟩ := mem_ready.1 hi
      have hin : i < ops.size := (Array.getElem?_eq_some_iff.1 ho).1
      rw [hrd listed hs i hin] at h1
      have hset : (fun m => (listed.setIfInBounds i true).getD m false) = insP (fun m => listed.getD m false) i := by
        funext m
        by_cases e : m = i
        · subst e
          have : m < listed.size := by omega
          simp [this, insP]
        · rw [insP_ne e]
          exact getD_set_ne false (Ne.symm e)
      refine al_one hc hlex hok hdn ho0 hop hgd hdst hzvq hd ho h1 hall hst ?_
      intro a' w' hst'
      refine ih (listed.setIfInBounds i true) a' w' (by simp [hs]) ?_ ?_ (by rw [hset]; exact hst')
      · rw [hset]
        intro j oj e hj hoj he hb
        by_cases e1 : e.on = i
        · rw [e1]; exact insP_self _ _
        · rw [insP_ne e1]
          by_cases e2 : j = i
          · subst e2
            rw [ho] at hoj; cases hoj
            exact hall e he hb
          · rw [insP_ne e2] at hj
            exact hd j oj e hj hoj he hb
      · rw [hset]
        have := cntP_set (p := fun m => listed.getD m false) h1 ops.size
        rw [if_pos hin] at this
        omega

/-- The run in the text's order serves every order. -/
theorem dynA_any (hc : CallOk E.P call) (hlex : lexA E ops i0 = true) (hdn : ∀ (i : Nat) (o : Oper), ops[i]? = some o → ∀ d, o.dst = some d → d < n) {α : Frm} {H : AHeap} {α' : Frm} {H' : AHeap} (h : execOpsD E call ops 0 ops.toList [] [] α H = some (α', H'))
    (hs : Sim E.P B W0 H σ w) (hr : RelF σ n ds a α) {Q : Exit → Act → World → Prop}
    (hQ : ∀ σ1 a' w', Ext B σ σ1 → Sim E.P B W0 H' σ1 w' → RelF σ1 n ds a' α' → Q .normal a' w') : wpAny E.P .any ops Q ops.size (Array.replicate ops.size false) a w := by
  obtain ⟨hok, htr⟩ := okD (E := E) (call := call) (ops := ops) (α := α) (H := H) ops.toList 0 [] [] α' H' (by simp) (by simp) (fun i _ _ hi => absurd hi (by omega)) (fun i _ _ hi => absurd hi (by omega)) h
  replace hok : ∀ m, m < ops.size → OkAt E call ops α H m := fun m hm => hok m (by omega) hm
  obtain ⟨o0, t0, d0, ho0, hop, hgd, hdst⟩ := lexA_al hlex
  obtain ⟨z, zv, i, hz, hi, hzv, _⟩ := al_step hlex ho0 hop hgd (hok i0 (Array.getElem?_eq_some_iff.1 ho0).1)
  have hrep : ∀ m : Nat, (Array.replicate ops.size false).getD m false = false := fun m => by
    by_cases hm : m < ops.size
    · simp [hm]
    · simp [hm]
  have hp : (fun m => (Array.replicate ops.size false).getD m false) = fun _ => false := by funext m; exact hrep m
  have hF : ∀ k, Fk E call ops α H (fun _ => false) k = α := fun k => by
    induction k with
    | zero => rfl
    | succ k ih => simp [Fk, ih]
  have hH : ∀ k, Hk E call ops α H (fun _ => false) k = H := fun k => by
    induction k with
    | zero => rfl
    | succ k ih => simp [Hk, ih]
  refine al_any (t0 := t0) (zv := zv) (σ := σ) (α0 := α) (H0 := H) hc hlex hok hdn ho0 hop hgd hdst (fun i' hi' => by rw [hi] at hi'; cases hi'; exact hzv) (Q := Q) (by rw [htr]; exact hQ) ops.size (Array.replicate ops.size false) a w (by simp) (by rw [hp]; intro j o e hj; cases hj) (by
    rw [hp]
    have : ∀ k, cntP (fun _ => false) k = k := fun k => by
      induction k with
      | zero => rfl
      | succ k ih => simp [cntP, ih]
    exact this _) (.inl ?_)
  rw [hp]
  refine ⟨fun h => by simp at h, σ, Ext.refl _ _, ?_, ?_⟩
  · rw [hH]; exact hs
  · rw [hF]; exact hr
end
end
end Go.Ab
