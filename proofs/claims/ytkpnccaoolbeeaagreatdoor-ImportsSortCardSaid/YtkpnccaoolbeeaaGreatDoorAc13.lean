/- Regions that draw their order: one run in the text's order serves every order, where no two operations that stand in no order touch the same. -/
import Derived.Test.YtkpnccaoolbeeaaGreatDoorAc12
namespace Go.Ab
set_option linter.unusedVariables false
open Go Go.RowKit

def heapApart (a b : Kd) : Bool :=
  match a, b with
  | .ins, _ => true
  | _, .ins => true
  | .rd, .rd => true
  | _, _ => false

def freeH (E : Env) (ops : Array Oper) (listed : Array Bool) (i : Nat) : Bool :=
  match ops[i]? with
  | none => false
  | some oi => (List.range ops.size).all fun j => j == i || listed.getD j true || match ops[j]? with
      | some oj => oj.after.any (fun e => Region.binds .any e && e.on == i) || (oi.apart ops oj && heapApart (kdOf E oi.op) (kdOf E oj.op))
      | none => true

def lexH (E : Env) (ops : Array Oper) : Nat → Nat → Array Bool → Bool
  | 0, _, listed => (Region.ready .any ops listed).isEmpty
  | fuel + 1, k, listed => (Region.ready .any ops listed).contains k && freeH E ops listed k && lexH E ops fuel (k + 1) (listed.setIfInBounds k true)

/-- The same, asked in one pass: behind operation k stand those of the list. -/
def lex2 (E : Env) (ops : Array Oper) : Nat → List Oper → Bool
  | _, [] => true
  | k, o :: rest => o.after.all (fun e => !Region.binds .any e || decide (e.on < k)) &&
      rest.all (fun oj => oj.after.any (fun e => Region.binds .any e && e.on == k) || (o.apart ops oj && heapApart (kdOf E o.op) (kdOf E oj.op))) && lex2 E ops (k + 1) rest

def orderOk (E : Env) (ops : Array Oper) : Bool := lexH E ops ops.size 0 (Array.replicate ops.size false)

section
variable {E : Env} {call : CallO}

theorem ev_congr {α α' : Frm} {x : Operand} (h : ∀ t, x = .tmp t → α t = α' t) : ev α x = ev α' x := by
  cases x with
  | tmp t => exact h t rfl
  | _ => rfl

theorem pureOp_congr {P : Program} (op : Op) {ρ ρ' : Operand → AV} (h : ∀ x ∈ op.operands, ρ x = ρ' x) (H : AHeap) : pureOp P op ρ H = pureOp P op ρ' H := by
  cases op <;> simp only [Op.operands] at h <;> simp only [pureOp]
  case build t ps =>
    rw [List.map_congr_left (l := ps.toList) (g := fun p => (p.1, ρ' p.2))]
    intro p hp
    rw [h p.2 (by simp; exact ⟨p.1, by simpa using hp⟩)]
  case makeFunc f first cap =>
    rw [List.map_congr_left (l := first.toList) (g := ρ') fun x hx => h x (by simp at hx; simp [hx]), List.map_congr_left (l := cap.toList) (g := ρ') fun x hx => h x (by simp at hx; simp [hx])]
  case slice t x lo hi mx =>
    cases mx <;> simp only <;> cases lo <;> cases hi <;> simp_all
  case call c =>
    have : c.args.toList.map ρ = c.args.toList.map ρ' := List.map_congr_left fun x hx => h x (by simp only [Call.operands]; exact Array.mem_append.2 (.inr (by simpa using hx)))
    rw [this]
  all_goals (first | rfl | (simp_all; done))

theorem stepOp_congr (op : Op) {ρ ρ' : Operand → AV} (h : ∀ x ∈ op.operands, ρ x = ρ' x) (H : AHeap) : stepOp E call op ρ H = stepOp E call op ρ' H := by
  have hp := pureOp_congr (P := E.P) op h H
  cases op <;> simp only [stepOp] <;> (try rw [hp]) <;> simp only [Op.operands] at h
  case box t x => rw [h x (by simp)]
  case makeSlice t l c => rw [h l (by simp), h c (by simp)]
  case convert s d x => rw [h x (by simp)]
  case mapUpdate t m k x => rw [h m (by simp), h k (by simp), h x (by simp)]
  case insert t m k x => rw [h m (by simp), h k (by simp), h x (by simp)]
  case store t a x => rw [h a (by simp), h x (by simp)]
  case buildSlice t n ps =>
    rw [List.map_congr_left (l := ps.toList) (g := fun p => (p.1, ρ' p.2))]
    intro p hp
    rw [h p.2 (by simp; exact ⟨p.1, by simpa using hp⟩)]
  case call c =>
    have : c.args.toList.map ρ = c.args.toList.map ρ' := List.map_congr_left fun x hx => h x (by simp only [Call.operands]; exact Array.mem_append.2 (.inr (by simpa using hx)))
    unfold stepCall
    cases hc : c.callee with
    | value f =>
      simp only
      rw [this, h f (by simp [Call.operands, hc])]
    | builtin b => cases b <;> simp only <;> (first | rw [this] | rw [hp])
    | invoke r m => simp only; rw [hp]

theorem pureOp_ins {P : Program} (op : Op) (hl : ∀ t a, op ≠ .load t a) (hm : ∀ t m k ok, op ≠ .lookup t m k ok) (ρ : Operand → AV) (H H' : AHeap) : pureOp P op ρ H = pureOp P op ρ H' := by
  cases op <;> simp only [pureOp]
  case load t a => exact absurd rfl (hl t a)
  case lookup t m k ok => exact absurd rfl (hm t m k ok)

/-- An operation that asks nothing of the memory. -/
theorem step_ins (op : Op) (h : kdOf E op = .ins) (ρ : Operand → AV) (hf : ∀ g, ρ (.func g) = .fn (.func g) [] []) : ∃ r : Option AV, ∀ H, stepOp E call op ρ H = r.map fun v => (v, H) := by
  have base : ∀ op' : Op, (∀ t a, op' ≠ .load t a) → (∀ t m k ok, op' ≠ .lookup t m k ok) → ∃ r : Option AV, ∀ H, (bnd (pureOp E.P op' ρ H) fun v => some (v, H)) = r.map fun v => (v, H) := fun op' hl hm =>
    ⟨pureOp E.P op' ρ .empty, fun H => by rw [pureOp_ins op' hl hm ρ H .empty]; cases pureOp E.P op' ρ .empty <;> rfl⟩
  cases op <;> simp only [kdOf, reduceCtorEq] at h <;> simp only [stepOp]
  case convert s d x =>
    refine ⟨(convOp E.P s d (ρ x) .empty).map (·.1), fun H => ?_⟩
    unfold convOp
    split
    · split <;> rfl
    · rename_i e0 es _
      cases bytesA (e0 :: es) <;> split <;> rfl
    · cases convA E.P s d (ρ x) <;> rfl
  case buildSlice t len parts =>
    refine ⟨(buildSliceA E.P t len (parts.toList.map fun p => (p.1, ρ p.2)) .empty).map (·.1), fun H => ?_⟩
    unfold buildSliceA
    split <;> (try rfl)
    split <;> (try rfl)
    split <;> rfl
  case call c =>
    unfold stepCall
    cases hc : c.callee with
    | value f =>
      simp only [hc] at h
      cases f with
      | func g =>
        simp only at h
        split at h
        · rename_i hcl
          simp only [callA, hf, target, hcl, if_true]
          exact ⟨closedCall E.P call g ([] ++ c.args.toList.map ρ ++ []), fun H => by cases closedCall E.P call g ([] ++ c.args.toList.map ρ ++ []) <;> rfl⟩
        · cases h
      | _ => simp at h
    | builtin b =>
      cases b
      case len =>
        simp only [hc] at h
        refine ⟨(lenOp E.P c.argTypes (c.args.toList.map ρ) .empty).map (·.1), fun H => ?_⟩
        simp only
        unfold lenOp
        split
        · split
          · rename_i hm; simp [hm] at h
          · rfl
        · cases lenA E.P c.argTypes (c.args.toList.map ρ) <;> rfl
      all_goals (simp only [hc, reduceCtorEq] at h <;> exact base _ (fun _ _ => by simp) (fun _ _ _ _ => by simp))
    | invoke r m => exact base _ (fun _ _ => by simp) (fun _ _ _ _ => by simp)
  all_goals exact base _ (fun _ _ => by simp) (fun _ _ _ _ => by simp)

theorem hf_ev (α : Frm) : ∀ g, ev α (.func g) = .fn (.func g) [] [] := fun _ => rfl

end
end Go.Ab
