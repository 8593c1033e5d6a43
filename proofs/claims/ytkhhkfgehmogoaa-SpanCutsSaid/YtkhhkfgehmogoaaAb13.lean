/- Regions that draw their order: one run in the text's order serves every order, where no two operations that stand in no order touch the same. -/
import Derived.Test.YtkhhkfgehmogoaaAb12
namespace Go.Ab
set_option linter.unusedVariables false
open Go Go.RowKit

/-- What an operation asks of the memory: nothing; it reads cells; it makes or lengthens a row; anything. -/
inductive Cls where
  | ins
  | rd
  | row
  | wr
  deriving DecidableEq

def cls (E : Env) (o : Op) : Cls :=
  match o with
  | .load _ _ => .rd
  | .alloc _ => .wr
  | .box _ _ => .wr
  | .store _ _ _ => .wr
  | .buildSlice _ _ _ => .row
  | .call c =>
    match c.callee with
    | .value (.func f) => if E.cl f = true then .ins else .wr
    | .value _ => .wr
    | .builtin .append => .row
    | _ => .ins
  | _ => .ins

def heapApart (a b : Cls) : Bool :=
  match a, b with
  | .ins, _ => true
  | _, .ins => true
  | .rd, .rd => true
  | .rd, .row => true
  | .row, .rd => true
  | _, _ => false

def freeH (E : Env) (ops : Array Oper) (listed : Array Bool) (i : Nat) : Bool :=
  match ops[i]? with
  | none => false
  | some oi => (List.range ops.size).all fun j => j == i || listed.getD j true || match ops[j]? with
      | some oj => oj.after.any (fun e => Region.binds .any e && e.on == i) || (oi.apart ops oj && heapApart (cls E oi.op) (cls E oj.op))
      | none => true

def lexH (E : Env) (ops : Array Oper) : Nat → Nat → Array Bool → Bool
  | 0, _, listed => (Region.ready .any ops listed).isEmpty
  | fuel + 1, k, listed => (Region.ready .any ops listed).contains k && freeH E ops listed k && lexH E ops fuel (k + 1) (listed.setIfInBounds k true)

/-- The same, asked in one pass: behind operation k stand those of the list. -/
def lex2 (E : Env) (ops : Array Oper) : Nat → List Oper → Bool
  | _, [] => true
  | k, o :: rest => o.after.all (fun e => !Region.binds .any e || decide (e.on < k)) &&
      rest.all (fun oj => oj.after.any (fun e => Region.binds .any e && e.on == k) || (o.apart ops oj && heapApart (cls E o.op) (cls E oj.op))) && lex2 E ops (k + 1) rest

def orderOk (E : Env) (ops : Array Oper) : Bool := lexH E ops ops.size 0 (Array.replicate ops.size false)

section
variable {E : Env} {call : CallO}

theorem ev_congr {α α' : Frm} {x : Operand} (h : ∀ t, x = .tmp t → α t = α' t) : ev α x = ev α' x := by
  cases x with
  | tmp t => exact h t rfl
  | _ => rfl

theorem pureOp_congr {P : Program} (op : Op) {ρ ρ' : Operand → AV} (h : ∀ x ∈ op.operands, ρ x = ρ' x) (H : AHeap) : pureOp P op ρ H = pureOp P op ρ' H := by
  cases op <;> simp only [Op.operands] at h <;> simp only [pureOp]
  case build t ps =>
    rw [List.map_congr_left (l := ps.toList) (g := fun p => (p.1, ρ' p.2))]
    intro p hp
    rw [h p.2 (by simp; exact ⟨p.1, by simpa using hp⟩)]
  case makeFunc f first cap =>
    rw [List.map_congr_left (l := first.toList) (g := ρ') fun x hx => h x (by simp at hx; simp [hx]), List.map_congr_left (l := cap.toList) (g := ρ') fun x hx => h x (by simp at hx; simp [hx])]
  case slice t x lo hi mx =>
    cases mx with
    | some _ => rfl
    | none =>
      simp only
      cases lo <;> cases hi <;> simp_all
  case call c =>
    have : c.args.toList.map ρ = c.args.toList.map ρ' := List.map_congr_left fun x hx => h x (by simp only [Call.operands]; exact Array.mem_append.2 (.inr (by simpa using hx)))
    rw [this]
  all_goals (first | rfl | (simp_all; done))

theorem stepOp_congr (op : Op) {ρ ρ' : Operand → AV} (h : ∀ x ∈ op.operands, ρ x = ρ' x) (H : AHeap) : stepOp E call op ρ H = stepOp E call op ρ' H := by
  have hp := pureOp_congr (P := E.P) op h H
  cases op <;> simp only [stepOp] <;> (try rw [hp]) <;> simp only [Op.operands] at h
  case box t x => rw [h x (by simp)]
  case store t a x => rw [h a (by simp), h x (by simp)]
  case buildSlice t n ps =>
    rw [List.map_congr_left (l := ps.toList) (g := fun p => (p.1, ρ' p.2))]
    intro p hp
    rw [h p.2 (by simp; exact ⟨p.1, by simpa using hp⟩)]
  case call c =>
    have : c.args.toList.map ρ = c.args.toList.map ρ' := List.map_congr_left fun x hx => h x (by simp only [Call.operands]; exact Array.mem_append.2 (.inr (by simpa using hx)))
    unfold stepCall
    cases hc : c.callee with
    | value f =>
      simp only
      rw [this, h f (by simp [Call.operands, hc])]
    | builtin b => cases b <;> simp only <;> (first | rw [this] | rw [hp])
    | invoke r m => simp only; rw [hp]

theorem pureOp_ins {P : Program} (op : Op) (hl : ∀ t a, op ≠ .load t a) (ρ : Operand → AV) (H H' : AHeap) : pureOp P op ρ H = pureOp P op ρ H' := by
  cases op <;> simp only [pureOp]
  case load t a => exact absurd rfl (hl t a)

/-- An operation that asks nothing of the memory. -/
theorem step_ins (op : Op) (h : cls E op = .ins) (ρ : Operand → AV) (hf : ∀ g, ρ (.func g) = .fn (.func g) [] []) : ∃ r : Option AV, ∀ H, stepOp E call op ρ H = r.map fun v => (v, H) := by
  have base : ∀ op' : Op, (∀ t a, op' ≠ .load t a) → ∃ r : Option AV, ∀ H, (bnd (pureOp E.P op' ρ H) fun v => some (v, H)) = r.map fun v => (v, H) := fun op' hl =>
    ⟨pureOp E.P op' ρ .empty, fun H => by rw [pureOp_ins op' hl ρ H .empty]; cases pureOp E.P op' ρ .empty <;> rfl⟩
  cases op <;> simp only [cls, reduceCtorEq] at h <;> simp only [stepOp]
  case call c =>
    unfold stepCall
    cases hc : c.callee with
    | value f =>
      simp only [hc] at h
      cases f with
      | func g =>
        simp only at h
        split at h
        · rename_i hcl
          simp only [callA, hf, target, hcl, if_true]
          exact ⟨closedCall call g ([] ++ c.args.toList.map ρ ++ []), fun H => by cases closedCall call g ([] ++ c.args.toList.map ρ ++ []) <;> rfl⟩
        · cases h
      | _ => simp at h
    | builtin b => cases b <;> simp only [hc, reduceCtorEq] at h <;> exact base _ (fun _ _ => by simp)
    | invoke r m => exact base _ (fun _ _ => by simp)
  all_goals exact base _ (fun _ _ => by simp)

theorem hf_ev (α : Frm) : ∀ g, ev α (.func g) = .fn (.func g) [] [] := fun _ => rfl

/-- What a load sees of the memory. -/
def SameCells (H H' : AHeap) : Prop := ∀ id cs, H.get id = some (.cells cs) ↔ H'.get id = some (.cells cs)

theorem loadA_same {P : Program} {H H' : AHeap} (h : SameCells H H') (t : TypeId) (a : AV) : loadA P H t a = loadA P H' t a := by
  cases a with
  | ptr id off =>
    simp only [loadA]
    have h1 := h id
    cases hg : H.get id with
    | none =>
      cases hg' : H'.get id with
      | none => rfl
      | some x =>
        cases x with
        | tip n e => rfl
        | cells cs => rw [hg, hg'] at h1; have := (h1 cs).2 rfl; cases this
    | some x =>
      cases x with
      | cells cs =>
        rw [(h1 cs).1 hg]
      | tip n e =>
        cases hg' : H'.get id with
        | none => rfl
        | some x =>
          cases x with
          | tip n e => rfl
          | cells cs => rw [hg, hg'] at h1; have := (h1 cs).2 rfl; cases this
  | _ => rfl

/-- A row operation leaves all cells as they are, and reads none. -/
theorem step_row (op : Op) (h : cls E op = .row) (ρ : Operand → AV) {H H' : AHeap} {v : AV} (hs : stepOp E call op ρ H = some (v, H')) : SameCells H H' := by
  have hpush : ∀ n et, SameCells H (H.push (.tip n et)) := fun n et id cs => by
    rw [AHeap.get_push]
    constructor
    · intro hg
      rw [if_neg (by have := AHeap.get_lt hg; omega)]; exact hg
    · intro hg
      split at hg
      · cases hg
      · exact hg
  cases op <;> simp only [cls, reduceCtorEq] at h <;> simp only [stepOp] at hs
  case buildSlice t n ps =>
    unfold buildSliceA at hs
    split at hs
    · split at hs
      · split at hs
        · simp only [Option.some.injEq, Prod.mk.injEq] at hs
          obtain ⟨_, rfl⟩ := hs
          exact hpush _ _
        · cases hs
      · cases hs
    · cases hs
  case call c =>
    unfold stepCall at hs
    cases hc : c.callee with
    | value f => cases f <;> simp only [hc, reduceCtorEq] at h; split at h <;> cases h
    | builtin b =>
      cases b <;> simp only [hc, reduceCtorEq] at h
      simp only [hc] at hs
      unfold appendOp at hs
      split at hs
      · rename_i x y t1 t2 hxy htt
        unfold appendA at hs
        split at hs
        · split at hs
          · split at hs
            · split at hs
              · split at hs
                · split at hs
                  · split at hs
                    · simp only [Option.some.injEq, Prod.mk.injEq] at hs
                      obtain ⟨_, rfl⟩ := hs
                      exact fun _ _ => Iff.rfl
                    · simp only [Option.some.injEq, Prod.mk.injEq] at hs
                      obtain ⟨_, rfl⟩ := hs
                      exact hpush _ _
                  · cases hs
                · rename_i k
                  split at hs
                  · rename_i n et' hk
                    split at hs
                    · simp only [Option.some.injEq, Prod.mk.injEq] at hs
                      obtain ⟨_, rfl⟩ := hs
                      intro id cs
                      rw [AHeap.get_set]
                      by_cases e : k = id
                      · subst e; rw [if_pos rfl, hk]; simp
                      · rw [if_neg e]
                    · cases hs
                  · cases hs
                · split at hs
                  · simp only [Option.some.injEq, Prod.mk.injEq] at hs
                    obtain ⟨_, rfl⟩ := hs
                    exact fun _ _ => Iff.rfl
                  · cases hs
              · cases hs
            · cases hs
          · cases hs
        · cases hs
      · cases hs
    | invoke r m => simp [hc] at h

end
end Go.Ab
