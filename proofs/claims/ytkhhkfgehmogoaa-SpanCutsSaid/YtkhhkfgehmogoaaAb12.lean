/- Calls; each operation against the model. -/
import Derived.Test.YtkhhkfgehmogoaaAb11
namespace Go.Ab
set_option linter.unusedVariables false
open Go Go.RowKit

mutual
theorem Rep.noPtr {σ σ' : St} (hc : ∀ b o v, σ.cells b o = some v → σ'.cells b o = some v) : ∀ (a : AV) (u : Value), a.noPtr = true → Rep σ a u → Rep σ' a u
  | .junk, _, _, _ => by simp [Rep]
  | .any, _, _, k => by simpa [Rep] using k
  | .int _ _, _, _, k => by simpa [Rep] using k
  | .bool _, _, _, k => by simpa [Rep] using k
  | .str _, _, _, k => by simpa [Rep] using k
  | .agg cs, _, n, k => by
    simp only [AV.noPtr] at n
    simp only [Rep] at k ⊢
    obtain ⟨us, e, r⟩ := k
    exact ⟨us, e, RepL.noPtr hc cs us n r⟩
  | .tup cs, _, n, k => by
    simp only [AV.noPtr] at n
    simp only [Rep] at k ⊢
    obtain ⟨us, e, r⟩ := k
    exact ⟨us, e, RepL.noPtr hc cs us n r⟩
  | .vec o es, _, n, k => by
    simp only [AV.noPtr, Bool.and_eq_true] at n
    simp only [Rep] at k ⊢
    obtain ⟨a, cap, e, hl, ho, r⟩ := k
    refine ⟨a, cap, e, hl, ?_, r.imp id ?_⟩
    · cases o with
      | own k => simp at n
      | _ => exact ho
    · rintro ⟨b, off, s, ea, r⟩
      exact ⟨b, off, s, ea, RepRow.noPtr hc b s off es n.2 r⟩
  | .ptr _ _, _, n, _ => by simp [AV.noPtr] at n
  | .rptr cs, _, n, k => by
    simp only [AV.noPtr] at n
    simp only [Rep] at k ⊢
    obtain ⟨b, off, e, r⟩ := k
    exact ⟨b, off, e, RepCells.noPtr hc b off cs n r⟩
  | .fn _ first cap, _, n, k => by
    simp only [AV.noPtr, Bool.and_eq_true] at n
    simp only [Rep] at k ⊢
    obtain ⟨us, vs, e, r, q⟩ := k
    exact ⟨us, vs, e, RepL.noPtr hc first us n.1 r, RepL.noPtr hc cap vs n.2 q⟩
  | .iface _ v, _, n, k => by
    simp only [AV.noPtr] at n
    simp only [Rep] at k ⊢
    obtain ⟨x, e, r⟩ := k
    exact ⟨x, e, Rep.noPtr hc v x n r⟩
  | .val _, _, _, k => by simpa [Rep] using k
theorem RepL.noPtr {σ σ' : St} (hc : ∀ b o v, σ.cells b o = some v → σ'.cells b o = some v) : ∀ (cs : List AV) (us : List Value), AV.noPtr.go cs = true → RepL σ cs us → RepL σ' cs us
  | [], _, _, k => by simpa [RepL] using k
  | c :: cs, _, n, k => by
    simp only [AV.noPtr.go, Bool.and_eq_true] at n
    simp only [RepL] at k ⊢
    obtain ⟨u, us', e, r, q⟩ := k
    exact ⟨u, us', e, Rep.noPtr hc c u n.1 r, RepL.noPtr hc cs us' n.2 q⟩
theorem RepCells.noPtr {σ σ' : St} (hc : ∀ b o v, σ.cells b o = some v → σ'.cells b o = some v) (b : Nat) : ∀ (off : Nat) (cs : List AV), AV.noPtr.go cs = true → RepCells σ b off cs → RepCells σ' b off cs
  | _, [], _, _ => by simp [RepCells]
  | off, c :: cs, n, k => by
    simp only [AV.noPtr.go, Bool.and_eq_true] at n
    simp only [RepCells] at k ⊢
    obtain ⟨⟨u, e, r⟩, q⟩ := k
    exact ⟨⟨u, hc _ _ _ e, Rep.noPtr hc c u n.1 r⟩, RepCells.noPtr hc b (off + 1) cs n.2 q⟩
theorem RepRow.noPtr {σ σ' : St} (hc : ∀ b o v, σ.cells b o = some v → σ'.cells b o = some v) (b s : Nat) : ∀ (off : Nat) (es : List AV), AV.noPtr.go es = true → RepRow σ b s off es → RepRow σ' b s off es
  | _, [], _, _ => by simp [RepRow]
  | off, e :: es, n, k => by
    simp only [AV.noPtr.go, Bool.and_eq_true] at n
    simp only [RepRow] at k ⊢
    obtain ⟨⟨u, r, hs, hcc⟩, q⟩ := k
    exact ⟨⟨u, Rep.noPtr hc e u n.1 r, hs, fun j v hj => hc _ _ _ (hcc j v hj)⟩, RepRow.noPtr hc b s (off + s) es n.2 q⟩
end

def callable (P : Program) (f : FuncId) : Prop := ∃ fn, P.funcs[f]? = some fn ∧ (fn.name == "runtime.NumGoroutine") = false ∧ fn.body.isNone = false

def CallsA (P : Program) (f : FuncId) (args : List AV) (H : AHeap) (v : AV) (H' : AHeap) : Prop :=
  ∀ B W0 σ w us, Sim P B W0 H σ w → RepL σ args us → Calls P f us.toArray w (fun e w' => ∃ u, e = .returned u ∧ Goes P B W0 σ v H' u w')

def CallOk (P : Program) (call : CallO) : Prop := ∀ f args H v H', call f args H = some (v, H') → callable P f ∧ CallsA P f args H v H'

section
variable {P : Program} {B : Nat} {W0 : World} {H : AHeap} {σ : St} {w : World} {call : CallO}

theorem closed_sound (hs : Sim P B W0 H σ w) (hc : CallOk P call) {f : FuncId} {args : List AV} {us : List Value} {v : AV} (hr : RepL σ args us) (h : closedCall call f args = some v) :
    callable P f ∧ Calls P f us.toArray w (fun e w' => ∃ u, e = .returned u ∧ Goes P B W0 σ v H u w') := by
  unfold closedCall at h
  split at h
  · rename_i hn
    split at h
    · rename_i v1 H1 hcall
      split at h
      · rename_i hn1
        cases h
        obtain ⟨h1, h2⟩ := hc _ _ _ _ _ hcall
        refine ⟨h1, ?_⟩
        let σ0 : St := { cells := σ.cells, loc := fun _ => none, own := fun _ _ => none }
        have hs0 : Sim P w.heap.size w .empty σ0 w :=
          ⟨Below.refl _ _, Nat.le_refl _, hs.cells, hs.one, fun _ _ => ⟨rfl, fun _ => rfl⟩, fun id x hx => by simp [AHeap.get, AHeap.empty] at hx, fun id x hx => by simp [AHeap.get, AHeap.empty] at hx,
            fun id id' x x' hx => by simp [AHeap.get, AHeap.empty] at hx⟩
        refine (h2 w.heap.size w σ0 w us hs0 (RepL.noPtr (σ := σ) (σ' := σ0) (fun _ _ _ h => h) _ _ hn hr.erase)).mono ?_
        rintro e w1 ⟨u, rfl, σ1, hext, hsim, hrep⟩
        refine ⟨u, rfl, { cells := σ1.cells, loc := σ.loc, own := σ.own }, ⟨⟨hext.le.cells, fun _ _ h => h, fun _ _ _ h => h⟩, fun b o hb => hext.old b o (Nat.lt_of_lt_of_le hb hs.size)⟩, ?_,
          Rep.noPtr (σ := σ1) (σ' := { cells := σ1.cells, loc := σ.loc, own := σ.own }) (fun _ _ _ h => h) _ _ hn1 hrep.erase⟩
        refine ⟨hs.below.trans (hsim.below.mono hs.size), hs.base, hsim.cells, hsim.one, hs.fresh, hs.keys, ?_, hs.inj⟩
        intro id x hx
        have ho := hs.obj id x hx
        refine ho.keep ⟨hext.le.cells, fun _ _ h => h, fun _ _ _ h => h⟩ (fun b hb => ?_) (fun _ => rfl)
        obtain ⟨b', hb', _, hlt⟩ := ho.blk
        rw [hb] at hb'
        cases hb'
        exact ⟨hsim.below.block b hlt, fun o => hext.old b o hlt⟩
      · cases h
    · cases h
  · cases h

theorem callFunc_run {f : FuncId} (h : callable P f) (args : Array Value) : (callFunc f args).run P w = .ok (.enter f args) w := by
  obtain ⟨fn, h1, h2, h3⟩ := h
  simp only [callFunc, Sem.run_bind, run_program, Result.andThen_ok, h1, h2, h3, Bool.false_eq_true, if_false]
  rfl

theorem target_spec {a : AV} {f : FuncId} {first cap : List AV} {u : Value} (h : target a = some (f, first, cap)) (r : Rep σ a u) : ∃ us vs : List Value, u = .func (.func f) us.toArray vs.toArray ∧ RepL σ first us ∧ RepL σ cap vs := by
  unfold target at h
  split at h
  · simp only [Option.some.injEq, Prod.mk.injEq] at h
    obtain ⟨rfl, rfl, rfl⟩ := h
    simpa [Rep] using r
  · cases h

theorem call_run {o : Oper} {c : Call} {x : Operand} {ρ : Operand → Value} (hop : o.op = .call c) (hx : c.callee = .value x) {f : FuncId} {us vs : List Value} (hu : ρ x = .func (.func f) us.toArray vs.toArray) (hcall : callable P f) :
    (execOp ρ o).run P w = .ok (.enter f (us ++ c.args.toList.map ρ ++ vs).toArray) w := by
  obtain ⟨dst, op, ty, pos, after, guard⟩ := o
  simp only at hop
  subst hop
  obtain ⟨cal, as, tys⟩ := c
  simp only at hx
  subst hx
  simp only [execOp, resolve, Deferred.ofValue, hu, Sem.run_bind, Sem.run_pure, Result.andThen_ok, invoke, callFunc_run hcall]
  congr 2
  apply Array.ext'
  simp

theorem buildSlice_exec (hs : Sim P B W0 H σ w) {dst : Option Tmp} {ty : TypeId} {pos : String} {after : Array Edge} {guard : Option (Nat × Bool)} {t : TypeId} {len : Nat} {parts : Array (Nat × Operand)} {ρa : Operand → AV}
    {ρ : Operand → Value} {v : AV} {H' : AHeap} (h : buildSliceA P t len (parts.toList.map fun p => (p.1, ρa p.2)) H = some (v, H')) (hp : ∀ p ∈ parts.toList, Rep σ (ρa p.2) (ρ p.2)) :
    UponA P ((execOp ρ { dst := dst, op := .buildSlice t len parts, type := ty, pos := pos, after := after, guard := guard }).run P w) (Goes P B W0 σ v H') := by
  have hp' : RepL σ ((parts.toList.map fun p => (p.1, ρa p.2)).map (·.2)) ((parts.map fun p => (p.1, ρ p.2)).toList.map (·.2)) := by
    simp only [Array.toList_map, List.map_map]
    exact RepL.map (fun p : Nat × Operand => ρa p.2) (fun p => ρ p.2) parts.toList hp
  simp only [execOp]
  have key := buildSlice_sound (us := parts.map fun p => (p.1, ρ p.2)) hs (by simp) hp' h
  exact key

/-- What one operation does, against the model. -/
theorem stepOp_sound {E : Env} (hs : Sim E.P B W0 H σ w) (hc : CallOk E.P call) (o : Oper) (ρa : Operand → AV) (ρ : Operand → Value) (hρ : ∀ x ∈ o.op.operands, Rep σ (ρa x) (ρ x)) {v : AV} {H' : AHeap}
    (h : stepOp E call o.op ρa H = some (v, H')) : UponA E.P ((execOp ρ o).run E.P w) (Goes E.P B W0 σ v H') := by
  have pure_case : ∀ {v : AV}, pureOp E.P o.op ρa H = some v → UponA E.P ((execOp ρ o).run E.P w) (Goes E.P B W0 σ v H) := fun {v} hp => by
    obtain ⟨u, hu, ru⟩ := pureOp_sound hs o ρa ρ hρ hp
    rw [hu]
    exact ⟨σ, Ext.refl _ _, hs, ru⟩
  have pure_bnd : ∀ {v : AV} {H' : AHeap}, (bnd (pureOp E.P o.op ρa H) fun v => some (v, H)) = some (v, H') → UponA E.P ((execOp ρ o).run E.P w) (Goes E.P B W0 σ v H') := fun {v H'} hb => by
    cases hp : pureOp E.P o.op ρa H with
    | none => simp [hp, bnd] at hb
    | some v0 =>
      simp only [hp, bnd, Option.some.injEq, Prod.mk.injEq] at hb
      obtain ⟨rfl, rfl⟩ := hb
      exact pure_case hp
  obtain ⟨dst, op, ty, pos, after, guard⟩ := o
  simp only at h hρ pure_bnd
  cases op
  case alloc t => simp only [stepOp] at h; simp only [execOp]; exact alloc_sound hs h
  case box t x => simp only [stepOp] at h; simp only [execOp]; exact box_sound hs (hρ x (by simp [Op.operands])) h
  case store t a x => simp only [stepOp] at h; simp only [execOp]; exact store_sound hs (hρ a (by simp [Op.operands])) (hρ x (by simp [Op.operands])) h
  case buildSlice t len parts =>
    simp only [stepOp] at h
    refine buildSlice_exec hs h fun p hp => hρ p.2 ?_
    simp only [Op.operands]
    simp
    exact ⟨p.1, by simpa using hp⟩
  case call c =>
    simp only [stepOp] at h
    have hargs : RepL σ (c.args.toList.map ρa) (c.args.toList.map ρ) :=
      RepL.map _ _ _ fun x hx => hρ x (by
        simp only [Op.operands, Call.operands]
        exact Array.mem_append.2 (.inr (by simpa using hx)))
    unfold stepCall at h
    split at h
    · rename_i x hcal
      have rx : Rep σ (ρa x) (ρ x) := hρ x (by simp [Op.operands, Call.operands, hcal])
      unfold callA at h
      split at h
      · rename_i f first cap ht
        obtain ⟨us, vs, hu, r1, r2⟩ := target_spec ht rx
        have hall := (r1.append hargs).append r2
        split at h
        · cases hcl : closedCall call f (first ++ c.args.toList.map ρa ++ cap) with
          | none => simp only [hcl, bnd, reduceCtorEq] at h
          | some v0 =>
            simp only [hcl, bnd, Option.some.injEq, Prod.mk.injEq] at h
            obtain ⟨rfl, rfl⟩ := h
            obtain ⟨h1, h2⟩ := closed_sound hs hc hall hcl
            rw [call_run rfl hcal hu h1]
            exact h2
        · obtain ⟨h1, h2⟩ := hc _ _ _ _ _ h
          rw [call_run rfl hcal hu h1]
          exact h2 B W0 σ w _ hs hall
      · cases h
    · rename_i hcal
      unfold appendOp at h
      split at h
      · rename_i x y t1 t2 hxy htt
        rw [hxy] at hargs
        rw [RepL.cons_iff] at hargs
        obtain ⟨u, us', e1, rx, q⟩ := hargs
        rw [RepL.cons_iff] at q
        obtain ⟨u2, us2, rfl, ry, q2⟩ := q
        rw [RepL.nil_iff] at q2
        subst q2
        have := append_sound (ty := ty) hs rx ry h
        have ea : c.args.map ρ = #[u, u2] := by apply Array.ext'; simp [e1]
        have et : c.argTypes = #[t1, t2] := by apply Array.ext'; simp [htt]
        simpa [execOp, resolve, hcal, invoke, builtin, ea, et] using this
      · cases h
    · exact pure_bnd h
  all_goals (simp only [stepOp] at h; with_reducible exact pure_bnd h)

/-- A pure step leaves the memory as it is. -/
theorem stepPure_step {E : Env} {op : Op} {ρa : Operand → AV} {v : AV} (h : stepPure E call op ρa H = some v) : stepOp E call op ρa H = some (v, H) := by
  cases op
  case call c =>
    simp only [stepPure] at h
    simp only [stepOp, stepCall]
    split at h
    · rename_i f hcal
      simp only [hcal, callA]
      split at h
      · rename_i f first cap ht
        split at h
        · rename_i hcl
          simp only [hcl, if_true, h, bnd]
        · cases h
      · cases h
    · rename_i hcal
      split
      · rename_i f hf; exact absurd hf (hcal f)
      · rename_i hb; simp [pureOp, hb] at h
      · simp only [h, bnd]
  all_goals simp only [stepPure, pureOp, reduceCtorEq] at h
  all_goals simp only [stepOp, pureOp, h, bnd]

end
end Go.Ab
