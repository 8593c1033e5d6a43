/- Each pure operation does in the model what it does to abstract values: the second part, and all together. -/
import Derived.Test.YtkpnccaoolbeeaaGreatDoorAc4
namespace Go.Ab
set_option linter.unusedVariables false
open Go Go.RowKit

section
variable {P : Program} {B : Nat → Prop} {W0 : World} {H : AHeap} {σ : St} {w : World}

theorem Rep.ofV1 : ∀ (v : Value), Rep σ (ofV1 v) v
  | .int _ _ => by simp [Ab.ofV1, Rep]
  | .bool _ => by simp [Ab.ofV1, Rep]
  | .string s => by simp [Ab.ofV1, Rep]
  | .slice a n c => by
    unfold Ab.ofV1
    split <;> simp_all [Rep, OwnOk]
  | .float _ _ => by simp [Ab.ofV1, Rep]
  | .complex _ _ _ => by simp [Ab.ofV1, Rep]
  | .pointer _ => by simp [Ab.ofV1, Rep]
  | .map _ => by simp [Ab.ofV1, Rep]
  | .chan _ => by simp [Ab.ofV1, Rep]
  | .func _ _ _ => by simp [Ab.ofV1, Rep]
  | .nilFunc => by simp [Ab.ofV1, Rep]
  | .iface _ _ => by simp [Ab.ofV1, Rep]
  | .nilIface => by simp [Ab.ofV1, Rep]
  | .agg _ => by simp [Ab.ofV1, Rep]
  | .tuple _ => by simp [Ab.ofV1, Rep]

theorem RepL.ofV1 (l : List Value) : RepL σ (l.map Ab.ofV1) l := by
  have := RepL.map (σ := σ) Ab.ofV1 id l fun x _ => Rep.ofV1 x
  simpa using this

theorem Rep.ofV (v : Value) : Rep σ (ofV v) v := by
  cases v with
  | agg cs => simp only [Ab.ofV, Rep]; exact ⟨cs.toList, by simp, RepL.ofV1 _⟩
  | _ => unfold Ab.ofV; exact Rep.ofV1 _

theorem RepL.of_get : ∀ {cs : List AV} {us : List Value}, us.length = cs.length → (∀ (i : Nat) (c : AV) (u : Value), cs[i]? = some c → us[i]? = some u → Rep σ c u) → RepL σ cs us
  | [], us, hl, _ => by simp at hl; subst hl; simp [RepL]
  | c :: cs, [], hl, _ => by simp at hl
  | c :: cs, u :: us, hl, h => RepL.cons_iff.2 ⟨u, us, rfl, h 0 c u (by simp) (by simp), RepL.of_get (by simpa using hl) fun i c' u' hc hu => h (i + 1) c' u' (by simpa using hc) (by simpa using hu)⟩

theorem overlay_get (off : Nat) : ∀ (vs : List Value) (k : Nat) (cs : Array Value), off + k + vs.length ≤ cs.size → ∀ (i : Nat),
    ((vs.zipIdx k).foldl (fun (cs : Array Value) (p : Value × Nat) => cs.setIfInBounds (off + p.2) p.1) cs)[i]? = if off + k ≤ i ∧ i < off + k + vs.length then vs[i - (off + k)]? else cs[i]?
  | [], k, cs, _, i => by
    simp only [List.zipIdx_nil, List.foldl_nil, List.length_nil]
    rw [if_neg (by omega)]
  | v :: vs, k, cs, h, i => by
    simp only [List.zipIdx_cons, List.foldl_cons, List.length_cons] at h ⊢
    rw [overlay_get off vs (k + 1) _ (by simp; omega)]
    by_cases h1 : i = off + k
    · subst h1
      rw [if_neg (by omega), if_pos (by omega)]
      simp [show off + k < cs.size from by omega]
    · by_cases h2 : off + (k + 1) ≤ i ∧ i < off + (k + 1) + vs.length
      · rw [if_pos h2, if_pos (by omega), show i - (off + k) = (i - (off + (k + 1))) + 1 from by omega, List.getElem?_cons_succ]
      · rw [if_neg h2, if_neg (by omega), Array.getElem?_setIfInBounds_ne (by omega)]

theorem overlay_fold (off : Nat) (vs : List Value) (cs : Array Value) (h : off + vs.length ≤ cs.size) :
    ((vs.zipIdx 0).foldl (fun (cs : Array Value) (p : Value × Nat) => cs.setIfInBounds (off + p.2) p.1) cs).toList = cs.toList.take off ++ vs ++ cs.toList.drop (off + vs.length) := by
  apply List.ext_getElem?
  intro i
  rw [Array.getElem?_toList, overlay_get off vs 0 cs (by omega)]
  simp only [Nat.add_zero]
  by_cases h1 : i < off
  · rw [if_neg (by omega), List.append_assoc, List.getElem?_append_left (by simp; omega), List.getElem?_take_of_lt h1, Array.getElem?_toList]
  · rw [List.append_assoc, List.getElem?_append_right (by simp; omega)]
    simp only [List.length_take, Array.length_toList]
    rw [show min off cs.size = off from by omega]
    by_cases h2 : i < off + vs.length
    · rw [if_pos (by omega), List.getElem?_append_left (by omega)]
    · rw [if_neg (by omega), List.getElem?_append_right (by omega), List.getElem?_drop, Array.getElem?_toList]
      congr 1
      omega

theorem fill_rep (place : Nat → Option (Nat × Nat)) : ∀ (parts : List (Nat × AV)) (us : List (Nat × Value)) (cs : List AV) (xs : Array Value) (out : List AV),
    us.map (·.1) = parts.map (·.1) → (∀ (i : Nat) (p : Nat × AV) (u : Nat × Value), parts[i]? = some p → us[i]? = some u → Rep σ p.2 u.2) → RepL σ cs xs.toList → fillA place cs parts = some out →
    ∃ ys, Instr.fill place xs us = some ys ∧ RepL σ out ys.toList
  | [], us, cs, xs, out, hu, _, hr, h => by
    simp at hu
    subst hu
    simp [fillA] at h
    subst h
    exact ⟨xs, rfl, hr⟩
  | (i, v) :: parts, us, cs, xs, out, hu, hp, hr, h => by
    cases us with
    | nil => simp at hu
    | cons u us =>
      obtain ⟨j, x⟩ := u
      simp only [List.map_cons, List.cons.injEq] at hu
      obtain ⟨rfl, hu⟩ := hu
      have rx : Rep σ v x := hp 0 (j, v) (j, x) (by simp) (by simp)
      simp only [fillA] at h
      simp only [Instr.fill]
      cases hpl : place j with
      | none => simp [hpl] at h
      | some q =>
        obtain ⟨off, n⟩ := q
        simp only [hpl] at h ⊢
        split at h
        · rename_i hc
          obtain ⟨hw, hle⟩ := hc
          have hxs : x.cells.size = n := rx.width hw
          have hlen := hr.length
          simp only [Array.length_toList] at hlen
          rw [if_neg (by simp [hxs]; omega)]
          have hcells := rx.cells (by rw [hw]; simp)
          have hcl := hcells.length
          simp only [Array.length_toList] at hcl
          refine fill_rep place parts us _ _ out hu (fun i p u hi hj => hp (i + 1) p u (by simpa using hi) (by simpa using hj)) ?_ h
          have hf := overlay_fold off x.cells.toList xs (by simp; omega)
          rw [← Array.foldl_toList, Array.toList_zipIdx]
          rw [hf]
          unfold overlay
          refine ((hr.take _).append hcells).append ?_
          have := hr.drop (off + v.cells.length)
          rwa [← hcl] at this ⊢
        · cases h

theorem zeroQ_spec {t : TypeId} {z : List AV} (h : zeroQ P t = some z) : ∃ i v, P.info? t = some i ∧ i.zero = some v ∧ z = v.cells.toList.map Ab.ofV1 := by
  unfold zeroQ at h
  split at h
  · rename_i i hi
    obtain ⟨v, hv, e⟩ := Option.map_eq_some_iff.1 h
    exact ⟨i, v, hi, hv, e.symm⟩
  · cases h

theorem fill_le {p q : Nat → Option (Nat × Nat)} (h : ∀ i x, p i = some x → q i = some x) : ∀ (us : List (Nat × Value)) (cs r : Array Value), Instr.fill p cs us = some r → Instr.fill q cs us = some r
  | [], cs, r, e => e
  | (i, v) :: us, cs, r, e => by
    simp only [Instr.fill] at e ⊢
    cases hp : p i with
    | none => simp [hp] at e
    | some x =>
      obtain ⟨off, n⟩ := x
      rw [h i _ hp]
      simp only [hp] at e ⊢
      split at e
      · cases e
      · rename_i hc
        rw [if_neg hc]
        exact fill_le h us _ r e

theorem pure_build {t : TypeId} {parts : List (Nat × AV)} {us : Array (Nat × Value)} {v : AV}
    (hu : us.toList.map (·.1) = parts.map (·.1)) (hp : ∀ (i : Nat) (p : Nat × AV) (u : Nat × Value), parts[i]? = some p → us.toList[i]? = some u → Rep σ p.2 u.2)
    (h : buildA P t parts = some v) : PureOk P σ w v (do pure (.value (← Instr.build t us))) := by
  unfold buildA at h
  split at h
  · rename_i z fs hz hfs
    split at h
    · rename_i cs hcs
      cases h
      obtain ⟨i, zv, hi, hzv, rfl⟩ := zeroQ_spec hz
      obtain ⟨ys, hys, ry⟩ := fill_rep (σ := σ) (fs[·]?) parts us.toList _ zv.cells cs hu hp (RepL.ofV1 _) hcs
      have hb : P.built t us.toList = some ys := by
        unfold placesQ at hfs
        split at hfs
        · rename_i gs hg
          simp only [Program.built, hi, hg, hzv, hfs]
          simpa using hys
        · rename_i n el hg
          obtain ⟨ie, hie, rfl⟩ := Option.map_eq_some_iff.1 hfs
          simp only [Program.built, hi, hg, hzv, hie]
          refine fill_le (fun i x hx => ?_) _ _ _ hys
          rw [List.getElem?_map] at hx
          obtain ⟨j, hj, rfl⟩ := Option.map_eq_some_iff.1 hx
          have := List.getElem?_eq_some_iff.1 hj
          obtain ⟨h1, h2⟩ := this
          simp at h2
          rw [h2]
        · cases hfs
      refine .of_sem (run_build w t us ys hb) ?_
      simp only [Rep]
      exact ⟨ys.toList, by simp, ry⟩
    · cases h
  · cases h

theorem intBin_ok {op : BinOp} {k : IntKind} {a b : Int} {v : AV} (h : intBin op k a b = some v) : ∃ u, (binOp op 0 (.int k a) (.int k b)).run P w = .ok u w ∧ Rep σ v u := by
  unfold intBin at h
  cases op <;> simp only [Option.some.injEq, reduceCtorEq] at h <;> (try (split at h)) <;> (try (simp only [Option.some.injEq, reduceCtorEq] at h)) <;> (try subst h) <;>
    first
      | (simp_all [binOp, Op.intArith, Op.intDiv, Op.intCmp, Rep]; done)
      | (cases h)

end
end Go.Ab
