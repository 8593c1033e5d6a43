/- ImportsSort: slices.SortFunc's contract at imports: the closure walked. -/
import Derived.Test.YtkpnccaoolbeeaaGreatDoorSo
import Derived.Test.YtkpnccaoolbeeaaGreatDoorPl
import Derived.Deep.QuietTactic
import Derived.BigQuiet
import Derived.StillTailTactics
import Derived.WalkKit
namespace Go.Proofs.YtkpnccaoolbeeaaGreatDoor
set_option linter.unusedVariables false
set_option maxRecDepth 20000
open Go Go.Ab Go.RowKit Go.Lib Go.Sort

theorem isNaN_str (s : ByteArray) (W : World) : Calls Tryz.prog 29 #[.string s] W fun e w' => e = .returned (.bool false) ∧ w' = W := by
  go_enter Tryz.func29, Tryz.ntmps29
  go_wp2
  go_ret
  simp

theorem gtr_str (x y : List UInt8) (W : World) : (binOp .gtr 9 (.string ⟨x.toArray⟩) (.string ⟨y.toArray⟩)).run Tryz.prog W = .ok (.bool (!(Op.bytesLess x y || x == y))) W := by
  simp [binOp, Op.stringOp]

theorem compare_str (x y : List UInt8) (W : World) : Calls Tryz.prog 15 #[.string ⟨x.toArray⟩, .string ⟨y.toArray⟩] W fun e w' => e = .returned (.int .i64 (cmpL x y)) ∧ w' = W := by
  have hn := isNaN_str
  have hg := gtr_str x y
  unfold cmpL bl
  generalize hq : (!(Op.bytesLess x y || x == y)) = q at hg ⊢
  go_enter Tryz.func15, Tryz.ntmps15
  go_wp2_with (go_at_call 29; refine (hn _ _).mono ?_; rintro e w' ⟨rfl, rfl⟩)
  all_goals go_ret
  all_goals simp_all

/-- cmp.Or at two numbers. -/
theorem or_two (a b : Int) (k cap : Nat) (W : World) (h0 : W.cell? ⟨k, 0, none⟩ = some (.int .i64 a)) (h1 : W.cell? ⟨k, 1, none⟩ = some (.int .i64 b)) :
    Calls Tryz.prog 14 #[.slice (some ⟨k, 0, none⟩) 2 cap] W fun e w' => e = .returned (.int .i64 (if a ≠ 0 then a else b)) ∧ w' = W := by
  by_cases ha : a = 0
  · subst ha
    by_cases hb : b = 0
    · subst hb
      go_enter Tryz.func14, Tryz.ntmps14
      go_wp2
      refine wp_loop_rounds 3 ?_
      rw [rounds_succ]
      go_wp2
      rw [rounds_succ]
      go_wp2
      rw [rounds_succ]
      go_wp2
      go_ret
      simp
    · go_enter Tryz.func14, Tryz.ntmps14
      go_wp2
      refine wp_loop_rounds 3 ?_
      rw [rounds_succ]
      go_wp2
      rw [rounds_succ]
      go_wp2
      go_ret
      simp
  · go_enter Tryz.func14, Tryz.ntmps14
    go_wp2
    refine wp_loop_rounds 3 ?_
    rw [rounds_succ]
    go_wp2
    go_ret
    simp

theorem closure13 (x y : List UInt8 × List UInt8) (p q : Bool) (W : World) : Calls Tryz.prog 13 #[.agg #[.string ⟨x.1.toArray⟩, .string ⟨x.2.toArray⟩, .bool p], .agg #[.string ⟨y.1.toArray⟩, .string ⟨y.2.toArray⟩, .bool q]] W fun e w' => e = .returned (.int .i64 (cfP x y)) ∧ ∃ q os', w' = grow (W.drewN q) os' := by
  have hc := compare_str
  have ho := or_two
  go_enter Tryz.func13, Tryz.ntmps13
  go_upto_region 1 with fail
  refine wp_region_still_tail 10 (by kernel_rfl) (by kernel_rfl) ?_
  change wpStill _ _ (World.drew _) (fun a' => wpList _ _ _ _ a' (World.drew _)) _ _
  obtain ⟨w2, hw⟩ : ∃ w2, World.drew ((W.alloc (.cells #[.string ⟨x.1.toArray⟩, .string ⟨x.2.toArray⟩, .bool p] 26)).alloc (.cells #[.string ⟨y.1.toArray⟩, .string ⟨y.2.toArray⟩, .bool q] 26)) = w2 := ⟨_, rfl⟩
  rw [hw]
  have c20 : w2.cell? ⟨W.heap.size, 0, none⟩ = some (.string ⟨x.1.toArray⟩) := by rw [← hw]; simp
  have c21 : w2.cell? ⟨W.heap.size, 1, none⟩ = some (.string ⟨x.2.toArray⟩) := by rw [← hw]; simp
  have c30 : w2.cell? ⟨W.heap.size + 1, 0, none⟩ = some (.string ⟨y.1.toArray⟩) := by rw [← hw]; simp
  have c31 : w2.cell? ⟨W.heap.size + 1, 1, none⟩ = some (.string ⟨y.2.toArray⟩) := by rw [← hw]; simp
  simp only [List.take_succ_cons, List.take_zero, List.drop_succ_cons, List.drop_zero]
  repeat still_step
  still_call (hc _ _ _)
  repeat still_step
  still_call (hc _ _ _)
  refine wpStill_nil ?_
  have ho2 : ∀ (k cap : Nat) (W : World), W.cell? ⟨k, 0, none⟩ = some (.int .i64 (cmpL x.1 y.1)) → W.cell? ⟨k, 1, none⟩ = some (.int .i64 (cmpL x.2 y.2)) → Calls Tryz.prog 14 #[.slice (some ⟨k, 0, none⟩) 2 cap] W fun e w' => e = .returned (.int .i64 (cfP x y)) ∧ w' = W := fun k cap W h0 h1 => ho _ _ k cap W h0 h1
  go_wp2_with (go_at_call 14; refine (ho2 _ _ _ (by simp) (by simp)).mono ?_; rintro e w' ⟨rfl, rfl⟩)
  go_ret
  refine ⟨rfl, 1, #[.cells #[.string ⟨x.1.toArray⟩, .string ⟨x.2.toArray⟩, .bool p] 26, .cells #[.string ⟨y.1.toArray⟩, .string ⟨y.2.toArray⟩, .bool q] 26, .cells #[.int .i64 (cmpL x.1 y.1), .int .i64 (cmpL x.2 y.2)] 3], ?_⟩
  rw [← hw, alloc_eq_grow, alloc_eq_grow, alloc_eq_grow]
  show grow (grow (grow (W.drewN 1) _) _) _ = _
  rw [grow_grow, grow_grow]
  rfl

theorem ltOf_cfP : ltOf cfP = ltP := funext fun x => funext fun y => cfP_lt x y
theorem swoP : SWO (ltOf cfP) := by
  rw [ltOf_cfP]
  exact ⟨ltP_irrefl, fun x y z => ltP_trans, fun x y z => ltP_ntrans⟩
theorem totP (x y : Pr) (h : (ltOf cfP) x y = false) (k : (ltOf cfP) y x = false) : x = y := by
  rw [ltOf_cfP] at h k
  exact ltP_tri h k
theorem mergeP (l : List Pr) : (l.mergeSort fun x y => !(ltOf cfP) y x) = srt l := by
  rw [ltOf_cfP]
  rfl
theorem lays13 (blk off size : Nat) (w : World) : CmpLays Tryz.prog 13 #[] encV 3 cfP blk off size w := by
  intro m os dk hs x y
  exact closure13 x y true true _

/-! The row -/
theorem flat_at' : ∀ (l : List Pr) (t : Nat), t < l.length * 3 → (l.flatMap encV)[t]? = some ((encV l[t / 3]!)[t % 3]!)
  | [], t, h => by simp at h
  | x :: l, 0, _ => rfl
  | x :: l, 1, _ => rfl
  | x :: l, 2, _ => rfl
  | x :: l, s + 3, h => by
    have ih := flat_at' l s (by simp only [List.length_cons] at h; omega)
    have e1 : (s + 3) / 3 = s / 3 + 1 := by omega
    have e2 : (s + 3) % 3 = s % 3 := by omega
    rw [e1, e2]
    simpa [encV] using ih
theorem flatK_eq (l : List Pr) : flatK encV 3 l.toArray = (l.flatMap encV).toArray := by
  refine ext_get! (by rw [size_flatK, List.size_toArray, List.size_toArray, encV_len]) fun t ht => ?_
  have ht' : t < l.length * 3 := by simpa using ht
  have h1 := flat_at' l t ht'
  rw [get_flatK _ _ _ _ (by simpa using ht')]
  have e1 : (l.flatMap encV).toArray[t]! = (encV l[t / 3]!)[t % 3]! := by
    rw [getElem!_def]
    simp [h1]
  rw [e1]
  simp
theorem put_eq (F : List Value) (c : Array Value) (h : F.length ≤ c.size) : putCells id 0 F.toArray c = (F ++ c.toList.drop F.length).toArray := by
  apply Array.ext_getElem?
  intro t
  simp only [putCells, Array.getElem?_mapIdx, List.getElem?_toArray, List.getElem?_append, List.getElem?_drop, Nat.zero_le, true_and, Nat.zero_add, List.size_toArray, Nat.sub_zero, id_eq]
  by_cases ht : t < F.length
  · have : t < c.size := by omega
    simp [ht, this]
  · have e : F.length + (t - F.length) = t := by omega
    simp only [ht, if_false, e, Array.getElem?_toList]
    cases c[t]? <;> rfl

theorem sort_some (b cap : Nat) (l : List Pr) (c : Array Value) (et : TypeId) (w : World) (hb : w.heap[b]? = some (.cells c et (0, 0))) (hc : c.toList.take (l.length * 3) = l.flatMap encV) (hs : l.length * 3 ≤ c.size) (hl : l ≠ []) (hm : l.length ≤ 1099511627776) :
    Calls Tryz.prog 12 #[.slice (some ⟨b, 0, none⟩) l.length cap, .func (.func 13) #[] #[]] w fun e w' => e = .returned (.tuple #[]) ∧ Below w.heap.size (w.setRow b ((srt l).flatMap encV ++ c.toList.drop (l.length * 3)).toArray) w' := by
  have eg : ∀ args w, (callFunc 13 args).run Tryz.prog w = .ok (.enter 13 args) w := enters_of Tryz.func13 (by kernel_rfl) rfl
  have hblk : b < w.heap.size := (Array.getElem?_eq_some_iff.1 hb).1
  have hH : HoldsK encV 3 w b 0 l.toArray := by
    intro j hj
    rw [flatK_eq] at hj ⊢
    have hj' : j < (l.flatMap encV).length := by simpa using hj
    have hj3 : j < l.length * 3 := by rw [encV_len] at hj'; exact hj'
    have hcj : c[j]? = some ((l.flatMap encV)[j]) := by
      rw [← Array.getElem?_toList, ← List.getElem?_take_of_lt hj3, hc]
      exact List.getElem?_eq_getElem hj'
    have e1 : (l.flatMap encV).toArray[j]! = (l.flatMap encV)[j] := by
      rw [getElem!_pos _ j (by simpa using hj')]
      simp
    rw [e1, Nat.zero_add]
    refine ⟨?_, ?_⟩
    · simp [World.cell?, hb, hcj]
    · simp [World.frozen?, hb]
  refine (AnyQ.slices_SortFunc_total Tryz.sortImp 3 Tryz.isAgg26 Tryz.sizeOf26 encV (fun _ => rfl) (fun x v hv => by simp [encV] at hv; rcases hv with rfl | rfl | rfl <;> rfl) cfP swoP 13 #[] b 0 cap l.toArray w eg (lays13 b 0 _ w) hH hblk (by simp only [List.size_toArray]; omega) totP).mono ?_
  rintro e w' ⟨rfl, n, os, rfl⟩
  refine ⟨rfl, ?_⟩
  rw [show l.toArray.toList = l from rfl, mergeP]
  unfold sortWorldK putRowK
  rw [flatK_eq]
  refine ⟨rfl, rfl, rfl, ?_, ?_⟩
  · simp [grow, putRow, mapBlock, World.setRow, Sort.ahead]
  · intro k hk
    have hk2 : k < (w.heap.modify b (onCells (putCells id 0 ((srt l).flatMap encV).toArray))).size := by simpa using hk
    show ((w.heap.modify b (onCells (putCells id 0 ((srt l).flatMap encV).toArray))) ++ os)[k]? = (w.setRow b _).heap[k]?
    simp only [World.setRow]
    rw [Array.getElem?_append_left hk2, Array.getElem?_modify, Array.getElem?_modify]
    by_cases e : b = k
    · subst e
      have e3 : ((srt l).flatMap encV).length = l.length * 3 := by rw [encV_len, srt_len]
      simp only [if_true, hb, Option.map_some, onCells]
      rw [put_eq _ _ (by rw [e3]; exact hs), e3]
    · simp [e]
theorem sort_none (p : Option Addr) (cap : Nat) (fv : Value) (w : World) : Calls Tryz.prog 12 #[.slice p 0 cap, fv] w fun e w' => e = .returned (.tuple #[]) ∧ w' = w :=
  AnyF.slices_SortFunc_none Tryz.sortImp p cap fv w
theorem sortT_ok : CallOk Tryz.prog (sortX 12 13 srt) := sortX_ok ⟨_, Tryz.func12, by kernel_rfl, by kernel_rfl⟩ srt_len sort_none sort_some
end Go.Proofs.YtkpnccaoolbeeaaGreatDoor
