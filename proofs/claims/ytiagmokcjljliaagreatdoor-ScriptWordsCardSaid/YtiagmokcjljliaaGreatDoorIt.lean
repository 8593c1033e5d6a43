/- Unit.item: a range over slices.Backward, walked. -/
import Derived.RangeFuncNested
import Derived.RangeFuncBound
import Derived.RangeFuncCalls
import Derived.RangeFuncLeaves
import Derived.Shelf.Abstract
import Derived.Shelf.RegionOpenPlain
import Derived.WalkKit
import Derived.OwnWalkIn
import Derived.TacticsInMore
import Derived.LoopNIn
import Derived.LoopIn
import Derived.Test.YtiagmokcjljliaaGreatDoorProg
namespace Go.Proofs.YtiagmokcjljliaaGreatDoor
set_option linter.unusedVariables false
open Go Go.RowKit Go.Shelf Go.Proofs
attribute [local go_sem] Oper.semAt_some

def upto {α : Type} (f : Nat → α) (k : Nat) : List α := (List.range k).map f
theorem upto_succ {α : Type} (f : Nat → α) (k : Nat) : upto f (k + 1) = upto f k ++ [f k] := by simp [upto, List.range_succ]
theorem upto_length {α : Type} (f : Nat → α) (k : Nat) : (upto f k).length = k := by simp [upto]

/-- A binding: where, its kind, its word, its item. -/
abbrev Bnd := Int × Int × ByteArray × Int
def zB : Bnd := (0, 0, .empty, 0)
def encB (z : Bnd) : Value := .agg #[.int .i64 z.1, .int .i64 z.2.1, .string z.2.2.1, .int .i64 z.2.2.2]

def fB (zs : List Bnd) (k : Nat) : Nat × Bnd := (zs.length - 1 - k, zs[zs.length - 1 - k]?.getD zB)

set_option maxRecDepth 100000 in
set_option maxHeartbeats 2000000 in
theorem back1_in (F : Fence) (n : Nat) (h8 : F.fn 487) (hro : F.round = none) (hn : 1 ≤ n) (l Bs n₀ b off cap : Nat) (zs : List Bnd) (hreach : zs.length * 40 ≤ 140737488351232) (hb : b < n₀) (hBl : Bs < n₀) (J Jx : List (Nat × Bnd) → World → Prop)
    (hY : ∀ pre x W, J pre W → pre.length < zs.length → YieldAt F (n - 1) Tryz.prog l #[.int .i64 (x.1 : Int), encB x.2] W fun e W' =>
      (e = .returned (.bool true) ∧ J (pre ++ [x]) W' ∧ Below n₀ W W') ∨ (e = .returned (.bool false) ∧ Jx (pre ++ [x]) W'))
    (W : World) (hBs : W.cell? ⟨Bs, 0, none⟩ = some (.slice (some ⟨b, off, none⟩) zs.length cap))
    (hc : ∀ j, j < zs.length → W.cell? ⟨b, off + j * 4, none⟩ = some (.int .i64 (zs[j]?.getD zB).1) ∧ W.cell? ⟨b, off + j * 4 + 1, none⟩ = some (.int .i64 (zs[j]?.getD zB).2.1) ∧ W.cell? ⟨b, off + j * 4 + 2, none⟩ = some (.string (zs[j]?.getD zB).2.2.1) ∧ W.cell? ⟨b, off + j * 4 + 3, none⟩ = some (.int .i64 (zs[j]?.getD zB).2.2.2))
    (h0 : J [] W) :
    CallsIn F n Tryz.prog 487 #[.func (.yield l) #[] #[], .pointer (some ⟨Bs, 0, none⟩)] W fun e W' => (∃ v, e = .returned v) ∧
      ((∃ ys, ys = upto (fB zs) zs.length ∧ J ys W') ∨ (∃ pre, (∃ k, k ≤ zs.length ∧ pre = upto (fB zs) k) ∧ Jx pre W')) := by
  refine callsIn_of_wp Tryz.func487 rfl h8 ?_ hro
  simp only [Tryz.ntmps487, List.size_toArray, List.length_cons, List.length_nil, Nat.reduceAdd, Nat.reduceSub, Array.replicate_succ, Array.replicate_zero, List.push_toArray, List.append_toArray, List.nil_append, List.cons_append]
  gi_wp2
  gi_loopw [3] (fun i wr => ∃ m k : Nat, m + k = zs.length ∧ i = .int .i64 ((m : Int) - 1) ∧ J (upto (fB zs) k) wr ∧ Below n₀ W wr)
    (fun i _ => (intOf i + 1).toNat)
  case atStart => exact ⟨zs.length, 0, by omega, by simp; try omega, h0, Below.refl _ _⟩
  case round =>
    obtain ⟨m, k, hk, rfl, hJs, hnx⟩ := hrel
    have hBs' := (hnx.cell (p := ⟨Bs, 0, none⟩) hBl).trans hBs
    cases m with
    | zero =>
      obtain rfl : k = zs.length := by omega
      gi_wp2
      go_end0
      exact ⟨⟨_, rfl⟩, .inl ⟨_, rfl, hJs⟩⟩
    | succ m =>
      have hm : m < zs.length := by omega
      obtain ⟨c0, c1, c2, c3⟩ := hc m hm
      have d0 := (hnx.cell (p := ⟨b, off + m * 4, none⟩) hb).trans c0
      have d1 := (hnx.cell (p := ⟨b, off + m * 4 + 1, none⟩) hb).trans c1
      have d2 := (hnx.cell (p := ⟨b, off + m * 4 + 2, none⟩) hb).trans c2
      have d3 := (hnx.cell (p := ⟨b, off + m * 4 + 3, none⟩) hb).trans c3
      have hmi : ((m + 1 : Nat) : Int) - 1 = (m : Int) := by omega
      have hfk : fB zs k = (m, zs[m]?.getD zB) := by
        have : zs.length - 1 - k = m := by omega
        simp [fB, this]
      clear c0 c1 c2 c3
      generalize hz : zs[m]?.getD zB = z at d0 d1 d2 d3 hfk
      clear hz
      obtain ⟨z1, z2, z3, z4⟩ := z
      dsimp only at d0 d1 d2 d3
      obtain ⟨fn, tmps, assign, body, hy, hR⟩ := hY _ (m, (z1, z2, z3, z4)) wr hJs (by rw [upto_length]; omega)
      dsimp only [encB] at hy
      rw [hmi]
      gi_wp2
      refine hR.mono ?_
      rintro e W3 (⟨rfl, hJ3, hk3⟩ | ⟨rfl, hJx3⟩)
      · gi_wp2
        go_roundw
        case rel => exact ⟨m, k + 1, by omega, by simp, by rw [upto_succ, hfk]; exact hJ3, hnx.trans hk3⟩
        case measure => simp [intOf]
      · gi_wp2
        refine bodyPost_ret (results_none rfl _ _ _) rfl ?_
        exact ⟨⟨_, rfl⟩, .inr ⟨_, ⟨k + 1, by omega, rfl⟩, by rw [upto_succ, hfk]; exact hJx3⟩⟩

set_option maxRecDepth 100000 in
set_option maxHeartbeats 1000000 in
/-- .. at the nil slice: no round. -/
theorem back1_nil_in (F : Fence) (n : Nat) (h7 : F.fn 487) (hro : F.round = none) (l Bs : Nat) (J : List (Nat × Bnd) → World → Prop) (W : World) (hBs : W.cell? ⟨Bs, 0, none⟩ = some (.slice none 0 0)) (h0 : J [] W) :
    CallsIn F n Tryz.prog 487 #[.func (.yield l) #[] #[], .pointer (some ⟨Bs, 0, none⟩)] W fun e W' => (∃ v, e = .returned v) ∧ J [] W' := by
  refine callsIn_of_wp Tryz.func487 rfl h7 ?_ hro
  simp only [Tryz.ntmps487, List.size_toArray, List.length_cons, List.length_nil, Nat.reduceAdd, Nat.reduceSub, Array.replicate_succ, Array.replicate_zero, List.push_toArray, List.append_toArray, List.nil_append, List.cons_append]
  gi_wp2
  gi_loopw [3] (fun i wr => i = .int .i64 (-1) ∧ J [] wr) (fun _ _ => 0)
  case atStart => exact ⟨rfl, h0⟩
  case round =>
    obtain ⟨rfl, hJs⟩ := hrel
    gi_wp2
    go_end0
    exact ⟨⟨_, rfl⟩, hJs⟩

set_option maxHeartbeats 1000000 in
/-- **slices.Backward(s)**: the slice value is boxed; the function value captures the box. -/
theorem back_in (F : Fence) (n : Nat) (h5 : F.fn 430) (hro : F.round = none) (a : Option Addr) (len cap : Nat) (w : World) :
    CallsIn F n Tryz.prog 430 #[.slice a len cap] w fun e w' => e = .returned (.func (.func 487) #[] #[.pointer (some ⟨w.heap.size, 0, none⟩)]) ∧ w' = w.alloc (.cells #[.slice a len cap] 116) := by
  refine callsIn_of_wp Tryz.func430 rfl h5 ?_ hro
  simp only [Tryz.ntmps430, List.size_toArray, List.length_cons, List.length_nil, Nat.reduceAdd, Nat.reduceSub, Array.replicate_succ, Array.replicate_zero, List.push_toArray, List.append_toArray, List.nil_append, List.cons_append]
  gi_wp2
  go_ret
  exact ⟨rfl, rfl⟩

/-- The slice value holds the bindings zs, in a block below n₀; or it holds none. -/
def Bnds (n₀ : Nat) (W : World) (sv : Value) (zs : List Bnd) : Prop :=
  (sv = .slice none 0 0 ∧ zs = []) ∨ ∃ b off cap, sv = .slice (some ⟨b, off, none⟩) zs.length cap ∧ b < n₀ ∧ ∀ j, j < zs.length → W.cell? ⟨b, off + j * 4, none⟩ = some (.int .i64 (zs[j]?.getD zB).1) ∧ W.cell? ⟨b, off + j * 4 + 1, none⟩ = some (.int .i64 (zs[j]?.getD zB).2.1) ∧ W.cell? ⟨b, off + j * 4 + 2, none⟩ = some (.string (zs[j]?.getD zB).2.2.1) ∧ W.cell? ⟨b, off + j * 4 + 3, none⟩ = some (.int .i64 (zs[j]?.getD zB).2.2.2)
theorem Bnds.below {n₀ : Nat} {A B : World} (h : Below n₀ A B) {sv : Value} {zs : List Bnd} : Bnds n₀ A sv zs → Bnds n₀ B sv zs
  | .inl e => .inl e
  | .inr ⟨b, off, cap, e, hb, hc⟩ => .inr ⟨b, off, cap, e, hb, fun j hj => by
      obtain ⟨c0, c1, c2, c3⟩ := hc j hj
      exact ⟨(h.cell (p := ⟨b, _, none⟩) hb).trans c0, (h.cell (p := ⟨b, _, none⟩) hb).trans c1, (h.cell (p := ⟨b, _, none⟩) hb).trans c2, (h.cell (p := ⟨b, _, none⟩) hb).trans c3⟩⟩

theorem back_stops (F : Fence) (n : Nat) (h7 : F.fn 487) (hro : F.round = none) (hn : 1 ≤ n) (Bs n₀ : Nat) (sv : Value) (zs : List Bnd) (hreach : zs.length * 40 ≤ 140737488351232) (w : World) (hBs : Bs < n₀) (hn₀ : n₀ ≤ w.heap.size)
    (hc : w.cell? ⟨Bs, 0, none⟩ = some sv) (hI : Bnds n₀ w sv zs) :
    SeqStopsK F n Tryz.prog 487 #[.pointer (some ⟨Bs, 0, none⟩)] (fun x : Nat × Bnd => #[Value.int .i64 (x.1 : Int), encB x.2]) (Below n₀) (fun ys => ys = upto (fB zs) zs.length) (fun pre => ∃ k, k ≤ zs.length ∧ pre = upto (fB zs) k) zs.length w := fun l J Jx W hW _ _ hY h0 => by
  have hc' := (hW.cell (p := ⟨Bs, 0, none⟩) (by show Bs < _; omega)).trans hc
  rcases hI.below (hW.mono hn₀) with ⟨rfl, rfl⟩ | ⟨b, off, cap, rfl, hb, hcs⟩
  · exact (back1_nil_in F n h7 hro l Bs J W hc' h0).mono fun e W' ⟨he, hj⟩ => ⟨he, .inl ⟨_, rfl, hj⟩⟩
  · exact back1_in F n h7 hro hn l Bs n₀ b off cap zs hreach hb hBs J Jx hY W hc' hcs h0
def hit (s : ByteArray) (x : Nat × Bnd) : Bool := decide (x.2.2.1 = 2) && (x.2.2.2.1.toList == s.toList)
/-- The last place that hits; -1: none does. -/
def lastHit (h : Nat → Bool) : Nat → Int
  | 0 => -1
  | n + 1 => if h n = true then n else lastHit h n
theorem lastHit_none {h : Nat → Bool} : ∀ n, (∀ j, j < n → h j = false) → lastHit h n = -1
  | 0, _ => rfl
  | n + 1, k => by
    simp only [lastHit]
    rw [if_neg (by rw [k n (by omega)]; simp)]
    exact lastHit_none n fun j hj => k j (by omega)
theorem lastHit_some {h : Nat → Bool} {m : Nat} : ∀ n, m < n → h m = true → (∀ j, m < j → j < n → h j = false) → lastHit h n = m
  | 0, hm, _, _ => by omega
  | n + 1, hm, hh, k => by
    simp only [lastHit]
    by_cases e : m = n
    · subst e; rw [if_pos hh]
    · rw [if_neg (by rw [k n (by omega) (by omega)]; simp)]
      exact lastHit_some n (by omega) hh fun j h1 h2 => k j h1 (by omega)
def hitAt (s : ByteArray) (zs : List Bnd) (j : Nat) : Bool := hit s (j, zs[j]?.getD zB)
def lastIx (pre : List (Nat × Bnd)) : Int := match pre.getLast? with | some x => x.1 | none => 0
theorem lastIx_snoc (pre : List (Nat × Bnd)) (x : Nat × Bnd) : lastIx (pre ++ [x]) = x.1 := by simp [lastIx]
/-- The round that hit, and no other. -/
def ended (s : ByteArray) (pre : List (Nat × Bnd)) : Prop := ∃ init x, pre = init ++ [x] ∧ (∀ y ∈ init, hit s y = false) ∧ hit s x = true

theorem hit_fB (s : ByteArray) (zs : List Bnd) (k : Nat) : hit s (fB zs k) = hitAt s zs (zs.length - 1 - k) := rfl
theorem lastHit_all {s : ByteArray} {zs : List Bnd} (hp : ∀ x ∈ upto (fB zs) zs.length, hit s x = false) : lastHit (hitAt s zs) zs.length = -1 := by
  refine lastHit_none _ fun j hj => ?_
  have := hp (fB zs (zs.length - 1 - j)) (List.mem_map.2 ⟨_, List.mem_range.2 (by omega), rfl⟩)
  rw [hit_fB] at this
  have e : zs.length - 1 - (zs.length - 1 - j) = j := by omega
  rwa [e] at this
theorem lastHit_end {s : ByteArray} {zs : List Bnd} {k : Nat} (hk : k ≤ zs.length) (h : ended s (upto (fB zs) k)) : lastHit (hitAt s zs) zs.length = lastIx (upto (fB zs) k) := by
  obtain ⟨init, x, he, hi, hx⟩ := h
  cases k with
  | zero => simp [upto] at he
  | succ k =>
    have he' := he
    rw [upto_succ] at he
    obtain ⟨rfl, h2⟩ := List.append_inj' he rfl
    simp only [List.cons.injEq, and_true] at h2
    subst h2
    rw [upto_succ, lastIx_snoc]
    rw [hit_fB] at hx
    show _ = ((zs.length - 1 - k : Nat) : Int)
    refine lastHit_some _ (by omega) hx fun j h1 h2 => ?_
    have := hi (fB zs (zs.length - 1 - j)) (List.mem_map.2 ⟨_, List.mem_range.2 (by omega), rfl⟩)
    rw [hit_fB] at this
    have e : zs.length - 1 - (zs.length - 1 - j) = j := by omega
    rwa [e] at this

theorem cells_own {β : Type} (B : Nat) (c : Array Value) (t : TypeId) : Own (fun (_ : β) W => W.heap[B]? = some (.cells c t (0, 0))) := fun s X Y row hs hg hrow =>
  (hg.block B (Array.getElem?_eq_some_iff.1 hs).1 (fun e' => by obtain ⟨o, ho, hc⟩ := hrow B e'.symm; rw [show X.heap[B]? = _ from hs] at ho; cases ho; cases hc)).trans hs

set_option maxRecDepth 100000 in
set_option maxHeartbeats 4000000 in
theorem item_in (F : Fence) (n : Nat) (h3 : F.fn 318) (h4 : F.fn 430) (h5 : F.fn 487) (hro : F.round = none) (hn : 6 ≤ n) (u0 u1 u2 u3 u4 u5 u6 u7 u8 u10 u11 u12 u13 : Value) (a : Option Addr) (len cap : Nat) (s : ByteArray) (zs : List Bnd) (hreach : zs.length * 40 ≤ 140737488351232) (w : World) (hI : Bnds w.heap.size w (.slice a len cap) zs) :
    CallsIn F n Tryz.prog 318 #[.agg #[u0, u1, u2, u3, u4, u5, u6, u7, u8, .slice a len cap, u10, u11, u12, u13], .string s] w fun e W' => e = .returned (.int .i64 (lastHit (hitAt s zs) zs.length)) ∧ Below w.heap.size w W' := by
  have h1 : 1 ≤ n := by omega
  refine callsIn_of_wp_marks Tryz.func318 rfl h3 ?_ hro
  simp only [Tryz.ntmps318, List.size_toArray, List.length_cons, List.length_nil, Nat.reduceAdd, Nat.reduceSub, Array.replicate_succ, Array.replicate_zero, List.push_toArray, List.append_toArray, List.nil_append, List.cons_append]
  gi_wp2_with (gi_at_call 430; refine (back_in F (n - 1) h4 hro _ _ _ _).mono ?_; rintro e w' ⟨rfl, rfl⟩)
  have bS := (Boxed.new (w.alloc (.cells #[u0, u1, u2, u3, u4, u5, u6, u7, u8, .slice a len cap, u10, u11, u12, u13] 122)) 9 (.string s)).alloc (.cells #[.int .i64 0] 3)
  replace bS := bS.alloc (.cells #[.slice a len cap] 116)
  have bR := (Boxed.new ((w.alloc (.cells #[u0, u1, u2, u3, u4, u5, u6, u7, u8, .slice a len cap, u10, u11, u12, u13] 122)).alloc (.cells #[.string s] 9)) 3 (.int .i64 0)).alloc (.cells #[.slice a len cap] 116)
  have bN := Boxed.new (((w.alloc (.cells #[u0, u1, u2, u3, u4, u5, u6, u7, u8, .slice a len cap, u10, u11, u12, u13] 122)).alloc (.cells #[.string s] 9)).alloc (.cells #[.int .i64 0] 3)) 116 (.slice a len cap)
  simp only [World.size_alloc] at bS bR bN
  have hB0 : Below w.heap.size w ((((w.alloc (.cells #[u0, u1, u2, u3, u4, u5, u6, u7, u8, .slice a len cap, u10, u11, u12, u13] 122)).alloc (.cells #[.string s] 9)).alloc (.cells #[.int .i64 0] 3)).alloc (.cells #[.slice a len cap] 116)) := ((((Below.refl _ w).alloc (Nat.le_refl _) _).alloc (by simp) _).alloc (by simp; omega) _).alloc (by simp; omega) _
  have hsz : ((((w.alloc (.cells #[u0, u1, u2, u3, u4, u5, u6, u7, u8, .slice a len cap, u10, u11, u12, u13] 122)).alloc (.cells #[.string s] 9)).alloc (.cells #[.int .i64 0] 3)).alloc (.cells #[.slice a len cap] 116)).heap.size = w.heap.size + 4 := by simp
  obtain ⟨W0, hW0⟩ : ∃ W0, ((((w.alloc (.cells #[u0, u1, u2, u3, u4, u5, u6, u7, u8, .slice a len cap, u10, u11, u12, u13] 122)).alloc (.cells #[.string s] 9)).alloc (.cells #[.int .i64 0] 3)).alloc (.cells #[.slice a len cap] 116)) = W0 := ⟨_, rfl⟩
  rw [hW0] at bS bR bN hB0 hsz ⊢
  clear hW0
  generalize Value.agg #[u0, u1, u2, u3, u4, u5, u6, u7, u8, .slice a len cap, u10, u11, u12, u13] = U
  have hI0 : Bnds (w.heap.size + 4) W0 (.slice a len cap) zs := by
    rcases hI.below hB0 with h | ⟨b, off, cap', e, hb, hc⟩
    · exact .inl h
    · exact .inr ⟨b, off, cap', e, by omega, hc⟩
  refine wpIn_rangeFunc_ownH hro h1 (gf := 487) (lb := #[.pointer (some ⟨w.heap.size + 1 + 1 + 1, 0, none⟩)]) rfl h5 (enters_of Tryz.func487 (by kernel_rfl) rfl)
    (back_stops F (n - 1) h5 hro (by omega) (w.heap.size + 1 + 1 + 1) (w.heap.size + 4) (.slice a len cap) zs hreach W0 (by omega) (by omega) bN.cell hI0) belowK_t (belowK_b (by omega)) (Below.refl _ _) (fun _ => rfl)
    (fun pre W => (((∀ x ∈ pre, hit s x = false) ∧ Boxed W (w.heap.size + 1) 9 (.string s)) ∧ Boxed W (w.heap.size + 1 + 1) 3 (.int .i64 0)) ∧ (Below w.heap.size w W ∧ Below (w.heap.size + 4) W0 W))
    (fun c pre W => ((c = .ret ∧ ended s pre) ∧ Boxed W (w.heap.size + 1 + 1) 3 (.int .i64 (lastIx pre))) ∧ Below w.heap.size w W)
    (OwnFrom.and (OwnFrom.and (OwnFrom.and (ownFrom_pure _ _) (Own.from (boxed_own _ _ _) _)) (Own.from (boxed_own _ _ _) _)) (OwnFrom.and (ownFrom_below (Nat.le_refl _) (by omega)) (ownFrom_below (by omega) (by omega))))
    (fun c => OwnFrom.and (OwnFrom.and (ownFrom_pure _ _) (Own.from (boxed_own _ _ _) _)) (ownFrom_below (Nat.le_refl _) (by omega)))
    ⟨⟨⟨by simp, bS⟩, bR⟩, hB0, Below.refl _ _⟩
    (fun x a' W => ∃ Bx, w.heap.size + 4 ≤ Bx ∧ W.heap[Bx]? = some (.cells #[.int .i64 x.2.1, .int .i64 x.2.2.1, .string x.2.2.2.1, .int .i64 x.2.2.2.2] 228 (0, 0)) ∧ a' = { tmps := #[U, .string s, .pointer (some ⟨w.heap.size, 0, none⟩), .pointer (some ⟨w.heap.size + 1, 0, none⟩), .pointer (some ⟨w.heap.size + 1 + 1, 0, none⟩), .int .i64 (x.1 : Int), .pointer (some ⟨Bx, 0, none⟩),
      .pointer (some ⟨w.heap.size, 9, none⟩), .pointer (some ⟨w.heap.size, 9, none⟩), .slice a len cap, .func (.func 487) #[] #[.pointer (some ⟨w.heap.size + 1 + 1 + 1, 0, none⟩)], .int .i64 (x.1 : Int), encB x.2, undef, undef, undef, undef, undef, undef, undef, undef, undef, undef], defers := [] })
    (fun x a' _ X Y row hs hg hr => by obtain ⟨Bx, e1, e2, e3⟩ := hs; exact ⟨Bx, e1, cells_own (β := Unit) Bx _ _ () X Y row e2 hg (fun r e => (hr r e).2), e3⟩)
    ?assign ?body ?done ?stop
  case assign =>
    rintro l pre ⟨xi, x1, x2, x3, x4⟩ W K ⟨⟨⟨hp, bS1⟩, bR1⟩, hB1, hB2⟩ hK
    dsimp only [encB] at hK ⊢
    gi_wp2
    exact hK _ _ ((KeepsOthers.alloc _ _).from _) ((Below.refl _ W).alloc (by have := hB2.size; omega) _) ⟨⟨⟨hp, bS1.alloc _⟩, bR1.alloc _⟩, hB1.alloc hB1.size _, hB2.alloc (by have := hB2.size; omega) _⟩ ⟨W.heap.size, by have := hB2.size; omega, World.alloc_heap_new W _, rfl⟩
  case body =>
    rintro l pre ⟨xi, x1, x2, x3, x4⟩ a' W hl ⟨r, hr⟩ ⟨⟨⟨hp, bS1⟩, bR1⟩, hB1, hB2⟩ ⟨Bx, hBx, hcx, rfl⟩ hlt
    dsimp only [encB] at hcx ⊢
    have cS := bS1.cell
    have cR := bR1.cell
    have fR := bR1.frozen
    have cX1 : W.cell? ⟨Bx, 1, none⟩ = some (.int .i64 x2) := by simp [World.cell?, hcx]
    have cX2 : W.cell? ⟨Bx, 2, none⟩ = some (.string x3) := by simp [World.cell?, hcx]
    gi_wp2
    · rename_i h2 heq
      exact ⟨(KeepsOthers.setCell _ _ _).from _, ⟨⟨rfl, pre, _, rfl, hp, by simp only [hit, heq, h2, decide_true, Bool.and_self]⟩, by rw [lastIx_snoc]; exact bR1.set _⟩, hB1.setCell (p := ⟨w.heap.size + 1 + 1, 0, none⟩) (by simp; omega) _⟩
    · rename_i h2 heq
      exact ⟨KeepsFrom.refl _ _, Below.refl _ _, ⟨⟨fun y hy => (List.mem_append.1 hy).elim (hp y) (fun e => by
        simp only [List.mem_singleton] at e
        subst e
        simp only [hit, Bool.and_eq_false_iff]
        exact .inr (by simpa using heq)), bS1⟩, bR1⟩, hB1, hB2⟩
    · rename_i h2
      exact ⟨KeepsFrom.refl _ _, Below.refl _ _, ⟨⟨fun y hy => (List.mem_append.1 hy).elim (hp y) (fun e => by
        simp only [List.mem_singleton] at e
        subst e
        simp only [hit, Bool.and_eq_false_iff]
        exact .inl (by simpa using h2)), bS1⟩, bR1⟩, hB1, hB2⟩
  case done =>
    rintro D ys W hD rfl ⟨⟨⟨hp, bS1⟩, bR1⟩, hB1, hB2⟩ hK
    have cR := bR1.cell
    have fR := bR1.frozen
    gi_wp2
    have hK' := (KeepsOthers.setCell W ⟨w.heap.size + 1 + 1, 0, none⟩ (.int .i64 (-1))).same D _ hK rfl
    refine ⟨by simp, .inl ⟨_, _, rfl, run_takeDeferred hK', ?_⟩⟩
    have hc5 := cell_kept (bR1.set (.int .i64 (-1))).cell (grownBy_putObj' _ D (.deferred none)) (fun r e => by cases e; exact ⟨_, hK', rfl⟩)
    refine ⟨.int .i64 (-1), ?_, by rw [lastHit_all hp], (hB1.setCell (p := ⟨w.heap.size + 1 + 1, 0, none⟩) (by simp; omega) _).trans (belowK_b (w := w) (Nat.le_refl _) _ D _ _ (by omega) hK' rfl rfl)⟩
    simp [results, Tryz.f318, go_sem, hc5]
  case stop =>
    rintro D c pre W hD ⟨k, hk, rfl⟩ ⟨⟨⟨rfl, hend⟩, bR1⟩, hB1⟩ hK
    gi_wp2
    refine ⟨by simp, .inl ⟨_, _, rfl, run_takeDeferred hK, ?_⟩⟩
    have hc5 := cell_kept bR1.cell (grownBy_putObj' _ D (.deferred none)) (fun r e => by cases e; exact ⟨_, hK, rfl⟩)
    refine ⟨.int .i64 (lastIx (upto (fB zs) k)), ?_, by rw [lastHit_end hk hend], hB1.trans (belowK_b (w := w) (Nat.le_refl _) W D _ _ (by omega) hK rfl rfl)⟩
    simp [results, Tryz.f318, go_sem, hc5]
end Go.Proofs.YtiagmokcjljliaaGreatDoor
