/- The reference's At; SpanPlaces on the machine. -/
import Derived.Test.YtkhhkfgehmogoaaS16
namespace Go.Proofs.Ytkhhkfgehmogoaa
set_option linter.unusedVariables false
set_option linter.unusedSimpArgs false
open Go Go.Ab

theorem rowL_len (s : List UInt8) (hs : s.length < 2 ^ 39) {k : Nat} (hk : k < (stP s s.length).length) : ((rowL s k).length : Int) = nextOf s (stP s s.length) (k + 1) - 1 - nextOf s (stP s s.length) k := by
  have r := (row_of s hs k hk).h
  simp only [rowL, List.length_drop, List.length_take]
  omega

noncomputable def B25 : Code := match Try.f25.body with | some (.seq _ (.seq _ (.seq _ (.seq _ (.seq (.seq _ (.block _ (.loop c))) _))))) => c | _ => .skip
noncomputable def LB25 : Code := .block 0 (.loop B25)
noncomputable def K25 : Code := match Try.f25.body with | some (.seq _ (.seq _ (.seq _ (.seq _ (.seq _ k))))) => k | _ => .skip

structure I25 (s : List UInt8) (k : Nat) (c : Int) (i : Nat) (α : Frm) (H : AHeap) : Prop where
  a1 : α 1 = .int .i64 k
  a8 : α 8 = .vec .ro (strs (rowsL s (stP s s.length).length))
  a9 : α 9 = .int .i64 (nextOf s (stP s s.length) i + c)
  a10 : α 10 = .int .i64 i

theorem round25 (s : List UInt8) (hs : s.length < 2 ^ 39) (k : Nat) (hk : k < (stP s s.length).length) (c : Int) (hc : 0 ≤ c ∧ c ≤ s.length) (i : Nat) (α : Frm) (H : AHeap) (hi : i < k) (h : I25 s k c i α H) :
    okR (execC env (run env) loopO B25 α H) fun e α' H' => e = .normal ∧ I25 s k c (i + 1) α' H' := by
  obtain ⟨a1, a8, a9, a10⟩ := h
  have hB : B25 = .seq _ (.seq _ _) := rfl
  rw [hB]
  have hlen := stP_len s s.length
  have r := (row_of s hs i (by omega)).h
  have hl := rowL_len s hs (k := i) (by omega)
  have e1 : decide ((i : Int) < (k : Int)) = true := decide_eq_true (by omega)
  have w1 : IntKind.i64.wrap ((i : Int) + 1) = (i : Int) + 1 := IntWalk.i64_in _ (by omega)
  have x1 := ix48 (R := rowsL s (stP s s.length).length) (i := (i : Int)) (x := rowL s i) .ro (by omega) (by rw [Int.toNat_natCast]; exact rowsL_get (by omega))
  have w2 : IntKind.i64.wrap (nextOf s (stP s s.length) i + c + (rowL s i).length) = nextOf s (stP s s.length) (i + 1) - 1 + c := by
    rw [hl, IntWalk.i64_in _ (by omega)]; omega
  have w3 : IntKind.i64.wrap (nextOf s (stP s s.length) (i + 1) - 1 + c + 1) = nextOf s (stP s s.length) (i + 1) + c := by
    rw [IntWalk.i64_in _ (by omega)]; omega
  have hci : ((i + 1 : Nat) : Int) = (i : Int) + 1 := by omega
  simp only [go_sem, envP, ↓reduceIte, Nat.reduceEqDiff, Nat.reduceAdd, Nat.reduceLT, a1, a8, a9, a10, e1, w1, w2, w3, x1, true_and]
  refine ⟨?_, ?_, ?_, ?_⟩ <;> simp only [go_sem, ↓reduceIte, Nat.reduceEqDiff, a1, a8, a9, a10, hci]

theorem end25 (s : List UInt8) (k : Nat) (c : Int) (α : Frm) (H : AHeap) (h : I25 s k c k α H) :
    okR (execC env (run env) loopO B25 α H) fun e α' H' => e ≠ .normal ∧ (e = .normal ∨ e = .exit 0) ∧ I25 s k c k α' H' := by
  obtain ⟨a1, a8, a9, a10⟩ := h
  have hB : B25 = .seq _ (.seq _ _) := rfl
  rw [hB]
  have e1 : decide ((k : Int) < (k : Int)) = false := by simp
  simp only [go_sem, envP, ↓reduceIte, Nat.reduceEqDiff, a1, a10, e1]
  refine ⟨by simp, by simp, ⟨?_, ?_, ?_, ?_⟩⟩ <;> simp only [go_sem, ↓reduceIte, Nat.reduceEqDiff, a1, a8, a9, a10]

theorem rat_in (s : List UInt8) (hs : s.length < 2 ^ 39) (k : Nat) (hk : k < (stP s s.length).length) (c : Int) (hc : 0 ≤ c ∧ c ≤ nextOf s (stP s s.length) (k + 1) - 1 - nextOf s (stP s s.length) k) :
    closedCall (run env) 25 [.str s, .int .i64 k, .int .i64 c] = some (.tup [.int .i64 (nextOf s (stP s s.length) k + c), .int .i64 0]) := by
  refine closed_of (v := .tup [.int .i64 (nextOf s (stP s s.length) k + c), .int .i64 0]) (fn := Try.f25) (c := .seq _ (.seq _ (.seq _ (.seq _ (.seq (.seq _ LB25) K25))))) rfl Try.func25 rfl (by rw [Try.ntmps25]; simp) (args' := [.str s, .int .i64 k, .int .i64 c]) rfl rfl ?_ rfl rfl
  refine out_of ?_
  have hsp := split_c s hs
  have hl := rowL_len s hs hk
  have r := (row_of s hs k hk).h
  have d1 : decide ((k : Int) < 0) = false := decide_eq_false (by omega)
  have d2 : decide (((stP s s.length).length : Int) ≤ (k : Int)) = false := decide_eq_false (by omega)
  have d3 : decide (c < 0) = false := decide_eq_false (by omega)
  have d4 : decide (((rowL s k).length : Int) < c) = false := decide_eq_false (by omega)
  have x1 := ix48 (R := rowsL s (stP s s.length).length) (i := (k : Int)) (x := rowL s k) .ro (by omega) (by rw [Int.toNat_natCast]; exact rowsL_get hk)
  have n0 : nextOf s (stP s s.length) 0 = 0 := by simp [nextOf, (stP_inc s s.length).z]
  simp only [go_sem, envP, ↓reduceIte, Nat.reduceEqDiff, Nat.reduceAdd, Nat.reduceLT, hsp, rowsL_len, d1, d2, d3, d4, x1, gt_iff_lt, ge_iff_le]
  refine okR_then (block_normal 0 _ _ _ _ ?_)
  rw [xc_loop']
  refine okR_imp (loop_up (I25 s k c) k (fun e α' H' => (e = .normal ∨ e = .exit 0) ∧ I25 s k c k α' H') (fun i α H hi h => round25 s hs k hk c (by omega) i α H hi h) (fun α H h => end25 s k c α H h) k 0 _ _ (by omega) ⟨?_, ?_, ?_, ?_⟩) ?_
  case refine_5 =>
    intro e α H ⟨h1, a1, a8, a9, a10⟩
    refine ⟨h1, rfl, ?_⟩
    have hK : K25 = .seq _ _ := rfl
    rw [hK]
    simp only [go_sem, envP, Try.results25, ↓reduceIte, Nat.reduceEqDiff, Nat.reduceAdd, Nat.reduceLT, a9]
  all_goals simp [go_sem, n0]

theorem rat_out (s : List UInt8) (hs : s.length < 2 ^ 39) (i c : Int) (h : (i < 0 ∨ ((stP s s.length).length : Int) ≤ i) ∨ ∃ k : Nat, k < (stP s s.length).length ∧ i = k ∧ (c < 0 ∨ nextOf s (stP s s.length) (k + 1) - 1 - nextOf s (stP s s.length) k < c)) :
    closedCall (run env) 25 [.str s, .int .i64 i, .int .i64 c] = some (.tup [.int .i64 0, .int .i64 6]) := by
  refine closed_of (v := .tup [.int .i64 0, .int .i64 6]) (fn := Try.f25) rfl Try.func25 rfl (by rw [Try.ntmps25]; simp) (args' := [.str s, .int .i64 i, .int .i64 c]) rfl rfl ?_ rfl rfl
  have hsp := split_c s hs
  by_cases c1 : i < 0
  · have d1 : decide (i < 0) = true := decide_eq_true c1
    simp only [go_sem, Try.results25, envP, ↓reduceIte, Nat.reduceEqDiff, Nat.reduceAdd, Nat.reduceLT, hsp, d1]
  have d1 : decide (i < 0) = false := decide_eq_false c1
  by_cases c2 : ((stP s s.length).length : Int) ≤ i
  · have d2 : decide (((stP s s.length).length : Int) ≤ i) = true := decide_eq_true c2
    simp only [go_sem, Try.results25, envP, ↓reduceIte, Nat.reduceEqDiff, Nat.reduceAdd, Nat.reduceLT, hsp, rowsL_len, d1, d2, ge_iff_le]
  have d2 : decide (((stP s s.length).length : Int) ≤ i) = false := decide_eq_false c2
  rcases h with h | ⟨k, hk, rfl, h⟩
  · omega
  by_cases c3 : c < 0
  · have d3 : decide (c < 0) = true := decide_eq_true c3
    simp only [go_sem, Try.results25, envP, ↓reduceIte, Nat.reduceEqDiff, Nat.reduceAdd, Nat.reduceLT, hsp, rowsL_len, d1, d2, d3, ge_iff_le]
  have d3 : decide (c < 0) = false := decide_eq_false c3
  have hl := rowL_len s hs hk
  have d4 : decide (((rowL s k).length : Int) < c) = true := decide_eq_true (by omega)
  have x1 := ix48 (R := rowsL s (stP s s.length).length) (i := (k : Int)) (x := rowL s k) .ro (by omega) (by rw [Int.toNat_natCast]; exact rowsL_get hk)
  simp only [go_sem, Try.results25, envP, ↓reduceIte, Nat.reduceEqDiff, Nat.reduceAdd, Nat.reduceLT, hsp, rowsL_len, d1, d2, d3, d4, x1, gt_iff_lt, ge_iff_le]

theorem len20 (s : List UInt8) (L : List Int) : closedCall (run env) 20 [.agg [.str s, .vec .ro (ints L)]] = some (.int .i64 s.length) := by
  refine closed_of (v := .int .i64 s.length) (fn := Try.f20) rfl Try.func20 rfl (by rw [Try.ntmps20]; simp) (args' := [.agg [.str s, .vec .ro (ints L)]]) rfl (by simp [AV.noPtr, AV.noPtr.go, ints_np]) ?_ rfl rfl
  simp only [go_sem, Try.results20, envP, ↓reduceIte, Nat.reduceEqDiff, Nat.reduceAdd, Nat.reduceLT]

theorem fst7 (s : List UInt8) (at_ ln c : Int) : closedCall (run env) 7 [.str s, .int .i64 at_, .int .i64 ln, .int .i64 c] = some (.bool true) := by
  refine closed_of (v := .bool true) (fn := Try.f7) rfl Try.func7 rfl (by rw [Try.ntmps7]; simp) (args' := [.str s, .int .i64 at_, .int .i64 ln, .int .i64 c]) rfl rfl ?_ rfl rfl
  by_cases hs : (s.length : Int) > 3000
  · have d1 : decide ((s.length : Int) > 3000) = true := decide_eq_true hs
    simp only [go_sem, envP, Try.results7, ↓reduceIte, Nat.reduceEqDiff, Nat.reduceAdd, Nat.reduceLT, d1]
  have d1 : decide ((s.length : Int) > 3000) = false := decide_eq_false hs
  have hs' : s.length < 2 ^ 39 := by omega
  have ho := of_c s hs'
  have hl := lines_st s
  have hn := len20 s (stP s s.length)
  have hsp := split_c s hs'
  have hpos := inc_pos (stP_inc s s.length)
  obtain ⟨p1, p2, p3, hp, hrp⟩ : ∃ p1 p2 p3 : Int, closedCall (run env) 21 [.agg [.str s, .vec .ro (ints (stP s s.length))], .int .i64 at_] = some (.tup [.int .i64 p1, .int .i64 p2, .int .i64 p3]) ∧ closedCall (run env) 18 [.str s, .int .i64 at_] = some (.tup [.int .i64 p1, .int .i64 p2, .int .i64 p3]) := by
    by_cases hat : 0 ≤ at_ ∧ at_ ≤ s.length
    · obtain ⟨k, hk, hk1, hk2, hp⟩ := place_c s hs' at_ hat
      obtain ⟨n, rfl⟩ : ∃ n : Nat, at_ = n := ⟨at_.toNat, by omega⟩
      exact ⟨_, _, _, hp, rplace_c s hs' n (by omega) k ⟨hk, hk1, hk2⟩⟩
    · exact ⟨_, _, _, place_out s _ at_ (by omega), rplace_out s at_ (by omega)⟩
  have ee : ∀ x : List UInt8, strBin .eql x x = some (.bool true) := fun x => by simp [strBin]
  by_cases hln : 0 ≤ ln ∧ ln < (stP s s.length).length
  · obtain ⟨k, rfl⟩ : ∃ n : Nat, ln = n := ⟨ln.toNat, by omega⟩
    have hk : k < (stP s s.length).length := by omega
    have r := row_of s hs' k hk
    have hline : closedCall (run env) 23 [.agg [.str s, .vec .ro (ints (stP s s.length))], .int .i64 k] = some (.tup [.str (rowL s k), .int .i64 0]) := line_in r
    obtain ⟨q1, q2, hat, hrat⟩ : ∃ q1 q2 : Int, closedCall (run env) 22 [.agg [.str s, .vec .ro (ints (stP s s.length))], .int .i64 k, .int .i64 c] = some (.tup [.int .i64 q1, .int .i64 q2]) ∧ closedCall (run env) 25 [.str s, .int .i64 k, .int .i64 c] = some (.tup [.int .i64 q1, .int .i64 q2]) := by
      by_cases hc : 0 ≤ c ∧ c ≤ nextOf s (stP s s.length) (k + 1) - 1 - nextOf s (stP s s.length) k
      · exact ⟨_, _, at_in r hc, rat_in s hs' k hk c hc⟩
      · exact ⟨_, _, at_out (Or.inr ⟨_, _, r, by omega⟩), rat_out s hs' k c (Or.inr ⟨k, hk, rfl, by omega⟩)⟩
    have d2 : decide (0 ≤ (k : Int)) = true := decide_eq_true (by omega)
    have d3 : decide ((k : Int) < ((stP s s.length).length : Int)) = true := decide_eq_true (by omega)
    have x1 := ix48 (R := rowsL s (stP s s.length).length) (i := (k : Int)) (x := rowL s k) .ro (by omega) (by rw [Int.toNat_natCast]; exact rowsL_get hk)
    have l9 : ∀ cs : List AV, ∀ off, ldA Try.prog 9 cs off = cs[off]? := ld9
    simp only [go_sem, envP, Try.results7, ↓reduceIte, Nat.reduceEqDiff, Nat.reduceAdd, Nat.reduceLT, d1, d2, d3, ho, hl, hn, hsp, rowsL_len, hp, hrp, hline, hat, hrat, x1, ee, ge_iff_le, beq_self_eq_true, bne_self_eq_false]
  · have hline := line_out (s := s) (L := stP s s.length) (i := ln) (by omega)
    have hat := at_out (s := s) (L := stP s s.length) (i := ln) (c := c) (Or.inl (by omega))
    have hrat := rat_out s hs' ln c (Or.inl (by omega))
    by_cases c2 : 0 ≤ ln
    · have d2 : decide (0 ≤ ln) = true := decide_eq_true c2
      have d3 : decide (ln < ((stP s s.length).length : Int)) = false := decide_eq_false (by omega)
      simp only [go_sem, envP, Try.results7, ↓reduceIte, Nat.reduceEqDiff, Nat.reduceAdd, Nat.reduceLT, d1, d2, d3, ho, hl, hn, hsp, rowsL_len, hp, hrp, hline, hat, hrat, ee, ge_iff_le, beq_self_eq_true, bne_self_eq_false]
    · have d2 : decide (0 ≤ ln) = false := decide_eq_false c2
      simp only [go_sem, envP, Try.results7, ↓reduceIte, Nat.reduceEqDiff, Nat.reduceAdd, Nat.reduceLT, d1, d2, ho, hl, hn, hsp, rowsL_len, hp, hrp, hline, hat, hrat, ee, ge_iff_le, beq_self_eq_true, bne_self_eq_false]
end Go.Proofs.Ytkhhkfgehmogoaa
