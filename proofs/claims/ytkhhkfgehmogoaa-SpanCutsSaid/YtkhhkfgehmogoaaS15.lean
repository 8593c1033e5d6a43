/- The reference's Place. -/
import Derived.Test.YtkhhkfgehmogoaaS12
import Derived.Test.YtkhhkfgehmogoaaS13
namespace Go.Proofs.Ytkhhkfgehmogoaa
set_option linter.unusedVariables false
set_option linter.unusedSimpArgs false
open Go Go.Ab

theorem stP_mono (s : List UInt8) (x : Int) : ∀ i d, x ∈ stP s i → x ∈ stP s (i + d)
  | i, 0, h => h
  | i, d + 1, h => by
    have := stP_mono s x i d h
    rw [show i + (d + 1) = (i + d) + 1 by omega]
    simp only [stP]
    split
    · exact List.mem_append_left _ this
    · exact this
theorem stP_mem {s : List UInt8} {i : Nat} (h : s[i]? = some 10) (hi : i < s.length) : ((i : Int) + 1) ∈ stP s s.length := by
  have : ((i : Int) + 1) ∈ stP s (i + 1) := by
    simp only [stP]
    rw [if_pos h]
    simp
  have := stP_mono s _ (i + 1) (s.length - (i + 1)) this
  rwa [show i + 1 + (s.length - (i + 1)) = s.length by omega] at this

/-- The line of a place. -/
structure At (s : List UInt8) (i : Nat) (k : Nat) : Prop where
  kl : k < (stP s s.length).length
  lo : nextOf s (stP s s.length) k ≤ i
  hi : (i : Int) < nextOf s (stP s s.length) (k + 1)

theorem next_lt {s : List UInt8} {j : Nat} (h : j < (stP s s.length).length) : nextOf s (stP s s.length) j < nextOf s (stP s s.length) (j + 1) := by
  have hI := stP_inc s s.length
  rw [nextOf_get h]
  by_cases c : j + 1 < (stP s s.length).length
  · rw [nextOf_get c]; exact List.pairwise_iff_getElem.1 hI.up j (j + 1) h c (by omega)
  · rw [nextOf_end (by omega)]
    have := hI.mem _ (List.getElem_mem h)
    omega

theorem at_zero (s : List UInt8) : At s 0 0 := by
  have hI := stP_inc s s.length
  have hp := inc_pos hI
  have n0 : nextOf s (stP s s.length) 0 = 0 := by simp [nextOf, hI.z]
  have := next_lt hp
  exact ⟨hp, by omega, by omega⟩

theorem at_nl {s : List UInt8} {i k : Nat} (h : At s i k) (hi : i < s.length) (hn : s[i]? = some 10) : nextOf s (stP s s.length) (k + 1) = i + 1 ∧ At s (i + 1) (k + 1) := by
  have hI := stP_inc s s.length
  have hm := stP_mem hn hi
  obtain ⟨q, hq, hqe⟩ := List.getElem_of_mem hm
  have hkq : k < q := by
    rcases Nat.lt_or_ge k q with c | c
    · exact c
    · have hlo := h.lo
      rw [nextOf_get h.kl] at hlo
      rcases Nat.lt_or_eq_of_le c with c | c
      · have := List.pairwise_iff_getElem.1 hI.up q k hq h.kl c; omega
      · subst c; omega
  have hk1 : k + 1 < (stP s s.length).length := by omega
  have hle : (stP s s.length)[k + 1] ≤ (i : Int) + 1 := by
    rcases Nat.lt_or_eq_of_le (show k + 1 ≤ q from hkq) with c | c
    · have := List.pairwise_iff_getElem.1 hI.up (k + 1) q hk1 hq c; omega
    · subst c; omega
  have hhi := h.hi
  rw [nextOf_get hk1] at hhi
  have e : nextOf s (stP s s.length) (k + 1) = i + 1 := by rw [nextOf_get hk1]; omega
  have := next_lt hk1
  exact ⟨e, hk1, by omega, by omega⟩

theorem at_no {s : List UInt8} {i k : Nat} (h : At s i k) (hi : i < s.length) (hn : s[i]? ≠ some 10) : At s (i + 1) k := by
  have hI := stP_inc s s.length
  refine ⟨h.kl, by have := h.lo; omega, ?_⟩
  have hhi := h.hi
  have : nextOf s (stP s s.length) (k + 1) ≠ i + 1 := by
    intro he
    by_cases c : k + 1 < (stP s s.length).length
    · rw [nextOf_get c] at he
      rcases stP_nl s s.length _ (List.getElem_mem c) with h1 | h1
      · omega
      · rw [he, show ((i : Int) + 1 - 1).toNat = i by omega] at h1
        exact hn h1
    · rw [nextOf_end (by omega)] at he; omega
  omega

theorem at_uniq {s : List UInt8} {i k q : Nat} (h : At s i k) (h' : At s i q) : k = q := by
  have hI := stP_inc s s.length
  have key : ∀ {a b : Nat}, At s i a → At s i b → ¬ a < b := by
    intro a b ha hb hab
    have h1 := ha.hi
    have h2 := hb.lo
    have hbk := hb.kl
    rw [nextOf_get hb.kl] at h2
    rw [nextOf_get (by omega)] at h1
    rcases Nat.lt_or_eq_of_le (show a + 1 ≤ b from hab) with c | c
    · have := List.pairwise_iff_getElem.1 hI.up (a + 1) b (by omega) hb.kl c; omega
    · subst c; omega
  have := key h h'
  have := key h' h
  omega

noncomputable def B18 : Code := match Try.f18.body with | some (.seq _ (.seq _ (.seq _ (.seq (.seq _ (.block _ (.loop c))) _)))) => c | _ => .skip
noncomputable def LB18 : Code := .block 0 (.loop B18)
noncomputable def K18 : Code := match Try.f18.body with | some (.seq _ (.seq _ (.seq _ (.seq _ k)))) => k | _ => .skip

structure I18 (s : List UInt8) (at_ : Nat) (i : Nat) (α : Frm) (H : AHeap) : Prop where
  ex : ∃ k, At s i k ∧ α 7 = .int .i64 k ∧ α 8 = .int .i64 (i - nextOf s (stP s s.length) k)
  a0 : α 0 = .str s
  a1 : α 1 = .int .i64 at_
  a9 : α 9 = .int .i64 i

theorem next_nn (s : List UInt8) (k : Nat) : 0 ≤ nextOf s (stP s s.length) k := by
  unfold nextOf
  split
  · rename_i x h
    exact ((stP_inc s s.length).mem x (List.mem_of_getElem? h)).1
  · omega

theorem round18 (s : List UInt8) (hs : s.length < 2 ^ 39) (at_ : Nat) (ha : at_ ≤ s.length) (i : Nat) (α : Frm) (H : AHeap) (hi : i < at_) (h : I18 s at_ i α H) :
    okR (execC env (run env) loopO B18 α H) fun e α' H' => e = .normal ∧ I18 s at_ (i + 1) α' H' := by
  obtain ⟨⟨k, hk, a7, a8⟩, a0, a1, a9⟩ := h
  have hB : B18 = .seq _ (.seq _ _) := rfl
  rw [hB]
  have hlen := stP_len s s.length
  have hkk := hk.kl
  have hlo := hk.lo
  have hnn := next_nn s k
  obtain ⟨b, hb⟩ : ∃ b, s[i]? = some b := ⟨s[i], List.getElem?_eq_getElem (by omega)⟩
  have e1 : decide ((i : Int) < (at_ : Int)) = true := decide_eq_true (by omega)
  have w1 : IntKind.i64.wrap ((i : Int) + 1) = (i : Int) + 1 := IntWalk.i64_in _ (by omega)
  have w2 : IntKind.i64.wrap ((i : Int) - nextOf s (stP s s.length) k + 1) = (i : Int) - nextOf s (stP s s.length) k + 1 := IntWalk.i64_in _ (by omega)
  have w3 : IntKind.i64.wrap ((k : Int) + 1) = (k : Int) + 1 := IntWalk.i64_in _ (by omega)
  have hc : ((i + 1 : Nat) : Int) = (i : Int) + 1 := by omega
  have hck : ((k + 1 : Nat) : Int) = (k : Int) + 1 := by omega
  have x1 := ix9 hb
  by_cases hn : b = 10
  · subst hn
    obtain ⟨h1, h2⟩ := at_nl hk (by omega) hb
    have d1 : (((10 : UInt8).toNat : Int) == 10) = true := by decide
    simp only [go_sem, envP, ↓reduceIte, Nat.reduceEqDiff, Nat.reduceAdd, Nat.reduceLT, a0, a1, a7, a8, a9, e1, w1, w2, w3, x1, d1, true_and]
    refine ⟨⟨k + 1, h2, ?_, ?_⟩, ?_, ?_, ?_⟩
    case refine_2 =>
      simp only [go_sem, ↓reduceIte, Nat.reduceEqDiff]
      congr 1; omega
    all_goals simp only [go_sem, ↓reduceIte, Nat.reduceEqDiff, a0, a1, a7, a8, a9, hc, hck]
  · have d1 : ((b.toNat : Int) == 10) = false := by
      have : b.toNat ≠ 10 := fun h => hn (by rw [← UInt8.toNat_inj]; exact h)
      simp; omega
    have h2 := at_no hk (by omega) (by rw [hb]; simpa using hn)
    simp only [go_sem, envP, ↓reduceIte, Nat.reduceEqDiff, Nat.reduceAdd, Nat.reduceLT, a0, a1, a7, a8, a9, e1, w1, w2, w3, x1, d1, true_and]
    refine ⟨⟨k, h2, ?_, ?_⟩, ?_, ?_, ?_⟩
    case refine_2 =>
      simp only [go_sem, ↓reduceIte, Nat.reduceEqDiff]
      congr 1; omega
    all_goals simp only [go_sem, ↓reduceIte, Nat.reduceEqDiff, a0, a1, a7, a8, a9, hc, hck]

theorem end18 (s : List UInt8) (at_ : Nat) (α : Frm) (H : AHeap) (h : I18 s at_ at_ α H) :
    okR (execC env (run env) loopO B18 α H) fun e α' H' => e ≠ .normal ∧ (e = .normal ∨ e = .exit 0) ∧ I18 s at_ at_ α' H' := by
  obtain ⟨⟨k, hk, a7, a8⟩, a0, a1, a9⟩ := h
  have hB : B18 = .seq _ (.seq _ _) := rfl
  rw [hB]
  have e1 : decide ((at_ : Int) < (at_ : Int)) = false := by simp
  simp only [go_sem, envP, ↓reduceIte, Nat.reduceEqDiff, a1, a9, e1]
  refine ⟨by simp, by simp, ⟨⟨k, hk, ?_, ?_⟩, ?_, ?_, ?_⟩⟩ <;>
    simp only [go_sem, ↓reduceIte, Nat.reduceEqDiff, a0, a1, a7, a8, a9]

theorem rplace_out (s : List UInt8) (at_ : Int) (h : at_ < 0 ∨ (s.length : Int) < at_) : closedCall (run env) 18 [.str s, .int .i64 at_] = some (.tup [.int .i64 0, .int .i64 0, .int .i64 6]) := by
  refine closed_of (v := .tup [.int .i64 0, .int .i64 0, .int .i64 6]) (fn := Try.f18) rfl Try.func18 rfl (by rw [Try.ntmps18]; simp) (args' := [.str s, .int .i64 at_]) rfl rfl ?_ rfl rfl
  by_cases c1 : at_ < 0
  · have d1 : decide (at_ < 0) = true := decide_eq_true c1
    simp only [go_sem, Try.results18, envP, ↓reduceIte, Nat.reduceEqDiff, Nat.reduceAdd, Nat.reduceLT, d1]
  · have d1 : decide (at_ < 0) = false := decide_eq_false c1
    have d2 : decide ((s.length : Int) < at_) = true := decide_eq_true (by omega)
    simp only [go_sem, Try.results18, envP, ↓reduceIte, Nat.reduceEqDiff, Nat.reduceAdd, Nat.reduceLT, d1, d2, gt_iff_lt]

theorem rplace_c (s : List UInt8) (hs : s.length < 2 ^ 39) (at_ : Nat) (ha : at_ ≤ s.length) (k : Nat) (hk : At s at_ k) :
    closedCall (run env) 18 [.str s, .int .i64 at_] = some (.tup [.int .i64 k, .int .i64 (at_ - nextOf s (stP s s.length) k), .int .i64 0]) := by
  refine closed_of (v := .tup [.int .i64 k, .int .i64 (at_ - nextOf s (stP s s.length) k), .int .i64 0]) (fn := Try.f18) (c := .seq _ (.seq _ (.seq _ (.seq (.seq _ LB18) K18)))) rfl Try.func18 rfl (by rw [Try.ntmps18]; simp) (args' := [.str s, .int .i64 at_]) rfl rfl ?_ rfl rfl
  refine out_of ?_
  have d1 : decide ((at_ : Int) < 0) = false := decide_eq_false (by omega)
  have d2 : decide ((s.length : Int) < (at_ : Int)) = false := decide_eq_false (by omega)
  have n0 : nextOf s (stP s s.length) 0 = 0 := by simp [nextOf, (stP_inc s s.length).z]
  simp only [go_sem, envP, ↓reduceIte, Nat.reduceEqDiff, Nat.reduceAdd, Nat.reduceLT, d1, d2, gt_iff_lt]
  refine okR_then (block_normal 0 _ _ _ _ ?_)
  rw [xc_loop']
  refine okR_imp (loop_up (I18 s at_) at_ (fun e α' H' => (e = .normal ∨ e = .exit 0) ∧ I18 s at_ at_ α' H') (fun i α H hi h => round18 s hs at_ ha i α H hi h) (fun α H h => end18 s at_ α H h) at_ 0 _ _ (by omega) ⟨⟨0, at_zero s, ?_, ?_⟩, ?_, ?_, ?_⟩) ?_
  case refine_6 =>
    intro e α H ⟨h1, ⟨q, hq, a7, a8⟩, a0, a1, a9⟩
    refine ⟨h1, rfl, ?_⟩
    have : q = k := at_uniq hq hk
    subst this
    have hK : K18 = .seq _ _ := rfl
    rw [hK]
    simp only [go_sem, envP, Try.results18, ↓reduceIte, Nat.reduceEqDiff, Nat.reduceAdd, Nat.reduceLT, a7, a8]
  all_goals simp [go_sem, n0]
end Go.Proofs.Ytkhhkfgehmogoaa
