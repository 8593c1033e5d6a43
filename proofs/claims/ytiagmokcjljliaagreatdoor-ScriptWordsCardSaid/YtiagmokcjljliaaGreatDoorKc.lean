/- ScriptWords: the lexers on the machine, 3: numbers, texts, one token. -/
import Derived.Test.YtiagmokcjljliaaGreatDoorKb
/- ScriptWords: the reference's Next and Bad on the machine. -/
namespace Go.Proofs.YtiagmokcjljliaaGreatDoor
set_option linter.unusedVariables false
set_option linter.unusedSimpArgs false
set_option maxRecDepth 100000
open Go Go.Ab

theorem ltN (a b : Nat) : decide (((a : Nat) : Int) < ((b : Nat) : Int)) = decide (a < b) := by
  rw [Bool.eq_iff_iff, decide_eq_true_eq, decide_eq_true_eq]
  omega
theorem cv53 (c : UInt8) : convA Tryz.prog 5 3 (.int .u8 (c.toNat : Int)) = some (.int .i64 (c.toNat : Int)) := by
  have h1 : aggQ Tryz.prog 5 = some false := agg5
  have h2 : intQ Tryz.prog 3 = some .i64 := by kernel_rfl
  have hc := c.toNat_lt
  simp only [convA, h1, h2]
  rw [IntWalk.i64_in _ (by omega)]
  rfl
attribute [go_sem] cv53
noncomputable def T15 : Code := match Tryz.f15.body with | some (.seq _ (.seq _ (.seq _ (.seq _ (.seq _ (.seq _ (.seq _ (.seq _ k)))))))) => k | _ => .skip
noncomputable def B15 : Code := match T15 with | .seq (.seq _ (.block _ (.loop c))) _ => c | _ => .skip
noncomputable def LB15 : Code := .block 0 (.loop B15)
noncomputable def K15 : Code := match T15 with | .seq _ k => k | _ => .skip
structure I15 (s : List UInt8) (i n acc0 least : Nat) (t : List UInt8) (d : Nat) (α : Frm) (H : AHeap) : Prop where
  ex : ∃ j acc : Nat, j + d = n ∧ 1 ≤ j ∧ acc < 2 ^ (6 * j) ∧ cont (n - j) acc (t.drop (j - 1)) = cont (n - 1) acc0 t ∧ α 11 = .int .i64 (j : Int) ∧ α 9 = .int .i64 (acc : Int)
  a0 : α 0 = .str s
  a1 : α 1 = .int .i64 (i : Int)
  a8 : α 8 = .int .i64 (n : Int)
  a10 : α 10 = .int .i64 (least : Int)
def Bad15 (α : Frm) : Prop := α 4 = .int .i64 65533 ∧ α 5 = .int .i64 1 ∧ α 6 = .bool false
def P15 (n acc0 least : Nat) (t : List UInt8) (x : Ex) (α : Frm) (H : AHeap) : Prop :=
  (x = .exit 0 ∧ ∃ acc : Nat, acc < 2 ^ 24 ∧ cont (n - 1) acc0 t = some acc ∧ α 9 = .int .i64 (acc : Int) ∧ α 8 = .int .i64 (n : Int) ∧ α 10 = .int .i64 (least : Int)) ∨ (x = .ret ∧ cont (n - 1) acc0 t = none ∧ Bad15 α)
theorem round15 {s : List UInt8} {i n acc0 least : Nat} {b : UInt8} {t : List UInt8} (hd : s.drop i = b :: t) (hn : s.length ≤ 16384) (hi : i < s.length) (hlen : n ≤ t.length + 1) (hn4 : n ≤ 4) (d : Nat) (α : Frm) (H : AHeap) (h : I15 s i n acc0 least t d α H) :
    okR (execC envK (run envK) loopO B15 α H) fun x α' H' => (x = .normal ∧ ∃ d', d' < d ∧ I15 s i n acc0 least t d' α' H') ∨ (x ≠ .normal ∧ P15 n acc0 least t x α' H') := by
  obtain ⟨⟨j, acc, hj, hj1, hacc, hcont, a11, a9⟩, a0, a1, a8, a10⟩ := h
  have hB : B15 = .seq (.seq _ _) (.seq (.block _ (.seq (.seq _ _) _)) _) := rfl
  rw [hB]
  clear hB
  have e1 : decide ((j : Int) < (n : Int)) = decide (j < n) := ltN j n
  have hP : 2 ^ (6 * (j + 1)) = 2 ^ (6 * j) * 64 := by rw [Nat.mul_add, Nat.pow_add]
  have hP4 : 2 ^ (6 * j) ≤ 2 ^ 24 := Nat.pow_le_pow_right (by omega) (by omega)
  have hP24 : (2 : Nat) ^ 24 = 16777216 := by decide
  by_cases hjn : j < n
  · rw [decide_eq_true hjn] at e1
    obtain ⟨c, hc⟩ := get_some (s := t) (i := j - 1) (by omega)
    have hsc : s[i + j]? = some c := by
      rw [← List.getElem?_drop, hd, show j = (j - 1) + 1 by omega, List.getElem?_cons_succ]
      exact hc
    have x1 := ix9 hsc
    have x2 := more31 c
    have hcl := c.toNat_lt
    have w1 : IntKind.i64.wrap ((i : Int) + (j : Int)) = ((i + j : Nat) : Int) := by rw [IntWalk.i64_in _ (by omega)]; omega
    have w2 : IntKind.i64.wrap ((j : Int) + 1) = ((j + 1 : Nat) : Int) := by rw [IntWalk.i64_in _ (by omega)]; omega
    have w3 : IntKind.i64.wrap ((acc : Int) * 64) = ((acc * 64 : Nat) : Int) := by rw [IntWalk.i64_in _ (by omega)]; omega
    have w4 : IntKind.i64.wrap (((acc * 64 : Nat) : Int) + (c.toNat : Int)) = ((acc * 64 + c.toNat : Nat) : Int) := by rw [IntWalk.i64_in _ (by omega)]; omega
    rw [show n - j = (n - (j + 1)) + 1 by omega, drop_get hc, show j - 1 + 1 = j by omega] at hcont
    cases hm : isMore c with
    | true =>
      rw [hm] at x2
      rw [cont_yes hm] at hcont
      have hc2 : 128 ≤ c.toNat ∧ c.toNat < 192 := by simpa [isMore] using hm
      have w5 : IntKind.i64.wrap (((acc * 64 + c.toNat : Nat) : Int) - 128) = ((acc * 64 + (c.toNat - 128) : Nat) : Int) := by rw [IntWalk.i64_in _ (by omega)]; omega
      simp only [go_sem, envP, ↓reduceIte, Nat.reduceEqDiff, Nat.reduceAdd, Nat.reduceLT, a0, a1, a8, a9, a10, a11, e1, x1, x2, w1, w2, w3, w4, w5, Bool.not_true, Bool.not_false]
      refine .inl ⟨trivial, d - 1, by omega, ⟨j + 1, acc * 64 + (c.toNat - 128), by omega, by omega, by omega, hcont, ?_, ?_⟩, ?_, ?_, ?_, ?_⟩
      all_goals simp only [go_sem, ↓reduceIte, Nat.reduceEqDiff, a0, a1, a8, a9, a10, a11]
    | false =>
      rw [hm] at x2
      rw [cont_no hm] at hcont
      simp only [go_sem, envP, ↓reduceIte, Nat.reduceEqDiff, Nat.reduceAdd, Nat.reduceLT, a0, a1, a8, a9, a10, a11, e1, x1, x2, w1, Bool.not_true, Bool.not_false]
      refine .inr ⟨by simp, .inr ⟨rfl, hcont.symm, ?_, ?_, ?_⟩⟩
      all_goals simp only [go_sem, ↓reduceIte, Nat.reduceEqDiff]
  · rw [decide_eq_false hjn] at e1
    have : j = n := by omega
    subst this
    rw [Nat.sub_self] at hcont
    simp only [go_sem, envP, ↓reduceIte, Nat.reduceEqDiff, Nat.reduceAdd, Nat.reduceLT, a0, a1, a8, a9, a10, a11, e1]
    refine .inr ⟨by simp, .inl ⟨rfl, acc, by omega, hcont.symm, ?_, ?_, ?_⟩⟩
    all_goals simp only [go_sem, ↓reduceIte, Nat.reduceEqDiff, a8, a9, a10]
theorem tail15 {s : List UInt8} {i n acc0 least : Nat} {b : UInt8} {t : List UInt8} (hd : s.drop i = b :: t) (hn : s.length ≤ 16384) (hi : i < s.length) (hlen : n ≤ t.length + 1) (hn2 : 2 ≤ n) (hn4 : n ≤ 4) (hacc : acc0 < 64) (α : Frm) (H : AHeap)
    (a0 : α 0 = .str s) (a1 : α 1 = .int .i64 (i : Int)) (a8 : α 8 = .int .i64 (n : Int)) (a9 : α 9 = .int .i64 (acc0 : Int)) (a10 : α 10 = .int .i64 (least : Int)) :
    okR (execC envK (run envK) loopO T15 α H) fun x α' H' => x = .ret ∧ match decS n acc0 least t with
      | none => Bad15 α'
      | some r => α' 4 = .int .i64 (r.1 : Int) ∧ α' 5 = .int .i64 (r.2 : Int) ∧ α' 6 = .bool true := by
  have hT : T15 = .seq (.seq _ LB15) K15 := rfl
  rw [hT]
  simp only [go_sem, envP, ↓reduceIte, Nat.reduceEqDiff, Nat.reduceAdd, Nat.reduceLT, a0, a1, a8, a9, a10]
  refine block_ret (id := 0) ?_
  rw [xc_loop']
  have hcut : ¬t.length + 1 < n := by omega
  refine okR_imp (loop_meas (I15 s i n acc0 least t) (P15 n acc0 least t) (fun d α H hh => round15 hd hn hi hlen hn4 d α H hh) (n - 1) _ _ ⟨⟨1, acc0, by omega, Nat.le_refl _, by omega, rfl, ?_, ?_⟩, ?_, ?_, ?_, ?_⟩) ?_
  case refine_7 =>
    rintro x α' H' (⟨rfl, acc, hb, hc, b9, b8, b10⟩ | ⟨rfl, hc, hbad⟩)
    · refine .inl ⟨.inr rfl, ?_⟩
      have hK : K15 = .seq (.seq _ (.cond _ (.seq _ _) _)) (.seq _ _) := rfl
      rw [hK]
      have k1 : decide ((acc : Int) < (least : Int)) = decide (acc < least) := ltN _ _
      have k2 : decide ((acc : Int) > 1114111) = decide (1114111 < acc) := ltN 1114111 acc
      have k3 : decide ((acc : Int) ≥ 55296) = decide (55296 ≤ acc) := by
        rw [Bool.eq_iff_iff, decide_eq_true_eq, decide_eq_true_eq]
        omega
      have k4 : decide ((acc : Int) < 57344) = decide (acc < 57344) := ltN acc 57344
      have hok : okCp acc least = !(decide (acc < least) || decide (1114111 < acc) || (decide (55296 ≤ acc) && decide (acc < 57344))) := rfl
      have hdS : decS n acc0 least t = if okCp acc least = true then some (acc, n) else none := by
        unfold decS
        rw [if_neg hcut, hc]
      rw [hdS]
      generalize decide (acc < least) = p1 at *
      generalize decide (1114111 < acc) = p2 at *
      generalize decide (55296 ≤ acc) = p3 at *
      generalize decide (acc < 57344) = p4 at *
      cases p1 <;> cases p2 <;> cases p3 <;> cases p4 <;> simp only [Bool.or_false, Bool.or_true, Bool.false_or, Bool.true_or, Bool.and_true, Bool.and_false, Bool.not_true, Bool.not_false, Bool.and_self, Bool.or_self] at hok
      all_goals
        rw [hok]
        simp only [go_sem, envP, ↓reduceIte, Nat.reduceEqDiff, Nat.reduceAdd, Nat.reduceLT, b8, b9, b10, k1, k2, k3, k4, Bad15, Bool.false_eq_true, and_self]
    · refine .inr ⟨rfl, rfl, ?_⟩
      have hdS : decS n acc0 least t = none := by
        unfold decS
        rw [if_neg hcut, hc]
      rw [hdS]
      exact hbad
  all_goals (simp only [go_sem, ↓reduceIte, Nat.reduceEqDiff, a0, a1, a8, a9, a10]; try rfl)
end Go.Proofs.YtiagmokcjljliaaGreatDoor

/- ScriptWords: the reference's Next and Bad on the machine. -/
namespace Go.Proofs.YtiagmokcjljliaaGreatDoor
set_option linter.unusedVariables false
set_option linter.unusedSimpArgs false
set_option maxRecDepth 100000
open Go Go.Ab

def nextV (r : List UInt8) : AV := if (dec r).1 = 65533 ∧ (dec r).2 = 1 then .tup [.int .i64 65533, .int .i64 1, .bool false] else .tup [.int .i64 ((dec r).1 : Nat), .int .i64 ((dec r).2 : Nat), .bool true]
theorem nextV_no {r : List UInt8} (h : dec r = (65533, 1)) : nextV r = .tup [.int .i64 65533, .int .i64 1, .bool false] := by rw [nextV, if_pos (by rw [h]; exact ⟨rfl, rfl⟩)]
theorem nextV_yes {r : List UInt8} {v n : Nat} (h : dec r = (v, n)) (hq : ¬(v = 65533 ∧ n = 1)) : nextV r = .tup [.int .i64 (v : Int), .int .i64 (n : Int), .bool true] := by rw [nextV, if_neg (by rw [h]; exact hq), h]
theorem fin15 {r : List UInt8} {n acc least : Nat} {t : List UInt8} (hD : dec r = orBad (decS n acc least t)) (hn2 : 2 ≤ n) {α : Frm} {H : AHeap} (hm : match decS n acc least t with
      | none => Bad15 α
      | some r => α 4 = .int .i64 (r.1 : Int) ∧ α 5 = .int .i64 (r.2 : Int) ∧ α 6 = .bool true) :
    ∃ v, outOf (finish Tryz.prog Tryz.f15.results.toList (.ret, α, H)) = some v ∧ v.erase = nextV r := by
  cases hd : decS n acc least t with
  | none =>
    rw [hd] at hm hD
    obtain ⟨h4, h5, h6⟩ := hm
    rw [nextV_no hD]
    simp only [go_sem, Tryz.results15, h4, h5, h6]
    exact ⟨_, rfl, rfl⟩
  | some p =>
    rw [hd] at hm hD
    obtain ⟨h4, h5, h6⟩ := hm
    have hp := decS_some hd
    have hD : dec r = (p.1, p.2) := hD
    rw [nextV_yes hD (by omega)]
    simp only [go_sem, Tryz.results15, h4, h5, h6]
    exact ⟨_, rfl, rfl⟩
theorem nextV_np (r : List UInt8) : (nextV r).noPtr = true := by
  unfold nextV
  split <;> rfl
theorem next15 {s : List UInt8} {i : Nat} {b : UInt8} (hb : s[i]? = some b) (hn : s.length ≤ 16384) : closedCall Tryz.prog (run envK) 15 [.str s, .int .i64 (i : Int)] = some (nextV (s.drop i)) := by
  refine closed_ex (E := envK) (fn := Tryz.f15) (c := .seq _ (.seq _ (.seq (.seq _ _) (.seq _ (.seq (.seq _ _) (.seq (.seq _ _) (.seq (.seq _ _) (.seq (.seq _ _) T15)))))))) (by kernel_rfl) rfl Tryz.func15 rfl (by rw [Tryz.ntmps15]; simp) (args' := [.str s, .int .i64 (i : Int)]) rfl rfl ?_ (nextV_np _)
  have hi := get_lt hb
  have hd := drop_get hb
  have hbl := b.toNat_lt
  have x1 := ix9 hb
  have ht : (s.drop (i + 1)).length = s.length - (i + 1) := List.length_drop
  have w1 : IntKind.i64.wrap ((s.length : Int) - (i : Int)) = ((s.length - i : Nat) : Int) := by rw [IntWalk.i64_in _ (by omega)]; omega
  have z0 : ((0 : Int) == 0) = true := rfl
  have z2 : ((2 : Int) == 0) = false := rfl
  have z3 : ((3 : Int) == 0) = false := rfl
  have z4 : ((4 : Int) == 0) = false := rfl
  by_cases k1 : b.toNat < 128
  · have f1 : decide ((b.toNat : Int) < 128) = true := decide_eq_true (by omega)
    rw [nextV_yes (v := b.toNat) (n := 1) (by rw [hd, dec_one k1]) (by omega)]
    simp only [go_sem, envP, ↓reduceIte, Nat.reduceEqDiff, Nat.reduceAdd, Nat.reduceLT, x1, f1, Tryz.results15]
    exact ⟨_, rfl, rfl⟩
  · have f1 : decide ((b.toNat : Int) < 128) = false := decide_eq_false (by omega)
    by_cases k2 : b.toNat < 192
    · have f2 : decide ((b.toNat : Int) ≥ 192) = false := decide_eq_false (by omega)
      have f4 : decide ((b.toNat : Int) ≥ 224) = false := decide_eq_false (by omega)
      have f5 : decide ((b.toNat : Int) ≥ 240) = false := decide_eq_false (by omega)
      rw [nextV_no (by rw [hd, dec_bad (by omega) (.inl k2)])]
      simp only [go_sem, envP, ↓reduceIte, Nat.reduceEqDiff, Nat.reduceAdd, Nat.reduceLT, x1, f1, f2, f4, f5, z0, Tryz.results15]
      exact ⟨_, rfl, rfl⟩
    · have f2 : decide ((b.toNat : Int) ≥ 192) = true := decide_eq_true (by omega)
      by_cases k3 : b.toNat < 224
      · have f3 : decide ((b.toNat : Int) < 224) = true := decide_eq_true (by omega)
        have f4 : decide ((b.toNat : Int) ≥ 224) = false := decide_eq_false (by omega)
        have f5 : decide ((b.toNat : Int) ≥ 240) = false := decide_eq_false (by omega)
        have w2 : IntKind.i64.wrap ((b.toNat : Int) - 192) = ((b.toNat - 192 : Nat) : Int) := by rw [IntWalk.i64_in _ (by omega)]; omega
        have hD := dec_two (b := b) (by omega) (s.drop (i + 1))
        rw [← hd] at hD
        by_cases hl : s.length - i < 2
        · have f6 : decide (((s.length - i : Nat) : Int) < 2) = true := decide_eq_true (by omega)
          have : decS 2 (b.toNat - 192) 128 (s.drop (i + 1)) = none := by rw [decS, if_pos (by omega)]
          rw [this] at hD
          rw [nextV_no hD]
          simp only [go_sem, envP, ↓reduceIte, Nat.reduceEqDiff, Nat.reduceAdd, Nat.reduceLT, x1, f1, f2, f3, f4, f5, w1, w2, z2, f6, Tryz.results15]
          exact ⟨_, rfl, rfl⟩
        · have f6 : decide (((s.length - i : Nat) : Int) < 2) = false := decide_eq_false (by omega)
          simp only [go_sem, envP, ↓reduceIte, Nat.reduceEqDiff, Nat.reduceAdd, Nat.reduceLT, x1, f1, f2, f3, f4, f5, w1, w2, z2, f6]
          refine okR_imp (tail15 (n := 2) (acc0 := b.toNat - 192) (least := 128) hd hn hi (by omega) (by omega) (by omega) (by omega) _ _ ?_ ?_ ?_ ?_ ?_) ?_
          case refine_6 =>
            rintro x α' H' ⟨rfl, hm⟩
            exact fin15 hD (by omega) hm
          all_goals (simp only [go_sem, ↓reduceIte, Nat.reduceEqDiff]; try rfl)
      · have f3 : decide ((b.toNat : Int) < 224) = false := decide_eq_false (by omega)
        have f4 : decide ((b.toNat : Int) ≥ 224) = true := decide_eq_true (by omega)
        by_cases k4 : b.toNat < 240
        · have f7 : decide ((b.toNat : Int) < 240) = true := decide_eq_true (by omega)
          have f5 : decide ((b.toNat : Int) ≥ 240) = false := decide_eq_false (by omega)
          have w2 : IntKind.i64.wrap ((b.toNat : Int) - 224) = ((b.toNat - 224 : Nat) : Int) := by rw [IntWalk.i64_in _ (by omega)]; omega
          have hD := dec_three (b := b) (by omega) (s.drop (i + 1))
          rw [← hd] at hD
          by_cases hl : s.length - i < 3
          · have f6 : decide (((s.length - i : Nat) : Int) < 3) = true := decide_eq_true (by omega)
            have : decS 3 (b.toNat - 224) 2048 (s.drop (i + 1)) = none := by rw [decS, if_pos (by omega)]
            rw [this] at hD
            rw [nextV_no hD]
            simp only [go_sem, envP, ↓reduceIte, Nat.reduceEqDiff, Nat.reduceAdd, Nat.reduceLT, x1, f1, f2, f3, f4, f5, f7, w1, w2, z3, f6, Tryz.results15]
            exact ⟨_, rfl, rfl⟩
          · have f6 : decide (((s.length - i : Nat) : Int) < 3) = false := decide_eq_false (by omega)
            simp only [go_sem, envP, ↓reduceIte, Nat.reduceEqDiff, Nat.reduceAdd, Nat.reduceLT, x1, f1, f2, f3, f4, f5, f7, w1, w2, z3, f6]
            refine okR_imp (tail15 (n := 3) (acc0 := b.toNat - 224) (least := 2048) hd hn hi (by omega) (by omega) (by omega) (by omega) _ _ ?_ ?_ ?_ ?_ ?_) ?_
            case refine_6 =>
              rintro x α' H' ⟨rfl, hm⟩
              exact fin15 hD (by omega) hm
            all_goals (simp only [go_sem, ↓reduceIte, Nat.reduceEqDiff]; try rfl)
        · have f7 : decide ((b.toNat : Int) < 240) = false := decide_eq_false (by omega)
          have f5 : decide ((b.toNat : Int) ≥ 240) = true := decide_eq_true (by omega)
          by_cases k5 : b.toNat < 248
          · have f8 : decide ((b.toNat : Int) < 248) = true := decide_eq_true (by omega)
            have w2 : IntKind.i64.wrap ((b.toNat : Int) - 240) = ((b.toNat - 240 : Nat) : Int) := by rw [IntWalk.i64_in _ (by omega)]; omega
            have hD := dec_four (b := b) (by omega) (s.drop (i + 1))
            rw [← hd] at hD
            by_cases hl : s.length - i < 4
            · have f6 : decide (((s.length - i : Nat) : Int) < 4) = true := decide_eq_true (by omega)
              have : decS 4 (b.toNat - 240) 65536 (s.drop (i + 1)) = none := by rw [decS, if_pos (by omega)]
              rw [this] at hD
              rw [nextV_no hD]
              simp only [go_sem, envP, ↓reduceIte, Nat.reduceEqDiff, Nat.reduceAdd, Nat.reduceLT, x1, f1, f2, f3, f4, f5, f7, f8, w1, w2, z4, f6, Tryz.results15]
              exact ⟨_, rfl, rfl⟩
            · have f6 : decide (((s.length - i : Nat) : Int) < 4) = false := decide_eq_false (by omega)
              simp only [go_sem, envP, ↓reduceIte, Nat.reduceEqDiff, Nat.reduceAdd, Nat.reduceLT, x1, f1, f2, f3, f4, f5, f7, f8, w1, w2, z4, f6]
              refine okR_imp (tail15 (n := 4) (acc0 := b.toNat - 240) (least := 65536) hd hn hi (by omega) (by omega) (by omega) (by omega) _ _ ?_ ?_ ?_ ?_ ?_) ?_
              case refine_6 =>
                rintro x α' H' ⟨rfl, hm⟩
                exact fin15 hD (by omega) hm
              all_goals (simp only [go_sem, ↓reduceIte, Nat.reduceEqDiff]; try rfl)
          · have f8 : decide ((b.toNat : Int) < 248) = false := decide_eq_false (by omega)
            rw [nextV_no (by rw [hd, dec_bad (by omega) (.inr (by omega))])]
            simp only [go_sem, envP, ↓reduceIte, Nat.reduceEqDiff, Nat.reduceAdd, Nat.reduceLT, x1, f1, f2, f3, f4, f5, f7, f8, z0, Tryz.results15]
            exact ⟨_, rfl, rfl⟩

/-! Bad -/
noncomputable def B9 : Code := match Tryz.f9.body with | some (.seq _ (.seq (.seq _ (.block _ (.loop c))) _)) => c | _ => .skip
noncomputable def LB9 : Code := .block 0 (.loop B9)
noncomputable def K9 : Code := match Tryz.f9.body with | some (.seq _ (.seq _ k)) => k | _ => .skip
theorem round9 {s : List UInt8} (hn : s.length ≤ 16384) (d : Nat) (α : Frm) (H : AHeap) (h : IBad s d α H) :
    okR (execC envK (run envK) loopO B9 α H) fun x α' H' => (x = .normal ∧ ∃ d', d' < d ∧ IBad s d' α' H') ∨ (x ≠ .normal ∧ PBad s x α' H') := by
  obtain ⟨⟨i, hd, he, a3⟩, a0⟩ := h
  have hB : B9 = .seq (.seq _ _) (.block _ (.seq _ (.seq (.seq _ _) _))) := rfl
  rw [hB]
  clear hB
  by_cases hi : i < s.length
  · have e1 : decide ((i : Int) < (s.length : Int)) = true := decide_eq_true (by omega)
    obtain ⟨b, hb⟩ := get_some hi
    have x1 := next15 hb hn
    have hlen := dec_len b (s.drop (i + 1))
    rw [← drop_get hb, List.length_drop] at hlen
    have w1 : IntKind.i64.wrap ((i : Int) + ((dec (s.drop i)).2 : Int)) = ((i + (dec (s.drop i)).2 : Nat) : Int) := by rw [IntWalk.i64_in _ (by omega)]; omega
    by_cases q : (dec (s.drop i)).1 = 65533 ∧ (dec (s.drop i)).2 = 1
    · rw [nextV, if_pos q] at x1
      have hb2 := badFrom_bad hi q.1 q.2
      rw [he] at hb2
      simp only [go_sem, envP, ↓reduceIte, Nat.reduceEqDiff, Nat.reduceAdd, Nat.reduceLT, a0, a3, e1, x1, extractA, Bool.not_true, Bool.not_false]
      refine .inr ⟨by simp, .inr ⟨rfl, ?_⟩⟩
      simp only [go_sem, ↓reduceIte, Nat.reduceEqDiff, a3, badI, hb2]
    · rw [nextV, if_neg q] at x1
      rw [badFrom_step hi q] at he
      simp only [go_sem, envP, ↓reduceIte, Nat.reduceEqDiff, Nat.reduceAdd, Nat.reduceLT, a0, a3, e1, x1, w1, extractA, Bool.not_true, Bool.not_false]
      refine .inl ⟨trivial, s.length - (i + (dec (s.drop i)).2), by omega, ⟨i + (dec (s.drop i)).2, by omega, he, ?_⟩, ?_⟩
      all_goals simp only [go_sem, ↓reduceIte, Nat.reduceEqDiff, a0, a3]
  · have e1 : decide ((i : Int) < (s.length : Int)) = false := decide_eq_false (by omega)
    rw [badFrom_end (by omega)] at he
    simp only [go_sem, envP, ↓reduceIte, Nat.reduceEqDiff, Nat.reduceAdd, Nat.reduceLT, a0, a3, e1]
    exact .inr ⟨by simp, .inl ⟨rfl, by rw [badI, ← he]⟩⟩
theorem bad9 (s : List UInt8) (hn : s.length ≤ 16384) : closedCall Tryz.prog (run envK) 9 [.str s] = some (.int .i64 (badI s)) := by
  refine closed_ex (E := envK) (fn := Tryz.f9) (c := .seq _ (.seq (.seq _ LB9) K9)) (by kernel_rfl) rfl Tryz.func9 rfl (by rw [Tryz.ntmps9]; simp) (args' := [.str s]) rfl rfl ?_ rfl
  simp only [go_sem, envP, ↓reduceIte, Nat.reduceEqDiff, Nat.reduceAdd, Nat.reduceLT]
  refine block_ret (id := 0) ?_
  rw [xc_loop']
  refine okR_imp (loop_meas (IBad s) (PBad s) (fun d α H hh => round9 hn d α H hh) s.length _ _ ⟨⟨0, by omega, (bad_eq s).symm, ?_⟩, ?_⟩) ?_
  case refine_3 =>
    rintro e α' H' (⟨rfl, hb⟩ | ⟨rfl, a2⟩)
    · refine .inl ⟨.inr rfl, ?_⟩
      have hK : K9 = .seq _ _ := rfl
      rw [hK, hb]
      simp only [go_sem, envP, ↓reduceIte, Nat.reduceEqDiff, Nat.reduceAdd, Nat.reduceLT, Tryz.results9]
      exact ⟨_, rfl, rfl⟩
    · refine .inr ⟨rfl, ?_⟩
      simp only [go_sem, envP, ↓reduceIte, Nat.reduceEqDiff, Nat.reduceAdd, Nat.reduceLT, Tryz.results9, a2]
      exact ⟨_, rfl, rfl⟩
  all_goals (simp only [go_sem, ↓reduceIte, Nat.reduceEqDiff]; try rfl)
end Go.Proofs.YtiagmokcjljliaaGreatDoor

/- ScriptWords: the reference's one on the machine: words and numbers. -/
namespace Go.Proofs.YtiagmokcjljliaaGreatDoor
set_option linter.unusedVariables false
set_option linter.unusedSimpArgs false
set_option maxRecDepth 100000
open Go Go.Ab

theorem call16 (call : CallO) (args : List AV) (H : AHeap) : callA envK call (.fn (.func 16) [] []) args H = bnd (closedCall Tryz.prog call 16 args) fun v => some (v, H) := callA_closed (E := envK) (by kernel_rfl) args
theorem call17 (call : CallO) (args : List AV) (H : AHeap) : callA envK call (.fn (.func 17) [] []) args H = bnd (closedCall Tryz.prog call 17 args) fun v => some (v, H) := callA_closed (E := envK) (by kernel_rfl) args
theorem call18 (call : CallO) (args : List AV) (H : AHeap) : callA envK call (.fn (.func 18) [] []) args H = bnd (closedCall Tryz.prog call 18 args) fun v => some (v, H) := callA_closed (E := envK) (by kernel_rfl) args
theorem call19 (call : CallO) (args : List AV) (H : AHeap) : callA envK call (.fn (.func 19) [] []) args H = bnd (closedCall Tryz.prog call 19 args) fun v => some (v, H) := callA_closed (E := envK) (by kernel_rfl) args
attribute [go_sem] call16 call17 call18 call19

/-- What one leaves in its results' slots. -/
def One11 (s : List UInt8) (i : Nat) (x : Ex) (α : Frm) (H : AHeap) : Prop := x = .ret ∧ match one (s.drop i) with
  | .error e => α 4 = .int .i64 0 ∧ α 5 = .int .i64 0 ∧ α 6 = .int .i64 (e : Int)
  | .ok (k, n) => α 4 = .int .i64 (k : Int) ∧ α 5 = .int .i64 ((i + n : Nat) : Int) ∧ α 6 = .int .i64 0
theorem one_err {s : List UInt8} {i e : Nat} {x : Ex} {α : Frm} {H : AHeap} (ho : one (s.drop i) = .error e) (hx : x = .ret) (h4 : α 4 = .int .i64 0) (h5 : α 5 = .int .i64 0) (h6 : α 6 = .int .i64 (e : Int)) : One11 s i x α H := by
  refine ⟨hx, ?_⟩
  rw [ho]
  exact ⟨h4, h5, h6⟩
theorem one_ok {s : List UInt8} {i k n : Nat} {x : Ex} {α : Frm} {H : AHeap} (ho : one (s.drop i) = .ok (k, n)) (hx : x = .ret) (h4 : α 4 = .int .i64 (k : Int)) (h5 : α 5 = .int .i64 ((i + n : Nat) : Int)) (h6 : α 6 = .int .i64 0) : One11 s i x α H := by
  refine ⟨hx, ?_⟩
  rw [ho]
  exact ⟨h4, h5, h6⟩

noncomputable def W11 : Code := match Tryz.f11.body with | some (.seq _ (.seq _ (.seq (.seq _ (.cond _ w _)) _))) => w | _ => .skip
noncomputable def T11 : Code := match Tryz.f11.body with | some (.seq _ (.seq _ (.seq _ k))) => k | _ => .skip
/-! The word's end -/
noncomputable def A11 : Code := match W11 with | .seq (.block _ (.loop c)) _ => c | _ => .skip
noncomputable def LA11 : Code := .block 0 (.loop A11)
noncomputable def KA11 : Code := match W11 with | .seq _ k => k | _ => .skip
structure IA11 (s : List UInt8) (i e : Nat) (d : Nat) (α : Frm) (H : AHeap) : Prop where
  ex : ∃ j : Nat, j + d = s.length ∧ runTo isWd s j = e ∧ α 7 = .int .i64 (j : Int)
  a0 : α 0 = .str s
  a1 : α 1 = .int .i64 (i : Int)
def PA11 (s : List UInt8) (i e : Nat) (x : Ex) (α : Frm) (H : AHeap) : Prop := x = .exit 0 ∧ α 0 = .str s ∧ α 1 = .int .i64 (i : Int) ∧ α 7 = .int .i64 (e : Int)
theorem roundA11 {s : List UInt8} {i e : Nat} (hn : s.length ≤ 16384) (d : Nat) (α : Frm) (H : AHeap) (h : IA11 s i e d α H) :
    okR (execC envK (run envK) loopO A11 α H) fun x α' H' => (x = .normal ∧ ∃ d', d' < d ∧ IA11 s i e d' α' H') ∨ (x ≠ .normal ∧ PA11 s i e x α' H') := by
  obtain ⟨⟨j, hd, he, a7⟩, a0, a1⟩ := h
  have hB : A11 = .seq (.seq _ _) (.block _ _) := rfl
  rw [hB]
  clear hB
  by_cases hj : j < s.length
  · have e1 : decide ((j : Int) < (s.length : Int)) = true := decide_eq_true (by omega)
    obtain ⟨b, hb⟩ := get_some hj
    have x1 := ix9 hb
    have x2 := let16 b
    have x3 := dig17 b
    have w1 : IntKind.i64.wrap ((j : Int) + 1) = ((j + 1 : Nat) : Int) := by rw [IntWalk.i64_in _ (by omega)]; omega
    cases hL : isLet b with
    | true =>
      rw [hL] at x2
      rw [runTo_step hb (by simp [isWd, hL])] at he
      simp only [go_sem, envP, ↓reduceIte, Nat.reduceEqDiff, Nat.reduceAdd, Nat.reduceLT, a0, a1, a7, e1, x1, x2, w1]
      refine .inl ⟨trivial, d - 1, by omega, ⟨j + 1, by omega, he, ?_⟩, ?_, ?_⟩
      all_goals simp only [go_sem, ↓reduceIte, Nat.reduceEqDiff, a0, a1, a7]
    | false =>
      rw [hL] at x2
      cases hD : isDig b with
      | true =>
        rw [hD] at x3
        rw [runTo_step hb (by simp [isWd, hD])] at he
        simp only [go_sem, envP, ↓reduceIte, Nat.reduceEqDiff, Nat.reduceAdd, Nat.reduceLT, a0, a1, a7, e1, x1, x2, x3, w1]
        refine .inl ⟨trivial, d - 1, by omega, ⟨j + 1, by omega, he, ?_⟩, ?_, ?_⟩
        all_goals simp only [go_sem, ↓reduceIte, Nat.reduceEqDiff, a0, a1, a7]
      | false =>
        rw [hD] at x3
        rw [runTo_stop hb (by simp [isWd, hL, hD])] at he
        subst he
        simp only [go_sem, envP, ↓reduceIte, Nat.reduceEqDiff, Nat.reduceAdd, Nat.reduceLT, a0, a1, a7, e1, x1, x2, x3]
        refine .inr ⟨by simp, rfl, ?_, ?_, ?_⟩
        all_goals simp only [go_sem, ↓reduceIte, Nat.reduceEqDiff, a0, a1, a7]
  · have e1 : decide ((j : Int) < (s.length : Int)) = false := decide_eq_false (by omega)
    rw [runTo_end (by omega)] at he
    subst he
    simp only [go_sem, envP, ↓reduceIte, Nat.reduceEqDiff, Nat.reduceAdd, Nat.reduceLT, a0, a1, a7, e1]
    refine .inr ⟨by simp, rfl, ?_, ?_, ?_⟩
    all_goals simp only [go_sem, ↓reduceIte, Nat.reduceEqDiff, a0, a1, a7]

/-! Numbers -/
noncomputable def N11 : Code := match KA11 with | .seq _ (.seq _ (.seq _ (.seq _ (.seq (.seq _ (.block _ (.loop c))) _)))) => c | _ => .skip
noncomputable def LN11 : Code := .block 2 (.loop N11)
noncomputable def KN11 : Code := match KA11 with | .seq _ (.seq _ (.seq _ (.seq _ (.seq _ k)))) => k | _ => .skip
structure IN11 (w : List UInt8) (e : Nat) (d : Nat) (α : Frm) (H : AHeap) : Prop where
  ex : ∃ j n : Nat, j + d = w.length ∧ n ≤ 9223372036854775807 ∧ refN n (w.drop j) = refN 0 w ∧ α 10 = .int .i64 (j : Int) ∧ α 9 = .int .u64 (n : Int)
  a8 : α 8 = .str w
  a7 : α 7 = .int .i64 (e : Int)
def PN11 (w : List UInt8) (e : Nat) (x : Ex) (α : Frm) (H : AHeap) : Prop := (x = .exit 2 ∧ refN 0 w = true ∧ α 7 = .int .i64 (e : Int)) ∨ (x = .ret ∧ refN 0 w = false ∧ α 4 = .int .i64 0 ∧ α 5 = .int .i64 0 ∧ α 6 = .int .i64 23)
theorem u64_in (n : Nat) (h : n < 18446744073709551616) : IntKind.u64.wrap (n : Int) = (n : Int) := by
  rw [IntKind.wrap_u64]
  omega
theorem cv546 (n : Nat) (h : n < 256) : convA Tryz.prog 5 46 (.int .u8 (n : Int)) = some (.int .u64 (n : Int)) := by
  have h1 : aggQ Tryz.prog 5 = some false := agg5
  have h2 : intQ Tryz.prog 46 = some .u64 := by kernel_rfl
  simp only [convA, h1, h2]
  rw [u64_in _ (by omega)]
  rfl
theorem roundN11 {w : List UInt8} {e : Nat} (hn : w.length ≤ 16384) (d : Nat) (α : Frm) (H : AHeap) (h : IN11 w e d α H) :
    okR (execC envK (run envK) loopO N11 α H) fun x α' H' => (x = .normal ∧ ∃ d', d' < d ∧ IN11 w e d' α' H') ∨ (x ≠ .normal ∧ PN11 w e x α' H') := by
  obtain ⟨⟨j, n, hd, hnM, hr, a10, a9⟩, a8, a7⟩ := h
  have hB : N11 = .seq (.seq _ _) (.seq (.block _ (.seq (.seq _ _) (.seq _ (.seq (.seq _ _) _)))) _) := rfl
  rw [hB]
  clear hB
  by_cases hj : j < w.length
  · have e1 : decide ((j : Int) < (w.length : Int)) = true := decide_eq_true (by omega)
    obtain ⟨c, hc⟩ := get_some hj
    have x1 := ix9 hc
    have x2 := dig17 c
    have hcl := c.toNat_lt
    have w1 : IntKind.i64.wrap ((j : Int) + 1) = ((j + 1 : Nat) : Int) := by rw [IntWalk.i64_in _ (by omega)]; omega
    rw [drop_get hc] at hr
    cases hD : isDig c with
    | false =>
      rw [hD] at x2
      rw [refN_bad hD] at hr
      simp only [go_sem, envP, ↓reduceIte, Nat.reduceEqDiff, Nat.reduceAdd, Nat.reduceLT, a7, a8, a9, a10, e1, x1, x2, Bool.not_true, Bool.not_false]
      refine .inr ⟨by simp, .inr ⟨rfl, hr.symm, ?_, ?_, ?_⟩⟩
      all_goals simp only [go_sem, ↓reduceIte, Nat.reduceEqDiff]
    | true =>
      rw [hD] at x2
      have hdd : 48 ≤ c.toNat ∧ c.toNat ≤ 57 := by simpa [isDig] using hD
      have w2 : IntKind.u8.wrap ((c.toNat : Int) - 48) = ((c.toNat - 48 : Nat) : Int) := by
        rw [IntKind.wrap_u8]
        omega
      have x3 := cv546 (c.toNat - 48) (by omega)
      have w3 : IntKind.u64.wrap (9223372036854775807 - ((c.toNat - 48 : Nat) : Int)) = ((9223372036854775807 - (c.toNat - 48) : Nat) : Int) := by
        rw [IntKind.wrap_u64]
        omega
      have z10 : ((10 : Int) = 0) = False := by simp
      have w4 : IntKind.u64.wrap (((9223372036854775807 - (c.toNat - 48) : Nat) : Int).tdiv 10) = (((9223372036854775807 - (c.toNat - 48)) / 10 : Nat) : Int) := by
        rw [show (((9223372036854775807 - (c.toNat - 48) : Nat) : Int).tdiv 10) = (((9223372036854775807 - (c.toNat - 48)) / 10 : Nat) : Int) from rfl, u64_in _ (by omega)]
      by_cases hbig : (9223372036854775807 - (c.toNat - 48)) / 10 < n
      · have e2 : decide ((n : Int) > (((9223372036854775807 - (c.toNat - 48)) / 10 : Nat) : Int)) = true := decide_eq_true (by omega)
        rw [refN_big hD hbig] at hr
        simp only [go_sem, envP, ↓reduceIte, Nat.reduceEqDiff, Nat.reduceAdd, Nat.reduceLT, a7, a8, a9, a10, e1, x1, x2, w2, x3, w3, z10, w4, e2, Bool.not_true, Bool.not_false]
        refine .inr ⟨by simp, .inr ⟨rfl, hr.symm, ?_, ?_, ?_⟩⟩
        all_goals simp only [go_sem, ↓reduceIte, Nat.reduceEqDiff]
      · have e2 : decide ((n : Int) > (((9223372036854775807 - (c.toNat - 48)) / 10 : Nat) : Int)) = false := decide_eq_false (by omega)
        obtain ⟨hr2, hle⟩ := refN_step hD (show n ≤ _ by omega) (w.drop (j + 1))
        rw [hr2] at hr
        have w5 : IntKind.u64.wrap ((n : Int) * 10) = ((n * 10 : Nat) : Int) := by
          rw [IntKind.wrap_u64]
          omega
        have w6 : IntKind.u64.wrap (((n * 10 : Nat) : Int) + ((c.toNat - 48 : Nat) : Int)) = ((n * 10 + (c.toNat - 48) : Nat) : Int) := by
          rw [IntKind.wrap_u64]
          omega
        simp only [go_sem, envP, ↓reduceIte, Nat.reduceEqDiff, Nat.reduceAdd, Nat.reduceLT, a7, a8, a9, a10, e1, x1, x2, w1, w2, x3, w3, z10, w4, e2, w5, w6, Bool.not_true, Bool.not_false]
        refine .inl ⟨trivial, d - 1, by omega, ⟨j + 1, n * 10 + (c.toNat - 48), by omega, hle, hr, ?_, ?_⟩, ?_, ?_⟩
        all_goals simp only [go_sem, ↓reduceIte, Nat.reduceEqDiff, a7, a8, a9, a10]
  · have e1 : decide ((j : Int) < (w.length : Int)) = false := decide_eq_false (by omega)
    rw [List.drop_of_length_le (by omega), refN_nil] at hr
    simp only [go_sem, envP, ↓reduceIte, Nat.reduceEqDiff, Nat.reduceAdd, Nat.reduceLT, a7, a8, a9, a10, e1]
    refine .inr ⟨by simp, .inl ⟨rfl, hr.symm, ?_⟩⟩
    all_goals simp only [go_sem, ↓reduceIte, Nat.reduceEqDiff, a7]
theorem wPart {s : List UInt8} {i : Nat} {b : UInt8} (hb : s[i]? = some b) (hw : isWd b = true) (hn : s.length ≤ 16384) (α : Frm) (H : AHeap) (a0 : α 0 = .str s) (a1 : α 1 = .int .i64 (i : Int)) (a7 : α 7 = .int .i64 ((i + 1 : Nat) : Int)) :
    okR (execC envK (run envK) loopO W11 α H) (One11 s i) := by
  have hi := get_lt hb
  have hd := drop_get hb
  have hW : W11 = .seq LA11 KA11 := rfl
  rw [hW, xc_seq]
  refine block_ret (id := 0) ?_
  rw [xc_loop']
  refine okR_imp (loop_meas (IA11 s i (runTo isWd s i)) (PA11 s i (runTo isWd s i)) (fun d α H hh => roundA11 hn d α H hh) (s.length - (i + 1)) _ _ ⟨⟨i + 1, by omega, (runTo_step hb hw).symm, a7⟩, a0, a1⟩) ?_
  rintro x α' H' ⟨rfl, b0, b1, b7⟩
  refine .inl ⟨.inr rfl, ?_⟩
  have hK : KA11 = .seq _ (.seq (.seq _ _) (.seq (.seq _ _) (.seq _ (.seq (.seq _ LN11) KN11)))) := rfl
  rw [hK]
  clear hK hW
  have hro := runTo_eq isWd s (Nat.le_of_lt hi)
  have hcut := runTo_cut isWd s (Nat.le_of_lt hi)
  have hwl : ((s.drop i).takeWhile isWd).length ≤ s.length - i := by
    have := (List.takeWhile_prefix (l := s.drop i) isWd).length_le
    rw [List.length_drop] at this
    omega
  have y1 := sl9 s (a := i) (b := runTo isWd s i) (by omega) (runTo_le _ _ _)
  rw [hcut] at y1
  have x1 := ix9 hb
  have x2 := let16 b
  have x4 := isKey18 ((s.drop i).takeWhile isWd)
  cases hL : isLet b with
  | true =>
    rw [hL] at x2
    have ho := one_let (t := s.drop (i + 1)) hL
    rw [← hd] at ho
    cases hK : isKey ((s.drop i).takeWhile isWd) with
    | true =>
      rw [hK] at x4
      rw [if_pos hK] at ho
      simp only [go_sem, envP, ↓reduceIte, Nat.reduceEqDiff, Nat.reduceAdd, Nat.reduceLT, b0, b1, b7, y1, x4]
      refine one_ok ho rfl ?_ ?_ ?_
      all_goals simp only [go_sem, ↓reduceIte, Nat.reduceEqDiff, b7]
      · rfl
      · rw [hro]
    | false =>
      rw [hK] at x4
      rw [if_neg (by rw [hK]; decide)] at ho
      by_cases h40 : 40 < ((s.drop i).takeWhile isWd).length
      · have e4 : decide ((((s.drop i).takeWhile isWd).length : Int) > 40) = true := decide_eq_true (by omega)
        rw [if_pos h40] at ho
        simp only [go_sem, envP, ↓reduceIte, Nat.reduceEqDiff, Nat.reduceAdd, Nat.reduceLT, b0, b1, b7, y1, x4, x1, x2, e4]
        refine one_err ho rfl ?_ ?_ ?_
        all_goals simp only [go_sem, ↓reduceIte, Nat.reduceEqDiff, b7]
        rfl
      · have e4 : decide ((((s.drop i).takeWhile isWd).length : Int) > 40) = false := decide_eq_false (by omega)
        rw [if_neg h40] at ho
        simp only [go_sem, envP, ↓reduceIte, Nat.reduceEqDiff, Nat.reduceAdd, Nat.reduceLT, b0, b1, b7, y1, x4, x1, x2, e4]
        refine one_ok ho rfl ?_ ?_ ?_
        all_goals simp only [go_sem, ↓reduceIte, Nat.reduceEqDiff, b7]
        · rfl
        · rw [hro]
  | false =>
    rw [hL] at x2
    have hD : isDig b = true := by simpa [isWd, hL] using hw
    have ho := one_dig (t := s.drop (i + 1)) hD
    rw [← hd] at ho
    have hK : isKey ((s.drop i).takeWhile isWd) = false := by rw [hd, List.takeWhile_cons, if_pos hw]; exact key_dig _ hD
    rw [hK] at x4
    simp only [go_sem, envP, ↓reduceIte, Nat.reduceEqDiff, Nat.reduceAdd, Nat.reduceLT, b0, b1, b7, y1, x4, x1, x2]
    refine block_ret (id := 2) ?_
    rw [xc_loop']
    refine okR_imp (loop_meas (IN11 ((s.drop i).takeWhile isWd) (runTo isWd s i)) (PN11 ((s.drop i).takeWhile isWd) (runTo isWd s i)) (fun d α H hh => roundN11 (by omega) d α H hh) ((s.drop i).takeWhile isWd).length _ _ ⟨⟨0, 0, by omega, by omega, rfl, ?_, ?_⟩, ?_, ?_⟩) ?_
    case refine_5 =>
      rintro x α2 H2 (⟨rfl, hr, c7⟩ | ⟨rfl, hr, c4, c5, c6⟩)
      · refine .inl ⟨.inr rfl, ?_⟩
        have hK : KN11 = .seq _ _ := rfl
        rw [hK]
        rw [if_pos hr] at ho
        simp only [go_sem, envP, ↓reduceIte, Nat.reduceEqDiff, Nat.reduceAdd, Nat.reduceLT, c7]
        refine one_ok ho rfl ?_ ?_ ?_
        all_goals simp only [go_sem, ↓reduceIte, Nat.reduceEqDiff, c7]
        · rfl
        · rw [hro]
      · refine .inr ⟨rfl, ?_⟩
        rw [if_neg (by rw [hr]; decide)] at ho
        exact one_err ho rfl c4 c5 c6
    all_goals (simp only [go_sem, ↓reduceIte, Nat.reduceEqDiff, b7]; try rfl)
end Go.Proofs.YtiagmokcjljliaaGreatDoor

/- ScriptWords: the reference's one on the machine: strings and signs. -/
namespace Go.Proofs.YtiagmokcjljliaaGreatDoor
set_option linter.unusedVariables false
set_option linter.unusedSimpArgs false
set_option maxRecDepth 100000
open Go Go.Ab

noncomputable def Q11 : Code := match T11 with | .seq (.seq _ (.cond _ q _)) _ => q | _ => .skip
noncomputable def U11 : Code := match T11 with | .seq _ k => k | _ => .skip
noncomputable def S11 : Code := match Q11 with | .seq (.block _ (.loop c)) _ => c | _ => .skip
noncomputable def LS11 : Code := .block 4 (.loop S11)
noncomputable def KS11 : Code := match Q11 with | .seq _ k => k | _ => .skip
structure IS11 (s : List UInt8) (i : Nat) (d : Nat) (α : Frm) (H : AHeap) : Prop where
  ex : ∃ j : Nat, j + d = s.length + 1 ∧ i + 1 ≤ j ∧ strTo s j = strTo s (i + 1) ∧ α 7 = .int .i64 (j : Int)
  a0 : α 0 = .str s
  a1 : α 1 = .int .i64 (i : Int)
def PS11 (s : List UInt8) (i : Nat) (x : Ex) (α : Frm) (H : AHeap) : Prop := x = .exit 4 ∧ α 0 = .str s ∧ α 1 = .int .i64 (i : Int) ∧ ∃ j : Nat, α 7 = .int .i64 (j : Int) ∧ j ≤ s.length + 1 ∧ i + 1 ≤ j ∧ strTo s j = strTo s (i + 1) ∧ ∀ b, s[j]? = some b → b.toNat = 34 ∨ b.toNat = 10
theorem roundS11 {s : List UInt8} {i : Nat} (hn : s.length ≤ 16384) (d : Nat) (α : Frm) (H : AHeap) (h : IS11 s i d α H) :
    okR (execC envK (run envK) loopO S11 α H) fun x α' H' => (x = .normal ∧ ∃ d', d' < d ∧ IS11 s i d' α' H') ∨ (x ≠ .normal ∧ PS11 s i x α' H') := by
  obtain ⟨⟨j, hd, hij, hs, a7⟩, a0, a1⟩ := h
  have hB : S11 = .seq (.seq _ _) (.block _ (.seq (.seq _ _) _)) := rfl
  rw [hB]
  clear hB
  by_cases hj : j < s.length
  · have e1 : decide ((j : Int) < (s.length : Int)) = true := decide_eq_true (by omega)
    obtain ⟨b, hb⟩ := get_some hj
    have x1 := ix9 hb
    have c1 : ((b.toNat : Int) != 34) = !decide (b.toNat = 34) := bneI b 34
    have c2 : ((b.toNat : Int) != 10) = !decide (b.toNat = 10) := bneI b 10
    have c3 : ((b.toNat : Int) == 92) = decide (b.toNat = 92) := beqI b 92
    have w1 : IntKind.i64.wrap ((j : Int) + 1) = ((j + 1 : Nat) : Int) := by rw [IntWalk.i64_in _ (by omega)]; omega
    have w2 : IntKind.i64.wrap (((j + 1 : Nat) : Int) + 1) = ((j + 2 : Nat) : Int) := by rw [IntWalk.i64_in _ (by omega)]; omega
    by_cases q1 : b.toNat = 34
    · rw [decide_eq_true q1] at c1
      simp only [go_sem, envP, ↓reduceIte, Nat.reduceEqDiff, Nat.reduceAdd, Nat.reduceLT, a0, a1, a7, e1, x1, c1, Bool.not_true, Bool.not_false]
      refine .inr ⟨by simp, rfl, ?_, ?_, j, ?_, by omega, hij, hs, fun b' hb' => ?_⟩
      case refine_4 => rw [hb] at hb'; simp only [Option.some.injEq] at hb'; subst hb'; exact .inl q1
      all_goals simp only [go_sem, ↓reduceIte, Nat.reduceEqDiff, a0, a1, a7]
    · rw [decide_eq_false q1] at c1
      by_cases q2 : b.toNat = 10
      · rw [decide_eq_true q2] at c2
        simp only [go_sem, envP, ↓reduceIte, Nat.reduceEqDiff, Nat.reduceAdd, Nat.reduceLT, a0, a1, a7, e1, x1, c1, c2, Bool.not_true, Bool.not_false]
        refine .inr ⟨by simp, rfl, ?_, ?_, j, ?_, by omega, hij, hs, fun b' hb' => ?_⟩
        case refine_4 => rw [hb] at hb'; simp only [Option.some.injEq] at hb'; subst hb'; exact .inr q2
        all_goals simp only [go_sem, ↓reduceIte, Nat.reduceEqDiff, a0, a1, a7]
      · rw [decide_eq_false q2] at c2
        by_cases q3 : b.toNat = 92
        · rw [decide_eq_true q3] at c3
          simp only [go_sem, envP, ↓reduceIte, Nat.reduceEqDiff, Nat.reduceAdd, Nat.reduceLT, a0, a1, a7, e1, x1, c1, c2, c3, w1, w2, Bool.not_true, Bool.not_false]
          refine .inl ⟨trivial, d - 2, by omega, ⟨j + 2, by omega, by omega, by rw [← hs, strTo_esc hb q3], ?_⟩, ?_, ?_⟩
          all_goals simp only [go_sem, ↓reduceIte, Nat.reduceEqDiff, a0, a1, a7]
        · rw [decide_eq_false q3] at c3
          simp only [go_sem, envP, ↓reduceIte, Nat.reduceEqDiff, Nat.reduceAdd, Nat.reduceLT, a0, a1, a7, e1, x1, c1, c2, c3, w1, Bool.not_true, Bool.not_false]
          refine .inl ⟨trivial, d - 1, by omega, ⟨j + 1, by omega, by omega, by rw [← hs, strTo_other hb q1 q2 q3], ?_⟩, ?_, ?_⟩
          all_goals simp only [go_sem, ↓reduceIte, Nat.reduceEqDiff, a0, a1, a7]
  · have e1 : decide ((j : Int) < (s.length : Int)) = false := decide_eq_false (by omega)
    simp only [go_sem, envP, ↓reduceIte, Nat.reduceEqDiff, Nat.reduceAdd, Nat.reduceLT, a0, a1, a7, e1]
    refine .inr ⟨by simp, rfl, ?_, ?_, j, ?_, by omega, hij, hs, fun b' hb' => (hj (get_lt hb')).elim⟩
    all_goals simp only [go_sem, ↓reduceIte, Nat.reduceEqDiff, a0, a1, a7]
theorem qPart {s : List UInt8} {i : Nat} {b : UInt8} (hb : s[i]? = some b) (h34 : b.toNat = 34) (hn : s.length ≤ 16384) (α : Frm) (H : AHeap) (a0 : α 0 = .str s) (a1 : α 1 = .int .i64 (i : Int)) (a7 : α 7 = .int .i64 ((i + 1 : Nat) : Int)) :
    okR (execC envK (run envK) loopO Q11 α H) (One11 s i) := by
  have hi := get_lt hb
  have hd := drop_get hb
  have hQ : Q11 = .seq LS11 KS11 := rfl
  rw [hQ, xc_seq]
  refine block_ret (id := 4) ?_
  rw [xc_loop']
  refine okR_imp (loop_meas (IS11 s i) (PS11 s i) (fun d α H hh => roundS11 hn d α H hh) (s.length - i) _ _ ⟨⟨i + 1, by omega, Nat.le_refl _, rfl, a7⟩, a0, a1⟩) ?_
  rintro x α' H' ⟨rfl, b0, b1, j, b7, hjl, hij, hs, hend⟩
  refine .inl ⟨.inr rfl, ?_⟩
  have hK : KS11 = .seq (.seq _ _) (.seq _ (.seq (.seq _ _) (.seq _ _))) := rfl
  rw [hK]
  clear hK hQ
  have ho := one_str (t := s.drop (i + 1)) h34
  rw [← hd] at ho
  by_cases hj : j < s.length
  · have e1 : decide ((j : Int) ≥ (s.length : Int)) = false := decide_eq_false (by omega)
    obtain ⟨z, hz⟩ := get_some hj
    have x1 := ix9 hz
    have c1 : ((z.toNat : Int) == 10) = decide (z.toNat = 10) := beqI z 10
    by_cases q10 : z.toNat = 10
    · rw [decide_eq_true q10] at c1
      have hno := strTo_nl hz q10
      rw [hs, strTo] at hno
      have hno : strEnd (s.drop (i + 1)) = none := by
        cases hq : strEnd (s.drop (i + 1)) with
        | none => rfl
        | some q => rw [hq] at hno; cases hno
      rw [hno] at ho
      simp only [go_sem, envP, ↓reduceIte, Nat.reduceEqDiff, Nat.reduceAdd, Nat.reduceLT, b0, b1, b7, e1, x1, c1]
      refine one_err ho rfl ?_ ?_ ?_
      all_goals simp only [go_sem, ↓reduceIte, Nat.reduceEqDiff]
      rfl
    · rw [decide_eq_false q10] at c1
      have q34 : z.toNat = 34 := by rcases hend z hz with h | h; exact h; exact (q10 h).elim
      have hyes := strTo_quote hz q34
      rw [hs, strTo] at hyes
      cases hq : strEnd (s.drop (i + 1)) with
      | none => rw [hq] at hyes; cases hyes
      | some q =>
        rw [hq] at hyes ho
        simp only [Option.map_some, Option.some.injEq] at hyes
        have hj1 : j + 1 = i + (q + 1) := by omega
        have hu := unquote_cut hb h34 hq
        rw [show i + 1 + q = j + 1 by omega] at hu
        have w1 : IntKind.i64.wrap ((j : Int) + 1) = ((j + 1 : Nat) : Int) := by rw [IntWalk.i64_in _ (by omega)]; omega
        have y1 := sl9 s (a := i) (b := j + 1) (by omega) (by omega)
        have x2 := unquote19 ((s.take (j + 1)).drop i) (by simp; omega)
        rw [unqV, hu] at x2
        simp only at ho
        cases hss : (unqT ((s.drop (i + 1)).take (q - 1))).isSome with
        | true =>
          rw [hss, if_pos rfl] at x2
          rw [if_pos hss] at ho
          have z0 : ((0 : Int) != 0) = false := rfl
          simp only [go_sem, envP, ↓reduceIte, Nat.reduceEqDiff, Nat.reduceAdd, Nat.reduceLT, b0, b1, b7, e1, x1, c1, w1, y1, x2, z0, extractA]
          refine one_ok ho rfl ?_ ?_ ?_
          all_goals simp only [go_sem, ↓reduceIte, Nat.reduceEqDiff]
          · rfl
          · rw [hj1]
        | false =>
          rw [hss, if_neg (by decide)] at x2
          rw [if_neg (by rw [hss]; decide)] at ho
          have z0 : ((22 : Int) != 0) = true := rfl
          simp only [go_sem, envP, ↓reduceIte, Nat.reduceEqDiff, Nat.reduceAdd, Nat.reduceLT, b0, b1, b7, e1, x1, c1, w1, y1, x2, z0, extractA]
          refine one_err ho rfl ?_ ?_ ?_
          all_goals simp only [go_sem, ↓reduceIte, Nat.reduceEqDiff]
          rfl
  · have e1 : decide ((j : Int) ≥ (s.length : Int)) = true := decide_eq_true (by omega)
    have hno := strTo_end (s := s) (i := j) (by omega)
    rw [hs, strTo] at hno
    have hno : strEnd (s.drop (i + 1)) = none := by
      cases hq : strEnd (s.drop (i + 1)) with
      | none => rfl
      | some q => rw [hq] at hno; cases hno
    rw [hno] at ho
    simp only [go_sem, envP, ↓reduceIte, Nat.reduceEqDiff, Nat.reduceAdd, Nat.reduceLT, b0, b1, b7, e1]
    refine one_err ho rfl ?_ ?_ ?_
    all_goals simp only [go_sem, ↓reduceIte, Nat.reduceEqDiff]
    rfl

/-! Signs -/
noncomputable def G11 : Code := match U11 with | .seq _ (.seq _ (.seq (.seq _ (.block _ (.loop c))) _)) => c | _ => .skip
noncomputable def LG11 : Code := .block 6 (.loop G11)
noncomputable def KG11 : Code := match U11 with | .seq _ (.seq _ (.seq _ k)) => k | _ => .skip
structure IG11 (s : List UInt8) (i : Nat) (b : UInt8) (d : Nat) (α : Frm) (H : AHeap) : Prop where
  ex : ∃ j : Nat, j + d = 13 ∧ ((signL.drop j).contains b = signL.contains b) ∧ α 15 = .int .i64 (j : Int)
  a0 : α 0 = .str s
  a1 : α 1 = .int .i64 (i : Int)
  a7 : α 7 = .int .i64 ((i + 1 : Nat) : Int)
  a14 : α 14 = .str signL
def PG11 (i : Nat) (b : UInt8) (x : Ex) (α : Frm) (H : AHeap) : Prop := (x = .exit 6 ∧ signL.contains b = false) ∨ (x = .ret ∧ signL.contains b = true ∧ α 4 = .int .i64 5 ∧ α 5 = .int .i64 ((i + 1 : Nat) : Int) ∧ α 6 = .int .i64 0)
theorem roundG11 {s : List UInt8} {i : Nat} {b : UInt8} (hb : s[i]? = some b) (d : Nat) (α : Frm) (H : AHeap) (h : IG11 s i b d α H) :
    okR (execC envK (run envK) loopO G11 α H) fun x α' H' => (x = .normal ∧ ∃ d', d' < d ∧ IG11 s i b d' α' H') ∨ (x ≠ .normal ∧ PG11 i b x α' H') := by
  obtain ⟨⟨j, hd, hs, a15⟩, a0, a1, a7, a14⟩ := h
  have hB : G11 = .seq (.seq _ _) (.seq (.block _ (.seq _ _)) _) := rfl
  rw [hB]
  clear hB
  have hlen : signL.length = 13 := rfl
  by_cases hj : j < 13
  · have e1 : decide ((j : Int) < (signL.length : Int)) = true := decide_eq_true (by rw [hlen]; omega)
    obtain ⟨z, hz⟩ := get_some (s := signL) (i := j) (by rw [hlen]; exact hj)
    have x1 := ix9 hz
    have x2 := ix9 hb
    have c1 : ((z.toNat : Int) == (b.toNat : Int)) = decide (z.toNat = b.toNat) := beqN _ _
    have w1 : IntKind.i64.wrap ((j : Int) + 1) = ((j + 1 : Nat) : Int) := by rw [IntWalk.i64_in _ (by omega)]; omega
    rw [drop_get hz] at hs
    by_cases q : z.toNat = b.toNat
    · rw [decide_eq_true q] at c1
      have hzb : z = b := UInt8.toNat_inj.1 q
      have hc : signL.contains b = true := by rw [← hs, hzb]; simp
      simp only [go_sem, envP, ↓reduceIte, Nat.reduceEqDiff, Nat.reduceAdd, Nat.reduceLT, a0, a1, a7, a14, a15, e1, x1, x2, c1]
      refine .inr ⟨by simp, .inr ⟨rfl, hc, ?_, ?_, ?_⟩⟩
      all_goals simp only [go_sem, ↓reduceIte, Nat.reduceEqDiff]
    · rw [decide_eq_false q] at c1
      have hzb : ¬b = z := fun h => q (by rw [h])
      have hs2 : (signL.drop (j + 1)).contains b = signL.contains b := by
        rw [← hs, List.contains_cons]
        have : (b == z) = false := by simpa using hzb
        rw [this, Bool.false_or]
      simp only [go_sem, envP, ↓reduceIte, Nat.reduceEqDiff, Nat.reduceAdd, Nat.reduceLT, a0, a1, a7, a14, a15, e1, x1, x2, c1, w1]
      refine .inl ⟨trivial, d - 1, by omega, ⟨j + 1, by omega, hs2, ?_⟩, ?_, ?_, ?_, ?_⟩
      all_goals simp only [go_sem, ↓reduceIte, Nat.reduceEqDiff, a0, a1, a7, a14, a15]
  · have e1 : decide ((j : Int) < (signL.length : Int)) = false := decide_eq_false (by rw [hlen]; omega)
    rw [List.drop_of_length_le (l := signL) (by rw [hlen]; omega)] at hs
    simp only [go_sem, envP, ↓reduceIte, Nat.reduceEqDiff, Nat.reduceAdd, Nat.reduceLT, a0, a1, a7, a14, a15, e1]
    exact .inr ⟨by simp, .inl ⟨rfl, hs.symm⟩⟩
theorem uPart {s : List UInt8} {i : Nat} {b : UInt8} (hb : s[i]? = some b) (hw : isWd b = false) (h34 : b.toNat ≠ 34) (hn : s.length ≤ 16384) (α : Frm) (H : AHeap) (a0 : α 0 = .str s) (a1 : α 1 = .int .i64 (i : Int)) (a7 : α 7 = .int .i64 ((i + 1 : Nat) : Int)) :
    okR (execC envK (run envK) loopO U11 α H) (One11 s i) := by
  have hi := get_lt hb
  have hd := drop_get hb
  have ho := one_sign (t := s.drop (i + 1)) hw h34
  have hU : U11 = .seq (.seq _ _) (.seq _ (.seq (.seq _ LG11) KG11)) := rfl
  rw [hU]
  clear hU
  have x1 := ix9 hb
  have c1 : ((b.toNat : Int) == 61) = decide (b.toNat = 61) := beqI b 61
  have w1 : IntKind.i64.wrap (((i + 1 : Nat) : Int) + 1) = ((i + 2 : Nat) : Int) := by rw [IntWalk.i64_in _ (by omega)]; omega
  have hst : ([40, 41, 123, 125, 44, 59, 58, 46, 61, 43, 45, 42, 60] : List UInt8) = signL := rfl
  by_cases hq : b.toNat = 61 ∧ ((s.drop (i + 1)).head?.map UInt8.toNat) = some 61
  · have hz : ∃ z, s[i + 1]? = some z ∧ z.toNat = 61 := by
      have h2 := hq.2
      rw [List.head?_eq_getElem?, List.getElem?_drop, Nat.add_zero] at h2
      simp only [Option.map_eq_some_iff] at h2
      exact h2
    obtain ⟨z, hz, hz61⟩ := hz
    have x2 := ix9 hz
    have hl := get_lt hz
    have e1 : decide (((i + 1 : Nat) : Int) < (s.length : Int)) = true := decide_eq_true (by omega)
    have c2 : ((z.toNat : Int) == 61) = decide (z.toNat = 61) := beqI z 61
    rw [decide_eq_true hq.1] at c1
    rw [decide_eq_true hz61] at c2
    rw [signLen, if_pos hq, if_neg (by decide), ← hd] at ho
    simp only [go_sem, envP, ↓reduceIte, Nat.reduceEqDiff, Nat.reduceAdd, Nat.reduceLT, a0, a1, a7, e1, x1, x2, c1, c2, w1]
    refine one_ok ho rfl ?_ ?_ ?_
    all_goals simp only [go_sem, ↓reduceIte, Nat.reduceEqDiff]
    rfl
  · rw [signLen, if_neg hq, ← hd] at ho
    have key : ∀ α1 : Frm, ∀ H1, α1 0 = .str s → α1 1 = .int .i64 (i : Int) → α1 7 = .int .i64 ((i + 1 : Nat) : Int) → okR (execC envK (run envK) loopO (match U11 with | .seq _ k => k | _ => .skip) α1 H1) (One11 s i) := by
      intro α1 H1 b0 b1 b7
      have hV : (match U11 with | .seq _ k => k | _ => .skip) = .seq _ (.seq (.seq _ LG11) KG11) := rfl
      rw [hV]
      clear hV
      simp only [go_sem, envP, ↓reduceIte, Nat.reduceEqDiff, Nat.reduceAdd, Nat.reduceLT, b0, b1, b7]
      refine block_ret (id := 6) ?_
      rw [xc_loop']
      refine okR_imp (loop_meas (IG11 s i b) (PG11 i b) (fun d α H hh => roundG11 hb d α H hh) 13 _ _ ⟨⟨0, by omega, rfl, ?_⟩, ?_, ?_, ?_, ?_⟩) ?_
      case refine_6 =>
        rintro x α2 H2 (⟨rfl, hc⟩ | ⟨rfl, hc, c4, c5, c6⟩)
        · refine .inl ⟨.inr rfl, ?_⟩
          have hK : KG11 = .seq _ _ := rfl
          rw [hK]
          rw [hc] at ho
          simp only [go_sem, envP, ↓reduceIte, Nat.reduceEqDiff, Nat.reduceAdd, Nat.reduceLT]
          refine one_err (e := 21) ho rfl ?_ ?_ ?_
          all_goals simp only [go_sem, ↓reduceIte, Nat.reduceEqDiff]
          rfl
        · refine .inr ⟨rfl, ?_⟩
          rw [hc] at ho
          exact one_ok (k := 5) (n := 1) ho rfl c4 c5 c6
      all_goals (simp only [go_sem, ↓reduceIte, Nat.reduceEqDiff, b0, b1, b7]; try rfl)
    have hU2 : (match U11 with | .seq _ k => k | _ => .skip) = .seq (.region 36 _ _) (.seq (.seq _ LG11) KG11) := rfl
    rw [hU2] at key
    by_cases hl : i + 1 < s.length
    · have e1 : decide (((i + 1 : Nat) : Int) < (s.length : Int)) = true := decide_eq_true (by omega)
      obtain ⟨z, hz⟩ := get_some hl
      have x2 := ix9 hz
      have c2 : ((z.toNat : Int) == 61) = decide (z.toNat = 61) := beqI z 61
      by_cases q1 : b.toNat = 61
      · rw [decide_eq_true q1] at c1
        have q2 : ¬z.toNat = 61 := fun h => hq ⟨q1, by rw [List.head?_eq_getElem?, List.getElem?_drop, Nat.add_zero, hz, Option.map_some, h]⟩
        rw [decide_eq_false q2] at c2
        rw [xc_seq]
        refine okR_bnd (Q := fun x α1 H1 => x = .normal ∧ α1 0 = .str s ∧ α1 1 = .int .i64 (i : Int) ∧ α1 7 = .int .i64 ((i + 1 : Nat) : Int)) ?_ ?_
        · simp only [go_sem, envP, ↓reduceIte, Nat.reduceEqDiff, Nat.reduceAdd, Nat.reduceLT, a0, a1, a7, e1, x1, x2, c1, c2]
          refine ⟨trivial, ?_, ?_, ?_⟩
          all_goals simp only [go_sem, ↓reduceIte, Nat.reduceEqDiff, a0, a1, a7]
        · rintro x α1 H1 ⟨rfl, b0, b1, b7⟩
          exact key α1 H1 b0 b1 b7
      · rw [decide_eq_false q1] at c1
        rw [xc_seq]
        refine okR_bnd (Q := fun x α1 H1 => x = .normal ∧ α1 0 = .str s ∧ α1 1 = .int .i64 (i : Int) ∧ α1 7 = .int .i64 ((i + 1 : Nat) : Int)) ?_ ?_
        · simp only [go_sem, envP, ↓reduceIte, Nat.reduceEqDiff, Nat.reduceAdd, Nat.reduceLT, a0, a1, a7, e1, x1, x2, c1]
          refine ⟨trivial, ?_, ?_, ?_⟩
          all_goals simp only [go_sem, ↓reduceIte, Nat.reduceEqDiff, a0, a1, a7]
        · rintro x α1 H1 ⟨rfl, b0, b1, b7⟩
          exact key α1 H1 b0 b1 b7
    · have e1 : decide (((i + 1 : Nat) : Int) < (s.length : Int)) = false := decide_eq_false (by omega)
      rw [xc_seq]
      refine okR_bnd (Q := fun x α1 H1 => x = .normal ∧ α1 0 = .str s ∧ α1 1 = .int .i64 (i : Int) ∧ α1 7 = .int .i64 ((i + 1 : Nat) : Int)) ?_ ?_
      · simp only [go_sem, envP, ↓reduceIte, Nat.reduceEqDiff, Nat.reduceAdd, Nat.reduceLT, a0, a1, a7, e1]
        refine ⟨trivial, ?_, ?_, ?_⟩
        all_goals simp only [go_sem, ↓reduceIte, Nat.reduceEqDiff, a0, a1, a7]
      · rintro x α1 H1 ⟨rfl, b0, b1, b7⟩
        exact key α1 H1 b0 b1 b7
end Go.Proofs.YtiagmokcjljliaaGreatDoor
