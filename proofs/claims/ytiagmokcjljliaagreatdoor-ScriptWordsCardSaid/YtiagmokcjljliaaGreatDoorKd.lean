/- ScriptWords: the lexers on the machine, 4: one token, all tokens. -/
import Derived.Test.YtiagmokcjljliaaGreatDoorKc
/- ScriptWords: both lexers on the machine. -/
namespace Go.Proofs.YtiagmokcjljliaaGreatDoor
set_option linter.unusedVariables false
set_option linter.unusedSimpArgs false
set_option maxRecDepth 100000
open Go Go.Ab

/-! The reference's one -/
def oneV (s : List UInt8) (i : Nat) : AV := match one (s.drop i) with
  | .error e => .tup [.int .i64 0, .int .i64 0, .int .i64 (e : Int)]
  | .ok (k, n) => .tup [.int .i64 (k : Int), .int .i64 ((i + n : Nat) : Int), .int .i64 0]
theorem oneV_np (s : List UInt8) (i : Nat) : (oneV s i).noPtr = true := by
  unfold oneV
  split <;> rfl
theorem fin11 {s : List UInt8} {i : Nat} {x : Ex} {α : Frm} {H : AHeap} (h : One11 s i x α H) : ∃ v, outOf (finish Tryz.prog Tryz.f11.results.toList (x, α, H)) = some v ∧ v.erase = oneV s i := by
  obtain ⟨rfl, h⟩ := h
  unfold oneV
  cases ho : one (s.drop i) with
  | error e =>
    rw [ho] at h
    obtain ⟨h4, h5, h6⟩ := h
    simp only [go_sem, Tryz.results11, h4, h5, h6]
    exact ⟨_, rfl, rfl⟩
  | ok p =>
    obtain ⟨k, n⟩ := p
    rw [ho] at h
    obtain ⟨h4, h5, h6⟩ := h
    simp only [go_sem, Tryz.results11, h4, h5, h6]
    exact ⟨_, rfl, rfl⟩
theorem one_end {s : List UInt8} {i : Nat} {x : Ex} {α : Frm} {H : AHeap} {k : Frm → AHeap → Option Res} (h : One11 s i x α H) : okR (andThen (x, α, H) k) (One11 s i) := by
  have := h.1
  subst this
  exact h
theorem one11 {s : List UInt8} {i : Nat} {b : UInt8} (hb : s[i]? = some b) (hn : s.length ≤ 16384) : closedCall Tryz.prog (run envK) 11 [.str s, .int .i64 (i : Int)] = some (oneV s i) := by
  refine closed_ex (E := envK) (fn := Tryz.f11) (c := .seq _ (.seq _ (.seq (.seq _ (.cond _ W11 _)) (.seq (.seq _ (.cond _ Q11 _)) U11)))) (by kernel_rfl) rfl Tryz.func11 rfl (by rw [Tryz.ntmps11]; simp) (args' := [.str s, .int .i64 (i : Int)]) rfl rfl ?_ (oneV_np _ _)
  have hi := get_lt hb
  have x1 := ix9 hb
  have x2 := let16 b
  have x3 := dig17 b
  have c1 : ((b.toNat : Int) == 34) = decide (b.toNat = 34) := beqI b 34
  have w1 : IntKind.i64.wrap ((i : Int) + 1) = ((i + 1 : Nat) : Int) := by rw [IntWalk.i64_in _ (by omega)]; omega
  refine okR_imp (P := One11 s i) ?_ (fun x α H h => fin11 h)
  cases hL : isLet b with
  | true =>
    rw [hL] at x2
    simp only [go_sem, envP, ↓reduceIte, Nat.reduceEqDiff, Nat.reduceAdd, Nat.reduceLT, x1, x2, w1]
    refine okR_bnd (wPart hb (by simp [isWd, hL]) hn _ _ ?_ ?_ ?_) (fun x α H h => one_end h)
    all_goals (simp only [go_sem, ↓reduceIte, Nat.reduceEqDiff]; try rfl)
  | false =>
    rw [hL] at x2
    cases hD : isDig b with
    | true =>
      rw [hD] at x3
      simp only [go_sem, envP, ↓reduceIte, Nat.reduceEqDiff, Nat.reduceAdd, Nat.reduceLT, x1, x2, x3, w1]
      refine okR_bnd (wPart hb (by simp [isWd, hD]) hn _ _ ?_ ?_ ?_) (fun x α H h => one_end h)
      all_goals (simp only [go_sem, ↓reduceIte, Nat.reduceEqDiff]; try rfl)
    | false =>
      rw [hD] at x3
      by_cases h34 : b.toNat = 34
      · rw [decide_eq_true h34] at c1
        simp only [go_sem, envP, ↓reduceIte, Nat.reduceEqDiff, Nat.reduceAdd, Nat.reduceLT, x1, x2, x3, w1, c1]
        refine okR_bnd (qPart hb h34 hn _ _ ?_ ?_ ?_) (fun x α H h => one_end h)
        all_goals (simp only [go_sem, ↓reduceIte, Nat.reduceEqDiff]; try rfl)
      · rw [decide_eq_false h34] at c1
        simp only [go_sem, envP, ↓reduceIte, Nat.reduceEqDiff, Nat.reduceAdd, Nat.reduceLT, x1, x2, x3, w1, c1]
        refine uPart hb (by simp [isWd, hL, hD]) h34 hn _ _ ?_ ?_ ?_
        all_goals (simp only [go_sem, ↓reduceIte, Nat.reduceEqDiff]; try rfl)
end Go.Proofs.YtiagmokcjljliaaGreatDoor

/- ScriptWords: tokens appended, and the reference's Lex on the machine. -/
namespace Go.Proofs.YtiagmokcjljliaaGreatDoor
set_option linter.unusedVariables false
set_option linter.unusedSimpArgs false
set_option maxRecDepth 100000
open Go Go.Ab

def V (l : List Tok) : List AV := l.map tokA
theorem V_len (l : List Tok) : (V l).length = l.length := by simp [V]
theorem V_app (l : List Tok) (x : Tok) : V l ++ [tokA x] = V (l ++ [x]) := by simp [V]
theorem V_np : ∀ l : List Tok, AV.noPtr.go (V l) = true
  | [] => rfl
  | x :: l => by
    show ((tokA x).noPtr && AV.noPtr.go (V l)) = true
    rw [V_np l]
    rfl
theorem elem22 : elemQ Tryz.prog 22 = some 31 := by kernel_rfl
theorem by31 : byQ Tryz.prog 31 = some 48 := by kernel_rfl
theorem len22 (o : Ab.Own) (l : List Tok) : lenA Tryz.prog #[22] [.vec o (V l)] = some (.int .i64 l.length) := by simp [lenA, elem22, V_len]
theorem bs22 (k a : Int) (l t : List UInt8) (H : AHeap) : buildSliceA Tryz.prog 22 1 [(0, .agg [.int .i64 k, .int .i64 a, .str l, .str t])] H = some (.vec .full [.agg [.int .i64 k, .int .i64 a, .str l, .str t]], H) := by
  simp [buildSliceA, elem22, sz31, zero31, inOrder, allWidth, allOneL, allOne, AV.erase, AV.width, AV.cells, AV.one, ba_int, ba_str]
theorem stride22 (l : List Tok) : strideQ Tryz.prog 22 (V l) = true := by
  cases l <;> simp [strideQ, elem22, sz31, V, tokA, AV.width]
attribute [go_sem] len22 bs22
/-- What was appended so far. -/
def OutOk (m : Nat) (L : List (Nat × AObj)) (o : Ab.Own) (out : List Tok) : Prop :=
  (o = .nil ∧ out = []) ∨ (out ≠ [] ∧ ∃ j, o = .own j ∧ j < m ∧ getL L j = some (.tip out.length 31))
theorem append_c {m : Nat} {L : List (Nat × AObj)} {o : Ab.Own} {out : List Tok} (h : OutOk m L o out) (hn : out.length ≤ 16384) (x : Tok) : ∃ o' m' L', appendA (fun _ => false) Tryz.prog 22 22 (.vec o (V out)) (.vec .full [tokA x]) ⟨m, L⟩ = some (.vec o' (V (out ++ [x])), ⟨m', L'⟩) ∧ OutOk m' L' o' (out ++ [x]) ∧ m ≤ m' ∧
    ∀ id te cs, id < m → getL L id = some (.cells te cs) → getL L' id = some (.cells te cs) := by
  have h1 : strideQ Tryz.prog 22 [tokA x] = true := stride22 [x]
  have h6 := stride22 out
  have h4 := V_app out x
  have h5 := V_len out
  rcases h with ⟨rfl, rfl⟩ | ⟨hne, j, rfl, hj, hg⟩
  · refine ⟨.own m, m + 1, (m, .tip 1 31) :: L, ?_, .inr ⟨by simp, m, rfl, by omega, by simp [getL_cons]⟩, by omega, fun id te cs hid hx => by rw [getL_cons, if_neg (by omega)]; exact hx⟩
    have h0 := stride22 []
    simp only [V, List.map_nil, List.nil_append, List.map_cons] at h0 ⊢
    simp [appendA, elem22, sz31, by31, zero31, persist, appendVec, h1, h0, AHeap.push]
  · refine ⟨.own j, m, setL L j (.tip (out.length + 1) 31), ?_, .inr ⟨by simp, j, rfl, hj, by rw [getL_setL, if_pos rfl, hg]; simp⟩, Nat.le_refl _, fun id te cs hid hx => ?_⟩
    · simp only [appendA, elem22, sz31, by31, zero31, persist, appendVec, h1, h6, h5, AHeap.get, AHeap.set, hj, hg, h4, List.length_cons, List.length_nil, Nat.zero_add]
      simp [h5, show (out.length + 1) * 48 ≤ 140737488355328 by omega, show out.length + 1 ≤ 9223372036854775807 by omega]
    · rw [getL_setL]
      by_cases hji : j = id
      · subst hji
        rw [hg] at hx
        cases hx
      · rw [if_neg hji]; exact hx
theorem tok_eq (k a : Int) (l t : List UInt8) (x : Tok) (hk : k = (x.1 : Int)) (ha : a = (x.2.1 : Int)) (hl : l = x.2.2.1) (ht : t = x.2.2.2) : AV.agg [.int .i64 k, .int .i64 a, .str l, .str t] = tokA x := by
  subst hk ha hl ht
  rfl
theorem bneN (a b : Nat) : (((a : Nat) : Int) != ((b : Nat) : Int)) = !decide (a = b) := by rw [bne, beqN]
theorem one_ne {r : List UInt8} {e : Nat} (h : one r = .error e) : e ≠ 0 := by
  cases r with
  | nil => simp [one] at h
  | cons c t =>
    simp only [one] at h
    repeat' split at h
    all_goals first | (cases h; done) | (simp only [Except.error.injEq] at h; subst h; decide)

/-- What a lexer answers. -/
def lexV (x : Except (Nat × Nat) (List Tok)) : AV := match x with
  | .error (e, a) => .tup [.vec .nil [], .int .i64 (e : Int), .int .i64 (a : Int)]
  | .ok l => .tup [.vec .ro (V l), .int .i64 0, .int .i64 0]
theorem lexV_np (x : Except (Nat × Nat) (List Tok)) : (lexV x).noPtr = true := by
  unfold lexV
  split
  · rfl
  · rename_i l
    have := V_np l
    simp [AV.noPtr, AV.noPtr.go, this]
/-- What the slots of its results hold. -/
def LexP (x : Except (Nat × Nat) (List Tok)) (e : Ex) (α : Frm) (H : AHeap) : Prop := e = .ret ∧ match x with
  | .error (e, a) => α 2 = .vec .nil [] ∧ α 3 = .int .i64 (e : Int) ∧ α 4 = .int .i64 (a : Int)
  | .ok l => (∃ j, α 2 = .vec (.own j) (V l)) ∧ α 3 = .int .i64 0 ∧ α 4 = .int .i64 0

theorem call9 (call : CallO) (args : List AV) (H : AHeap) : callA envK call (.fn (.func 9) [] []) args H = bnd (closedCall Tryz.prog call 9 args) fun v => some (v, H) := callA_closed (E := envK) (by kernel_rfl) args
theorem call10 (call : CallO) (args : List AV) (H : AHeap) : callA envK call (.fn (.func 10) [] []) args H = bnd (closedCall Tryz.prog call 10 args) fun v => some (v, H) := callA_closed (E := envK) (by kernel_rfl) args
theorem call11 (call : CallO) (args : List AV) (H : AHeap) : callA envK call (.fn (.func 11) [] []) args H = bnd (closedCall Tryz.prog call 11 args) fun v => some (v, H) := callA_closed (E := envK) (by kernel_rfl) args
theorem places31 : placesQ Tryz.prog 31 = some [(0, 1), (1, 1), (2, 1), (3, 1)] := by kernel_rfl
theorem bd31 (a : Int) (l : List UInt8) : buildA Tryz.prog 31 [(1, .int .i64 a), (2, .str l)] = some (.agg [.int .i64 0, .int .i64 a, .str l, .str []]) := by
  simp [buildA, zero31, places31, fillA, AV.width, AV.cells, overlay, allOne, AV.one]
attribute [go_sem] call9 call10 call11 bd31
end Go.Proofs.YtiagmokcjljliaaGreatDoor

/- ScriptWords: the reference's Lex on the machine. -/
namespace Go.Proofs.YtiagmokcjljliaaGreatDoor
set_option linter.unusedVariables false
set_option linter.unusedSimpArgs false
set_option maxRecDepth 100000
open Go Go.Ab

noncomputable def LB4 : Code := match Tryz.f4.body with | some (.seq _ (.seq _ (.seq _ (.seq _ (.seq _ (.seq _ b)))))) => b | _ => .skip
noncomputable def B4 : Code := match LB4 with | .block _ (.loop c) => c | _ => .skip
structure I4 (s : List UInt8) (R : Except (Nat × Nat) (List Tok)) (d : Nat) (α : Frm) (H : AHeap) : Prop where
  ex : ∃ (i m : Nat) (L : List (Nat × AObj)) (o : Ab.Own) (out : List Tok), H = ⟨m, L⟩ ∧ i + d = s.length ∧ OutOk m L o out ∧ out.length ≤ 4000 ∧ lexL s i out = R ∧ α 7 = .int .i64 (i : Int) ∧ α 6 = .vec o (V out)
  a0 : α 0 = .str s
theorem lex_out {m : Nat} {L : List (Nat × AObj)} {o : Ab.Own} {out : List Tok} (h : OutOk m L o out) (hne : out ≠ []) : ∃ j, o = .own j := by
  rcases h with ⟨_, rfl⟩ | ⟨_, j, rfl, _⟩
  · exact (hne rfl).elim
  · exact ⟨j, rfl⟩
theorem round4 {s : List UInt8} {R : Except (Nat × Nat) (List Tok)} (hn : s.length ≤ 16384) (d : Nat) (α : Frm) (H : AHeap) (h : I4 s R d α H) :
    okR (execC envK (run envK) loopO B4 α H) fun x α' H' => (x = .normal ∧ ∃ d', d' < d ∧ I4 s R d' α' H') ∨ (x ≠ .normal ∧ LexP R x α' H') := by
  obtain ⟨⟨i, m, L, o, out, rfl, hd, hoo, hol, hR, a7, a6⟩, a0⟩ := h
  have hB : B4 = .block _ (.seq _ (.seq _ (.seq _ (.seq _ (.seq (.seq _ (.cond _ (.seq _ (.seq (.seq _ _) (.seq _ _))) _)) (.seq (.seq _ _) (.seq _ (.seq _ (.seq _ (.seq _ _)))))))))) := rfl
  rw [hB]
  clear hB
  have hi : i ≤ s.length := by omega
  have x1 := lead10 s i hi hn
  have hge := leadTo_ge s hi
  have hle := leadTo_le s i
  rw [lexL_eq s i out hi] at hR
  have hp : ∃ p, p = leadTo s i := ⟨_, rfl⟩
  have y1 := sl9 s hge hle
  have hmm : (m < m + 1) = True := eq_true (by omega)
  by_cases hl : leadTo s i < s.length
  · have e1 : decide ((leadTo s i : Int) < (s.length : Int)) = true := decide_eq_true (by omega)
    obtain ⟨b, hb⟩ := get_some hl
    have x2 := one11 hb hn
    rw [oneV] at x2
    cases ho : one (s.drop (leadTo s i)) with
    | error e =>
      rw [ho] at x2 hR
      have c1 : ((e : Int) != 0) = true := by
        have := bneN e 0
        rw [decide_eq_false (one_ne ho)] at this
        exact this
      simp only [go_sem, envP, ↓reduceIte, Nat.reduceEqDiff, Nat.reduceAdd, Nat.reduceLT, a0, a6, a7, x1, y1, hmm, e1, x2, c1, extractA]
      refine .inr ⟨by simp, rfl, ?_⟩
      rw [← hR]
      refine ⟨?_, ?_, ?_⟩
      all_goals simp only [go_sem, ↓reduceIte, Nat.reduceEqDiff]
    | ok q =>
      obtain ⟨kd, n⟩ := q
      rw [ho] at x2 hR
      have hlen := one_len ho
      have hne : s.drop (leadTo s i) ≠ [] := by rw [drop_get hb]; simp
      have hk0 : kd ≠ 0 := fun hk => hne (hlen.2.1.1 hk)
      have hn1 := hlen.2.2.1 hne
      have hnl := hlen.1
      rw [List.length_drop] at hnl
      have z0 : ((0 : Int) != 0) = false := rfl
      by_cases h4 : 4000 ≤ out.length
      · have e3 : decide ((out.length : Int) ≥ 4000) = true := decide_eq_true (by omega)
        simp only [if_pos h4] at hR
        simp only [go_sem, envP, ↓reduceIte, Nat.reduceEqDiff, Nat.reduceAdd, Nat.reduceLT, a0, a6, a7, x1, y1, hmm, e1, x2, z0, e3, extractA]
        refine .inr ⟨by simp, rfl, ?_⟩
        rw [← hR]
        refine ⟨?_, ?_, ?_⟩
        all_goals (simp only [go_sem, ↓reduceIte, Nat.reduceEqDiff]; try rfl)
      · have e3 : decide ((out.length : Int) ≥ 4000) = false := decide_eq_false (by omega)
        simp only [if_neg h4, if_neg hk0] at hR
        have y2 := sl9 s (a := leadTo s i) (b := leadTo s i + n) (by omega) (by omega)
        obtain ⟨o', m', L', hap, hoo', hmm', hkeep⟩ := append_c (m := m + 1) (L := (m, .cells (some 31) [.int .i64 (kd : Int), .int .i64 (leadTo s i : Int), .str ((s.take (leadTo s i)).drop i), .str ((s.take (leadTo s i + n)).drop (leadTo s i))]) :: L) (o := o) (out := out) (by
          rcases hoo with h | ⟨h1, j, h2, h3, h4⟩
          · exact .inl h
          · exact .inr ⟨h1, j, h2, by omega, by rw [getL_cons, if_neg (by omega)]; exact h4⟩) (by omega) (tokAt s i kd n)
        have htk : tokA (tokAt s i kd n) = .agg [.int .i64 (kd : Int), .int .i64 (leadTo s i : Int), .str ((s.take (leadTo s i)).drop i), .str ((s.take (leadTo s i + n)).drop (leadTo s i))] := rfl
        rw [htk] at hap
        have hc2 : cellsQ L' m = some [.int .i64 (kd : Int), .int .i64 (leadTo s i : Int), .str ((s.take (leadTo s i)).drop i), .str ((s.take (leadTo s i + n)).drop (leadTo s i))] := by
          rw [cellsQ, hkeep m _ _ (by omega) (by rw [getL_cons, if_pos rfl])]
        have hm' : (m < m') = True := eq_true (by omega)
        have c3 : ((kd : Int) == 0) = false := by
          have := beqN kd 0
          rw [decide_eq_false hk0] at this
          exact this
        have ao22 : ∀ x y H, appendOp envK.mutT Tryz.prog [22, 22] [x, y] H = appendA (fun _ => false) Tryz.prog 22 22 x y H := fun _ _ _ => rfl
        simp only [go_sem, envP, ↓reduceIte, Nat.reduceEqDiff, Nat.reduceAdd, Nat.reduceLT, a0, a6, a7, x1, y1, y2, hmm, e1, x2, z0, e3, extractA, hap, hm', hc2, c3]
        refine .inl ⟨trivial, s.length - (leadTo s i + n), by omega, ⟨leadTo s i + n, m', L', o', out ++ [tokAt s i kd n], rfl, by omega, hoo', by simp; omega, hR, ?_, ?_⟩, ?_⟩
        all_goals simp only [go_sem, ↓reduceIte, Nat.reduceEqDiff, a0]
  · have hl : leadTo s i = s.length := by omega
    have e1 : decide ((leadTo s i : Int) < (s.length : Int)) = false := decide_eq_false (by omega)
    have ho : one (s.drop (leadTo s i)) = .ok (0, 0) := by rw [List.drop_of_length_le (by omega)]; rfl
    rw [ho] at hR
    by_cases h4 : 4000 ≤ out.length
    · have e3 : decide ((out.length : Int) ≥ 4000) = true := decide_eq_true (by omega)
      simp only [if_pos h4] at hR
      simp only [go_sem, envP, ↓reduceIte, Nat.reduceEqDiff, Nat.reduceAdd, Nat.reduceLT, a0, a6, a7, x1, y1, hmm, e1, e3, extractA]
      refine .inr ⟨by simp, rfl, ?_⟩
      rw [← hR]
      refine ⟨?_, ?_, ?_⟩
      all_goals (simp only [go_sem, ↓reduceIte, Nat.reduceEqDiff]; try rfl)
    · have e3 : decide ((out.length : Int) ≥ 4000) = false := decide_eq_false (by omega)
      simp only [if_neg h4, if_true] at hR
      have y2 := sl9 s (a := leadTo s i) (b := leadTo s i) (Nat.le_refl _) (by omega)
      obtain ⟨o', m', L', hap, hoo', hmm', hkeep⟩ := append_c (m := m + 1) (L := (m, .cells (some 31) [.int .i64 0, .int .i64 (leadTo s i : Int), .str ((s.take (leadTo s i)).drop i), .str ((s.take (leadTo s i)).drop (leadTo s i))]) :: L) (o := o) (out := out) (by
        rcases hoo with h | ⟨h1, j, h2, h3, h4⟩
        · exact .inl h
        · exact .inr ⟨h1, j, h2, by omega, by rw [getL_cons, if_neg (by omega)]; exact h4⟩) (by omega) (tokAt s i 0 0)
      have htk : tokA (tokAt s i 0 0) = .agg [.int .i64 0, .int .i64 (leadTo s i : Int), .str ((s.take (leadTo s i)).drop i), .str ((s.take (leadTo s i)).drop (leadTo s i))] := rfl
      rw [htk] at hap
      have hc2 : cellsQ L' m = some [.int .i64 0, .int .i64 (leadTo s i : Int), .str ((s.take (leadTo s i)).drop i), .str ((s.take (leadTo s i)).drop (leadTo s i))] := by
        rw [cellsQ, hkeep m _ _ (by omega) (by rw [getL_cons, if_pos rfl])]
      have hm' : (m < m') = True := eq_true (by omega)
      have c3 : ((0 : Int) == 0) = true := rfl
      simp only [go_sem, envP, ↓reduceIte, Nat.reduceEqDiff, Nat.reduceAdd, Nat.reduceLT, a0, a6, a7, x1, y1, y2, hmm, e1, e3, extractA, hap, hm', hc2, c3]
      obtain ⟨j, rfl⟩ := lex_out hoo' (by simp)
      refine .inr ⟨by simp, rfl, ?_⟩
      rw [← hR]
      refine ⟨⟨j, ?_⟩, ?_, ?_⟩
      all_goals (simp only [go_sem, ↓reduceIte, Nat.reduceEqDiff]; try rfl)
theorem badI_ge {s : List UInt8} {a : Nat} (h : bad s = some a) : decide (badI s ≥ 0) = true ∧ badI s = (a : Int) := by
  have : badI s = (a : Int) := by rw [badI, h]
  exact ⟨by rw [this]; exact decide_eq_true (by omega), this⟩
theorem badI_no {s : List UInt8} (h : bad s = none) : decide (badI s ≥ 0) = false := by rw [badI, h]; rfl
theorem finLex {fn : Func} (hf : fn.results.toList = [.tmp 2, .tmp 3, .tmp 4]) {R : Except (Nat × Nat) (List Tok)} {x : Ex} {α : Frm} {H : AHeap} (h : LexP R x α H) : ∃ v, outOf (finish Tryz.prog fn.results.toList (x, α, H)) = some v ∧ v.erase = lexV R := by
  obtain ⟨rfl, h⟩ := h
  cases R with
  | error q =>
    obtain ⟨e, a⟩ := q
    obtain ⟨h2, h3, h4⟩ := h
    simp only [go_sem, hf, h2, h3, h4]
    exact ⟨_, rfl, rfl⟩
  | ok l =>
    obtain ⟨⟨j, h2⟩, h3, h4⟩ := h
    simp only [go_sem, hf, h2, h3, h4]
    exact ⟨_, rfl, rfl⟩
theorem lex4 (s : List UInt8) : closedCall Tryz.prog (run envK) 4 [.str s] = some (lexV (lex s)) := by
  refine closed_ex (E := envK) (fn := Tryz.f4) (c := .seq _ (.seq (.seq _ _) (.seq _ (.seq (.seq _ _) (.seq _ (.seq _ LB4)))))) (by kernel_rfl) rfl Tryz.func4 rfl (by rw [Tryz.ntmps4]; simp) (args' := [.str s]) rfl rfl ?_ (lexV_np _)
  refine okR_imp (P := LexP (lex s)) ?_ (fun x α H h => finLex (fn := Tryz.f4) (by simp only [Tryz.results4]) h)
  rw [lex_eq]
  by_cases hn : 16384 < s.length
  · have e1 : decide ((s.length : Int) > 16384) = true := decide_eq_true (by omega)
    rw [if_pos hn]
    simp only [go_sem, envP, ↓reduceIte, Nat.reduceEqDiff, Nat.reduceAdd, Nat.reduceLT, e1]
    refine ⟨rfl, ?_, ?_, ?_⟩
    all_goals (simp only [go_sem, ↓reduceIte, Nat.reduceEqDiff]; try rfl)
  · have e1 : decide ((s.length : Int) > 16384) = false := decide_eq_false (by omega)
    rw [if_neg hn]
    have hn : s.length ≤ 16384 := by omega
    have x1 := bad9 s hn
    cases hb : bad s with
    | some a =>
      obtain ⟨e2, hba⟩ := badI_ge hb
      rw [hba] at x1 e2
      simp only [go_sem, envP, ↓reduceIte, Nat.reduceEqDiff, Nat.reduceAdd, Nat.reduceLT, e1, x1, e2]
      refine ⟨rfl, ?_, ?_, ?_⟩
      all_goals (simp only [go_sem, ↓reduceIte, Nat.reduceEqDiff]; try rfl)
    | none =>
      have e2 := badI_no hb
      simp only [go_sem, envP, ↓reduceIte, Nat.reduceEqDiff, Nat.reduceAdd, Nat.reduceLT, e1, x1, e2]
      have hL : LB4 = .block 0 (.loop B4) := rfl
      rw [hL]
      refine block_end ?_
      rw [xc_loop']
      refine okR_imp (loop_meas (I4 s (lexL s 0 [])) (LexP (lexL s 0 [])) (fun d α H hh => round4 hn d α H hh) s.length _ _ ⟨⟨0, 0, [], .nil, [], rfl, by omega, .inl ⟨rfl, rfl⟩, by simp, rfl, ?_, ?_⟩, ?_⟩) ?_
      case refine_4 =>
        rintro x α' H' h
        exact .inr ⟨h.1, by have := h.1; subst this; exact h⟩
      all_goals (simp only [go_sem, ↓reduceIte, Nat.reduceEqDiff]; try rfl)
end Go.Proofs.YtiagmokcjljliaaGreatDoor

/- ScriptWords: the program's Lex on the machine. -/
namespace Go.Proofs.YtiagmokcjljliaaGreatDoor
set_option linter.unusedVariables false
set_option linter.unusedSimpArgs false
set_option maxRecDepth 100000
open Go Go.Ab

theorem call35 (call : CallO) (args : List AV) (H : AHeap) : callA envK call (.fn (.func 35) [] []) args H = bnd (closedCall Tryz.prog call 35 args) fun v => some (v, H) := callA_closed (E := envK) (by kernel_rfl) args
theorem call36 (call : CallO) (args : List AV) (H : AHeap) : callA envK call (.fn (.func 36) [] []) args H = call 36 args H := callA_open (by kernel_rfl) args
theorem call37 (call : CallO) (args : List AV) (H : AHeap) : callA envK call (.fn (.func 37) [] []) args H = call 37 args H := callA_open (by kernel_rfl) args
theorem places85 : placesQ Tryz.prog 85 = some [(0, 1), (1, 1)] := by kernel_rfl
theorem zero85 : zeroQ Tryz.prog 85 = some [.str [], .int .i64 0] := by kernel_rfl
theorem bd85 (s : List UInt8) : buildA Tryz.prog 85 [(0, .str s)] = some (.agg [.str s, .int .i64 0]) := by
  simp [buildA, zero85, places85, fillA, AV.width, AV.cells, overlay, allOne, AV.one]
attribute [go_sem] call35 call36 call37 bd85
noncomputable def LB21 : Code := match Tryz.f21.body with | some (.seq _ (.seq _ (.seq _ (.seq _ (.seq _ b))))) => b | _ => .skip
noncomputable def B21 : Code := match LB21 with | .block _ (.loop c) => c | _ => .skip
structure I21 (s : List UInt8) (R : Except (Nat × Nat) (List Tok)) (d : Nat) (α : Frm) (H : AHeap) : Prop where
  ex : ∃ (i m : Nat) (L : List (Nat × AObj)) (o : Ab.Own) (out : List Tok), H = ⟨m, L⟩ ∧ i + d = s.length ∧ Sc m L 0 s i ∧ OutOk m L o out ∧ out.length ≤ 4000 ∧ lexL s i out = R ∧ α 7 = .vec o (V out)
  a6 : α 6 = .ptr 0 0
theorem tokens_eq {k a k' a' : Int} {l t l' t' : List UInt8} (h : AV.agg [.int .i64 k, .int .i64 a, .str l, .str t] = .agg [.int .i64 k', .int .i64 a', .str l', .str t']) : k = k' ∧ a = a' ∧ l = l' ∧ t = t' := by
  simp only [AV.agg.injEq, List.cons.injEq, AV.int.injEq, AV.str.injEq, true_and, and_true] at h
  exact h
theorem round21 {s : List UInt8} {R : Except (Nat × Nat) (List Tok)} (hn : s.length ≤ 16384) (d : Nat) (α : Frm) (H : AHeap) (h : I21 s R d α H) :
    okR (execC envK (run envK) loopO B21 α H) fun x α' H' => (x = .normal ∧ ∃ d', d' < d ∧ I21 s R d' α' H') ∨ (x ≠ .normal ∧ LexP R x α' H') := by
  obtain ⟨⟨i, m, L, o, out, rfl, hd, hS, hoo, hol, hR, a7⟩, a6⟩ := h
  have hB : B21 = .block _ (.seq _ (.seq _ (.seq _ (.seq (.seq _ _) (.seq (.seq _ _) (.seq _ (.seq _ (.seq _ _)))))))) := rfl
  rw [hB]
  clear hB
  have hi : i ≤ s.length := by omega
  have hge := leadTo_ge s hi
  have hle := leadTo_le s i
  have x1 := lead_c hS hi hn
  rw [lexL_eq s i out hi] at hR
  have hS1 := hS.set (leadTo s i)
  have h0m : (0 < m) = True := eq_true hS.1
  have hc1 := hS1.cells
  obtain ⟨r, x2, tk, ta, tl, tt, e, c, j, rfl, hV⟩ := next_c hS1 hle hn
  rw [setL_setL] at x2
  rw [NextV] at hV
  have hm1 : (m + 1 < m + 1 + 1) = True := eq_true (by omega)
  cases ho : one (s.drop (leadTo s i)) with
  | error e' =>
    rw [ho] at hV hR
    obtain ⟨rfl, he0⟩ := hV
    have c1 : ((e' : Int) != 0) = true := by simpa using he0
    simp only [go_sem, envP, ↓reduceIte, Nat.reduceEqDiff, Nat.reduceAdd, Nat.reduceLT, a6, a7, x1, h0m, hc1, x2, extractA, c1]
    refine .inr ⟨by simp, rfl, ?_⟩
    rw [← hR]
    refine ⟨?_, ?_, ?_⟩
    all_goals (simp only [go_sem, ↓reduceIte, Nat.reduceEqDiff]; try rfl)
  | ok q =>
    obtain ⟨kd, n⟩ := q
    rw [ho] at hV hR
    obtain ⟨rfl, rfl, hT⟩ := hV
    obtain ⟨rfl, rfl, rfl, rfl⟩ := tokens_eq hT
    clear hT
    have z0 : ((0 : Int) != 0) = false := rfl
    have hlen := one_len ho
    have hnl := hlen.1
    rw [List.length_drop] at hnl
    by_cases h4 : 4000 ≤ out.length
    · have e3 : decide ((out.length : Int) ≥ 4000) = true := decide_eq_true (by omega)
      simp only [if_pos h4] at hR
      simp only [go_sem, envP, ↓reduceIte, Nat.reduceEqDiff, Nat.reduceAdd, Nat.reduceLT, a6, a7, x1, h0m, hc1, x2, extractA, z0, e3]
      refine .inr ⟨by simp, rfl, ?_⟩
      rw [← hR]
      refine ⟨?_, ?_, ?_⟩
      all_goals (simp only [go_sem, ↓reduceIte, Nat.reduceEqDiff]; try rfl)
    · have e3 : decide ((out.length : Int) ≥ 4000) = false := decide_eq_false (by omega)
      simp only [if_neg h4] at hR
      have hj0 : ∀ j0, j0 < m → getL L j0 = some (.tip out.length 31) → getL (setL L 0 (sc s (leadTo s i + n))) j0 = some (.tip out.length 31) := by
        intro j0 hj hg
        rw [getL_setL]
        by_cases hz : 0 = j0
        · subst hz
          rw [hS.2] at hg
          cases hg
        · rw [if_neg hz]; exact hg
      obtain ⟨o', m', L', hap, hoo', hmm', hkeep⟩ := append_c (m := m + 1 + 1) (L := (m + 1, .cells (some 31) [.int .i64 (kd : Int), .int .i64 (leadTo s i : Int), .str ((s.take (leadTo s i)).drop i), .str ((s.take (leadTo s i + n)).drop (leadTo s i))]) :: (m, c) :: setL L 0 (sc s (leadTo s i + n))) (o := o) (out := out) (by
        rcases hoo with h | ⟨h1, j, h2, h3, h4⟩
        · exact .inl h
        · exact .inr ⟨h1, j, h2, by omega, by rw [getL_cons, if_neg (by omega), getL_cons, if_neg (by omega)]; exact hj0 j h3 h4⟩) (by omega) (tokAt s i kd n)
      have htk : tokA (tokAt s i kd n) = .agg [.int .i64 (kd : Int), .int .i64 (leadTo s i : Int), .str ((s.take (leadTo s i)).drop i), .str ((s.take (leadTo s i + n)).drop (leadTo s i))] := rfl
      rw [htk] at hap
      have hc2 : cellsQ L' (m + 1) = some [.int .i64 (kd : Int), .int .i64 (leadTo s i : Int), .str ((s.take (leadTo s i)).drop i), .str ((s.take (leadTo s i + n)).drop (leadTo s i))] := by
        rw [cellsQ, hkeep (m + 1) _ _ (by omega) (by rw [getL_cons, if_pos rfl])]
      have hS' : Sc m' L' 0 s (leadTo s i + n) := ⟨by have := hS.1; omega, hkeep 0 _ _ (by omega) (by rw [getL_cons, if_neg (by omega), getL_cons, if_neg (by have := hS.1; omega)]; exact (hS.set (leadTo s i + n)).2)⟩
      have hm' : (m + 1 < m') = True := eq_true (by omega)
      have ao22 : ∀ x y H, appendOp envK.mutT Tryz.prog [22, 22] [x, y] H = appendA (fun _ => false) Tryz.prog 22 22 x y H := fun _ _ _ => rfl
      by_cases hk : kd = 0
      · have c3 : ((kd : Int) == 0) = true := by rw [hk]; rfl
        simp only [if_pos hk] at hR
        simp only [go_sem, envP, ↓reduceIte, Nat.reduceEqDiff, Nat.reduceAdd, Nat.reduceLT, a6, a7, x1, h0m, hc1, x2, extractA, z0, e3, hm1, hap, hm', hc2, c3]
        obtain ⟨j, rfl⟩ := lex_out hoo' (by simp)
        refine .inr ⟨by simp, rfl, ?_⟩
        rw [← hR]
        refine ⟨⟨j, ?_⟩, ?_, ?_⟩
        all_goals (simp only [go_sem, ↓reduceIte, Nat.reduceEqDiff]; try rfl)
      · have c3 : ((kd : Int) == 0) = false := by
          have := beqN kd 0
          rw [decide_eq_false hk] at this
          exact this
        simp only [if_neg hk] at hR
        have hne : s.drop (leadTo s i) ≠ [] := fun hh => hk (hlen.2.1.2 hh)
        have hn1 := hlen.2.2.1 hne
        simp only [go_sem, envP, ↓reduceIte, Nat.reduceEqDiff, Nat.reduceAdd, Nat.reduceLT, a6, a7, x1, h0m, hc1, x2, extractA, z0, e3, hm1, hap, hm', hc2, c3]
        refine .inl ⟨trivial, s.length - (leadTo s i + n), by omega, ⟨leadTo s i + n, m', L', o', out ++ [tokAt s i kd n], rfl, by omega, hS', hoo', by simp; omega, hR, ?_⟩, ?_⟩
        all_goals simp only [go_sem, ↓reduceIte, Nat.reduceEqDiff, a6]
theorem lex21 (s : List UInt8) : closedCall Tryz.prog (run envK) 21 [.str s] = some (lexV (lex s)) := by
  refine closed_ex (E := envK) (fn := Tryz.f21) (c := .seq _ (.seq (.seq _ _) (.seq (.seq _ (.seq _ _)) (.seq _ (.seq _ LB21))))) (by kernel_rfl) rfl Tryz.func21 rfl (by rw [Tryz.ntmps21]; simp) (args' := [.str s]) rfl rfl ?_ (lexV_np _)
  refine okR_imp (P := LexP (lex s)) ?_ (fun x α H h => finLex (fn := Tryz.f21) (by simp only [Tryz.results21]) h)
  rw [lex_eq]
  by_cases hn : 16384 < s.length
  · have e1 : decide ((s.length : Int) > 16384) = true := decide_eq_true (by omega)
    rw [if_pos hn]
    simp only [go_sem, envP, ↓reduceIte, Nat.reduceEqDiff, Nat.reduceAdd, Nat.reduceLT, e1]
    refine ⟨rfl, ?_, ?_, ?_⟩
    all_goals (simp only [go_sem, ↓reduceIte, Nat.reduceEqDiff]; try rfl)
  · have e1 : decide ((s.length : Int) > 16384) = false := decide_eq_false (by omega)
    rw [if_neg hn]
    have hn : s.length ≤ 16384 := by omega
    have x1 := bad35 s hn
    cases hb : bad s with
    | some a =>
      obtain ⟨e2, hba⟩ := badI_ge hb
      rw [hba] at x1 e2
      simp only [go_sem, envP, ↓reduceIte, Nat.reduceEqDiff, Nat.reduceAdd, Nat.reduceLT, e1, x1, e2]
      refine ⟨rfl, ?_, ?_, ?_⟩
      all_goals (simp only [go_sem, ↓reduceIte, Nat.reduceEqDiff]; try rfl)
    | none =>
      have e2 := badI_no hb
      simp only [go_sem, envP, ↓reduceIte, Nat.reduceEqDiff, Nat.reduceAdd, Nat.reduceLT, e1, x1, e2]
      have hL : LB21 = .block 0 (.loop B21) := rfl
      rw [hL]
      refine block_end ?_
      rw [xc_loop']
      refine okR_imp (loop_meas (I21 s (lexL s 0 [])) (LexP (lexL s 0 [])) (fun d α H hh => round21 hn d α H hh) s.length _ _ ⟨⟨0, 1, _, .nil, [], rfl, by omega, ⟨by omega, rfl⟩, .inl ⟨rfl, rfl⟩, by simp, rfl, ?_⟩, ?_⟩) ?_
      case refine_3 =>
        rintro x α' H' h
        exact .inr ⟨h.1, by have := h.1; subst this; exact h⟩
      all_goals (simp only [go_sem, ↓reduceIte, Nat.reduceEqDiff]; try rfl)
end Go.Proofs.YtiagmokcjljliaaGreatDoor
