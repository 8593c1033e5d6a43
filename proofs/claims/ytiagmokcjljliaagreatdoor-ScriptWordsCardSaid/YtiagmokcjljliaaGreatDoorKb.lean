/- ScriptWords: the lexers on the machine, 2: quoted texts, what stands ahead of a token, runes. -/
import Derived.Test.YtiagmokcjljliaaGreatDoorKa
/- ScriptWords: runes.Unquote on the machine. -/
namespace Go.Proofs.YtiagmokcjljliaaGreatDoor
set_option linter.unusedVariables false
set_option linter.unusedSimpArgs false
set_option maxRecDepth 100000
open Go Go.Ab

theorem ltI (b : UInt8) (n : Nat) : decide ((b.toNat : Int) < ((n : Nat) : Int)) = decide (b.toNat < n) := by
  rw [Bool.eq_iff_iff, decide_eq_true_eq, decide_eq_true_eq]
  omega
theorem beqN (a b : Nat) : (((a : Nat) : Int) == ((b : Nat) : Int)) = decide (a = b) := by
  rw [Bool.eq_iff_iff, beq_iff_eq, decide_eq_true_eq]
  omega
def escI (d : UInt8) : Int := if d.toNat = 110 then 0 else if d.toNat = 116 then 1 else if d.toNat = 34 then 2 else if d.toNat = 92 then 3 else -1
noncomputable def tabI : Bool := (List.range 256).all fun n => match closedCall Tryz.prog (execF envK 30) 106 [.str [110, 116, 34, 92], .int .u8 (n : Nat)] with
  | some (.int .i64 x) => decide (x = escI (UInt8.ofNat n))
  | _ => false
theorem index106 (b : UInt8) : closedCall Tryz.prog (run envK) 106 [.str [110, 116, 34, 92], .int .u8 (b.toNat : Int)] = some (.int .i64 (escI b)) := by
  have h : tabI = true := by kernel_rfl
  have h1 := List.all_eq_true.1 h b.toNat (List.mem_range.2 b.toNat_lt)
  revert h1
  cases hc : closedCall Tryz.prog (execF envK 30) 106 [.str [110, 116, 34, 92], .int .u8 (b.toNat : Int)] with
  | none => intro h1; cases h1
  | some v =>
    cases v <;> intro h1 <;> try (cases h1; done)
    rename_i k x
    cases k <;> try (cases h1; done)
    simp only [UInt8.ofNat_toNat, decide_eq_true_eq] at h1
    rw [← h1]
    exact run_of 30 hc
theorem esc_none {d : UInt8} (h : esc d = none) : escI d = -1 := by
  unfold esc at h
  unfold escI
  repeat' split at h
  all_goals first | (cases h; done) | (simp_all)
theorem esc_some {d e : UInt8} (h : esc d = some e) : decide (escI d < 0) = false ∧ indexA Tryz.prog 9 (.str [10, 9, 34, 92]) (.int .i64 (escI d)) = some (.int .u8 (e.toNat : Int)) := by
  unfold esc at h
  unfold escI
  split at h
  · simp only [Option.some.injEq] at h; subst h
    rename_i h1
    rw [if_pos h1]
    exact ⟨rfl, ix9 (i := 0) rfl⟩
  · rename_i h1
    split at h
    · simp only [Option.some.injEq] at h; subst h
      rename_i h2
      rw [if_neg h1, if_pos h2]
      exact ⟨rfl, ix9 (i := 1) rfl⟩
    · rename_i h2
      split at h
      · simp only [Option.some.injEq] at h; subst h
        rename_i h3
        rw [if_neg h1, if_neg h2, if_pos h3]
        exact ⟨rfl, ix9 (i := 2) rfl⟩
      · rename_i h3
        split at h
        · simp only [Option.some.injEq] at h; subst h
          rename_i h4
          rw [if_neg h1, if_neg h2, if_neg h3, if_pos h4]
          exact ⟨rfl, ix9 (i := 3) rfl⟩
        · cases h
theorem call106 (call : CallO) (args : List AV) (H : AHeap) : callA envK call (.fn (.func 106) [] []) args H = bnd (closedCall Tryz.prog call 106 args) fun v => some (v, H) := callA_closed (E := envK) (by kernel_rfl) args
theorem al199 (m : Nat) (L : List (Nat × AObj)) : allocA Tryz.prog 199 ⟨m, L⟩ = some (.ptr m 0, ⟨m + 1, (m, bd (.val (.pointer none)) .nil []) :: L⟩) := by simp [allocA, zero199, AHeap.push, bd, bytesV]
attribute [go_sem] call106 al199

/-! What is left ahead of the last sign -/
def rest (s : List UInt8) (i : Nat) : List UInt8 := (s.take (s.length - 1)).drop i
theorem rest_cons {s : List UInt8} {i : Nat} {c : UInt8} (hi : i < s.length - 1) (h : s[i]? = some c) : rest s i = c :: rest s (i + 1) := by
  unfold rest
  exact drop_get (by rw [List.getElem?_take_of_lt hi]; exact h)
theorem rest_nil {s : List UInt8} {i : Nat} (hi : s.length - 1 ≤ i) : rest s i = [] := by
  unfold rest
  exact List.drop_of_length_le (by rw [List.length_take]; omega)
noncomputable def B82 : Code := match Tryz.f82.body with | some (.seq _ (.seq _ (.seq _ (.seq (.seq _ (.block _ (.loop c))) _)))) => c | _ => .skip
noncomputable def LB82 : Code := .block 0 (.loop B82)
noncomputable def K82 : Code := match Tryz.f82.body with | some (.seq _ (.seq _ (.seq _ (.seq _ k)))) => k | _ => .skip
structure I82 (s : List UInt8) (d : Nat) (α : Frm) (H : AHeap) : Prop where
  ex : ∃ (i m : Nat) (L : List (Nat × AObj)) (out : List UInt8), i + d = s.length - 1 ∧ out.length ≤ i ∧ pre out (unqT (rest s i)) = unqT (rest s 1) ∧ H = ⟨m, L⟩ ∧ Bd m L 0 out ∧ α 5 = .int .i64 (i : Int)
  a0 : α 0 = .str s
  a4 : α 4 = .ptr 0 0
def P82 (s : List UInt8) (e : Ex) (α : Frm) (H : AHeap) : Prop :=
  (e = .exit 0 ∧ α 4 = .ptr 0 0 ∧ ∃ (m : Nat) (L : List (Nat × AObj)) (out : List UInt8), H = ⟨m, L⟩ ∧ Bd m L 0 out ∧ unqT (rest s 1) = some out) ∨ (e = .ret ∧ unqT (rest s 1) = none ∧ α 2 = .str [] ∧ α 3 = .int .i64 22)
theorem round82 {s : List UInt8} (hn : s.length ≤ 16384) (d : Nat) (α : Frm) (H : AHeap) (h : I82 s d α H) :
    okR (execC envK (run envK) loopO B82 α H) fun x α' H' => (x = .normal ∧ ∃ d', d' < d ∧ I82 s d' α' H') ∨ (x ≠ .normal ∧ P82 s x α' H') := by
  obtain ⟨⟨i, m, L, out, hd, ho, hu, rfl, hbd, a5⟩, a0, a4⟩ := h
  have hB : B82 = .seq (.seq _ _) (.seq (.block _ (.block _ (.seq _ _))) _) := rfl
  rw [hB]
  clear hB
  have w0 : s.length ≠ 0 → IntKind.i64.wrap ((s.length : Int) - 1) = ((s.length - 1 : Nat) : Int) := fun h => by rw [IntWalk.i64_in _ (by omega)]; omega
  by_cases hi : i < s.length - 1
  · have w0 := w0 (by omega)
    have e1 : decide ((i : Int) < ((s.length - 1 : Nat) : Int)) = true := decide_eq_true (by omega)
    obtain ⟨c, hc⟩ := get_some (s := s) (i := i) (by omega)
    have x1 := ix9 hc
    have hr := rest_cons hi hc
    have c1 : ((c.toNat : Int) == 92) = decide (c.toNat = 92) := beqI c 92
    have w1 : IntKind.i64.wrap ((i : Int) + 1) = ((i + 1 : Nat) : Int) := by rw [IntWalk.i64_in _ (by omega)]; omega
    rw [hr] at hu
    cases hq : decide (c.toNat = 92) with
    | true =>
      rw [hq] at c1
      have hc92 : c.toNat = 92 := by simpa using hq
      obtain ⟨x, hx⟩ := get_some (s := s) (i := i + 1) (by omega)
      have x2 := ix9 hx
      have x3 := index106 x
      have w2 : IntKind.i64.wrap (((i + 1 : Nat) : Int) + 1) = ((i + 2 : Nat) : Int) := by rw [IntWalk.i64_in _ (by omega)]; omega
      have bad : (esc x = none ∨ i + 1 = s.length - 1) → unqT (rest s 1) = none := by
        intro hb
        rw [← hu]
        by_cases hl : i + 1 < s.length - 1
        · rw [rest_cons hl hx, unqT_bad hc92 (by rcases hb with hb | hb; exact hb; omega)]
          rfl
        · rw [rest_nil (by omega), unqT_end hc92]
          rfl
      cases he : esc x with
      | none =>
        have e2 : decide (escI x < 0) = true := by rw [esc_none he]; rfl
        simp only [go_sem, envP, ↓reduceIte, Nat.reduceEqDiff, Nat.reduceAdd, Nat.reduceLT, a0, a4, a5, e1, x1, x2, x3, c1, w0, w1, e2]
        refine .inr ⟨by simp, .inr ⟨rfl, bad (.inl he), ?_, ?_⟩⟩
        all_goals simp only [go_sem, ↓reduceIte, Nat.reduceEqDiff]
      | some e =>
        obtain ⟨e2, x4⟩ := esc_some he
        have c3 : (((i + 1 : Nat) : Int) == ((s.length - 1 : Nat) : Int)) = decide (i + 1 = s.length - 1) := beqN _ _
        cases hl : decide (i + 1 = s.length - 1) with
        | true =>
          rw [hl] at c3
          simp only [go_sem, envP, ↓reduceIte, Nat.reduceEqDiff, Nat.reduceAdd, Nat.reduceLT, a0, a4, a5, e1, x1, x2, x3, c1, w0, w1, e2, c3]
          refine .inr ⟨by simp, .inr ⟨rfl, bad (.inr (by simpa using hl)), ?_, ?_⟩⟩
          all_goals simp only [go_sem, ↓reduceIte, Nat.reduceEqDiff]
        | false =>
          rw [hl] at c3
          have hl : i + 1 ≠ s.length - 1 := by simpa using hl
          obtain ⟨m', L', hw, hbd'⟩ := write_c hbd e (by omega)
          simp only [go_sem, envP, ↓reduceIte, Nat.reduceEqDiff, Nat.reduceAdd, Nat.reduceLT, a0, a4, a5, e1, x1, x2, x3, x4, c1, w0, w1, w2, e2, c3, hw]
          refine .inl ⟨trivial, d - 2, by omega, ⟨i + 2, m', L', out ++ [e], by omega, by simp; omega, ?_, rfl, hbd', ?_⟩, ?_, ?_⟩
          · rw [← hu, rest_cons (i := i + 1) (by omega) hx, unqT_esc hc92 he]
          all_goals simp only [go_sem, ↓reduceIte, Nat.reduceEqDiff, a0, a4, a5]
    | false =>
      rw [hq] at c1
      have hc92 : c.toNat ≠ 92 := by simpa using hq
      have c2 : decide ((c.toNat : Int) < 32) = decide (c.toNat < 32) := ltI c 32
      have c3 : ((c.toNat : Int) == 34) = decide (c.toNat = 34) := beqI c 34
      by_cases hbad : c.toNat < 32 ∨ c.toNat = 34
      · have hnone : unqT (rest s 1) = none := by rw [← hu, unqT_ctl hc92 hbad]; rfl
        by_cases h32 : c.toNat < 32
        · rw [decide_eq_true h32] at c2
          simp only [go_sem, envP, ↓reduceIte, Nat.reduceEqDiff, Nat.reduceAdd, Nat.reduceLT, a0, a4, a5, e1, x1, c1, c2, w0]
          refine .inr ⟨by simp, .inr ⟨rfl, hnone, ?_, ?_⟩⟩
          all_goals simp only [go_sem, ↓reduceIte, Nat.reduceEqDiff]
        · rw [decide_eq_false h32] at c2
          rw [decide_eq_true (show c.toNat = 34 by omega)] at c3
          simp only [go_sem, envP, ↓reduceIte, Nat.reduceEqDiff, Nat.reduceAdd, Nat.reduceLT, a0, a4, a5, e1, x1, c1, c2, c3, w0]
          refine .inr ⟨by simp, .inr ⟨rfl, hnone, ?_, ?_⟩⟩
          all_goals simp only [go_sem, ↓reduceIte, Nat.reduceEqDiff]
      · rw [decide_eq_false (show ¬c.toNat < 32 by omega)] at c2
        rw [decide_eq_false (show ¬c.toNat = 34 by omega)] at c3
        obtain ⟨m', L', hw, hbd'⟩ := write_c hbd c (by omega)
        simp only [go_sem, envP, ↓reduceIte, Nat.reduceEqDiff, Nat.reduceAdd, Nat.reduceLT, a0, a4, a5, e1, x1, c1, c2, c3, w0, w1, hw]
        refine .inl ⟨trivial, d - 1, by omega, ⟨i + 1, m', L', out ++ [c], by omega, by simp; omega, ?_, rfl, hbd', ?_⟩, ?_, ?_⟩
        · rw [← hu, unqT_sign hc92 hbad]
        all_goals simp only [go_sem, ↓reduceIte, Nat.reduceEqDiff, a0, a4, a5]
  · have hx : ∃ z, IntKind.i64.wrap ((s.length : Int) - 1) = z ∧ decide ((i : Int) < z) = false := by
      by_cases hz : s.length = 0
      · exact ⟨_, rfl, by rw [hz, IntWalk.i64_in _ (by omega)]; exact decide_eq_false (by omega)⟩
      · exact ⟨_, w0 hz, decide_eq_false (by omega)⟩
    obtain ⟨z, hz, e1⟩ := hx
    simp only [go_sem, envP, ↓reduceIte, Nat.reduceEqDiff, Nat.reduceAdd, Nat.reduceLT, a0, a4, a5, e1, hz]
    refine .inr ⟨by simp, .inl ⟨rfl, ?_, m, L, out, rfl, hbd, ?_⟩⟩
    · simp only [go_sem, ↓reduceIte, Nat.reduceEqDiff, a4]
    · rw [← hu, rest_nil (by omega), unqT_nil, pre_some, List.append_nil]
theorem unquote_eq {s : List UInt8} (h : ¬(s.length < 2 ∨ s.head? ≠ some 34 ∨ s[s.length - 1]? ≠ some 34)) : unquote s = unqT (rest s 1) := by rw [unquote, if_neg h]; rfl
theorem unquote_no {s : List UInt8} (h : s.length < 2 ∨ s.head? ≠ some 34 ∨ s[s.length - 1]? ≠ some 34) : unquote s = none := by rw [unquote, if_pos h]
def unqV (s : List UInt8) : AV := .tup [.str ((unquote s).getD []), .int .i64 (if (unquote s).isSome = true then 0 else 22)]
/-- The three tests ahead: what each sees. -/
theorem ends_of (s : List UInt8) (hn : s.length ≤ 16384) : (s.length < 2 ∧ decide ((s.length : Int) < 2) = true) ∨ (∃ a z : UInt8, 2 ≤ s.length ∧ decide ((s.length : Int) < 2) = false ∧ s[0]? = some a ∧ s[s.length - 1]? = some z ∧ IntKind.i64.wrap ((s.length : Int) - 1) = ((s.length - 1 : Nat) : Int) ∧
    ((s.head? ≠ some 34 ∨ s[s.length - 1]? ≠ some 34) ↔ (a.toNat ≠ 34 ∨ z.toNat ≠ 34))) := by
  by_cases h : s.length < 2
  · exact .inl ⟨h, decide_eq_true (by omega)⟩
  · obtain ⟨a, ha⟩ := get_some (s := s) (i := 0) (by omega)
    obtain ⟨z, hz⟩ := get_some (s := s) (i := s.length - 1) (by omega)
    have e : ∀ x : UInt8, (some x ≠ some 34) ↔ x.toNat ≠ 34 := fun x => by
      rw [ne_eq, Option.some.injEq]
      exact ⟨fun h h' => h (UInt8.toNat_inj.1 h'), fun h h' => h (by rw [h']; rfl)⟩
    refine .inr ⟨a, z, by omega, decide_eq_false (by omega), ha, hz, by rw [IntWalk.i64_in _ (by omega)]; omega, ?_⟩
    rw [hz, List.head?_eq_getElem?, ha, e, e]
theorem unquote82 (s : List UInt8) (hn : s.length ≤ 16384) : closedCall Tryz.prog (run envK) 82 [.str s] = some (unqV s) := by
  refine closed_ex (E := envK) (fn := Tryz.f82) (c := .seq _ (.seq (.seq _ _) (.seq _ (.seq (.seq _ LB82) K82)))) (by kernel_rfl) rfl Tryz.func82 rfl (by rw [Tryz.ntmps82]; simp) (args' := [.str s]) rfl rfl ?_ rfl
  have short : s.length < 2 ∨ s.head? ≠ some 34 ∨ s[s.length - 1]? ≠ some 34 → unqV s = .tup [.str [], .int .i64 22] := fun h => by rw [unqV, unquote_no h]; rfl
  rcases ends_of s hn with ⟨h1, e1⟩ | ⟨a, z, h1, e1, ha, hz, w1, hq⟩
  · rw [short (.inl h1)]
    simp only [go_sem, envP, ↓reduceIte, Nat.reduceEqDiff, Nat.reduceAdd, Nat.reduceLT, e1, Tryz.results82]
    exact ⟨_, rfl, rfl⟩
  · have x1 : indexA Tryz.prog 9 (.str s) (.int .i64 0) = some (.int .u8 (a.toNat : Int)) := ix9 ha
    have x2 := ix9 hz
    have c1 : ((a.toNat : Int) != 34) = !decide (a.toNat = 34) := bneI a 34
    have c2 : ((z.toNat : Int) != 34) = !decide (z.toNat = 34) := bneI z 34
    by_cases ka : a.toNat = 34
    · rw [decide_eq_true ka] at c1
      by_cases kz : z.toNat = 34
      · rw [decide_eq_true kz] at c2
        have hok : ¬(s.length < 2 ∨ s.head? ≠ some 34 ∨ s[s.length - 1]? ≠ some 34) := by
          rw [hq]
          omega
        simp only [go_sem, envP, ↓reduceIte, Nat.reduceEqDiff, Nat.reduceAdd, Nat.reduceLT, e1, x1, x2, c1, c2, w1, Bool.not_true, Bool.not_false]
        refine block_ret (id := 0) ?_
        rw [xc_loop']
        refine okR_imp (loop_meas (I82 s) (P82 s) (fun d α H hh => round82 hn d α H hh) (s.length - 2) _ _ ⟨⟨1, 1, _, [], by omega, by simp, pre_nil _, rfl, ⟨by omega, .inl ⟨rfl, rfl⟩⟩, ?_⟩, ?_, ?_⟩) ?_
        case refine_4 =>
          rintro e α' H' (⟨rfl, a4, m, L, out, rfl, hbd, hu⟩ | ⟨rfl, hu, a2, a3⟩)
          · refine .inl ⟨.inr rfl, ?_⟩
            have hK : K82 = .seq _ _ := rfl
            rw [hK]
            obtain ⟨H', hs⟩ := string_c hbd
            have hv : unqV s = .tup [.str out, .int .i64 0] := by rw [unqV, unquote_eq hok, hu]; rfl
            rw [hv]
            simp only [go_sem, envP, ↓reduceIte, Nat.reduceEqDiff, Nat.reduceAdd, Nat.reduceLT, a4, hs, Tryz.results82]
            exact ⟨_, rfl, rfl⟩
          · refine .inr ⟨rfl, ?_⟩
            have hv : unqV s = .tup [.str [], .int .i64 22] := by rw [unqV, unquote_eq hok, hu]; rfl
            rw [hv]
            simp only [go_sem, envP, ↓reduceIte, Nat.reduceEqDiff, Nat.reduceAdd, Nat.reduceLT, a2, a3, Tryz.results82]
            exact ⟨_, rfl, rfl⟩
        all_goals (simp only [go_sem, ↓reduceIte, Nat.reduceEqDiff]; try rfl)
      · rw [decide_eq_false kz] at c2
        rw [short (.inr (hq.2 (.inr kz)))]
        simp only [go_sem, envP, ↓reduceIte, Nat.reduceEqDiff, Nat.reduceAdd, Nat.reduceLT, e1, x1, x2, c1, c2, w1, Bool.not_true, Bool.not_false, Tryz.results82]
        exact ⟨_, rfl, rfl⟩
    · rw [decide_eq_false ka] at c1
      rw [short (.inr (hq.2 (.inl ka)))]
      simp only [go_sem, envP, ↓reduceIte, Nat.reduceEqDiff, Nat.reduceAdd, Nat.reduceLT, e1, x1, x2, c1, c2, w1, Bool.not_true, Bool.not_false, Tryz.results82]
      exact ⟨_, rfl, rfl⟩
end Go.Proofs.YtiagmokcjljliaaGreatDoor

/- ScriptWords: the reference's Unquote on the machine. -/
namespace Go.Proofs.YtiagmokcjljliaaGreatDoor
set_option linter.unusedVariables false
set_option linter.unusedSimpArgs false
set_option maxRecDepth 100000
open Go Go.Ab

theorem str_add1 {a : List UInt8} (h : a.length ≤ 16384) (x : UInt8) : strBin .add a [x] = some (.str (a ++ [x])) := by
  have : a.length + 1 ≤ 9223372036854775807 := by omega
  simp [strBin, this]
noncomputable def B19 : Code := match Tryz.f19.body with | some (.seq _ (.seq _ (.seq _ (.seq _ (.seq _ (.seq (.block _ (.loop c)) _)))))) => c | _ => .skip
noncomputable def LB19 : Code := .block 0 (.loop B19)
noncomputable def K19 : Code := match Tryz.f19.body with | some (.seq _ (.seq _ (.seq _ (.seq _ (.seq _ (.seq _ k)))))) => k | _ => .skip
structure I19 (u : Option (List UInt8)) (d : Nat) (α : Frm) (H : AHeap) : Prop where
  ex : ∃ (r out : List UInt8), r.length = d ∧ out.length + d ≤ 16384 ∧ pre out (unqT r) = u ∧ α 6 = .str r ∧ α 5 = .str out
def P19 (u : Option (List UInt8)) (e : Ex) (α : Frm) (H : AHeap) : Prop :=
  (e = .exit 0 ∧ ∃ out, u = some out ∧ α 5 = .str out) ∨ (e = .ret ∧ u = none ∧ α 2 = .str [] ∧ α 3 = .int .i64 22)
theorem round19 {u : Option (List UInt8)} (d : Nat) (hn : d ≤ 16384) (α : Frm) (H : AHeap) (h : I19 u d α H) :
    okR (execC envK (run envK) loopO B19 α H) fun x α' H' => (x = .normal ∧ ∃ d', d' < d ∧ I19 u d' α' H') ∨ (x ≠ .normal ∧ P19 u x α' H') := by
  obtain ⟨r, out, hd, hol, hu, a6, a5⟩ := h
  have ad := fun x => str_add1 (a := out) (by omega) x
  have hB : B19 = .seq (.seq _ _) (.block _ (.seq _ (.seq (.seq _ _) (.seq (.seq _ _) (.seq (.seq _ _) (.seq (.seq _ (.block _ (.seq _ _))) _)))))) := rfl
  rw [hB]
  clear hB
  cases r with
  | nil =>
    have e1 : decide ((([] : List UInt8).length : Int) > 0) = false := rfl
    simp only [go_sem, envP, ↓reduceIte, Nat.reduceEqDiff, Nat.reduceAdd, Nat.reduceLT, a5, a6, e1]
    refine .inr ⟨by simp, .inl ⟨rfl, out, ?_, ?_⟩⟩
    · rw [← hu, unqT_nil, pre_some, List.append_nil]
    · simp only [go_sem, ↓reduceIte, Nat.reduceEqDiff, a5]
  | cons c t =>
    simp only [List.length_cons] at hd
    have e1 : decide (((c :: t).length : Int) > 0) = true := decide_eq_true (by simp only [List.length_cons]; omega)
    have x1 : indexA Tryz.prog 9 (.str (c :: t)) (.int .i64 0) = some (.int .u8 (c.toNat : Int)) := ix9 (i := 0) rfl
    have c1 : decide ((c.toNat : Int) < 32) = decide (c.toNat < 32) := ltI c 32
    have c2 : ((c.toNat : Int) == 34) = decide (c.toNat = 34) := beqI c 34
    have c3 : ((c.toNat : Int) != 92) = !decide (c.toNat = 92) := bneI c 92
    by_cases hc : c.toNat < 32 ∨ c.toNat = 34
    · have hnone : u = none := by rw [← hu, unqT_ctl (by omega) hc]; rfl
      by_cases h32 : c.toNat < 32
      · rw [decide_eq_true h32] at c1
        simp only [go_sem, envP, ↓reduceIte, Nat.reduceEqDiff, Nat.reduceAdd, Nat.reduceLT, a5, a6, e1, x1, c1]
        refine .inr ⟨by simp, .inr ⟨rfl, hnone, ?_, ?_⟩⟩
        all_goals simp only [go_sem, ↓reduceIte, Nat.reduceEqDiff]
      · rw [decide_eq_false h32] at c1
        rw [decide_eq_true (show c.toNat = 34 by omega)] at c2
        simp only [go_sem, envP, ↓reduceIte, Nat.reduceEqDiff, Nat.reduceAdd, Nat.reduceLT, a5, a6, e1, x1, c1, c2]
        refine .inr ⟨by simp, .inr ⟨rfl, hnone, ?_, ?_⟩⟩
        all_goals simp only [go_sem, ↓reduceIte, Nat.reduceEqDiff]
    · rw [decide_eq_false (show ¬c.toNat < 32 by omega)] at c1
      rw [decide_eq_false (show ¬c.toNat = 34 by omega)] at c2
      by_cases h92 : c.toNat = 92
      · rw [decide_eq_true h92] at c3
        cases t with
        | nil =>
          have e2 : decide ((([c] : List UInt8).length : Int) < 2) = true := rfl
          have hnone : u = none := by rw [← hu, unqT_end h92]; rfl
          simp only [go_sem, envP, ↓reduceIte, Nat.reduceEqDiff, Nat.reduceAdd, Nat.reduceLT, a5, a6, e1, x1, c1, c2, c3, e2, Bool.not_true, Bool.not_false]
          refine .inr ⟨by simp, .inr ⟨rfl, hnone, ?_, ?_⟩⟩
          all_goals simp only [go_sem, ↓reduceIte, Nat.reduceEqDiff]
        | cons x t =>
          simp only [List.length_cons] at hd
          have e2 : decide (((c :: x :: t).length : Int) < 2) = false := decide_eq_false (by simp only [List.length_cons]; omega)
          have x2 : indexA Tryz.prog 9 (.str (c :: x :: t)) (.int .i64 1) = some (.int .u8 (x.toNat : Int)) := ix9 (i := 1) rfl
          have y2 : sliceA Tryz.prog 9 (some (.int .i64 2)) none (.str (c :: x :: t)) = some (.str t) := sl9a (c :: x :: t) (a := 2) (by simp)
          have k1 : ((x.toNat : Int) == 110) = decide (x.toNat = 110) := beqI x 110
          have k2 : ((x.toNat : Int) == 116) = decide (x.toNat = 116) := beqI x 116
          have k3 : ((x.toNat : Int) == 34) = decide (x.toNat = 34) := beqI x 34
          have k4 : ((x.toNat : Int) == 92) = decide (x.toNat = 92) := beqI x 92
          have go : ∀ e, esc x = some e → pre (out ++ [e]) (unqT t) = u := fun e he => by rw [← hu, unqT_esc h92 he]
          by_cases q1 : x.toNat = 110
          · have he : esc x = some 10 := by simp [esc, q1]
            rw [decide_eq_true q1] at k1
            simp only [go_sem, envP, ↓reduceIte, Nat.reduceEqDiff, Nat.reduceAdd, Nat.reduceLT, a5, a6, e1, x1, c1, c2, c3, e2, x2, y2, k1, ad, Bool.not_true, Bool.not_false]
            refine .inl ⟨trivial, t.length, by omega, ⟨t, out ++ [10], rfl, by simp only [List.length_append, List.length_cons, List.length_nil]; omega, go _ he, ?_, ?_⟩⟩
            all_goals simp only [go_sem, ↓reduceIte, Nat.reduceEqDiff]
          · rw [decide_eq_false q1] at k1
            by_cases q2 : x.toNat = 116
            · have he : esc x = some 9 := by simp [esc, q2]
              rw [decide_eq_true q2] at k2
              simp only [go_sem, envP, ↓reduceIte, Nat.reduceEqDiff, Nat.reduceAdd, Nat.reduceLT, a5, a6, e1, x1, c1, c2, c3, e2, x2, y2, k1, k2, ad, Bool.not_true, Bool.not_false]
              refine .inl ⟨trivial, t.length, by omega, ⟨t, out ++ [9], rfl, by simp only [List.length_append, List.length_cons, List.length_nil]; omega, go _ he, ?_, ?_⟩⟩
              all_goals simp only [go_sem, ↓reduceIte, Nat.reduceEqDiff]
            · rw [decide_eq_false q2] at k2
              by_cases q3 : x.toNat = 34
              · have he : esc x = some 34 := by simp [esc, q3]
                rw [decide_eq_true q3] at k3
                simp only [go_sem, envP, ↓reduceIte, Nat.reduceEqDiff, Nat.reduceAdd, Nat.reduceLT, a5, a6, e1, x1, c1, c2, c3, e2, x2, y2, k1, k2, k3, ad, Bool.not_true, Bool.not_false]
                refine .inl ⟨trivial, t.length, by omega, ⟨t, out ++ [34], rfl, by simp only [List.length_append, List.length_cons, List.length_nil]; omega, go _ he, ?_, ?_⟩⟩
                all_goals simp only [go_sem, ↓reduceIte, Nat.reduceEqDiff]
              · rw [decide_eq_false q3] at k3
                by_cases q4 : x.toNat = 92
                · have he : esc x = some 92 := by simp [esc, q4]
                  rw [decide_eq_true q4] at k4
                  simp only [go_sem, envP, ↓reduceIte, Nat.reduceEqDiff, Nat.reduceAdd, Nat.reduceLT, a5, a6, e1, x1, c1, c2, c3, e2, x2, y2, k1, k2, k3, k4, ad, Bool.not_true, Bool.not_false]
                  refine .inl ⟨trivial, t.length, by omega, ⟨t, out ++ [92], rfl, by simp only [List.length_append, List.length_cons, List.length_nil]; omega, go _ he, ?_, ?_⟩⟩
                  all_goals simp only [go_sem, ↓reduceIte, Nat.reduceEqDiff]
                · rw [decide_eq_false q4] at k4
                  have he : esc x = none := by simp [esc, q1, q2, q3, q4]
                  have hnone : u = none := by rw [← hu, unqT_bad h92 he]; rfl
                  simp only [go_sem, envP, ↓reduceIte, Nat.reduceEqDiff, Nat.reduceAdd, Nat.reduceLT, a5, a6, e1, x1, c1, c2, c3, e2, x2, k1, k2, k3, k4, ad, Bool.not_true, Bool.not_false]
                  refine .inr ⟨by simp, .inr ⟨rfl, hnone, ?_, ?_⟩⟩
                  all_goals simp only [go_sem, ↓reduceIte, Nat.reduceEqDiff]
      · rw [decide_eq_false h92] at c3
        have y1 : sliceA Tryz.prog 9 none (some (.int .i64 1)) (.str (c :: t)) = some (.str [c]) := sl9b (c :: t) (b := 1) (by simp)
        have y2 : sliceA Tryz.prog 9 (some (.int .i64 1)) none (.str (c :: t)) = some (.str t) := sl9a (c :: t) (a := 1) (by simp)
        simp only [go_sem, envP, ↓reduceIte, Nat.reduceEqDiff, Nat.reduceAdd, Nat.reduceLT, a5, a6, e1, x1, c1, c2, c3, y1, y2, ad, Bool.not_true, Bool.not_false]
        refine .inl ⟨trivial, t.length, by omega, ⟨t, out ++ [c], rfl, by simp only [List.length_append, List.length_cons, List.length_nil]; omega, by rw [← hu, unqT_sign h92 hc], ?_, ?_⟩⟩
        all_goals simp only [go_sem, ↓reduceIte, Nat.reduceEqDiff]
theorem unquote19 (s : List UInt8) (hn : s.length ≤ 16384) : closedCall Tryz.prog (run envK) 19 [.str s] = some (unqV s) := by
  refine closed_ex (E := envK) (fn := Tryz.f19) (c := .seq _ (.seq _ (.seq (.seq _ _) (.seq _ (.seq _ (.seq LB19 K19)))))) (by kernel_rfl) rfl Tryz.func19 rfl (by rw [Tryz.ntmps19]; simp) (args' := [.str s]) rfl rfl ?_ rfl
  have short : s.length < 2 ∨ s.head? ≠ some 34 ∨ s[s.length - 1]? ≠ some 34 → unqV s = .tup [.str [], .int .i64 22] := fun h => by rw [unqV, unquote_no h]; rfl
  rcases ends_of s hn with ⟨h1, e1⟩ | ⟨a, z, h1, e1, ha, hz, w1, hq⟩
  · rw [short (.inl h1)]
    simp only [go_sem, envP, ↓reduceIte, Nat.reduceEqDiff, Nat.reduceAdd, Nat.reduceLT, e1, Tryz.results19]
    exact ⟨_, rfl, rfl⟩
  · have x1 : indexA Tryz.prog 9 (.str s) (.int .i64 0) = some (.int .u8 (a.toNat : Int)) := ix9 ha
    have x2 := ix9 hz
    have c1 : ((a.toNat : Int) != 34) = !decide (a.toNat = 34) := bneI a 34
    have c2 : ((z.toNat : Int) != 34) = !decide (z.toNat = 34) := bneI z 34
    by_cases ka : a.toNat = 34
    · rw [decide_eq_true ka] at c1
      by_cases kz : z.toNat = 34
      · rw [decide_eq_true kz] at c2
        have hok : ¬(s.length < 2 ∨ s.head? ≠ some 34 ∨ s[s.length - 1]? ≠ some 34) := by
          rw [hq]
          omega
        have y1 : sliceA Tryz.prog 9 (some (.int .i64 1)) (some (.int .i64 ((s.length - 1 : Nat) : Int))) (.str s) = some (.str (rest s 1)) := sl9 s (a := 1) (b := s.length - 1) (by omega) (by omega)
        simp only [go_sem, envP, ↓reduceIte, Nat.reduceEqDiff, Nat.reduceAdd, Nat.reduceLT, e1, x1, x2, c1, c2, w1, y1, Bool.not_true, Bool.not_false]
        refine block_ret (id := 0) ?_
        rw [xc_loop']
        have hrl : (rest s 1).length ≤ 16384 := by unfold rest; simp; omega
        refine okR_imp (loop_meas (fun d α H => d ≤ 16384 ∧ I19 (unqT (rest s 1)) d α H) (P19 (unqT (rest s 1))) (fun d α H hh => okR_imp (round19 d hh.1 α H hh.2) ?_) (rest s 1).length _ _ ⟨hrl, ⟨rest s 1, [], rfl, by simpa using hrl, pre_nil _, ?_, ?_⟩⟩) ?_
        case refine_1 =>
          rintro e α' H' (⟨h1, d', h2, h3⟩ | h)
          · exact .inl ⟨h1, d', h2, by have := hh.1; omega, h3⟩
          · exact .inr h
        case refine_4 =>
          rintro e α' H' (⟨rfl, out, hu, a5⟩ | ⟨rfl, hu, a2, a3⟩)
          · refine .inl ⟨.inr rfl, ?_⟩
            have hK : K19 = .seq _ _ := rfl
            rw [hK]
            have hv : unqV s = .tup [.str out, .int .i64 0] := by rw [unqV, unquote_eq hok, hu]; rfl
            rw [hv]
            simp only [go_sem, envP, ↓reduceIte, Nat.reduceEqDiff, Nat.reduceAdd, Nat.reduceLT, a5, Tryz.results19]
            exact ⟨_, rfl, rfl⟩
          · refine .inr ⟨rfl, ?_⟩
            have hv : unqV s = .tup [.str [], .int .i64 22] := by rw [unqV, unquote_eq hok, hu]; rfl
            rw [hv]
            simp only [go_sem, envP, ↓reduceIte, Nat.reduceEqDiff, Nat.reduceAdd, Nat.reduceLT, a2, a3, Tryz.results19]
            exact ⟨_, rfl, rfl⟩
        all_goals (simp only [go_sem, ↓reduceIte, Nat.reduceEqDiff]; try rfl)
      · rw [decide_eq_false kz] at c2
        rw [short (.inr (hq.2 (.inr kz)))]
        simp only [go_sem, envP, ↓reduceIte, Nat.reduceEqDiff, Nat.reduceAdd, Nat.reduceLT, e1, x1, x2, c1, c2, w1, Bool.not_true, Bool.not_false, Tryz.results19]
        exact ⟨_, rfl, rfl⟩
    · rw [decide_eq_false ka] at c1
      rw [short (.inr (hq.2 (.inl ka)))]
      simp only [go_sem, envP, ↓reduceIte, Nat.reduceEqDiff, Nat.reduceAdd, Nat.reduceLT, e1, x1, x2, c1, c2, w1, Bool.not_true, Bool.not_false, Tryz.results19]
      exact ⟨_, rfl, rfl⟩
end Go.Proofs.YtiagmokcjljliaaGreatDoor

/- ScriptWords: the scanner on the machine: str. -/
namespace Go.Proofs.YtiagmokcjljliaaGreatDoor
set_option linter.unusedVariables false
set_option linter.unusedSimpArgs false
set_option maxRecDepth 100000
open Go Go.Ab

theorem call82 (call : CallO) (args : List AV) (H : AHeap) : callA envK call (.fn (.func 82) [] []) args H = bnd (closedCall Tryz.prog call 82 args) fun v => some (v, H) := callA_closed (E := envK) (by kernel_rfl) args
attribute [go_sem] call82
noncomputable def B79 : Code := match Tryz.f79.body with | some (.seq _ (.seq _ (.seq (.seq _ (.block _ (.loop c))) _))) => c | _ => .skip
noncomputable def LB79 : Code := .block 0 (.loop B79)
noncomputable def K79 : Code := match Tryz.f79.body with | some (.seq _ (.seq _ (.seq _ k))) => k | _ => .skip
/-- What str answers. -/
def StrE (s : List UInt8) (i : Nat) (t : List UInt8) (j : Nat) (e : Int) : Prop :=
  (strTo s (i + 1) = none ∧ e = 22) ∨ (strTo s (i + 1) = some j ∧ t = (s.take j).drop i ∧ e = if (unquote t).isSome = true then 0 else 22)
structure I79 (s : List UInt8) (i k m : Nat) (L : List (Nat × AObj)) (d : Nat) (α : Frm) (H : AHeap) : Prop where
  ex : ∃ j, j + d = s.length + 1 ∧ i + 1 ≤ j ∧ strTo s j = strTo s (i + 1) ∧ H = ⟨m, setL L k (sc s j)⟩
  a0 : α 0 = .ptr k 0
  a4 : α 4 = .int .i64 (i : Int)
def P79 (s : List UInt8) (i k m : Nat) (L : List (Nat × AObj)) (x : Ex) (α : Frm) (H : AHeap) : Prop :=
  ∃ j, H = ⟨m, setL L k (sc s j)⟩ ∧ ((x = .exit 0 ∧ strTo s (i + 1) = none) ∨ (x = .ret ∧ ∃ t e, StrE s i t j e ∧ α 2 = .str t ∧ α 3 = .int .i64 e))
theorem round79 {m : Nat} {L : List (Nat × AObj)} {k : Nat} {s : List UInt8} {i i0 : Nat} (h0 : Sc m L k s i0) (hn : s.length ≤ 16384) (d : Nat) (α : Frm) (H : AHeap) (h : I79 s i k m L d α H) :
    okR (execC envK (run envK) loopO B79 α H) fun x α' H' => (x = .normal ∧ ∃ d', d' < d ∧ I79 s i k m L d' α' H') ∨ (x ≠ .normal ∧ P79 s i k m L x α' H') := by
  obtain ⟨⟨j, hd, hij, hs, rfl⟩, a0, a4⟩ := h
  have hB : B79 = .seq (.seq _ _) (.seq (.block _ (.seq _ (.block _ (.seq _ _)))) _) := rfl
  rw [hB]
  clear hB
  have hkm : (k < m) = True := eq_true h0.1
  have hS := h0.set j
  have hc := hS.cells
  by_cases hj : j < s.length
  · have e1 : decide ((j : Int) < (s.length : Int)) = true := decide_eq_true (by omega)
    obtain ⟨b, hb⟩ := get_some hj
    have x1 := ix9 hb
    have c1 : ((b.toNat : Int) == 34) = decide (b.toNat = 34) := beqI b 34
    have c2 : ((b.toNat : Int) == 92) = decide (b.toNat = 92) := beqI b 92
    have c3 : ((b.toNat : Int) == 10) = decide (b.toNat = 10) := beqI b 10
    have w1 : IntKind.i64.wrap ((j : Int) + 1) = ((j + 1 : Nat) : Int) := by rw [IntWalk.i64_in _ (by omega)]; omega
    have w2 : IntKind.i64.wrap (((j + 1 : Nat) : Int) + 1) = ((j + 2 : Nat) : Int) := by rw [IntWalk.i64_in _ (by omega)]; omega
    have st := hS.store (j + 1)
    rw [setL_setL] at st
    have hS1 := h0.set (j + 1)
    have hc1 := hS1.cells
    have st1 := hS1.store (j + 2)
    rw [setL_setL] at st1
    by_cases q1 : b.toNat = 34
    · rw [decide_eq_true q1] at c1
      have hz := strTo_quote hb q1
      rw [hs] at hz
      have y1 := sl9 s (a := i) (b := j + 1) (by omega) (by omega)
      have x2 := unquote82 ((s.take (j + 1)).drop i) (by simp; omega)
      simp only [go_sem, envP, ↓reduceIte, Nat.reduceEqDiff, Nat.reduceAdd, Nat.reduceLT, a0, a4, e1, x1, c1, w1, st, hkm, hc, hc1, y1, x2, unqV, extractA]
      refine .inr ⟨by simp, j + 1, rfl, .inr ⟨rfl, _, _, .inr ⟨hz, rfl, rfl⟩, ?_, ?_⟩⟩
      all_goals simp only [go_sem, ↓reduceIte, Nat.reduceEqDiff]
    · rw [decide_eq_false q1] at c1
      by_cases q2 : b.toNat = 92
      · rw [decide_eq_true q2] at c2
        simp only [go_sem, envP, ↓reduceIte, Nat.reduceEqDiff, Nat.reduceAdd, Nat.reduceLT, a0, a4, e1, x1, c1, c2, w1, w2, st, st1, hkm, hc, hc1]
        refine .inl ⟨trivial, d - 2, by omega, ⟨j + 2, by omega, by omega, by rw [← hs, strTo_esc hb q2], rfl⟩, ?_, ?_⟩
        all_goals simp only [go_sem, ↓reduceIte, Nat.reduceEqDiff, a0, a4]
      · rw [decide_eq_false q2] at c2
        by_cases q3 : b.toNat = 10
        · rw [decide_eq_true q3] at c3
          have hz := strTo_nl hb q3
          rw [hs] at hz
          simp only [go_sem, envP, ↓reduceIte, Nat.reduceEqDiff, Nat.reduceAdd, Nat.reduceLT, a0, a4, e1, x1, c1, c2, c3, hkm, hc]
          refine .inr ⟨by simp, j, rfl, .inr ⟨rfl, [], 22, .inl ⟨hz, rfl⟩, ?_, ?_⟩⟩
          all_goals simp only [go_sem, ↓reduceIte, Nat.reduceEqDiff]
        · rw [decide_eq_false q3] at c3
          simp only [go_sem, envP, ↓reduceIte, Nat.reduceEqDiff, Nat.reduceAdd, Nat.reduceLT, a0, a4, e1, x1, c1, c2, c3, w1, st, hkm, hc]
          refine .inl ⟨trivial, d - 1, by omega, ⟨j + 1, by omega, by omega, by rw [← hs, strTo_other hb q1 q3 q2], rfl⟩, ?_, ?_⟩
          all_goals simp only [go_sem, ↓reduceIte, Nat.reduceEqDiff, a0, a4]
  · have e1 : decide ((j : Int) < (s.length : Int)) = false := decide_eq_false (by omega)
    simp only [go_sem, envP, ↓reduceIte, Nat.reduceEqDiff, Nat.reduceAdd, Nat.reduceLT, a0, a4, e1, hkm, hc]
    exact .inr ⟨by simp, j, rfl, .inl ⟨rfl, by rw [← hs, strTo_end (by omega)]⟩⟩
theorem str_c {m : Nat} {L : List (Nat × AObj)} {k : Nat} {s : List UInt8} {i : Nat} (h : Sc m L k s i) (hi : i < s.length) (hn : s.length ≤ 16384) :
    ∃ t j e, run envK 79 [.ptr k 0] ⟨m, L⟩ = some (.tup [.str t, .int .i64 e], ⟨m, setL L k (sc s j)⟩) ∧ StrE s i t j e := by
  have hkm : (k < m) = True := eq_true h.1
  have hc := h.cells
  have w1 : IntKind.i64.wrap ((i : Int) + 1) = ((i + 1 : Nat) : Int) := by rw [IntWalk.i64_in _ (by omega)]; omega
  have st := h.store (i + 1)
  suffices hh : ∃ r, run envK 79 [.ptr k 0] ⟨m, L⟩ = some r ∧ ∃ t j e, r = (.tup [.str t, .int .i64 e], ⟨m, setL L k (sc s j)⟩) ∧ StrE s i t j e by
    obtain ⟨r, hr, t, j, e, rfl, hE⟩ := hh
    exact ⟨t, j, e, hr, hE⟩
  refine open_out (E := envK) (f := 79) (fn := Tryz.f79) (c := .seq _ (.seq _ (.seq (.seq _ LB79) K79))) (by kernel_rfl) rfl Tryz.func79 rfl (by rw [Tryz.ntmps79]; simp) ?_
  simp only [go_sem, envP, ↓reduceIte, Nat.reduceEqDiff, Nat.reduceAdd, Nat.reduceLT, hkm, hc, w1, st]
  refine block_ret (id := 0) ?_
  rw [xc_loop']
  refine okR_imp (loop_meas (I79 s i k m L) (P79 s i k m L) (fun d α H hh => round79 h hn d α H hh) (s.length - i) _ _ ⟨⟨i + 1, by omega, Nat.le_refl _, rfl, rfl⟩, ?_, ?_⟩) ?_
  case refine_3 =>
    rintro x α' H' ⟨j, rfl, ⟨rfl, hz⟩ | ⟨rfl, t, e, hE, a2, a3⟩⟩
    · refine .inl ⟨.inr rfl, ?_⟩
      have hK : K79 = .seq _ _ := rfl
      rw [hK]
      simp only [go_sem, envP, ↓reduceIte, Nat.reduceEqDiff, Nat.reduceAdd, Nat.reduceLT, Tryz.results79]
      exact ⟨_, rfl, [], j, 22, rfl, .inl ⟨hz, rfl⟩⟩
    · refine .inr ⟨rfl, ?_⟩
      simp only [go_sem, envP, ↓reduceIte, Nat.reduceEqDiff, Nat.reduceAdd, Nat.reduceLT, Tryz.results79, a2, a3]
      exact ⟨_, rfl, t, j, e, rfl, hE⟩
  all_goals (simp only [go_sem, ↓reduceIte, Nat.reduceEqDiff]; try rfl)
end Go.Proofs.YtiagmokcjljliaaGreatDoor

/- ScriptWords: the scanner on the machine: next. -/
namespace Go.Proofs.YtiagmokcjljliaaGreatDoor
set_option linter.unusedVariables false
set_option linter.unusedSimpArgs false
set_option maxRecDepth 100000
open Go Go.Ab

/-! A token in the memory -/
theorem sz31 : szQ Tryz.prog 31 = some 4 := by kernel_rfl
theorem agg31 : aggQ Tryz.prog 31 = some true := by kernel_rfl
theorem zero31 : zeroQ Tryz.prog 31 = some [.int .i64 0, .int .i64 0, .str [], .str []] := by kernel_rfl
theorem fields31 : fieldsQ Tryz.prog 31 = some [(0, 3), (1, 3), (2, 9), (3, 9)] := by kernel_rfl
theorem al31 (m : Nat) (L : List (Nat × AObj)) : allocA Tryz.prog 31 ⟨m, L⟩ = some (.ptr m 0, ⟨m + 1, (m, .cells (some 31) [.int .i64 0, .int .i64 0, .str [], .str []]) :: L⟩) := by simp [allocA, zero31, AHeap.push]
theorem fa31_0 (n k : Nat) : fieldAddrA Tryz.prog 31 0 (.ptr n k) = some (.ptr n k) := by simp [fieldAddrA, fields31, sz3]
theorem fa31_1 (n k : Nat) : fieldAddrA Tryz.prog 31 1 (.ptr n k) = some (.ptr n (k + 1)) := by simp [fieldAddrA, fields31, sz3]
theorem fa31_2 (n k : Nat) : fieldAddrA Tryz.prog 31 2 (.ptr n k) = some (.ptr n (k + 2)) := by simp [fieldAddrA, fields31, sz9]
theorem fa31_3 (n k : Nat) : fieldAddrA Tryz.prog 31 3 (.ptr n k) = some (.ptr n (k + 3)) := by simp [fieldAddrA, fields31, sz9]
theorem st31_0 (m : Nat) (L : List (Nat × AObj)) (a b c d : AV) (x : Int) : storeA Tryz.prog 3 (.ptr m 0) (.int .i64 x) ⟨m + 1, (m, .cells (some 31) [a, b, c, d]) :: L⟩ = some (undefA, ⟨m + 1, (m, .cells (some 31) [.int .i64 x, b, c, d]) :: L⟩) := by
  rw [store_ptr]
  simp [cellsQ_cons, bnd, sz3, AV.width, AV.cells, allOne, AV.one, getL_cons, reObj, setL_cons, overlay]
theorem st31_1 (m : Nat) (L : List (Nat × AObj)) (a b c d : AV) (x : Int) : storeA Tryz.prog 3 (.ptr m 1) (.int .i64 x) ⟨m + 1, (m, .cells (some 31) [a, b, c, d]) :: L⟩ = some (undefA, ⟨m + 1, (m, .cells (some 31) [a, .int .i64 x, c, d]) :: L⟩) := by
  rw [store_ptr]
  simp [cellsQ_cons, bnd, sz3, AV.width, AV.cells, allOne, AV.one, getL_cons, reObj, setL_cons, overlay]
theorem st31_2 (m : Nat) (L : List (Nat × AObj)) (a b c d : AV) (x : List UInt8) : storeA Tryz.prog 9 (.ptr m 2) (.str x) ⟨m + 1, (m, .cells (some 31) [a, b, c, d]) :: L⟩ = some (undefA, ⟨m + 1, (m, .cells (some 31) [a, b, .str x, d]) :: L⟩) := by
  rw [store_ptr]
  simp [cellsQ_cons, bnd, sz9, AV.width, AV.cells, allOne, AV.one, getL_cons, reObj, setL_cons, overlay]
theorem st31_3 (m : Nat) (L : List (Nat × AObj)) (a b c d : AV) (x : List UInt8) : storeA Tryz.prog 9 (.ptr m 3) (.str x) ⟨m + 1, (m, .cells (some 31) [a, b, c, d]) :: L⟩ = some (undefA, ⟨m + 1, (m, .cells (some 31) [a, b, c, .str x]) :: L⟩) := by
  rw [store_ptr]
  simp [cellsQ_cons, bnd, sz9, AV.width, AV.cells, allOne, AV.one, getL_cons, reObj, setL_cons, overlay]
theorem st31_w (m : Nat) (L : List (Nat × AObj)) (o : List AV) (k a : Int) (l t : List UInt8) (ho : o.length = 4) : storeA Tryz.prog 31 (.ptr m 0) (.agg [.int .i64 k, .int .i64 a, .str l, .str t]) ⟨m + 1, (m, .cells (some 31) o) :: L⟩ = some (undefA, ⟨m + 1, (m, .cells (some 31) [.int .i64 k, .int .i64 a, .str l, .str t]) :: L⟩) := by
  rw [store_ptr]
  simp [cellsQ_cons, bnd, sz31, AV.width, AV.cells, allOne, AV.one, getL_cons, reObj, setL_cons, overlay, ho]
theorem st31_v (m : Nat) (L : List (Nat × AObj)) (a b c d : AV) (k i : Int) (l t : List UInt8) : storeA Tryz.prog 31 (.ptr m 0) (.agg [.int .i64 k, .int .i64 i, .str l, .str t]) ⟨m + 1, (m, .cells (some 31) [a, b, c, d]) :: L⟩ = some (undefA, ⟨m + 1, (m, .cells (some 31) [.int .i64 k, .int .i64 i, .str l, .str t]) :: L⟩) := st31_w m L _ k i l t rfl
theorem ld31 (a b c d : AV) : ldA Tryz.prog 31 [a, b, c, d] 0 = some (.agg [a, b, c, d]) := by simp [ldA, agg31, sz31]
attribute [go_sem] al31 fa31_0 fa31_1 fa31_2 fa31_3 st31_0 st31_1 st31_2 st31_3 st31_v ld31

/-! A block more ahead of the scanner's -/
theorem Sc.push {m : Nat} {L : List (Nat × AObj)} {k : Nat} {s : List UInt8} {i : Nat} (h : Sc m L k s i) (c : AObj) : Sc (m + 1) ((m, c) :: L) k s i := ⟨by have := h.1; omega, by rw [getL_cons, if_neg (by have := h.1; omega)]; exact h.2⟩
theorem setL_push {m k : Nat} (hk : k < m) (c x : AObj) (L : List (Nat × AObj)) : setL ((m, c) :: L) k x = (m, c) :: setL L k x := by rw [setL_cons, if_neg (by omega)]
theorem call75 (call : CallO) (args : List AV) (H : AHeap) : callA envK call (.fn (.func 75) [] []) args H = call 75 args H := callA_open (by kernel_rfl) args
theorem call79 (call : CallO) (args : List AV) (H : AHeap) : callA envK call (.fn (.func 79) [] []) args H = call 79 args H := callA_open (by kernel_rfl) args
theorem call80 (call : CallO) (args : List AV) (H : AHeap) : callA envK call (.fn (.func 80) [] []) args H = call 80 args H := callA_open (by kernel_rfl) args
theorem call76 (call : CallO) (args : List AV) (H : AHeap) : callA envK call (.fn (.func 76) [] []) args H = bnd (closedCall Tryz.prog call 76 args) fun v => some (v, H) := callA_closed (E := envK) (by kernel_rfl) args
theorem call78 (call : CallO) (args : List AV) (H : AHeap) : callA envK call (.fn (.func 78) [] []) args H = bnd (closedCall Tryz.prog call 78 args) fun v => some (v, H) := callA_closed (E := envK) (by kernel_rfl) args
attribute [go_sem] call75 call79 call80 call76 call78
theorem word_p {m : Nat} {L : List (Nat × AObj)} {k : Nat} {s : List UInt8} {i : Nat} (h : Sc m L k s i) (hi : i ≤ s.length) (hn : s.length ≤ 16384) (c : AObj) : run envK 75 [.ptr k 0] ⟨m + 1, (m, c) :: L⟩ = some (.str ((s.drop i).takeWhile isWd), ⟨m + 1, (m, c) :: setL L k (sc s (runTo isWd s i))⟩) := by
  rw [word_c (h.push c) hi hn, setL_push h.1]
theorem sign_p {m : Nat} {L : List (Nat × AObj)} {k : Nat} {s : List UInt8} {i : Nat} (h : Sc m L k s i) (hi : i ≤ s.length) (hn : s.length ≤ 16384) (c : AObj) :
    run envK 80 [.ptr k 0] ⟨m + 1, (m, c) :: L⟩ = some (.str ((s.drop i).take (signLen (s.drop i))), ⟨m + 1, (m, c) :: setL L k (sc s (i + signLen (s.drop i)))⟩) := by
  rw [sign_c (h.push c) hi hn, setL_push h.1]
theorem str_p {m : Nat} {L : List (Nat × AObj)} {k : Nat} {s : List UInt8} {i : Nat} (h : Sc m L k s i) (hi : i < s.length) (hn : s.length ≤ 16384) (c : AObj) :
    ∃ t j e, run envK 79 [.ptr k 0] ⟨m + 1, (m, c) :: L⟩ = some (.tup [.str t, .int .i64 e], ⟨m + 1, (m, c) :: setL L k (sc s j)⟩) ∧ StrE s i t j e := by
  obtain ⟨t, j, e, hr, hE⟩ := str_c (h.push c) hi hn
  rw [setL_push h.1] at hr
  exact ⟨t, j, e, hr, hE⟩

/-! Strings -/
theorem strEnd_last : ∀ (t : List UInt8) (n : Nat), strEnd t = some n → ∃ z, t[n - 1]? = some z ∧ z.toNat = 34
  | [], n, h => by simp [strEnd] at h
  | c :: t, n, h => by
    rw [strEnd_cons] at h
    split at h
    · rename_i hc
      simp only [Option.some.injEq] at h
      subst h
      exact ⟨c, rfl, hc⟩
    · split at h
      · cases h
      · split at h
        · match t, h with
          | [], h => cases h
          | d :: t', h =>
            simp only [Option.map_eq_some_iff] at h
            obtain ⟨q, hq, rfl⟩ := h
            obtain ⟨z, hz, h34⟩ := strEnd_last t' q hq
            have := strEnd_le t' q hq
            refine ⟨z, ?_, h34⟩
            rw [show q + 2 - 1 = (q - 1) + 2 by omega]
            exact hz
        · simp only [Option.map_eq_some_iff] at h
          obtain ⟨q, hq, rfl⟩ := h
          obtain ⟨z, hz, h34⟩ := strEnd_last t q hq
          have := strEnd_le t q hq
          refine ⟨z, ?_, h34⟩
          rw [show q + 1 - 1 = (q - 1) + 1 by omega]
          exact hz
theorem unquote_cut {s : List UInt8} {i n : Nat} {b : UInt8} (hb : s[i]? = some b) (h34 : b.toNat = 34) (he : strEnd (s.drop (i + 1)) = some n) : unquote ((s.take (i + 1 + n)).drop i) = unqT ((s.drop (i + 1)).take (n - 1)) := by
  obtain ⟨z, hz, hz34⟩ := strEnd_last _ _ he
  have hle := strEnd_le _ _ he
  have hb34 : b = 34 := UInt8.toNat_inj.1 h34
  have hz34 : z = 34 := UInt8.toNat_inj.1 hz34
  subst hb34 hz34
  rw [cut_eq, drop_get hb, show i + 1 + n - i = n + 1 by omega, List.take_succ_cons]
  have hl : (34 :: (s.drop (i + 1)).take n : List UInt8).length = n + 1 := by rw [List.length_cons, List.length_take, Nat.min_eq_left hle.2]
  have hlast : (34 :: (s.drop (i + 1)).take n : List UInt8)[n]? = some 34 := by
    rw [show n = (n - 1) + 1 by omega, List.getElem?_cons_succ, List.getElem?_take_of_lt (by omega)]
    exact hz
  rw [unquote, hl, Nat.add_sub_cancel, if_neg (by rw [hlast]; simp; omega)]
  congr 1
  rw [show n = (n - 1) + 1 by omega, List.take_succ_cons, List.drop_succ_cons, List.drop_zero, List.take_take]
  congr 1
  omega
end Go.Proofs.YtiagmokcjljliaaGreatDoor

/- ScriptWords: the scanner on the machine: next. -/
namespace Go.Proofs.YtiagmokcjljliaaGreatDoor
set_option linter.unusedVariables false
set_option linter.unusedSimpArgs false
set_option maxRecDepth 100000
open Go Go.Ab

/-- What next answers. -/
def NextV (s : List UInt8) (i : Nat) (T : AV) (e : Int) (j : Nat) : Prop :=
  match one (s.drop i) with
  | .error x => e = (x : Int) ∧ e ≠ 0
  | .ok (kd, n) => e = 0 ∧ j = i + n ∧ T = .agg [.int .i64 (kd : Int), .int .i64 (i : Int), .str [], .str ((s.take (i + n)).drop i)]
def NextR (s : List UInt8) (i k m : Nat) (L : List (Nat × AObj)) (r : AV × AHeap) : Prop :=
  ∃ (tk ta : Int) (tl tt : List UInt8) (e : Int) (c : AObj) (j : Nat), r = (.tup [.agg [.int .i64 tk, .int .i64 ta, .str tl, .str tt], .int .i64 e], ⟨m + 1, (m, c) :: setL L k (sc s j)⟩) ∧ NextV s i (.agg [.int .i64 tk, .int .i64 ta, .str tl, .str tt]) e j
theorem str_eqnil (a : List UInt8) : strBin .eql a [] = some (.bool (a == [])) := by simp [strBin]
theorem next_c {m : Nat} {L : List (Nat × AObj)} {k : Nat} {s : List UInt8} {i : Nat} (h : Sc m L k s i) (hi : i ≤ s.length) (hn : s.length ≤ 16384) : ∃ r, run envK 37 [.ptr k 0] ⟨m, L⟩ = some r ∧ NextR s i k m L r := by
  have hkm : (k < m) = True := eq_true h.1
  have hkm1 : (k < m + 1) = True := eq_true (by have := h.1; omega)
  have hmm : (m < m + 1) = True := eq_true (by omega)
  have hmk : (m = k) = False := eq_false (by have := h.1; omega)
  have hc := h.cells
  refine open_out (E := envK) (f := 37) (fn := Tryz.f37) (c := .seq _ (.seq _ (.seq _ _))) (by kernel_rfl) rfl Tryz.func37 rfl (by rw [Tryz.ntmps37]; simp) ?_
  have c0 : ((i : Int) == (s.length : Int)) = decide (i = s.length) := beqN _ _
  by_cases hl : i = s.length
  · rw [decide_eq_true hl] at c0
    simp only [go_sem, envP, ↓reduceIte, Nat.reduceEqDiff, Nat.reduceAdd, Nat.reduceLT, hkm, hkm1, hmm, hmk, hc, c0, Tryz.results37]
    refine ⟨_, rfl, _, _, _, _, 0, _, i, by rw [h.same], ?_⟩
    have hd : s.drop i = [] := List.drop_of_length_le (by omega)
    simp only [NextV, hd, one, Nat.add_zero]
    refine ⟨trivial, trivial, ?_⟩
    rw [cut_eq, Nat.sub_self]
    rfl
  · rw [decide_eq_false hl] at c0
    have hlt : i < s.length := by omega
    obtain ⟨b, hb⟩ := get_some hlt
    have hd := drop_get hb
    have x1 := fun c => more_c pr74 (h.push c)
    rw [hasAt_some hb] at x1
    have x2 := fun c => more_c pr77 (h.push c)
    rw [hasAt_some hb] at x2
    have x3 := fun c => word_p h hi hn c
    have hro := runTo_eq isWd s hi
    have hcut := runTo_cut isWd s hi
    have hwl : ((s.drop i).takeWhile isWd).length ≤ 16384 := by
      have := (List.takeWhile_prefix (l := s.drop i) isWd).length_le
      rw [List.length_drop] at this
      omega
    have x4 := isKey76 ((s.drop i).takeWhile isWd)
    have x5 := number78 ((s.drop i).takeWhile isWd) (by omega)
    cases hL : isLet b with
    | true =>
      have ho := one_let (t := s.drop (i + 1)) hL
      rw [← hd] at ho
      simp only [hL] at x1
      cases hK : isKey ((s.drop i).takeWhile isWd) with
      | true =>
        rw [hK] at x4
        simp only [go_sem, envP, ↓reduceIte, Nat.reduceEqDiff, Nat.reduceAdd, Nat.reduceLT, hkm, hkm1, hmm, hmk, hc, c0, x1, x3, x4, Tryz.results37]
        refine ⟨_, rfl, _, _, _, _, 0, _, _, rfl, ?_⟩
        rw [if_pos hK] at ho
        simp only [NextV, ho]
        refine ⟨trivial, hro, ?_⟩
        rw [← hro, hcut]
        rfl
      | false =>
        rw [hK] at x4
        rw [if_neg (by rw [hK]; decide)] at ho
        by_cases h40 : 40 < ((s.drop i).takeWhile isWd).length
        · have e4 : decide ((((s.drop i).takeWhile isWd).length : Int) > 40) = true := decide_eq_true (by omega)
          simp only [go_sem, envP, ↓reduceIte, Nat.reduceEqDiff, Nat.reduceAdd, Nat.reduceLT, hkm, hkm1, hmm, hmk, hc, c0, x1, x3, x4, e4, Tryz.results37]
          refine ⟨_, rfl, _, _, _, _, 26, _, _, rfl, ?_⟩
          rw [if_pos h40] at ho
          simp only [NextV, ho]
          exact ⟨rfl, by decide⟩
        · have e4 : decide ((((s.drop i).takeWhile isWd).length : Int) > 40) = false := decide_eq_false (by omega)
          simp only [go_sem, envP, ↓reduceIte, Nat.reduceEqDiff, Nat.reduceAdd, Nat.reduceLT, hkm, hkm1, hmm, hmk, hc, c0, x1, x3, x4, e4, Tryz.results37]
          refine ⟨_, rfl, _, _, _, _, 0, _, _, rfl, ?_⟩
          rw [if_neg h40] at ho
          simp only [NextV, ho]
          refine ⟨trivial, hro, ?_⟩
          rw [← hro, hcut]
          rfl
    | false =>
      simp only [hL] at x1
      cases hD : isDig b with
      | true =>
        have ho := one_dig (t := s.drop (i + 1)) hD
        rw [← hd] at ho
        have hwne : (s.drop i).takeWhile isWd ≠ [] := by rw [hd, List.takeWhile_cons, if_pos (by simp [isWd, hD])]; simp
        rw [numOk_eq _ hwne] at x5
        simp only [hD] at x2
        cases hR : refN 0 ((s.drop i).takeWhile isWd) with
        | true =>
          rw [hR, if_pos rfl] at x5
          simp only [go_sem, envP, ↓reduceIte, Nat.reduceEqDiff, Nat.reduceAdd, Nat.reduceLT, hkm, hkm1, hmm, hmk, hc, c0, x1, x2, x3, x5, Tryz.results37]
          refine ⟨_, rfl, _, _, _, _, 0, _, _, rfl, ?_⟩
          rw [if_pos hR] at ho
          simp only [NextV, ho]
          refine ⟨trivial, hro, ?_⟩
          rw [← hro, hcut]
          rfl
        | false =>
          rw [hR, if_neg (by decide)] at x5
          simp only [go_sem, envP, ↓reduceIte, Nat.reduceEqDiff, Nat.reduceAdd, Nat.reduceLT, hkm, hkm1, hmm, hmk, hc, c0, x1, x2, x3, x5, Tryz.results37]
          refine ⟨_, rfl, _, _, _, _, 23, _, _, rfl, ?_⟩
          rw [if_neg (by rw [hR]; decide)] at ho
          simp only [NextV, ho]
          exact ⟨rfl, by decide⟩
      | false =>
        simp only [hD] at x2
        have y1 := ix9 hb
        have c1 : ((b.toNat : Int) == 34) = decide (b.toNat = 34) := beqI b 34
        by_cases h34 : b.toNat = 34
        · rw [decide_eq_true h34] at c1
          have ho := one_str (t := s.drop (i + 1)) h34
          rw [← hd] at ho
          obtain ⟨t, j, e, x6, hE⟩ := str_p h hlt hn (.cells (some 31) [.int .i64 4, .int .i64 (i : Int), .str [], .str []])
          simp only [go_sem, envP, ↓reduceIte, Nat.reduceEqDiff, Nat.reduceAdd, Nat.reduceLT, hkm, hkm1, hmm, hmk, hc, c0, x1, x2, y1, c1, x6, extractA, Tryz.results37]
          refine ⟨_, rfl, _, _, _, _, e, _, j, rfl, ?_⟩
          rcases hE with ⟨hz, rfl⟩ | ⟨hz, rfl, he⟩
          · have : strEnd (s.drop (i + 1)) = none := by
              rw [strTo] at hz
              cases hq : strEnd (s.drop (i + 1)) with
              | none => rfl
              | some q => rw [hq] at hz; cases hz
            rw [this] at ho
            simp only [NextV, ho]
            exact ⟨rfl, by decide⟩
          · rw [strTo] at hz
            cases hq : strEnd (s.drop (i + 1)) with
            | none => rw [hq] at hz; cases hz
            | some q =>
              rw [hq] at hz ho
              simp only [Option.map_some, Option.some.injEq] at hz
              have hj : j = i + (q + 1) := by omega
              have hu := unquote_cut hb h34 hq
              rw [show i + 1 + q = j by omega] at hu
              rw [hu] at he
              simp only at ho
              cases hs : (unqT ((s.drop (i + 1)).take (q - 1))).isSome with
              | true =>
                rw [if_pos hs] at ho he
                simp only [NextV, ho]
                refine ⟨he, hj, ?_⟩
                rw [← hj]
                rfl
              | false =>
                rw [if_neg (by rw [hs]; decide)] at ho he
                simp only [NextV, ho]
                rw [he]
                exact ⟨rfl, by decide⟩
        · rw [decide_eq_false h34] at c1
          have hW : isWd b = false := by simp [isWd, hL, hD]
          have ho := one_sign (t := s.drop (i + 1)) hW h34
          rw [← hd] at ho
          have x7 := fun c => sign_p h hi hn c
          have hle : signLen (s.drop i) ≤ (s.drop i).length := by
            cases hd2 : one (s.drop i) with
            | ok p =>
              have := (one_len (k := p.1) (n := p.2) hd2).1
              rw [ho] at hd2
              by_cases hz : signLen (s.drop i) = 0
              · omega
              · rw [if_neg hz] at hd2
                simp only [Except.ok.injEq] at hd2
                rw [← hd2] at this
                exact this
            | error e =>
              rw [ho] at hd2
              by_cases hz : signLen (s.drop i) = 0
              · omega
              · rw [if_neg hz] at hd2
                cases hd2
          by_cases hz : signLen (s.drop i) = 0
          · have e5 : ((s.drop i).take (signLen (s.drop i)) == ([] : List UInt8)) = true := by rw [hz]; rfl
            simp only [go_sem, envP, ↓reduceIte, Nat.reduceEqDiff, Nat.reduceAdd, Nat.reduceLT, hkm, hkm1, hmm, hmk, hc, c0, x1, x2, y1, c1, x7, e5, Tryz.results37]
            refine ⟨_, rfl, _, _, _, _, 21, _, _, rfl, ?_⟩
            rw [if_pos hz] at ho
            simp only [NextV, ho]
            exact ⟨rfl, by decide⟩
          · have e5 : ((s.drop i).take (signLen (s.drop i)) == ([] : List UInt8)) = false := by
              rw [beq_eq_false_iff_ne]
              intro hc
              have := congrArg List.length hc
              rw [List.length_take] at this
              simp only [List.length_nil] at this
              omega
            simp only [go_sem, envP, ↓reduceIte, Nat.reduceEqDiff, Nat.reduceAdd, Nat.reduceLT, hkm, hkm1, hmm, hmk, hc, c0, x1, x2, y1, c1, x7, e5, Tryz.results37]
            refine ⟨_, rfl, _, _, _, _, 0, _, _, rfl, ?_⟩
            rw [if_neg hz] at ho
            simp only [NextV, ho]
            refine ⟨trivial, trivial, ?_⟩
            rw [cut_eq, Nat.add_sub_cancel_left]
            rfl
end Go.Proofs.YtiagmokcjljliaaGreatDoor

/- ScriptWords: both packages' Bad on the machine. -/
namespace Go.Proofs.YtiagmokcjljliaaGreatDoor
set_option linter.unusedVariables false
set_option linter.unusedSimpArgs false
set_option maxRecDepth 100000
open Go Go.Ab

def badI (s : List UInt8) : Int := match bad s with
  | some a => (a : Int)
  | none => -1
theorem call69 (call : CallO) (args : List AV) (H : AHeap) : callA envK call (.fn (.func 69) [] []) args H = bnd (closedCall Tryz.prog call 69 args) fun v => some (v, H) := callA_closed (E := envK) (by kernel_rfl) args
theorem call15 (call : CallO) (args : List AV) (H : AHeap) : callA envK call (.fn (.func 15) [] []) args H = bnd (closedCall Tryz.prog call 15 args) fun v => some (v, H) := callA_closed (E := envK) (by kernel_rfl) args
theorem call31 (call : CallO) (args : List AV) (H : AHeap) : callA envK call (.fn (.func 31) [] []) args H = bnd (closedCall Tryz.prog call 31 args) fun v => some (v, H) := callA_closed (E := envK) (by kernel_rfl) args
attribute [go_sem] call69 call15 call31
theorem decode69 (r : List UInt8) : closedCall Tryz.prog (run envK) 69 [.str r] = some (.tup [.int .i32 ((dec r).1 : Nat), .int .i64 ((dec r).2 : Nat)]) := by
  refine closed_ext (E := envK) (by kernel_rfl) (args := [.str r]) (v := .tup [.int .i32 ((dec r).1 : Nat), .int .i64 ((dec r).2 : Nat)]) (H := .empty) rfl ?_ rfl
  show extK 69 [.str r] .empty = _
  simp [extK, orX, copyX, stringX, indexX, decodeX]

/-! The program's -/
noncomputable def B35 : Code := match Tryz.f35.body with | some (.seq _ (.seq (.seq _ (.block _ (.loop c))) _)) => c | _ => .skip
noncomputable def LB35 : Code := .block 0 (.loop B35)
noncomputable def K35 : Code := match Tryz.f35.body with | some (.seq _ (.seq _ k)) => k | _ => .skip
structure IBad (s : List UInt8) (d : Nat) (α : Frm) (H : AHeap) : Prop where
  ex : ∃ i : Nat, i + d = s.length ∧ badFrom s i = bad s ∧ α 3 = .int .i64 (i : Int)
  a0 : α 0 = .str s
def PBad (s : List UInt8) (x : Ex) (α : Frm) (H : AHeap) : Prop := (x = .exit 0 ∧ badI s = -1) ∨ (x = .ret ∧ α 2 = .int .i64 (badI s))
theorem round35 {s : List UInt8} (hn : s.length ≤ 16384) (d : Nat) (α : Frm) (H : AHeap) (h : IBad s d α H) :
    okR (execC envK (run envK) loopO B35 α H) fun x α' H' => (x = .normal ∧ ∃ d', d' < d ∧ IBad s d' α' H') ∨ (x ≠ .normal ∧ PBad s x α' H') := by
  obtain ⟨⟨i, hd, he, a3⟩, a0⟩ := h
  have hB : B35 = .seq (.seq _ _) (.block _ (.seq _ (.seq (.seq _ _) _))) := rfl
  rw [hB]
  clear hB
  by_cases hi : i < s.length
  · have e1 : decide ((i : Int) < (s.length : Int)) = true := decide_eq_true (by omega)
    obtain ⟨b, hb⟩ := get_some hi
    have y1 := sl9a s (a := i) (by omega)
    have x1 := decode69 (s.drop i)
    have c1 : (((dec (s.drop i)).1 : Int) == 65533) = decide ((dec (s.drop i)).1 = 65533) := beqN _ 65533
    have c2 : (((dec (s.drop i)).2 : Int) == 1) = decide ((dec (s.drop i)).2 = 1) := beqN _ 1
    have hlen := dec_len b (s.drop (i + 1))
    rw [← drop_get hb, List.length_drop] at hlen
    have w1 : IntKind.i64.wrap ((i : Int) + ((dec (s.drop i)).2 : Int)) = ((i + (dec (s.drop i)).2 : Nat) : Int) := by rw [IntWalk.i64_in _ (by omega)]; omega
    by_cases q1 : (dec (s.drop i)).1 = 65533
    · rw [decide_eq_true q1] at c1
      by_cases q2 : (dec (s.drop i)).2 = 1
      · rw [decide_eq_true q2] at c2
        have hb2 := badFrom_bad hi q1 q2
        rw [he] at hb2
        simp only [go_sem, envP, ↓reduceIte, Nat.reduceEqDiff, Nat.reduceAdd, Nat.reduceLT, a0, a3, e1, y1, x1, c1, c2, extractA]
        refine .inr ⟨by simp, .inr ⟨rfl, ?_⟩⟩
        simp only [go_sem, ↓reduceIte, Nat.reduceEqDiff, a3, badI, hb2]
      · rw [decide_eq_false q2] at c2
        rw [badFrom_step hi (fun hq => q2 hq.2)] at he
        simp only [go_sem, envP, ↓reduceIte, Nat.reduceEqDiff, Nat.reduceAdd, Nat.reduceLT, a0, a3, e1, y1, x1, c1, c2, w1, extractA]
        refine .inl ⟨trivial, s.length - (i + (dec (s.drop i)).2), by omega, ⟨i + (dec (s.drop i)).2, by omega, he, ?_⟩, ?_⟩
        all_goals simp only [go_sem, ↓reduceIte, Nat.reduceEqDiff, a0, a3]
    · rw [decide_eq_false q1] at c1
      rw [badFrom_step hi (fun hq => q1 hq.1)] at he
      simp only [go_sem, envP, ↓reduceIte, Nat.reduceEqDiff, Nat.reduceAdd, Nat.reduceLT, a0, a3, e1, y1, x1, c1, w1, extractA]
      refine .inl ⟨trivial, s.length - (i + (dec (s.drop i)).2), by omega, ⟨i + (dec (s.drop i)).2, by omega, he, ?_⟩, ?_⟩
      all_goals simp only [go_sem, ↓reduceIte, Nat.reduceEqDiff, a0, a3]
  · have e1 : decide ((i : Int) < (s.length : Int)) = false := decide_eq_false (by omega)
    rw [badFrom_end (by omega)] at he
    simp only [go_sem, envP, ↓reduceIte, Nat.reduceEqDiff, Nat.reduceAdd, Nat.reduceLT, a0, a3, e1]
    exact .inr ⟨by simp, .inl ⟨rfl, by rw [badI, ← he]⟩⟩
theorem bad35 (s : List UInt8) (hn : s.length ≤ 16384) : closedCall Tryz.prog (run envK) 35 [.str s] = some (.int .i64 (badI s)) := by
  refine closed_ex (E := envK) (fn := Tryz.f35) (c := .seq _ (.seq (.seq _ LB35) K35)) (by kernel_rfl) rfl Tryz.func35 rfl (by rw [Tryz.ntmps35]; simp) (args' := [.str s]) rfl rfl ?_ rfl
  simp only [go_sem, envP, ↓reduceIte, Nat.reduceEqDiff, Nat.reduceAdd, Nat.reduceLT]
  refine block_ret (id := 0) ?_
  rw [xc_loop']
  refine okR_imp (loop_meas (IBad s) (PBad s) (fun d α H hh => round35 hn d α H hh) s.length _ _ ⟨⟨0, by omega, (bad_eq s).symm, ?_⟩, ?_⟩) ?_
  case refine_3 =>
    rintro e α' H' (⟨rfl, hb⟩ | ⟨rfl, a2⟩)
    · refine .inl ⟨.inr rfl, ?_⟩
      have hK : K35 = .seq _ _ := rfl
      rw [hK, hb]
      simp only [go_sem, envP, ↓reduceIte, Nat.reduceEqDiff, Nat.reduceAdd, Nat.reduceLT, Tryz.results35]
      exact ⟨_, rfl, rfl⟩
    · refine .inr ⟨rfl, ?_⟩
      simp only [go_sem, envP, ↓reduceIte, Nat.reduceEqDiff, Nat.reduceAdd, Nat.reduceLT, Tryz.results35, a2]
      exact ⟨_, rfl, rfl⟩
  all_goals (simp only [go_sem, ↓reduceIte, Nat.reduceEqDiff]; try rfl)
end Go.Proofs.YtiagmokcjljliaaGreatDoor
