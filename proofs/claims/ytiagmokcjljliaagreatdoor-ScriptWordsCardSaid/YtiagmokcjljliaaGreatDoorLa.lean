/- ScriptWords: what a lexer answers, in plain Lean, and what is asked of it. -/
import Derived.Test.YtiagmokcjljliaaGreatDoorAm5
/- ScriptWords, in plain Lean: what a text's tokens are. -/
namespace Go.Proofs.YtiagmokcjljliaaGreatDoor
set_option linter.unusedVariables false
open Go Go.Ab

/-! Bytes -/
def isLet (b : UInt8) : Bool := decide (97 ≤ b.toNat ∧ b.toNat ≤ 122) || decide (65 ≤ b.toNat ∧ b.toNat ≤ 90) || decide (b.toNat = 95)
def isDig (b : UInt8) : Bool := decide (48 ≤ b.toNat ∧ b.toNat ≤ 57)
def isBl (b : UInt8) : Bool := decide (b.toNat = 32) || decide (b.toNat = 9) || decide (b.toNat = 10) || decide (b.toNat = 13)
def isWd (b : UInt8) : Bool := isLet b || isDig b

/-! What means nothing -/
def leadF : Nat → List UInt8 → List UInt8
  | 0, r => r
  | _ + 1, [] => []
  | n + 1, c :: t => if isBl c = true then leadF n t else if c.toNat = 35 then leadF n (t.dropWhile fun b => decide (b.toNat ≠ 10)) else c :: t
theorem leadF_enough : ∀ (n m : Nat) (r : List UInt8), r.length ≤ n → r.length ≤ m → leadF n r = leadF m r
  | 0, m, r, hn, _ => by
    have : r = [] := List.length_eq_zero_iff.1 (by omega)
    subst this
    cases m <;> rfl
  | n + 1, 0, r, _, hm => by
    have : r = [] := List.length_eq_zero_iff.1 (by omega)
    subst this
    rfl
  | n + 1, m + 1, [], _, _ => rfl
  | n + 1, m + 1, c :: t, hn, hm => by
    simp only [List.length_cons] at hn hm
    have hl := (List.dropWhile_suffix (l := t) (fun b : UInt8 => decide (b.toNat ≠ 10))).length_le
    rw [leadF, leadF, leadF_enough n m t (by omega) (by omega), leadF_enough n m _ (by omega) (by omega)]
def lead (r : List UInt8) : List UInt8 := leadF r.length r
theorem lead_nil : lead [] = [] := rfl
theorem lead_cons (c : UInt8) (t : List UInt8) : lead (c :: t) = if isBl c = true then lead t else if c.toNat = 35 then lead (t.dropWhile fun b => decide (b.toNat ≠ 10)) else c :: t := by
  have hl := (List.dropWhile_suffix (l := t) (fun b : UInt8 => decide (b.toNat ≠ 10))).length_le
  show leadF (t.length + 1) (c :: t) = _
  rw [leadF, leadF_enough t.length _ (t.dropWhile fun b => decide (b.toNat ≠ 10)) hl (Nat.le_refl _)]
  rfl
theorem lead_bl : ∀ r : List UInt8, lead (r.dropWhile isBl) = lead r
  | [] => rfl
  | c :: t => by
    rw [lead_cons]
    by_cases h : isBl c = true
    · rw [if_pos h, List.dropWhile_cons, if_pos h, lead_bl t]
    · rw [List.dropWhile_cons, if_neg h, lead_cons]
theorem lead_suf (r : List UInt8) : ∃ a, r = a ++ lead r := by
  induction h : r.length using Nat.strongRecOn generalizing r with
  | _ n ih =>
    cases r with
    | nil => exact ⟨[], by rw [lead_nil]; rfl⟩
    | cons c t =>
      rw [lead_cons]
      simp only [List.length_cons] at h
      split
      · obtain ⟨a, ha⟩ := ih t.length (by omega) t rfl
        exact ⟨c :: a, by rw [List.cons_append, ← ha]⟩
      · split
        · have hl := (List.dropWhile_suffix (l := t) (fun b : UInt8 => decide (b.toNat ≠ 10))).length_le
          obtain ⟨a, ha⟩ := ih _ (by omega) (t.dropWhile fun b => decide (b.toNat ≠ 10)) rfl
          refine ⟨c :: t.takeWhile (fun b => decide (b.toNat ≠ 10)) ++ a, ?_⟩
          rw [List.append_assoc, ← ha, List.cons_append, List.takeWhile_append_dropWhile]
        · exact ⟨[], rfl⟩
theorem lead_len (r : List UInt8) : (lead r).length ≤ r.length := by
  obtain ⟨a, ha⟩ := lead_suf r
  have := congrArg List.length ha
  simp only [List.length_append] at this
  omega
theorem lead_drop (r : List UInt8) : r.drop (r.length - (lead r).length) = lead r := by
  obtain ⟨a, ha⟩ := lead_suf r
  have hl := congrArg List.length ha
  simp only [List.length_append] at hl
  have : r.length - (lead r).length = a.length := by omega
  rw [this]
  conv => lhs; rw [ha]
  simp

/-! Strings -/
/-- How many bytes of what stands behind the opening sign belong to a string. -/
def strEnd : List UInt8 → Option Nat
  | [] => none
  | c :: t => if c.toNat = 34 then some 1 else if c.toNat = 10 then none else if c.toNat = 92 then (match t with
    | [] => none
    | _ :: t' => (strEnd t').map (· + 2)) else (strEnd t).map (· + 1)
/-- Is what stands between the signs a text? -/
def unq : List UInt8 → Bool
  | [] => true
  | c :: t => if c.toNat = 92 then (match t with
    | [] => false
    | d :: t' => (decide (d.toNat = 110) || decide (d.toNat = 116) || decide (d.toNat = 34) || decide (d.toNat = 92)) && unq t') else !(decide (c.toNat < 32) || decide (c.toNat = 34)) && unq t

/-! Words, numbers, signs -/
def keyL : List (List UInt8) := [[100,101,102],[100,121,110],[101,108,115,101],[102,110],[105,102],[105,110,112,117,116],[105,110,116],[108,101,116],[112,114,105,110,116],[114,101,116,117,114,110],[115,116,114],[117,115,101],[119,104,105,108,101]]
def isKey (w : List UInt8) : Bool := keyL.contains w
def signL : List UInt8 := [40, 41, 123, 125, 44, 59, 58, 46, 61, 43, 45, 42, 60]
def signLen : List UInt8 → Nat
  | [] => 0
  | c :: t => if c.toNat = 61 ∧ (t.head?.map UInt8.toNat) = some 61 then 2 else if signL.contains c = true then 1 else 0
/-- The token at which a text begins: its kind, how many bytes it has; or what is wrong. -/
def one : List UInt8 → Except Nat (Nat × Nat)
  | [] => .ok (0, 0)
  | c :: t =>
    if isWd c = true then
      if isKey ((c :: t).takeWhile isWd) = true then .ok (2, ((c :: t).takeWhile isWd).length)
      else if isLet c = true then (if 40 < ((c :: t).takeWhile isWd).length then .error 26 else .ok (1, ((c :: t).takeWhile isWd).length))
      else if numOk ((c :: t).takeWhile isWd) = true then .ok (3, ((c :: t).takeWhile isWd).length) else .error 23
    else if c.toNat = 34 then
      match strEnd t with
      | none => .error 22
      | some n => if unq (t.take (n - 1)) = true then .ok (4, n + 1) else .error 22
    else if signLen (c :: t) = 0 then .error 21 else .ok (5, signLen (c :: t))
theorem strEnd_cons (c : UInt8) (t : List UInt8) : strEnd (c :: t) = if c.toNat = 34 then some 1 else if c.toNat = 10 then none else if c.toNat = 92 then (match t with
    | [] => none
    | _ :: t' => (strEnd t').map (· + 2)) else (strEnd t).map (· + 1) := by cases t <;> rfl
theorem unq_cons (c : UInt8) (t : List UInt8) : unq (c :: t) = if c.toNat = 92 then (match t with
    | [] => false
    | d :: t' => (decide (d.toNat = 110) || decide (d.toNat = 116) || decide (d.toNat = 34) || decide (d.toNat = 92)) && unq t') else !(decide (c.toNat < 32) || decide (c.toNat = 34)) && unq t := by cases t <;> rfl
theorem strEnd_le : ∀ (t : List UInt8) (n : Nat), strEnd t = some n → 1 ≤ n ∧ n ≤ t.length
  | [], n, h => by simp [strEnd] at h
  | c :: t, n, h => by
    rw [strEnd_cons] at h
    split at h
    · simp at h; subst h; simp
    · split at h
      · cases h
      · split at h
        · match t, h with
          | [], h => cases h
          | d :: t', h =>
            simp only [Option.map_eq_some_iff] at h
            obtain ⟨m, hm, rfl⟩ := h
            have := strEnd_le t' m hm
            simp only [List.length_cons]
            omega
        · simp only [Option.map_eq_some_iff] at h
          obtain ⟨m, hm, rfl⟩ := h
          have := strEnd_le t m hm
          simp only [List.length_cons]
          omega
theorem one_len {r : List UInt8} {k n : Nat} (h : one r = .ok (k, n)) : n ≤ r.length ∧ (k = 0 ↔ r = []) ∧ (r ≠ [] → 1 ≤ n) ∧ k ≤ 5 := by
  cases r with
  | nil =>
    simp only [one, Except.ok.injEq, Prod.mk.injEq] at h
    obtain ⟨rfl, rfl⟩ := h
    simp
  | cons c t =>
    have hw : ((c :: t).takeWhile isWd).length ≤ (c :: t).length := (List.takeWhile_prefix (l := c :: t) isWd).length_le
    have hw1 : isWd c = true → 1 ≤ ((c :: t).takeWhile isWd).length := fun h => by rw [List.takeWhile_cons, if_pos h]; simp
    simp only [one] at h
    split at h
    · rename_i hc
      have := hw1 hc
      split at h
      · simp only [Except.ok.injEq, Prod.mk.injEq] at h
        obtain ⟨rfl, rfl⟩ := h
        simp_all
      · split at h
        · split at h
          · cases h
          · simp only [Except.ok.injEq, Prod.mk.injEq] at h
            obtain ⟨rfl, rfl⟩ := h
            simp_all
        · split at h
          · simp only [Except.ok.injEq, Prod.mk.injEq] at h
            obtain ⟨rfl, rfl⟩ := h
            simp_all
          · cases h
    · split at h
      · split at h
        · cases h
        · rename_i m hm
          have := strEnd_le t m hm
          split at h
          · simp only [Except.ok.injEq, Prod.mk.injEq] at h
            obtain ⟨rfl, rfl⟩ := h
            simp only [List.length_cons]
            simp
            omega
          · cases h
      · split at h
        · cases h
        · rename_i h0
          simp only [Except.ok.injEq, Prod.mk.injEq] at h
          obtain ⟨rfl, rfl⟩ := h
          refine ⟨?_, by simp, fun _ => by omega, by omega⟩
          rw [signLen]
          split
          · rename_i hq
            cases t with
            | nil => simp at hq
            | cons d t => simp
          · split <;> simp

/-! Characters -/
/-- Where the first byte stands that isn't UTF-8, from a place on. -/
def badG (s : List UInt8) : Nat → Nat → Option Nat
  | 0, _ => none
  | f + 1, at' => if at' < s.length then (if (dec (s.drop at')).1 = 65533 ∧ (dec (s.drop at')).2 = 1 then some at' else badG s f (at' + (dec (s.drop at')).2)) else none
def bad (s : List UInt8) : Option Nat := badG s (s.length + 1) 0

/-! All tokens -/
abbrev Tok := Nat × Nat × List UInt8 × List UInt8
def tokA (t : Tok) : AV := .agg [.int .i64 t.1, .int .i64 t.2.1, .str t.2.2.1, .str t.2.2.2]
def lexG (s : List UInt8) : Nat → Nat → List Tok → Except (Nat × Nat) (List Tok)
  | 0, at', _ => .error (0, at')
  | f + 1, at', out =>
    match one (lead (s.drop at')) with
    | .error e => .error (e, s.length - (lead (s.drop at')).length)
    | .ok (k, n) =>
      if 4000 ≤ out.length then .error (5, s.length - (lead (s.drop at')).length)
      else if k = 0 then .ok (out ++ [(k, s.length - (lead (s.drop at')).length, (s.drop at').take ((s.drop at').length - (lead (s.drop at')).length), (lead (s.drop at')).take n)])
      else lexG s f (s.length - (lead (s.drop at')).length + n) (out ++ [(k, s.length - (lead (s.drop at')).length, (s.drop at').take ((s.drop at').length - (lead (s.drop at')).length), (lead (s.drop at')).take n)])
def lex (s : List UInt8) : Except (Nat × Nat) (List Tok) :=
  if 16384 < s.length then .error (5, 16384) else match bad s with
  | some a => .error (20, a)
  | none => lexG s (s.length + 1) 0 []
end Go.Proofs.YtiagmokcjljliaaGreatDoor

/- ScriptWords, in plain Lean: what the lexers' loops go through. -/
namespace Go.Proofs.YtiagmokcjljliaaGreatDoor
set_option linter.unusedVariables false
set_option linter.unusedSimpArgs false
open Go Go.Ab

/-! Runs of bytes of a kind -/
theorem drop_get {s : List UInt8} {i : Nat} {c : UInt8} (h : s[i]? = some c) : s.drop i = c :: s.drop (i + 1) := by
  obtain ⟨hi, rfl⟩ := List.getElem?_eq_some_iff.1 h
  exact List.drop_eq_getElem_cons hi
theorem get_some {s : List UInt8} {i : Nat} (h : i < s.length) : ∃ c, s[i]? = some c := ⟨_, List.getElem?_eq_getElem h⟩
theorem get_lt {s : List UInt8} {i : Nat} {c : UInt8} (h : s[i]? = some c) : i < s.length := (List.getElem?_eq_some_iff.1 h).1
def runTo (p : UInt8 → Bool) (s : List UInt8) (i : Nat) : Nat := s.length - ((s.drop i).dropWhile p).length
theorem dw_len (p : UInt8 → Bool) (r : List UInt8) : (r.dropWhile p).length ≤ r.length := (List.dropWhile_suffix (l := r) p).length_le
theorem dw_drop (p : UInt8 → Bool) : ∀ r : List UInt8, r.drop (r.length - (r.dropWhile p).length) = r.dropWhile p
  | [] => rfl
  | c :: r => by
    by_cases h : p c = true
    · rw [List.dropWhile_cons, if_pos h]
      have := dw_len p r
      rw [show (c :: r).length - (r.dropWhile p).length = (r.length - (r.dropWhile p).length) + 1 by simp only [List.length_cons]; omega, List.drop_succ_cons]
      exact dw_drop p r
    · rw [List.dropWhile_cons, if_neg h, Nat.sub_self]
      rfl
theorem runTo_le (p : UInt8 → Bool) (s : List UInt8) (i : Nat) : runTo p s i ≤ s.length := Nat.sub_le _ _
theorem runTo_ge (p : UInt8 → Bool) (s : List UInt8) {i : Nat} (h : i ≤ s.length) : i ≤ runTo p s i := by
  have := dw_len p (s.drop i)
  rw [List.length_drop] at this
  unfold runTo
  omega
theorem runTo_drop (p : UInt8 → Bool) (s : List UInt8) {i : Nat} (h : i ≤ s.length) : s.drop (runTo p s i) = (s.drop i).dropWhile p := by
  have hl := dw_len p (s.drop i)
  rw [← dw_drop p (s.drop i), List.drop_drop]
  rw [List.length_drop] at hl ⊢
  congr 1
  unfold runTo
  omega
theorem runTo_step {p : UInt8 → Bool} {s : List UInt8} {i : Nat} {c : UInt8} (h : s[i]? = some c) (hp : p c = true) : runTo p s i = runTo p s (i + 1) := by
  unfold runTo
  rw [drop_get h, List.dropWhile_cons, if_pos hp]
theorem runTo_stop {p : UInt8 → Bool} {s : List UInt8} {i : Nat} {c : UInt8} (h : s[i]? = some c) (hp : p c = false) : runTo p s i = i := by
  have := get_lt h
  unfold runTo
  rw [drop_get h, List.dropWhile_cons, if_neg (by rw [hp]; decide), List.length_cons, List.length_drop]
  omega
theorem runTo_end {p : UInt8 → Bool} {s : List UInt8} {i : Nat} (h : i = s.length) : runTo p s i = i := by
  subst h
  unfold runTo
  simp
theorem tw_dw (p : UInt8 → Bool) (r : List UInt8) : (r.takeWhile p).length + (r.dropWhile p).length = r.length := by
  rw [← List.length_append, List.takeWhile_append_dropWhile]
theorem runTo_eq (p : UInt8 → Bool) (s : List UInt8) {i : Nat} (h : i ≤ s.length) : runTo p s i = i + ((s.drop i).takeWhile p).length := by
  have := tw_dw p (s.drop i)
  rw [List.length_drop] at this
  unfold runTo
  omega
theorem take_tw (p : UInt8 → Bool) : ∀ r : List UInt8, r.take (r.takeWhile p).length = r.takeWhile p
  | [] => rfl
  | c :: r => by
    by_cases h : p c = true
    · rw [List.takeWhile_cons, if_pos h, List.length_cons, List.take_succ_cons, take_tw p r]
    · rw [List.takeWhile_cons, if_neg h]
      rfl
theorem cut_eq (s : List UInt8) (a b : Nat) : (s.take b).drop a = (s.drop a).take (b - a) := List.drop_take
theorem runTo_cut (p : UInt8 → Bool) (s : List UInt8) {i : Nat} (h : i ≤ s.length) : (s.take (runTo p s i)).drop i = (s.drop i).takeWhile p := by
  rw [cut_eq, runTo_eq p s h, Nat.add_sub_cancel_left, take_tw]

/-! What means nothing -/
def notNl (b : UInt8) : Bool := decide (b.toNat ≠ 10)
def leadTo (s : List UInt8) (i : Nat) : Nat := s.length - (lead (s.drop i)).length
theorem leadTo_le (s : List UInt8) (i : Nat) : leadTo s i ≤ s.length := Nat.sub_le _ _
theorem leadTo_ge (s : List UInt8) {i : Nat} (h : i ≤ s.length) : i ≤ leadTo s i := by
  have := lead_len (s.drop i)
  rw [List.length_drop] at this
  unfold leadTo
  omega
theorem leadTo_drop (s : List UInt8) {i : Nat} (h : i ≤ s.length) : s.drop (leadTo s i) = lead (s.drop i) := by
  have hl := lead_len (s.drop i)
  rw [← lead_drop (s.drop i), List.drop_drop]
  rw [List.length_drop] at hl ⊢
  congr 1
  unfold leadTo
  omega
theorem leadTo_blank {s : List UInt8} {i : Nat} {c : UInt8} (h : s[i]? = some c) (hc : isBl c = true) : leadTo s i = leadTo s (i + 1) := by
  unfold leadTo
  rw [drop_get h, lead_cons, if_pos hc]
theorem leadTo_run {s : List UInt8} {i : Nat} (h : i ≤ s.length) : leadTo s (runTo isBl s i) = leadTo s i := by
  unfold leadTo
  rw [runTo_drop isBl s h, lead_bl]
theorem leadTo_hash {s : List UInt8} {i : Nat} {c : UInt8} (h : s[i]? = some c) (hb : isBl c = false) (hc : c.toNat = 35) : leadTo s i = leadTo s (runTo notNl s i) := by
  have hi := get_lt h
  have hn : notNl c = true := by simp [notNl, hc]
  unfold leadTo
  rw [runTo_step h hn, runTo_drop notNl s (by omega), drop_get h, lead_cons, if_neg (by rw [hb]; decide), if_pos hc]
  rfl
theorem leadTo_stop {s : List UInt8} {i : Nat} {c : UInt8} (h : s[i]? = some c) (hb : isBl c = false) (hc : c.toNat ≠ 35) : leadTo s i = i := by
  have hi := get_lt h
  unfold leadTo
  rw [drop_get h, lead_cons, if_neg (by rw [hb]; decide), if_neg hc, List.length_cons, List.length_drop]
  omega
theorem leadTo_end {s : List UInt8} {i : Nat} (h : i = s.length) : leadTo s i = i := by
  subst h
  unfold leadTo
  rw [List.drop_length, lead_nil]
  rfl

/-! Numbers -/
def okN : Lib.NumEnd Nat → Bool
  | .ok _ => true
  | _ => false
def refN (n : Nat) (l : List UInt8) : Bool := okN (Lib.parseUintM 9223372036854775807 n l)
theorem numOk_eq (w : List UInt8) (h : w ≠ []) : numOk w = refN 0 w := by
  unfold numOk refN okN Lib.parseUintB
  rw [if_neg h]
  rfl
theorem refN_nil (n : Nat) : refN n [] = true := rfl
theorem refN_bad {c : UInt8} (h : isDig c = false) (n : Nat) (l : List UInt8) : refN n (c :: l) = false := by
  have : ¬(48 ≤ c.toNat ∧ c.toNat ≤ 57) := by simpa [isDig] using h
  simp [refN, Lib.parseUintM, this, okN]
theorem refN_big {c : UInt8} (h : isDig c = true) {n : Nat} (hn : (9223372036854775807 - (c.toNat - 48)) / 10 < n) (l : List UInt8) : refN n (c :: l) = false := by
  have hd : 48 ≤ c.toNat ∧ c.toNat ≤ 57 := by simpa [isDig] using h
  have h1 : 9223372036854775807 < n * 10 + (c.toNat - 48) := by omega
  by_cases h2 : 1844674407370955162 ≤ n
  · simp [refN, Lib.parseUintM, hd, h2, okN]
  · simp [refN, Lib.parseUintM, hd, h2, h1, okN]
theorem refN_step {c : UInt8} (h : isDig c = true) {n : Nat} (hn : n ≤ (9223372036854775807 - (c.toNat - 48)) / 10) (l : List UInt8) : refN n (c :: l) = refN (n * 10 + (c.toNat - 48)) l ∧ n * 10 + (c.toNat - 48) ≤ 9223372036854775807 := by
  have hd : 48 ≤ c.toNat ∧ c.toNat ≤ 57 := by simpa [isDig] using h
  have h1 : n * 10 + (c.toNat - 48) ≤ 9223372036854775807 := by omega
  have h2 : ¬1844674407370955162 ≤ n := by omega
  have h3 : ¬9223372036854775807 < n * 10 + (c.toNat - 48) := by omega
  refine ⟨?_, h1⟩
  simp [refN, Lib.parseUintM, hd, h2, h3]

/-! Keys -/
theorem key_head : ∀ {c : UInt8} {w : List UInt8}, isKey (c :: w) = true → isLet c = true := by
  intro c w h
  have h : (c :: w) ∈ keyL := by simpa [isKey] using h
  simp only [keyL, List.mem_cons, List.cons.injEq, List.not_mem_nil, or_false] at h
  rcases h with h | h | h | h | h | h | h | h | h | h | h | h | h <;> (obtain ⟨rfl, _⟩ := h; decide)
theorem let_dig {c : UInt8} (h : isDig c = true) : isLet c = false := by
  have hd : 48 ≤ c.toNat ∧ c.toNat ≤ 57 := by simpa [isDig] using h
  simp only [isLet, Bool.or_eq_false_iff, decide_eq_false_iff_not]
  omega
theorem key_dig {c : UInt8} (w : List UInt8) (h : isDig c = true) : isKey (c :: w) = false := by
  cases hk : isKey (c :: w)
  · rfl
  · have := key_head hk
    rw [let_dig h] at this
    cases this

/-! Strings -/
def esc (d : UInt8) : Option UInt8 := if d.toNat = 110 then some 10 else if d.toNat = 116 then some 9 else if d.toNat = 34 then some 34 else if d.toNat = 92 then some 92 else none
def unqT : List UInt8 → Option (List UInt8)
  | [] => some []
  | c :: t => if c.toNat = 92 then (match t with
    | [] => none
    | d :: t' => (esc d).bind fun e => (unqT t').map (e :: ·)) else if c.toNat < 32 ∨ c.toNat = 34 then none else (unqT t).map (c :: ·)
theorem unqT_cons (c : UInt8) (t : List UInt8) : unqT (c :: t) = if c.toNat = 92 then (match t with
    | [] => none
    | d :: t' => (esc d).bind fun e => (unqT t').map (e :: ·)) else if c.toNat < 32 ∨ c.toNat = 34 then none else (unqT t).map (c :: ·) := by cases t <;> rfl
theorem unq_eq : ∀ l : List UInt8, unq l = (unqT l).isSome
  | [] => rfl
  | c :: t => by
    rw [unq_cons, unqT_cons]
    by_cases h : c.toNat = 92
    · rw [if_pos h, if_pos h]
      cases t with
      | nil => rfl
      | cons d t' =>
        show ((decide (d.toNat = 110) || decide (d.toNat = 116) || decide (d.toNat = 34) || decide (d.toNat = 92)) && unq t') = ((esc d).bind fun e => (unqT t').map (e :: ·)).isSome
        rw [unq_eq t']
        unfold esc
        by_cases h1 : d.toNat = 110
        · simp [h1]
        · by_cases h2 : d.toNat = 116
          · simp [h2]
          · by_cases h3 : d.toNat = 34
            · simp [h3]
            · by_cases h4 : d.toNat = 92
              · simp [h4]
              · simp [h1, h2, h3, h4]
    · rw [if_neg h, if_neg h, unq_eq t]
      by_cases h2 : c.toNat < 32 ∨ c.toNat = 34
      · rw [if_pos h2]
        rcases h2 with h2 | h2 <;> simp [h2]
      · rw [if_neg h2]
        simp only [not_or] at h2
        simp [h2.1, h2.2]
def pre (out : List UInt8) (x : Option (List UInt8)) : Option (List UInt8) := x.map (out ++ ·)
theorem pre_nil (x : Option (List UInt8)) : pre [] x = x := by cases x <;> rfl
theorem pre_some (o t : List UInt8) : pre o (some t) = some (o ++ t) := rfl
theorem pre_none (o : List UInt8) : pre o none = none := rfl
theorem pre_cons (o : List UInt8) (c : UInt8) (x : Option (List UInt8)) : pre o (x.map (c :: ·)) = pre (o ++ [c]) x := by cases x <;> simp [pre]
theorem unqT_nil : unqT [] = some [] := rfl
theorem unqT_end {c : UInt8} (h : c.toNat = 92) : unqT [c] = none := by rw [unqT_cons, if_pos h]
theorem unqT_esc {c d e : UInt8} (h : c.toNat = 92) (he : esc d = some e) (t : List UInt8) (o : List UInt8) : pre o (unqT (c :: d :: t)) = pre (o ++ [e]) (unqT t) := by
  rw [unqT_cons, if_pos h]
  show pre o ((esc d).bind fun e => (unqT t).map (e :: ·)) = _
  rw [he, Option.bind_some, pre_cons]
theorem unqT_bad {c d : UInt8} (h : c.toNat = 92) (he : esc d = none) (t : List UInt8) : unqT (c :: d :: t) = none := by
  rw [unqT_cons, if_pos h]
  show ((esc d).bind fun e => (unqT t).map (e :: ·)) = _
  rw [he]
  rfl
theorem unqT_ctl {c : UInt8} (h : c.toNat ≠ 92) (hc : c.toNat < 32 ∨ c.toNat = 34) (t : List UInt8) : unqT (c :: t) = none := by rw [unqT_cons, if_neg h, if_pos hc]
theorem unqT_sign {c : UInt8} (h : c.toNat ≠ 92) (hc : ¬(c.toNat < 32 ∨ c.toNat = 34)) (t : List UInt8) (o : List UInt8) : pre o (unqT (c :: t)) = pre (o ++ [c]) (unqT t) := by rw [unqT_cons, if_neg h, if_neg hc, pre_cons]
/-- The text that a string stands for. -/
def unquote (s : List UInt8) : Option (List UInt8) :=
  if s.length < 2 ∨ s.head? ≠ some 34 ∨ s[s.length - 1]? ≠ some 34 then none else unqT ((s.take (s.length - 1)).drop 1)

/-- Where a string ends, from a place on: the place behind its sign. -/
def strTo (s : List UInt8) (i : Nat) : Option Nat := (strEnd (s.drop i)).map (· + i)
theorem strTo_end {s : List UInt8} {i : Nat} (h : s.length ≤ i) : strTo s i = none := by rw [strTo, List.drop_of_length_le h]; rfl
theorem strTo_quote {s : List UInt8} {i : Nat} {c : UInt8} (h : s[i]? = some c) (hc : c.toNat = 34) : strTo s i = some (i + 1) := by
  rw [strTo, drop_get h, strEnd_cons, if_pos hc, Option.map_some]
  congr 1
  omega
theorem strTo_nl {s : List UInt8} {i : Nat} {c : UInt8} (h : s[i]? = some c) (hc : c.toNat = 10) : strTo s i = none := by
  rw [strTo, drop_get h, strEnd_cons, if_neg (by omega), if_pos hc]
  rfl
theorem strTo_esc {s : List UInt8} {i : Nat} {c : UInt8} (h : s[i]? = some c) (hc : c.toNat = 92) : strTo s i = strTo s (i + 2) := by
  rw [strTo, drop_get h, strEnd_cons, if_neg (by omega), if_neg (by omega), if_pos hc]
  cases hd : s[i + 1]? with
  | none =>
    rw [List.getElem?_eq_none_iff] at hd
    rw [strTo_end (s := s) (i := i + 2) (by omega), List.drop_of_length_le hd]
    rfl
  | some d =>
    rw [drop_get hd, strTo]
    show ((strEnd (s.drop (i + 1 + 1))).map (· + 2)).map (· + i) = _
    rw [Option.map_map]
    congr 1
    funext n
    show n + 2 + i = n + (i + 2)
    omega
theorem strTo_other {s : List UInt8} {i : Nat} {c : UInt8} (h : s[i]? = some c) (h1 : c.toNat ≠ 34) (h2 : c.toNat ≠ 10) (h3 : c.toNat ≠ 92) : strTo s i = strTo s (i + 1) := by
  rw [strTo, drop_get h, strEnd_cons, if_neg h1, if_neg h2, if_neg h3, strTo, Option.map_map]
  congr 1
  funext n
  show n + 1 + i = n + (i + 1)
  omega

/-! Tokens -/
theorem one_let {c : UInt8} {t : List UInt8} (h : isLet c = true) : one (c :: t) = if isKey ((c :: t).takeWhile isWd) = true then .ok (2, ((c :: t).takeWhile isWd).length) else if 40 < ((c :: t).takeWhile isWd).length then .error 26 else .ok (1, ((c :: t).takeWhile isWd).length) := by
  have hw : isWd c = true := by simp [isWd, h]
  simp only [one]
  rw [if_pos hw, if_pos h]
theorem one_dig {c : UInt8} {t : List UInt8} (h : isDig c = true) : one (c :: t) = if refN 0 ((c :: t).takeWhile isWd) = true then .ok (3, ((c :: t).takeWhile isWd).length) else .error 23 := by
  have hw : isWd c = true := by simp [isWd, h]
  have h1 : (c :: t).takeWhile isWd = c :: t.takeWhile isWd := by rw [List.takeWhile_cons, if_pos hw]
  simp only [one]
  rw [if_pos hw, if_neg (by rw [h1, key_dig _ h]; decide), if_neg (by rw [let_dig h]; decide), numOk_eq _ (by rw [h1]; simp)]
theorem wd_no {c : UInt8} (h : c.toNat = 34) : isWd c = false := by simp [isWd, isLet, isDig, h]
theorem one_str {c : UInt8} {t : List UInt8} (h : c.toNat = 34) : one (c :: t) = match strEnd t with
    | none => .error 22
    | some n => if (unqT (t.take (n - 1))).isSome = true then .ok (4, n + 1) else .error 22 := by
  simp only [one]
  rw [if_neg (by rw [wd_no h]; decide), if_pos h]
  cases strEnd t with
  | none => rfl
  | some n => simp only [unq_eq]
theorem one_sign {c : UInt8} {t : List UInt8} (h1 : isWd c = false) (h2 : c.toNat ≠ 34) : one (c :: t) = if signLen (c :: t) = 0 then .error 21 else .ok (5, signLen (c :: t)) := by
  simp only [one]
  rw [if_neg (by rw [h1]; decide), if_neg h2]

/-! All tokens -/
def tokAt (s : List UInt8) (i k n : Nat) : Tok := (k, leadTo s i, (s.take (leadTo s i)).drop i, (s.take (leadTo s i + n)).drop (leadTo s i))
theorem lexG_eq (s : List UInt8) (f i : Nat) (out : List Tok) (h : i ≤ s.length) : lexG s (f + 1) i out = match one (s.drop (leadTo s i)) with
    | .error e => .error (e, leadTo s i)
    | .ok (k, n) => if 4000 ≤ out.length then .error (5, leadTo s i) else if k = 0 then .ok (out ++ [tokAt s i k n]) else lexG s f (leadTo s i + n) (out ++ [tokAt s i k n]) := by
  have h1 : (s.drop i).take ((s.drop i).length - (lead (s.drop i)).length) = (s.take (leadTo s i)).drop i := by
    rw [cut_eq, List.length_drop]
    congr 1
    unfold leadTo
    omega
  rw [lexG, leadTo_drop s h]
  cases ho : one (lead (s.drop i)) with
  | error e => rfl
  | ok p =>
    obtain ⟨k, n⟩ := p
    have h2 : (lead (s.drop i)).take n = (s.take (leadTo s i + n)).drop (leadTo s i) := by rw [cut_eq, leadTo_drop s h, Nat.add_sub_cancel_left]
    show (if 4000 ≤ out.length then _ else if k = 0 then Except.ok (out ++ [(k, leadTo s i, (s.drop i).take ((s.drop i).length - (lead (s.drop i)).length), (lead (s.drop i)).take n)]) else lexG s f (leadTo s i + n) (out ++ [(k, leadTo s i, (s.drop i).take ((s.drop i).length - (lead (s.drop i)).length), (lead (s.drop i)).take n)])) = _
    rw [h1, h2]
    rfl
/-- One more round, whatever is left: the count is great enough. -/
theorem lexG_more (s : List UInt8) : ∀ (f i : Nat) (out : List Tok), i ≤ s.length → s.length - i < f → lexG s f i out = lexG s (f + 1) i out
  | 0, i, out, h, hf => by omega
  | f + 1, i, out, h, hf => by
    rw [lexG_eq s f i out h, lexG_eq s (f + 1) i out h]
    cases ho : one (s.drop (leadTo s i)) with
    | error e => rfl
    | ok p =>
      obtain ⟨k, n⟩ := p
      have hl := one_len ho
      have hg := leadTo_ge s h
      have hle := leadTo_le s i
      simp only
      by_cases h1 : 4000 ≤ out.length
      · rw [if_pos h1, if_pos h1]
      · rw [if_neg h1, if_neg h1]
        by_cases h2 : k = 0
        · rw [if_pos h2, if_pos h2]
        · rw [if_neg h2, if_neg h2]
          have h3 : s.drop (leadTo s i) ≠ [] := fun hn => h2 (hl.2.1.2 hn)
          have h4 := hl.2.2.1 h3
          have h5 := hl.1
          rw [List.length_drop] at h5
          exact lexG_more s f _ _ (by omega) (by omega)
/-- All tokens from a place on, behind some. -/
def lexL (s : List UInt8) (i : Nat) (out : List Tok) : Except (Nat × Nat) (List Tok) := lexG s (s.length - i + 1) i out
theorem lexG_up (s : List UInt8) (i : Nat) (out : List Tok) (h : i ≤ s.length) : ∀ f, s.length - i < f → lexG s f i out = lexL s i out
  | 0, hf => by omega
  | f + 1, hf => by
    by_cases hq : s.length - i = f
    · rw [lexL, hq]
    · rw [← lexG_more s f i out h (by omega)]
      exact lexG_up s i out h f (by omega)
theorem lexL_eq (s : List UInt8) (i : Nat) (out : List Tok) (h : i ≤ s.length) : lexL s i out = match one (s.drop (leadTo s i)) with
    | .error e => .error (e, leadTo s i)
    | .ok (k, n) => if 4000 ≤ out.length then .error (5, leadTo s i) else if k = 0 then .ok (out ++ [tokAt s i k n]) else lexL s (leadTo s i + n) (out ++ [tokAt s i k n]) := by
  rw [lexL, lexG_eq s _ i out h]
  cases ho : one (s.drop (leadTo s i)) with
  | error e => rfl
  | ok p =>
    obtain ⟨k, n⟩ := p
    have hl := one_len ho
    have hg := leadTo_ge s h
    have hle := leadTo_le s i
    simp only
    by_cases h1 : 4000 ≤ out.length
    · rw [if_pos h1, if_pos h1]
    · rw [if_neg h1, if_neg h1]
      by_cases h2 : k = 0
      · rw [if_pos h2, if_pos h2]
      · rw [if_neg h2, if_neg h2]
        have h3 : s.drop (leadTo s i) ≠ [] := fun hn => h2 (hl.2.1.2 hn)
        have h4 := hl.2.2.1 h3
        have h5 := hl.1
        rw [List.length_drop] at h5
        exact lexG_up s _ _ (by omega) _ (by omega)
theorem lex_eq (s : List UInt8) : lex s = if 16384 < s.length then .error (5, 16384) else match bad s with
    | some a => .error (20, a)
    | none => lexL s 0 [] := rfl
/-- What may be wrong. -/
theorem lexL_err (s : List UInt8) : ∀ (d i : Nat) (out : List Tok) (e a : Nat), i ≤ s.length → s.length - i ≤ d → lexL s i out = .error (e, a) → e ∈ [5, 21, 22, 23, 26]
  | d, i, out, e, a, h, hd, hx => by
    rw [lexL_eq s i out h] at hx
    cases ho : one (s.drop (leadTo s i)) with
    | error e' =>
      rw [ho] at hx
      simp only [Except.error.injEq, Prod.mk.injEq] at hx
      obtain ⟨rfl, _⟩ := hx
      revert ho
      cases s.drop (leadTo s i) with
      | nil => intro ho; simp [one] at ho
      | cons c t =>
        intro ho
        simp only [one] at ho
        repeat' split at ho
        all_goals first | (cases ho; done) | (simp only [Except.error.injEq] at ho; subst ho; simp)
    | ok p =>
      obtain ⟨k, n⟩ := p
      rw [ho] at hx
      have hl := one_len ho
      have hg := leadTo_ge s h
      have hle := leadTo_le s i
      simp only at hx
      split at hx
      · simp only [Except.error.injEq, Prod.mk.injEq] at hx
        obtain ⟨rfl, _⟩ := hx
        simp
      · split at hx
        · cases hx
        · rename_i h2
          have h3 : s.drop (leadTo s i) ≠ [] := fun hn => h2 (hl.2.1.2 hn)
          have h4 := hl.2.2.1 h3
          have h5 := hl.1
          rw [List.length_drop] at h5
          cases d with
          | zero => omega
          | succ d => exact lexL_err s d _ _ e a (by omega) (by omega) hx
theorem lex_err {s : List UInt8} {e a : Nat} (h : lex s = .error (e, a)) : e ∈ [5, 20, 21, 22, 23, 26] := by
  rw [lex_eq] at h
  split at h
  · simp only [Except.error.injEq, Prod.mk.injEq] at h
    obtain ⟨rfl, _⟩ := h
    simp
  · split at h
    · simp only [Except.error.injEq, Prod.mk.injEq] at h
      obtain ⟨rfl, _⟩ := h
      simp
    · have := lexL_err s s.length 0 [] e a (by omega) (by omega) h
      simp only [List.mem_cons, List.not_mem_nil, or_false] at this ⊢
      omega
theorem lexL_ok (s : List UInt8) : ∀ (d i : Nat) (out l : List Tok), i ≤ s.length → s.length - i ≤ d → lexL s i out = .ok l → out <+: l ∧ out.length < l.length
  | d, i, out, l, h, hd, hx => by
    rw [lexL_eq s i out h] at hx
    cases ho : one (s.drop (leadTo s i)) with
    | error e' => rw [ho] at hx; cases hx
    | ok p =>
      obtain ⟨k, n⟩ := p
      rw [ho] at hx
      have hl := one_len ho
      have hg := leadTo_ge s h
      have hle := leadTo_le s i
      simp only at hx
      split at hx
      · cases hx
      · split at hx
        · simp only [Except.ok.injEq] at hx
          subst hx
          exact ⟨List.prefix_append _ _, by simp⟩
        · rename_i h2
          have h3 : s.drop (leadTo s i) ≠ [] := fun hn => h2 (hl.2.1.2 hn)
          have h4 := hl.2.2.1 h3
          have h5 := hl.1
          rw [List.length_drop] at h5
          cases d with
          | zero => omega
          | succ d =>
            obtain ⟨g1, g2⟩ := lexL_ok s d _ _ l (by omega) (by omega) hx
            refine ⟨(List.prefix_append _ _).trans g1, ?_⟩
            simp only [List.length_append, List.length_cons, List.length_nil] at g2
            omega
end Go.Proofs.YtiagmokcjljliaaGreatDoor

/- ScriptWords, in plain Lean: characters, and the first token. -/
namespace Go.Proofs.YtiagmokcjljliaaGreatDoor
set_option linter.unusedVariables false
set_option linter.unusedSimpArgs false
open Go Go.Ab

def isMore (b : UInt8) : Bool := decide (128 ≤ b.toNat) && decide (b.toNat < 192)
def okCp (v least : Nat) : Bool := !(decide (v < least) || decide (1114111 < v) || (decide (55296 ≤ v) && decide (v < 57344)))
theorem okCp_eq (v least : Nat) : okCp v least = true ↔ (v ≥ least ∧ (v < 55296 ∨ (57344 ≤ v ∧ v ≤ 1114111))) := by
  simp only [okCp, Bool.not_eq_true', Bool.or_eq_false_iff, decide_eq_false_iff_not, Bool.and_eq_false_iff]
  omega
def cont : Nat → Nat → List UInt8 → Option Nat
  | 0, a, _ => some a
  | n + 1, a, [] => none
  | n + 1, a, c :: t => if isMore c = true then cont n (a * 64 + (c.toNat - 128)) t else none
theorem cont_no {c : UInt8} (h : isMore c = false) (n a : Nat) (t : List UInt8) : cont (n + 1) a (c :: t) = none := by rw [cont, if_neg (by rw [h]; decide)]
theorem cont_yes {c : UInt8} (h : isMore c = true) (n a : Nat) (t : List UInt8) : cont (n + 1) a (c :: t) = cont n (a * 64 + (c.toNat - 128)) t := by rw [cont, if_pos h]
/-- A character of so many bytes, by its first one's bits. -/
def decS (n first least : Nat) (t : List UInt8) : Option (Nat × Nat) :=
  if t.length + 1 < n then none else match cont (n - 1) first t with
  | none => none
  | some v => if okCp v least = true then some (v, n) else none
def orBad (x : Option (Nat × Nat)) : Nat × Nat := x.getD (65533, 1)
theorem more_iff (c : UInt8) : isMore c = true ↔ c.toNat / 64 = 2 := by
  have := c.toNat_lt
  simp only [isMore, Bool.and_eq_true, decide_eq_true_eq]
  omega
theorem more_no {c : UInt8} (h : ¬isMore c = true) : ¬c.toNat / 64 = 2 := fun h' => h ((more_iff c).2 h')
theorem dec_one {b : UInt8} (h : b.toNat < 128) (t : List UInt8) : dec (b :: t) = (b.toNat, 1) := by simp [dec, Lib.decodeN, h]
theorem dec_bad {b : UInt8} (h : 128 ≤ b.toNat) (h2 : b.toNat < 192 ∨ 248 ≤ b.toNat) (t : List UInt8) : dec (b :: t) = (65533, 1) := by
  have hb := b.toNat_lt
  have e1 : ¬b.toNat < 128 := by omega
  have e2 : ¬b.toNat / 32 = 6 := by omega
  have e3 : ¬b.toNat / 16 = 14 := by omega
  have e4 : ¬b.toNat / 8 = 30 := by omega
  simp [dec, Lib.decodeN, e1, e2, e3, e4]
theorem dec_two {b : UInt8} (h : 192 ≤ b.toNat ∧ b.toNat < 224) (t : List UInt8) : dec (b :: t) = orBad (decS 2 (b.toNat - 192) 128 t) := by
  have e1 : ¬b.toNat < 128 := by omega
  have e2 : b.toNat / 32 = 6 := by omega
  have e3 : ¬b.toNat / 16 = 14 := by omega
  have e4 : ¬b.toNat / 8 = 30 := by omega
  match t with
  | [] => simp [dec, Lib.decodeN, decS, orBad, e1, e3, e4]
  | c :: t =>
    have hc := c.toNat_lt
    by_cases k1 : isMore c = true
    · have m1 := (more_iff c).1 k1
      have v : b.toNat % 32 * 64 + c.toNat % 64 = (b.toNat - 192) * 64 + (c.toNat - 128) := by omega
      have hv : (b.toNat - 192) * 64 + (c.toNat - 128) < 2048 := by omega
      simp only [dec, Lib.decodeN, decS, cont, orBad, List.length_cons, List.getElem?_cons_zero, Option.getD_some, if_neg e1, e2, m1, true_and, k1, if_true, v, Nat.add_one_sub_one, Nat.reduceSub]
      rw [if_neg (show ¬(t.length + 1 + 1 < 2) by omega), if_pos (show 1 < t.length + 1 + 1 ∧ True by simp)]
      by_cases hk : okCp ((b.toNat - 192) * 64 + (c.toNat - 128)) 128 = true
      · rw [if_pos hk, if_pos ((okCp_eq _ _).1 hk).1]
        rfl
      · rw [if_neg hk, if_neg (fun hq => hk ((okCp_eq _ _).2 ⟨hq, by omega⟩))]
        rfl
    · have m1 := more_no k1
      simp [dec, Lib.decodeN, decS, cont, orBad, e1, e3, e4, m1, k1]
theorem dec_three {b : UInt8} (h : 224 ≤ b.toNat ∧ b.toNat < 240) (t : List UInt8) : dec (b :: t) = orBad (decS 3 (b.toNat - 224) 2048 t) := by
  have e1 : ¬b.toNat < 128 := by omega
  have e2 : ¬b.toNat / 32 = 6 := by omega
  have e3 : b.toNat / 16 = 14 := by omega
  have e4 : ¬b.toNat / 8 = 30 := by omega
  match t with
  | [] => simp [dec, Lib.decodeN, decS, orBad, e1, e2, e4]
  | [c] => simp [dec, Lib.decodeN, decS, orBad, e1, e2, e4]
  | c :: d :: t =>
    have hc := c.toNat_lt
    have hd := d.toNat_lt
    by_cases k1 : isMore c = true
    · have m1 := (more_iff c).1 k1
      by_cases k2 : isMore d = true
      · have m2 := (more_iff d).1 k2
        have v : b.toNat % 16 * 4096 + c.toNat % 64 * 64 + d.toNat % 64 = ((b.toNat - 224) * 64 + (c.toNat - 128)) * 64 + (d.toNat - 128) := by omega
        simp only [dec, Lib.decodeN, decS, cont, orBad, List.length_cons, List.getElem?_cons_zero, List.getElem?_cons_succ, Option.getD_some, if_neg e1, e2, e3, m1, m2, true_and, false_and, and_true, k1, k2, if_true, if_false, v, Nat.add_one_sub_one, Nat.reduceSub]
        rw [if_neg (show ¬(t.length + 1 + 1 + 1 < 3) by omega), if_pos (show 1 < t.length + 1 + 1 + 1 ∧ 2 < t.length + 1 + 1 + 1 by omega)]
        by_cases hk : okCp (((b.toNat - 224) * 64 + (c.toNat - 128)) * 64 + (d.toNat - 128)) 2048 = true
        · rw [if_pos hk, if_pos ((okCp_eq _ _).1 hk)]
          rfl
        · rw [if_neg hk, if_neg (fun hq => hk ((okCp_eq _ _).2 hq))]
          rfl
      · have m2 := more_no k2
        simp [dec, Lib.decodeN, decS, cont, orBad, e1, e2, e4, m2, k1, k2]
    · have m1 := more_no k1
      simp [dec, Lib.decodeN, decS, cont, orBad, e1, e2, e4, m1, k1]
theorem dec_four {b : UInt8} (h : 240 ≤ b.toNat ∧ b.toNat < 248) (t : List UInt8) : dec (b :: t) = orBad (decS 4 (b.toNat - 240) 65536 t) := by
  have e1 : ¬b.toNat < 128 := by omega
  have e2 : ¬b.toNat / 32 = 6 := by omega
  have e3 : ¬b.toNat / 16 = 14 := by omega
  have e4 : b.toNat / 8 = 30 := by omega
  match t with
  | [] => simp [dec, Lib.decodeN, decS, orBad, e1, e2, e3]
  | [c] => simp [dec, Lib.decodeN, decS, orBad, e1, e2, e3]
  | [c, d] => simp [dec, Lib.decodeN, decS, orBad, e1, e2, e3]
  | c :: d :: e :: t =>
    have hc := c.toNat_lt
    have hd := d.toNat_lt
    have he := e.toNat_lt
    by_cases k1 : isMore c = true
    · have m1 := (more_iff c).1 k1
      by_cases k2 : isMore d = true
      · have m2 := (more_iff d).1 k2
        by_cases k3 : isMore e = true
        · have m3 := (more_iff e).1 k3
          have v : b.toNat % 8 * 262144 + c.toNat % 64 * 4096 + d.toNat % 64 * 64 + e.toNat % 64 = (((b.toNat - 240) * 64 + (c.toNat - 128)) * 64 + (d.toNat - 128)) * 64 + (e.toNat - 128) := by omega
          simp only [dec, Lib.decodeN, decS, cont, orBad, List.length_cons, List.getElem?_cons_zero, List.getElem?_cons_succ, Option.getD_some, if_neg e1, e2, e3, e4, m1, m2, m3, true_and, false_and, and_true, k1, k2, k3, if_true, if_false, v, Nat.add_one_sub_one, Nat.reduceSub]
          rw [if_neg (show ¬(t.length + 1 + 1 + 1 + 1 < 4) by omega), if_pos (show 1 < t.length + 1 + 1 + 1 + 1 ∧ 2 < t.length + 1 + 1 + 1 + 1 ∧ 3 < t.length + 1 + 1 + 1 + 1 by omega)]
          by_cases hk : okCp ((((b.toNat - 240) * 64 + (c.toNat - 128)) * 64 + (d.toNat - 128)) * 64 + (e.toNat - 128)) 65536 = true
          · rw [if_pos hk, if_pos ((okCp_eq _ _).1 hk)]
            rfl
          · rw [if_neg hk, if_neg (fun hq => hk ((okCp_eq _ _).2 hq))]
            rfl
        · have m3 := more_no k3
          simp [dec, Lib.decodeN, decS, cont, orBad, e1, e2, e3, m3, k1, k2, k3]
      · have m2 := more_no k2
        simp [dec, Lib.decodeN, decS, cont, orBad, e1, e2, e3, m2, k1, k2]
    · have m1 := more_no k1
      simp [dec, Lib.decodeN, decS, cont, orBad, e1, e2, e3, m1, k1]
theorem decS_some {n first least : Nat} {t : List UInt8} {r : Nat × Nat} (h : decS n first least t = some r) : r.2 = n ∧ n ≤ t.length + 1 := by
  unfold decS at h
  split at h
  · cases h
  · split at h
    · cases h
    · split at h
      · simp only [Option.some.injEq] at h
        subst h
        exact ⟨rfl, by omega⟩
      · cases h
/-- How many bytes a character has. -/
theorem dec_len (b : UInt8) (t : List UInt8) : 1 ≤ (dec (b :: t)).2 ∧ (dec (b :: t)).2 ≤ t.length + 1 := by
  have hb := b.toNat_lt
  by_cases h1 : b.toNat < 128
  · rw [dec_one h1]; simp
  · by_cases h2 : b.toNat < 192 ∨ 248 ≤ b.toNat
    · rw [dec_bad (by omega) h2]; simp
    · have : ∃ n first least, 2 ≤ n ∧ dec (b :: t) = orBad (decS n first least t) := by
        by_cases h3 : b.toNat < 224
        · exact ⟨_, _, _, by omega, dec_two (by omega) t⟩
        · by_cases h4 : b.toNat < 240
          · exact ⟨_, _, _, by omega, dec_three (by omega) t⟩
          · exact ⟨_, _, _, by omega, dec_four (by omega) t⟩
      obtain ⟨n, first, least, hn, he⟩ := this
      rw [he]
      cases hd : decS n first least t with
      | none => simp [orBad]
      | some r =>
        have := decS_some hd
        simp only [orBad, Option.getD_some]
        omega

/-! The place of the first byte that isn't UTF-8 -/
theorem badG_more (s : List UInt8) : ∀ (f i : Nat), s.length - i < f → badG s f i = badG s (f + 1) i
  | 0, i, hf => by omega
  | f + 1, i, hf => by
    rw [badG, badG]
    by_cases h : i < s.length
    · rw [if_pos h, if_pos h]
      obtain ⟨c, hc⟩ := get_some h
      have := dec_len c (s.drop (i + 1))
      rw [← drop_get hc] at this
      split
      · rfl
      · exact badG_more s f _ (by omega)
    · rw [if_neg h, if_neg h]
def badFrom (s : List UInt8) (i : Nat) : Option Nat := badG s (s.length - i + 1) i
theorem badG_up (s : List UInt8) (i : Nat) : ∀ f, s.length - i < f → badG s f i = badFrom s i
  | 0, hf => by omega
  | f + 1, hf => by
    by_cases hq : s.length - i = f
    · rw [badFrom, hq]
    · rw [← badG_more s f i (by omega)]
      exact badG_up s i f (by omega)
theorem bad_eq (s : List UInt8) : bad s = badFrom s 0 := rfl
theorem badFrom_end {s : List UInt8} {i : Nat} (h : s.length ≤ i) : badFrom s i = none := by rw [badFrom, badG, if_neg (by omega)]
theorem badFrom_bad {s : List UInt8} {i : Nat} (h : i < s.length) (h1 : (dec (s.drop i)).1 = 65533) (h2 : (dec (s.drop i)).2 = 1) : badFrom s i = some i := by rw [badFrom, badG, if_pos h, if_pos ⟨h1, h2⟩]
theorem badFrom_step {s : List UInt8} {i : Nat} (h : i < s.length) (h1 : ¬((dec (s.drop i)).1 = 65533 ∧ (dec (s.drop i)).2 = 1)) : badFrom s i = badFrom s (i + (dec (s.drop i)).2) := by
  obtain ⟨c, hc⟩ := get_some h
  have := dec_len c (s.drop (i + 1))
  rw [← drop_get hc] at this
  rw [badFrom, badG, if_pos h, if_neg h1]
  exact badG_up s _ _ (by omega)

/-! The first token -/
theorem lex_ne {s : List UInt8} {l : List Tok} (h : lex s = .ok l) : l ≠ [] := by
  rw [lex_eq] at h
  split at h
  · cases h
  · split at h
    · cases h
    · have := (lexL_ok s s.length 0 [] l (by omega) (by omega) h).2
      intro hl
      subst hl
      simp at this
theorem lex_first {s : List UInt8} {t : Tok} {l : List Tok} (h : lex s = .ok (t :: l)) : ∃ k n, one (s.drop (leadTo s 0)) = .ok (k, n) ∧ t = tokAt s 0 k n := by
  rw [lex_eq] at h
  split at h
  · cases h
  · split at h
    · cases h
    · rw [lexL_eq s 0 [] (by omega)] at h
      cases ho : one (s.drop (leadTo s 0)) with
      | error e => rw [ho] at h; cases h
      | ok p =>
        obtain ⟨k, n⟩ := p
        rw [ho] at h
        refine ⟨k, n, rfl, ?_⟩
        have hl := one_len ho
        have hle := leadTo_le s 0
        simp only [List.length_nil, List.nil_append] at h
        rw [if_neg (by omega)] at h
        split at h
        · simp only [Except.ok.injEq, List.cons.injEq] at h
          exact h.1.symm
        · rename_i h2
          have h5 := hl.1
          rw [List.length_drop] at h5
          obtain ⟨r, hr⟩ := (lexL_ok s s.length _ _ _ (by omega) (by omega) h).1
          simp only [List.cons_append, List.nil_append, List.cons.injEq] at hr
          exact hr.1.symm
theorem first_type {s : List UInt8} {t : Tok} {l : List Tok} (h : lex s = .ok (t :: l)) (hk : t.1 ≠ 1) : t.2.2.2 ≠ [116, 121, 112, 101] := by
  obtain ⟨k, n, ho, rfl⟩ := lex_first h
  intro ht
  have hk : k ≠ 1 := hk
  have ht : (s.take (leadTo s 0 + n)).drop (leadTo s 0) = [116, 121, 112, 101] := ht
  rw [cut_eq, Nat.add_sub_cancel_left] at ht
  revert ho ht
  cases s.drop (leadTo s 0) with
  | nil => intro _ ht; simp at ht
  | cons c r =>
    intro ho ht
    cases n with
    | zero => simp at ht
    | succ n =>
      have hc : c = 116 := by simp only [List.take_succ_cons, List.cons.injEq] at ht; exact ht.1
      have hl : isLet c = true := by rw [hc]; decide
      rw [one_let hl] at ho
      split at ho
      · rename_i hq
        simp only [Except.ok.injEq, Prod.mk.injEq] at ho
        rw [← ho.2, take_tw] at ht
        rw [ht] at hq
        revert hq
        decide
      · split at ho
        · cases ho
        · simp only [Except.ok.injEq, Prod.mk.injEq] at ho
          exact hk ho.1.symm
end Go.Proofs.YtiagmokcjljliaaGreatDoor
