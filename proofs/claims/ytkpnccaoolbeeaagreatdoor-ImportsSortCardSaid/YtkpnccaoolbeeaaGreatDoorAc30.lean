/- A region that is looked at while it runs: one run in the text's order serves every order. -/
import Derived.Test.YtkpnccaoolbeeaaGreatDoorAc14
namespace Go.Ab
set_option linter.unusedVariables false
set_option linter.unusedSimpArgs false
open Go Go.RowKit

section
variable {E : Env} {call : CallO} {ops : Array Oper} {α : Frm} {H : AHeap}

def dstAt (ops : Array Oper) (m : Nat) : Option Tmp := (ops[m]?).bind (·.dst)
def resAt (E : Env) (call : CallO) (ops : Array Oper) (α : Frm) (H : AHeap) (m : Nat) : Option (Bool × AV × AHeap) :=
  bnd ops[m]? fun o => stepX E call ops o (tr E call ops α H m).1 (tr E call ops α H m).2
def valAt (E : Env) (call : CallO) (ops : Array Oper) (α : Frm) (H : AHeap) (m : Nat) : AV := match resAt E call ops α H m with | some r => r.2.1 | none => undefA
/-- It ran, and wrote. -/
def wrAt (E : Env) (call : CallO) (ops : Array Oper) (α : Frm) (H : AHeap) (m : Nat) : Bool :=
  match resAt E call ops α H m, ops[m]? with | some r, some o => r.1 && decide (kdOf E o.op = .wr) | _, _ => false

def Fk (E : Env) (call : CallO) (ops : Array Oper) (α : Frm) (H : AHeap) (p : Nat → Bool) : Nat → Frm
  | 0 => α
  | k + 1 => if p k = true then put (Fk E call ops α H p k) (dstAt ops k) (valAt E call ops α H k) else Fk E call ops α H p k
def Hk (E : Env) (call : CallO) (ops : Array Oper) (α : Frm) (H : AHeap) (p : Nat → Bool) : Nat → AHeap
  | 0 => H
  | k + 1 => if p k = true ∧ wrAt E call ops α H k = true then (tr E call ops α H (k + 1)).2 else Hk E call ops α H p k

theorem stepX_keep {o : Oper} {r : Bool × AV × AHeap} {α : Frm} {H : AHeap} (h : stepX E call ops o α H = some r) (hk : ¬ (r.1 = true ∧ kdOf E o.op = .wr)) : r.2.2 = H := by
  unfold stepX at h
  cases hw : wantedA ops o.guard α with
  | none => simp [hw, bnd] at h
  | some b =>
    simp only [hw, bnd] at h
    cases b with
    | false => simp only [sel, Bool.false_eq_true, if_false, Option.some.injEq] at h; rw [← h]
    | true =>
      simp only [sel, if_true] at h
      cases hs : stepOp E call o.op (ev α) H with
      | none => simp [hs] at h
      | some q =>
        simp only [hs, Option.some.injEq] at h
        subst h
        cases hk' : kdOf E o.op with
        | ins => exact (ins_same hk' hs).1
        | rd => exact rd_same hk' hs
        | wr => exact absurd ⟨rfl, hk'⟩ hk

theorem tr_succ {m : Nat} (h : OkAt E call ops α H m) : tr E call ops α H (m + 1) = (put (tr E call ops α H m).1 (dstAt ops m) (valAt E call ops α H m), (tr E call ops α H (m + 1)).2) ∧
    (wrAt E call ops α H m = false → (tr E call ops α H (m + 1)).2 = (tr E call ops α H m).2) := by
  obtain ⟨o, r, ho, hr, _, _⟩ := h
  have hres : resAt E call ops α H m = some r := by simp [resAt, ho, bnd, hr]
  have htr : tr E call ops α H (m + 1) = (put (tr E call ops α H m).1 o.dst r.2.1, r.2.2) := by simp only [tr, ho, hr]
  constructor
  · rw [htr]
    simp [dstAt, ho, valAt, hres]
  · intro hw
    rw [htr]
    simp only [wrAt, hres, ho, Bool.and_eq_false_iff, decide_eq_false_iff_not] at hw
    exact stepX_keep hr (by rintro ⟨h1, h2⟩; rcases hw with h | h; · rw [h1] at h; cases h
                            · exact h h2)

theorem Fk_lt {i : Nat} (hok : ∀ m, m < i → OkAt E call ops α H m) : ∀ k, k ≤ i → Fk E call ops α H (fun m => decide (m < i)) k = (tr E call ops α H k).1
  | 0, _ => rfl
  | k + 1, hk => by
    simp only [Fk]
    rw [if_pos (by simp; omega), Fk_lt hok k (by omega)]
    have := (tr_succ (hok k (by omega))).1
    rw [this]

theorem Fk_ge {i : Nat} : ∀ k, i ≤ k → Fk E call ops α H (fun m => decide (m < i)) k = Fk E call ops α H (fun m => decide (m < i)) i
  | 0, hk => by have : i = 0 := by omega
                subst this; rfl
  | k + 1, hk => by
    by_cases e : i = k + 1
    · subst e; rfl
    · simp only [Fk]
      rw [if_neg (by simp; omega)]
      exact Fk_ge k (by omega)

theorem Hk_lt {i : Nat} (hok : ∀ m, m < i → OkAt E call ops α H m) : ∀ k, k ≤ i → Hk E call ops α H (fun m => decide (m < i)) k = (tr E call ops α H k).2
  | 0, _ => rfl
  | k + 1, hk => by
    simp only [Hk]
    by_cases hw : wrAt E call ops α H k = true
    · rw [if_pos ⟨by simp; omega, hw⟩]
    · rw [if_neg (fun h => hw h.2), Hk_lt hok k (by omega)]
      exact ((tr_succ (hok k (by omega))).2 (by simpa using hw)).symm

theorem Hk_ge {i : Nat} : ∀ k, i ≤ k → Hk E call ops α H (fun m => decide (m < i)) k = Hk E call ops α H (fun m => decide (m < i)) i
  | 0, hk => by have : i = 0 := by omega
                subst this; rfl
  | k + 1, hk => by
    by_cases e : i = k + 1
    · subst e; rfl
    · simp only [Hk]
      rw [if_neg (by simp; omega)]
      exact Hk_ge k (by omega)

theorem Fk_agree {p q : Nat → Bool} {t : Tmp} : ∀ k, (∀ m, m < k → p m ≠ q m → dstAt ops m ≠ some t) → Fk E call ops α H p k t = Fk E call ops α H q k t
  | 0, _ => rfl
  | k + 1, h => by
    have ih := Fk_agree (p := p) (q := q) (t := t) k fun m hm => h m (by omega)
    have hput : ∀ f : Frm, dstAt ops k ≠ some t → put f (dstAt ops k) (valAt E call ops α H k) t = f t := by
      intro f hne
      cases hd : dstAt ops k with
      | none => rfl
      | some d =>
        simp only [put]
        rw [if_neg]
        rintro rfl
        exact hne hd
    have hput2 : ∀ f g : Frm, f t = g t → put f (dstAt ops k) (valAt E call ops α H k) t = put g (dstAt ops k) (valAt E call ops α H k) t := by
      intro f g hfg
      cases hd : dstAt ops k with
      | none => exact hfg
      | some d => simp only [put]; split <;> simp_all
    simp only [Fk]
    by_cases hpq : p k = q k
    · rw [hpq]
      split
      · exact hput2 _ _ ih
      · exact ih
    · have hne := h k (by omega) hpq
      by_cases hp : p k = true
      · rw [if_pos hp, if_neg (by rw [hp] at hpq; exact fun e => hpq e.symm), hput _ hne]
        exact ih
      · rw [if_neg hp, if_pos (by cases hq : q k <;> simp_all), hput _ hne]
        exact ih

theorem Hk_agree {p q : Nat → Bool} : ∀ k, (∀ m, m < k → wrAt E call ops α H m = true → p m = q m) → Hk E call ops α H p k = Hk E call ops α H q k
  | 0, _ => rfl
  | k + 1, h => by
    have ih := Hk_agree (p := p) (q := q) k fun m hm => h m (by omega)
    simp only [Hk]
    by_cases hw : wrAt E call ops α H k = true
    · rw [h k (by omega) hw, ih]
    · rw [if_neg (fun h => hw h.2), if_neg (fun h => hw h.2), ih]

def insP (p : Nat → Bool) (i : Nat) : Nat → Bool := fun m => if m = i then true else p m
theorem insP_self (p : Nat → Bool) (i : Nat) : insP p i i = true := by simp [insP]
theorem insP_ne {p : Nat → Bool} {i m : Nat} (h : ¬ m = i) : insP p i m = p m := by simp [insP, h]

theorem Fk_insert {p : Nat → Bool} {i : Nat} (hpi : p i = false) : ∀ k, (∀ m, i < m → m < k → p m = true → ∀ d, dstAt ops i = some d → dstAt ops m ≠ some d) →
    Fk E call ops α H (insP p i) k = if i < k then put (Fk E call ops α H p k) (dstAt ops i) (valAt E call ops α H i) else Fk E call ops α H p k
  | 0, _ => by simp [Fk]
  | k + 1, h => by
    have ih := Fk_insert hpi k fun m h1 h2 => h m h1 (by omega)
    simp only [Fk]
    rcases Nat.lt_trichotomy k i with hlt | heq | hgt
    · rw [insP_ne (by omega : ¬ k = i), ih, if_neg (by omega : ¬ i < k), if_neg (by omega : ¬ i < k + 1)]
    · subst heq
      rw [insP_self, if_pos rfl, ih]
      simp [hpi]
    · rw [insP_ne (by omega : ¬ k = i), ih, if_pos hgt, if_pos (by omega : i < k + 1)]
      by_cases hp : p k = true
      · rw [if_pos hp, if_pos hp]
        exact put_comm _ _ _ (h k hgt (by omega) hp)
      · rw [if_neg hp, if_neg hp]

theorem Hk_insert_wr {p : Nat → Bool} {i : Nat} (hw : wrAt E call ops α H i = true) : ∀ k, i < k → (∀ m, i < m → m < k → p m = true → wrAt E call ops α H m = false) →
    Hk E call ops α H (insP p i) k = (tr E call ops α H (i + 1)).2
  | 0, hk, _ => by omega
  | k + 1, hk, h => by
    simp only [Hk]
    by_cases e : k = i
    · subst e
      rw [if_pos ⟨insP_self _ _, hw⟩]
    · rw [if_neg (fun hh => by
        have hp := hh.1
        rw [insP_ne e] at hp
        have := h k (by omega) (by omega) hp
        rw [this] at hh
        exact absurd hh.2 (by simp))]
      exact Hk_insert_wr hw k (by omega) fun m h1 h2 => h m h1 (by omega)

theorem Hk_last {p : Nat → Bool} : ∀ k, (∃ j, j < k ∧ p j = true ∧ wrAt E call ops α H j = true ∧ Hk E call ops α H p k = (tr E call ops α H (j + 1)).2 ∧ ∀ m, j < m → m < k → ¬ (p m = true ∧ wrAt E call ops α H m = true)) ∨
    ((∀ m, m < k → ¬ (p m = true ∧ wrAt E call ops α H m = true)) ∧ Hk E call ops α H p k = H)
  | 0 => .inr ⟨fun m hm => absurd hm (by omega), rfl⟩
  | k + 1 => by
    simp only [Hk]
    by_cases hw : p k = true ∧ wrAt E call ops α H k = true
    · exact .inl ⟨k, by omega, hw.1, hw.2, by rw [if_pos hw], fun m h1 h2 => absurd h1 (by omega)⟩
    · rw [if_neg hw]
      rcases Hk_last (p := p) k with ⟨j, h1, h2, h3, h4, h5⟩ | ⟨h1, h2⟩
      · refine .inl ⟨j, by omega, h2, h3, h4, fun m a b => ?_⟩
        by_cases e : m = k
        · subst e; exact hw
        · exact h5 m a (by omega)
      · refine .inr ⟨fun m hm => ?_, h2⟩
        by_cases e : m = k
        · subst e; exact hw
        · exact h1 m (by omega)

theorem tr_const {a : Nat} : ∀ b, a ≤ b → (∀ m, a ≤ m → m < b → OkAt E call ops α H m) → (∀ m, a ≤ m → m < b → wrAt E call ops α H m = false) → (tr E call ops α H b).2 = (tr E call ops α H a).2
  | 0, h, _, _ => by have : a = 0 := by omega
                     subst this; rfl
  | b + 1, h, hok, hw => by
    by_cases e : a = b + 1
    · subst e; rfl
    · rw [(tr_succ (hok b (by omega) (by omega))).2 (hw b (by omega) (by omega))]
      exact tr_const b (by omega) (fun m h1 h2 => hok m h1 (by omega)) (fun m h1 h2 => hw m h1 (by omega))

theorem firstWr (f : Nat → Bool) (a : Nat) : ∀ b, (∀ m, a ≤ m → m < b → f m = false) ∨ ∃ m, a ≤ m ∧ m < b ∧ f m = true ∧ ∀ m', a ≤ m' → m' < m → f m' = false
  | 0 => .inl fun m _ h => absurd h (by omega)
  | b + 1 => by
    rcases firstWr f a b with h | ⟨m, h1, h2, h3, h4⟩
    · by_cases hb : a ≤ b ∧ f b = true
      · exact .inr ⟨b, hb.1, by omega, hb.2, fun m' h1 h2 => h m' h1 h2⟩
      · refine .inl fun m h1 h2 => ?_
        by_cases e : m = b
        · subst e; simpa [h1] using hb
        · exact h m h1 (by omega)
    · exact .inr ⟨m, h1, by omega, h3, h4⟩

/-- With an operation all are listed that come ahead of it. -/
def DownP (ops : Array Oper) (p : Nat → Bool) : Prop := ∀ j o e, p j = true → ops[j]? = some o → e ∈ o.after → Region.binds .any e = true → p e.on = true

theorem behind_down {p : Nat → Bool} (hd : DownP ops p) : ∀ (n j k : Nat), p j = true → behind ops n j k = true → p k = true
  | 0, j, k, _, h => by simp [behind] at h
  | n + 1, j, k, hj, h => by
    simp only [behind] at h
    split at h
    · rename_i o ho
      obtain ⟨e, he, hb⟩ := Array.any_eq_true'.1 h
      simp only [Bool.and_eq_true, Bool.or_eq_true, beq_iff_eq] at hb
      have h1 := hd j o e hj ho he hb.1
      rcases hb.2 with h2 | h2
      · rw [← h2]; exact h1
      · exact behind_down hd n e.on k h1 h2
    · cases h

theorem behind_ready {p : Nat → Bool} (hd : DownP ops p) {i : Nat} {o : Oper} (ho : ops[i]? = some o) (hr : ∀ e ∈ o.after, Region.binds .any e = true → p e.on = true) (n k : Nat) (h : behind ops n i k = true) : p k = true := by
  cases n with
  | zero => simp [behind] at h
  | succ n =>
    simp only [behind, ho] at h
    obtain ⟨e, he, hb⟩ := Array.any_eq_true'.1 h
    simp only [Bool.and_eq_true, Bool.or_eq_true, beq_iff_eq] at hb
    have h1 := hr e he hb.1
    rcases hb.2 with h2 | h2
    · rw [← h2]; exact h1
    · exact behind_down hd n e.on k h1 h2

theorem lexD_spec (h : lexD E ops = true) {k : Nat} {o : Oper} (ho : ops[k]? = some o) : (∀ e ∈ o.after, Region.binds .any e = true → e.on < k) ∧
    ∀ i oi, i < k → ops[i]? = some oi → behind ops ops.size k i = true ∨ (oi.apart ops o = true ∧ ¬ (kdOf E oi.op = .wr ∧ kdOf E o.op = .wr)) := by
  unfold lexD at h
  rw [List.all_eq_true] at h
  have hlt : k < ops.size := (Array.getElem?_eq_some_iff.1 ho).1
  have hk := h k (List.mem_range.2 hlt)
  simp only [ho, Bool.and_eq_true, List.all_eq_true, List.mem_range, Bool.or_eq_true] at hk
  obtain ⟨h1, h2⟩ := hk
  refine ⟨fun e he hb => ?_, fun i oi hi hoi => ?_⟩
  · have := Array.all_eq_true_iff_forall_mem.1 h1 e he
    simp only [hb, Bool.not_true, Bool.false_or, decide_eq_true_eq] at this
    exact this
  · rcases h2 i hi with h3 | h3
    · exact .inl h3
    · right
      simp only [hoi, Bool.and_eq_true, Bool.not_eq_true', Bool.and_eq_false_iff, beq_eq_false_iff_ne] at h3
      refine ⟨h3.1, ?_⟩
      rintro ⟨a, b⟩
      rcases h3.2 with h4 | h4
      · exact h4 a
      · exact h4 b

theorem apart_dst {x y : Oper} (h : x.apart ops y = true) : (∀ d, x.dst = some d → d ∉ y.looksAt ops) ∧ (∀ d, x.dst = some d → y.dst ≠ some d) ∧ (∀ d, y.dst = some d → d ∉ x.looksAt ops) := Oper.apart_spec h

/-- The step of operation i, wherever she stands. -/
theorem step_core (hok : ∀ m, m < ops.size → OkAt E call ops α H m) {p : Nat → Bool} (hd : DownP ops p) {i : Nat} {o : Oper} (ho : ops[i]? = some o) (hpi : p i = false)
    (hr : ∀ e ∈ o.after, Region.binds .any e = true → p e.on = true)
    (ap1 : ∀ m om, m < i → p m = false → behind ops ops.size i m = false → ops[m]? = some om → om.apart ops o = true ∧ ¬ (kdOf E om.op = .wr ∧ kdOf E o.op = .wr))
    (ap2 : ∀ m om, i < m → p m = true → behind ops ops.size m i = false → ops[m]? = some om → o.apart ops om = true ∧ ¬ (kdOf E o.op = .wr ∧ kdOf E om.op = .wr)) :
    ∃ H', YieldsA E call ops o (Fk E call ops α H p ops.size) (Hk E call ops α H p ops.size) (valAt E call ops α H i) H' ∧
      put (Fk E call ops α H p ops.size) o.dst (valAt E call ops α H i) = Fk E call ops α H (insP p i) ops.size ∧ H' = Hk E call ops α H (insP p i) ops.size := by
  have hin : i < ops.size := (Array.getElem?_eq_some_iff.1 ho).1
  have hdst : dstAt ops i = o.dst := by simp [dstAt, ho]
  have nb1 : ∀ m, m < i → p m = false → behind ops ops.size i m = false := fun m hm hp => by
    cases h : behind ops ops.size i m with
    | false => rfl
    | true => have := behind_ready hd ho hr _ _ h; rw [hp] at this; cases this
  have nb2 : ∀ m, p m = true → behind ops ops.size m i = false := fun m hp => by
    cases h : behind ops ops.size m i with
    | false => rfl
    | true => have := behind_down hd _ _ _ hp h; rw [hpi] at this; cases this
  replace ap1 : ∀ m om, m < i → p m = false → ops[m]? = some om → om.apart ops o = true ∧ ¬ (kdOf E om.op = .wr ∧ kdOf E o.op = .wr) := fun m om hm hp hom => ap1 m om hm hp (nb1 m hm hp) hom
  replace ap2 : ∀ m om, i < m → p m = true → ops[m]? = some om → o.apart ops om = true ∧ ¬ (kdOf E o.op = .wr ∧ kdOf E om.op = .wr) := fun m om hm hp hom => ap2 m om hm hp (nb2 m hp) hom
  -- the frame
  have hframe : ∀ t, t ∈ o.looksAt ops → Fk E call ops α H p ops.size t = (tr E call ops α H i).1 t := by
    intro t ht
    rw [← Fk_lt (fun m hm => hok m (by omega)) i (Nat.le_refl _), ← Fk_ge ops.size (by omega)]
    refine Fk_agree _ fun m hm hne => ?_
    have hom : ops[m]? = some ops[m] := Array.getElem?_eq_getElem hm
    rcases Nat.lt_trichotomy m i with hlt | heq | hgt
    · have hp : p m = false := by simpa [hlt] using hne
      have := (apart_dst (ap1 m _ hlt hp hom).1).1
      simp only [dstAt, hom, Option.bind_some]
      intro hd'
      exact this t hd' ht
    · subst heq
      simp [hpi] at hne
    · have hp : p m = true := by
        have : decide (m < i) = false := by simp; omega
        rw [this] at hne
        simpa using hne
      have := (apart_dst (ap2 m _ hgt hp hom).1).2.2
      simp only [dstAt, hom, Option.bind_some]
      intro hd'
      exact this t hd' ht
  have hops : ∀ x ∈ o.op.operands, ev (Fk E call ops α H p ops.size) x = ev (tr E call ops α H i).1 x := fun x hx => ev_congr fun t ht => hframe t (by
    subst ht
    exact List.mem_append_left _ (List.mem_filterMap.2 ⟨.tmp t, by simpa using hx, rfl⟩))
  have hstep : ∀ H2, stepOp E call o.op (ev (Fk E call ops α H p ops.size)) H2 = stepOp E call o.op (ev (tr E call ops α H i).1) H2 := fun H2 => stepOp_congr o.op hops H2
  have hwant : wantedA ops o.guard (Fk E call ops α H p ops.size) = wantedA ops o.guard (tr E call ops α H i).1 := by
    unfold wantedA
    cases hg : o.guard with
    | none => rfl
    | some gw =>
      obtain ⟨g, want⟩ := gw
      simp only
      cases ht : (ops[g]?).bind (·.dst) with
      | none => rfl
      | some t => simp only; rw [hframe t (by simp [Oper.looksAt, hg, ht])]
  -- what she does in the text's order
  obtain ⟨o', r, ho', hres, hrd, hwr⟩ := hok i hin
  rw [ho] at ho'
  cases ho'
  have hresAt : resAt E call ops α H i = some r := by simp [resAt, ho, bnd, hres]
  have hval : valAt E call ops α H i = r.2.1 := by simp [valAt, hresAt]
  have hnext : (tr E call ops α H (i + 1)).2 = r.2.2 := by simp only [tr, ho, hres]
  have hput : put (Fk E call ops α H p ops.size) o.dst (valAt E call ops α H i) = Fk E call ops α H (insP p i) ops.size := by
    rw [Fk_insert hpi ops.size, if_pos hin, hdst]
    intro m hm hmn hp d hdd
    have hom : ops[m]? = some ops[m] := Array.getElem?_eq_getElem hmn
    have := (apart_dst (ap2 m _ hm hp hom).1).2.1 d (by rw [← hdst]; exact hdd)
    simpa [dstAt, hom] using this
  have hkeepH : wrAt E call ops α H i = false → Hk E call ops α H (insP p i) ops.size = Hk E call ops α H p ops.size := fun hw => Hk_agree _ fun m hm hmw => by
    by_cases e : m = i
    · subst e; rw [hw] at hmw; cases hmw
    · rw [insP_ne e]
  unfold stepX at hres
  cases hw : wantedA ops o.guard (tr E call ops α H i).1 with
  | none => simp [hw, bnd] at hres
  | some b =>
    simp only [hw, bnd] at hres
    cases b with
    | false =>
      simp only [sel, Bool.false_eq_true, if_false, Option.some.injEq] at hres
      subst hres
      refine ⟨_, .inr ⟨by rw [hwant, hw], hval, rfl⟩, hput, ?_⟩
      rw [hkeepH (by simp [wrAt, hresAt, ho])]
    | true =>
      simp only [sel, if_true] at hres
      cases hs : stepOp E call o.op (ev (tr E call ops α H i).1) (tr E call ops α H i).2 with
      | none => simp [hs] at hres
      | some q =>
        simp only [hs, Option.some.injEq] at hres
        subst hres
        simp only at hval hnext hrd hwr
        cases hk : kdOf E o.op with
        | ins =>
          obtain ⟨_, hall⟩ := ins_same hk hs
          refine ⟨_, .inl ⟨by rw [hwant, hw], ?_⟩, hput, (hkeepH (by simp [wrAt, hresAt, ho, hk])).symm⟩
          rw [hstep, hval]
          exact hall _
        | wr =>
          have hwat : wrAt E call ops α H i = true := by simp [wrAt, hresAt, ho, hk]
          have hheap : Hk E call ops α H p ops.size = (tr E call ops α H i).2 := by
            rw [← Hk_lt (fun m hm => hok m (by omega)) i (Nat.le_refl _), ← Hk_ge ops.size (by omega)]
            refine Hk_agree _ fun m hm hmw => ?_
            obtain ⟨om, rm, hom, hrm, _, _⟩ := hok m hm
            have hmk : kdOf E om.op = .wr := by
              simp only [wrAt, resAt, hom, bnd, hrm, Bool.and_eq_true, decide_eq_true_eq] at hmw
              exact hmw.2
            rcases Nat.lt_trichotomy m i with hlt | heq | hgt
            · cases hp : p m with
              | true => simp [hlt]
              | false => exact absurd ⟨hmk, hk⟩ (ap1 m om hlt hp hom).2
            · subst heq; simp [hpi]
            · cases hp : p m with
              | false => simp; omega
              | true => exact absurd ⟨hk, hmk⟩ (ap2 m om hgt hp hom).2
          refine ⟨q.2, .inl ⟨by rw [hwant, hw], ?_⟩, hput, ?_⟩
          · rw [hstep, hheap, hs, hval]
          · rw [Hk_insert_wr hwat ops.size hin, hnext]
            intro m hm hmn hp
            cases hmw : wrAt E call ops α H m with
            | false => rfl
            | true =>
              obtain ⟨om, rm, hom, hrm, _, _⟩ := hok m hmn
              have hmk : kdOf E om.op = .wr := by
                simp only [wrAt, resAt, hom, bnd, hrm, Bool.and_eq_true, decide_eq_true_eq] at hmw
                exact hmw.2
              exact absurd ⟨hk, hmk⟩ (ap2 m om hm hp hom).2
        | rd =>
          have hsame : q.2 = (tr E call ops α H i).2 := rd_same hk hs
          have hread : ∃ H2, stepOp E call o.op (ev (tr E call ops α H i).1) (Hk E call ops α H p ops.size) = some (q.1, H2) := by
            have look : ∀ a, a ≤ i → (∀ m, a ≤ m → m < i → wrAt E call ops α H m = true → p m = false) → ∃ H2, stepOp E call o.op (ev (tr E call ops α H i).1) (tr E call ops α H a).2 = some (q.1, H2) := by
              intro a ha hno
              rcases firstWr (wrAt E call ops α H) a i with h | ⟨m, h1, h2, h3, h4⟩
              · rw [← tr_const i ha (fun m h1 h2 => hok m (by omega)) h]
                exact ⟨_, hs⟩
              · have hp := hno m h1 h2 h3
                obtain ⟨om, rm, hom, hrm, _, _⟩ := hok m (by omega)
                have hmw : rm.1 = true ∧ kdOf E om.op = .wr := by
                  simpa only [wrAt, resAt, hom, bnd, hrm, Bool.and_eq_true, decide_eq_true_eq] using h3
                rcases hrd trivial hk m om rm h2 hom hrm hmw.1 hmw.2 with h5 | h5
                · rw [nb1 m h2 hp] at h5; cases h5
                · rw [← tr_const m h1 (fun m' a1 a2 => hok m' (by omega)) h4]
                  exact reads_spec h5
            rcases Hk_last (E := E) (call := call) (ops := ops) (α := α) (H := H) (p := p) ops.size with ⟨j, h1, h2, h3, h4, h5⟩ | ⟨h1, h2⟩
            · rw [h4]
              rcases Nat.lt_trichotomy j i with hlt | heq | hgt
              · refine look (j + 1) (by omega) fun m a b c => ?_
                cases hp : p m with
                | false => rfl
                | true => exact absurd ⟨hp, c⟩ (h5 m (by omega) (by omega))
              · subst heq; rw [hpi] at h2; cases h2
              · obtain ⟨oj, rj, hoj, hrj, _, hwj⟩ := hok j h1
                have hjw : rj.1 = true ∧ kdOf E oj.op = .wr := by
                  simpa only [wrAt, resAt, hoj, bnd, hrj, Bool.and_eq_true, decide_eq_true_eq] using h3
                have hjn : (tr E call ops α H (j + 1)).2 = rj.2.2 := by simp only [tr, hoj, hrj]
                rcases hwj hjw.1 hjw.2 i o (true, q.1, q.2) hgt ho (by simp [stepX, hw, bnd, sel, hs]) rfl hk with h6 | h6
                · rw [nb2 j h2] at h6; cases h6
                · rw [hjn]; exact reads_spec h6
            · rw [h2]
              refine look 0 (by omega) fun m a b c => ?_
              cases hp : p m with
              | false => rfl
              | true => exact absurd ⟨hp, c⟩ (h1 m (by omega))
          obtain ⟨H2, h2⟩ := hread
          have h2' := rd_same hk h2
          subst h2'
          refine ⟨_, .inl ⟨by rw [hwant, hw], ?_⟩, hput, (hkeepH (by simp [wrAt, hresAt, ho, hk])).symm⟩
          rw [hstep, hval]
          exact h2

/-- The step of operation i, wherever she stands. -/
theorem step_at (hlex : lexD E ops = true) (hok : ∀ m, m < ops.size → OkAt E call ops α H m) {p : Nat → Bool} (hd : DownP ops p) {i : Nat} {o : Oper} (ho : ops[i]? = some o) (hpi : p i = false)
    (hr : ∀ e ∈ o.after, Region.binds .any e = true → p e.on = true) :
    ∃ H', YieldsA E call ops o (Fk E call ops α H p ops.size) (Hk E call ops α H p ops.size) (valAt E call ops α H i) H' ∧
      put (Fk E call ops α H p ops.size) o.dst (valAt E call ops α H i) = Fk E call ops α H (insP p i) ops.size ∧ H' = Hk E call ops α H (insP p i) ops.size :=
  step_core hok hd ho hpi hr
    (fun m om hm _ hb hom => by
      rcases (lexD_spec hlex ho).2 m om hm hom with h | h
      · rw [hb] at h; cases h
      · exact h)
    (fun m om hm _ hb hom => by
      rcases (lexD_spec hlex hom).2 i o hm ho with h | h
      · rw [hb] at h; cases h
      · exact h)

def cntP (p : Nat → Bool) : Nat → Nat
  | 0 => 0
  | k + 1 => cntP p k + (if p k = true then 0 else 1)

theorem cntP_set {p : Nat → Bool} {i : Nat} (hpi : p i = false) : ∀ k, cntP (insP p i) k + (if i < k then 1 else 0) = cntP p k
  | 0 => by simp [cntP]
  | k + 1 => by
    have ih := cntP_set hpi k
    simp only [cntP]
    rcases Nat.lt_trichotomy k i with hlt | heq | hgt
    · rw [insP_ne (by omega : ¬ k = i), if_neg (by omega : ¬ i < k + 1)]
      rw [if_neg (by omega : ¬ i < k)] at ih
      omega
    · subst heq
      rw [insP_self, if_pos rfl]
      simp only [hpi, Bool.false_eq_true, if_false]
      rw [if_neg (by omega : ¬ k < k)] at ih
      rw [if_pos (by omega : k < k + 1)]
      omega
    · rw [insP_ne (by omega : ¬ k = i), if_pos (by omega : i < k + 1)]
      rw [if_pos hgt] at ih
      omega

theorem cntP_zero {p : Nat → Bool} : ∀ k, cntP p k = 0 → ∀ m, m < k → p m = true
  | 0, _, m, hm => by omega
  | k + 1, h, m, hm => by
    simp only [cntP] at h
    by_cases e : m = k
    · subst e
      cases hp : p m with
      | true => rfl
      | false => simp [hp] at h
    · exact cntP_zero k (by omega) m (by omega)

theorem cntP_all {p : Nat → Bool} : ∀ k, (∀ m, m < k → p m = true) → cntP p k = 0
  | 0, _ => rfl
  | k + 1, h => by simp [cntP, h k (by omega), cntP_all k fun m hm => h m (by omega)]

theorem wpAny_trace (hlex : lexD E ops = true) (hok : ∀ m, m < ops.size → OkAt E call ops α H m) {Q : Frm → AHeap → Prop} (hQ : Q (tr E call ops α H ops.size).1 (tr E call ops α H ops.size).2) : ∀ (fuel : Nat) (listed : Array Bool), listed.size = ops.size →
    DownP ops (fun m => listed.getD m false) → cntP (fun m => listed.getD m false) ops.size = fuel → wpAnyA E call ops Q fuel listed (Fk E call ops α H (fun m => listed.getD m false) ops.size) (Hk E call ops α H (fun m => listed.getD m false) ops.size) := by
  have hpn : ∀ listed : Array Bool, listed.size = ops.size → ∀ m, listed.getD m false = true → m < ops.size := fun listed hs m h => by
    rcases Nat.lt_or_ge m listed.size with h' | h'
    · omega
    · simp [Array.getElem?_eq_none h'] at h
  have hrd : ∀ listed : Array Bool, listed.size = ops.size → ∀ m, m < ops.size → listed.getD m true = listed.getD m false := fun listed hs m hm => by
    have : m < listed.size := by omega
    simp [this]
  intro fuel
  induction fuel with
  | zero =>
    intro listed hs hd hc
    have hall := cntP_zero _ hc
    refine ⟨?_, ?_⟩
    · rw [List.eq_nil_iff_forall_not_mem]
      intro j hj
      obtain ⟨h1, o, ho, _⟩ := mem_ready.1 hj
      have hlt : j < ops.size := (Array.getElem?_eq_some_iff.1 ho).1
      have h2 : listed.getD j false = true := hall j hlt
      rw [hrd listed hs j hlt, h2] at h1
      cases h1
    · have e1 : Fk E call ops α H (fun m => listed.getD m false) ops.size = (tr E call ops α H ops.size).1 := by
        rw [← Fk_lt hok ops.size (Nat.le_refl _)]
        funext t
        refine Fk_agree _ fun m hm hne => ?_
        have : listed.getD m false = true := hall m hm
        simp [this, hm] at hne
      have e2 : Hk E call ops α H (fun m => listed.getD m false) ops.size = (tr E call ops α H ops.size).2 := by
        rw [← Hk_lt hok ops.size (Nat.le_refl _)]
        refine Hk_agree _ fun m hm _ => ?_
        have : listed.getD m false = true := hall m hm
        simp [this, hm]
      rw [e1, e2]
      exact hQ
  | succ fuel ih =>
    intro listed hs hd hc
    refine ⟨fun hnil => ?_, fun i hi => ?_⟩
    · exfalso
      rcases firstWr (fun m => !listed.getD m false) 0 ops.size with h | ⟨m, _, h2, h3, h4⟩
      · have := cntP_all (p := fun m => listed.getD m false) ops.size fun m hm => by have := h m (by omega) hm; simpa using this
        omega
      · have hom : ops[m]? = some ops[m] := Array.getElem?_eq_getElem h2
        have : m ∈ Region.ready .any ops listed := mem_ready.2 ⟨by rw [hrd listed hs m h2]; simpa using h3, _, hom, fun e he hb => by
          have := h4 e.on (by omega) ((lexD_spec hlex hom).1 e he hb)
          simpa using this⟩
        rw [hnil] at this
        cases this
    · obtain ⟨h1, o, ho, hall⟩ := mem_ready.1 hi
      have hin : i < ops.size := (Array.getElem?_eq_some_iff.1 ho).1
      rw [hrd listed hs i hin] at h1
      obtain ⟨H', hy, hput, hH⟩ := step_at (call := call) (α := α) (H := H) hlex hok hd ho h1 hall
      have hset : (fun m => (listed.setIfInBounds i true).getD m false) = insP (fun m => listed.getD m false) i := by
        funext m
        by_cases e : m = i
        · subst e
          have : m < listed.size := by omega
          simp [this, insP]
        · rw [insP_ne e]
          exact getD_set_ne false (Ne.symm e)
      refine hy.stepA ho ?_
      rw [hput, hH]
      have := ih (listed.setIfInBounds i true) (by simp [hs]) (by
        rw [hset]
        intro j oj e hj hoj he hb
        by_cases e1 : e.on = i
        · rw [e1]; exact insP_self _ _
        · rw [insP_ne e1]
          by_cases e2 : j = i
          · subst e2
            rw [ho] at hoj; cases hoj
            exact hall e he hb
          · rw [insP_ne e2] at hj
            exact hd j oj e hj hoj he hb) (by
        rw [hset]
        have := cntP_set (p := fun m => listed.getD m false) h1 ops.size
        rw [if_pos hin] at this
        omega)
      rw [hset] at this
      exact this

/-- The run in the text's order serves every order. -/
theorem dyn_any (hlex : lexD E ops = true) {α' : Frm} {H' : AHeap} (h : execOpsD E call ops 0 ops.toList [] [] α H = some (α', H')) {Q : Frm → AHeap → Prop} (hQ : Q α' H') : wpAnyA E call ops Q ops.size (Array.replicate ops.size false) α H := by
  obtain ⟨hok, htr⟩ := okD (E := E) (call := call) (ops := ops) (α := α) (H := H) ops.toList 0 [] [] α' H' (by simp) (by simp) (fun i _ _ hi => absurd hi (by omega)) (fun i _ _ hi => absurd hi (by omega)) h
  have hrep : ∀ m : Nat, (Array.replicate ops.size false).getD m false = false := fun m => by
    by_cases hm : m < ops.size
    · simp [hm]
    · simp [hm]
  have hp : (fun m => (Array.replicate ops.size false).getD m false) = fun _ => false := by funext m; exact hrep m
  have := wpAny_trace (call := call) (α := α) (H := H) hlex (fun m hm => hok m (by omega) hm) (Q := Q) (by rw [htr]; exact hQ) ops.size (Array.replicate ops.size false) (by simp) (by rw [hp]; intro j o e hj; cases hj) (by
    rw [hp]
    have : ∀ k, cntP (fun _ => false) k = k := fun k => by
      induction k with
      | zero => rfl
      | succ k ih => simp [cntP, ih]
    exact this _)
  rw [hp] at this
  have hF : ∀ k, Fk E call ops α H (fun _ => false) k = α := fun k => by
    induction k with
    | zero => rfl
    | succ k ih => simp [Fk, ih]
  have hH : ∀ k, Hk E call ops α H (fun _ => false) k = H := fun k => by
    induction k with
    | zero => rfl
    | succ k ih => simp [Hk, ih]
  rw [hF, hH] at this
  exact this

end
end Go.Ab
