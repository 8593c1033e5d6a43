/- A region that draws, in which one variable is laid beside a call: she may be laid ahead of the call, and lies hidden till the text's order comes to her. -/
import Derived.Test.YtkpnccaoolbeeaaGreatDoorAc31
namespace Go.Ab
set_option linter.unusedVariables false
set_option linter.unusedSimpArgs false
open Go Go.RowKit

def isAl (o : Oper) : Bool := match o.op, o.guard, o.dst with | .alloc _, none, some _ => true | _, _, _ => false

/-- What the text of such a region must be like: i0 lays the variable. -/
def lexA (E : Env) (ops : Array Oper) (i0 : Nat) : Bool :=
  (match ops[i0]? with | some o => isAl o | none => false) &&
  ((List.range ops.size).all fun k => match ops[k]? with
    | some o => o.after.all (fun e => !Region.binds .any e || decide (e.on < k)) &&
        (List.range k).all fun i => behind ops ops.size k i || match ops[i]? with
          | some oi => oi.apart ops o && (!(kdOf E oi.op == .wr && kdOf E o.op == .wr) || k == i0)
          | none => false
    | none => false) &&
  ((List.range ops.size).all fun j => !behind ops ops.size j i0 || (List.range i0).all fun m => match ops[m]? with
    | some om => !(kdOf E om.op == .wr) || behind ops ops.size j m
    | none => true)

section
variable {P : Program} {B : Nat → Prop} {W0 : World} {H : AHeap} {σ σ' : St} {w w' : World} {n : Nat} {a : Act} {α : Frm} {E : Env} {call : CallO} {ops : Array Oper} {ds : List Deferred} {i0 : Nat}

theorem lexA_al (h : lexA E ops i0 = true) : ∃ o t d, ops[i0]? = some o ∧ o.op = .alloc t ∧ o.guard = none ∧ o.dst = some d := by
  unfold lexA at h
  simp only [Bool.and_eq_true] at h
  have h1 := h.1.1
  split at h1
  · rename_i o ho
    unfold isAl at h1
    split at h1
    · rename_i t d e1 e2 e3
      exact ⟨o, t, d, ho, e1, e2, e3⟩
    · cases h1
  · cases h1

theorem lexA_spec (h : lexA E ops i0 = true) {k : Nat} {o : Oper} (ho : ops[k]? = some o) : (∀ e ∈ o.after, Region.binds .any e = true → e.on < k) ∧
    ∀ i oi, i < k → ops[i]? = some oi → behind ops ops.size k i = true ∨ (oi.apart ops o = true ∧ (¬ (kdOf E oi.op = .wr ∧ kdOf E o.op = .wr) ∨ k = i0)) := by
  unfold lexA at h
  simp only [Bool.and_eq_true] at h
  have h1 := h.1.2
  rw [List.all_eq_true] at h1
  have hlt : k < ops.size := (Array.getElem?_eq_some_iff.1 ho).1
  have hk := h1 k (List.mem_range.2 hlt)
  simp only [ho, Bool.and_eq_true, List.all_eq_true, List.mem_range, Bool.or_eq_true] at hk
  obtain ⟨g1, g2⟩ := hk
  refine ⟨fun e he hb => ?_, fun i oi hi hoi => ?_⟩
  · have := Array.all_eq_true_iff_forall_mem.1 g1 e he
    simp only [hb, Bool.not_true, Bool.false_or, decide_eq_true_eq] at this
    exact this
  · rcases g2 i hi with h3 | h3
    · exact .inl h3
    · right
      simp only [hoi, Bool.and_eq_true, Bool.or_eq_true, Bool.not_eq_true', Bool.and_eq_false_iff, beq_eq_false_iff_ne, beq_iff_eq] at h3
      refine ⟨h3.1, ?_⟩
      rcases h3.2 with h4 | h4
      · left
        rintro ⟨a, b⟩
        rcases h4 with h4 | h4
        · exact h4 a
        · exact h4 b
      · exact .inr h4

theorem lexA_dep (h : lexA E ops i0 = true) {j m : Nat} {om : Oper} (hj : j < ops.size) (hb : behind ops ops.size j i0 = true) (hm : m < i0) (hom : ops[m]? = some om) (hw : kdOf E om.op = .wr) : behind ops ops.size j m = true := by
  unfold lexA at h
  simp only [Bool.and_eq_true] at h
  have h1 := List.all_eq_true.1 h.2 j (List.mem_range.2 hj)
  simp only [hb, Bool.not_true, Bool.false_or, List.all_eq_true, List.mem_range] at h1
  have h2 := h1 m hm
  simp only [hom, hw, BEq.rfl, Bool.not_true, Bool.false_or] at h2
  exact h2

/-- A frame against the model's, but for one slot. -/
structure RelX (σ : St) (n : Nat) (ds : List Deferred) (d0 : Tmp) (a : Act) (α : Frm) : Prop where
  size : a.tmps.size = n
  rep : ∀ i, i ≠ d0 → Rep σ (α i) (a.tmps.getD i undef)
  defers : a.defers = ds

theorem RelX.mono {d0 : Tmp} (h : RelX σ n ds d0 a α) (hle : σ.le σ') : RelX σ' n ds d0 a α := ⟨h.size, fun i hi => (h.rep i hi).mono hle, h.defers⟩

theorem RelX.put {d0 : Tmp} (h : RelX σ n ds d0 a α) {dst : Option Tmp} (hd : ∀ d, dst = some d → d < n) {v : AV} {u : Value} (hr : Rep σ v u) : RelX σ n ds d0 (a.put dst u) (Ab.put α dst v) := by
  cases dst with
  | none => exact h
  | some d =>
    have hdn := hd d rfl
    refine ⟨by simp [Act.put, h.size], fun i hi0 => ?_, h.defers⟩
    simp only [Act.put, Ab.put]
    by_cases hi : i = d
    · subst hi
      rw [if_pos rfl]
      simpa [h.size, hdn] using hr
    · rw [if_neg hi]
      have := h.rep i hi0
      simpa [Array.getElem?_setIfInBounds_ne (Ne.symm hi)] using this

theorem wanted_relX {o : Oper} (hrep : ∀ g w, o.guard = some (g, w) → ∀ d, (ops[g]?).bind (·.dst) = some d → Rep σ (α d) (a.tmps.getD d undef)) {b : Bool} (hw : wantedA ops o.guard α = some b) : Region.wanted o (yielded ops a.tmps) = b := by
  unfold wantedA at hw
  unfold Region.wanted
  cases hg : o.guard with
  | none => simp [hg] at hw; simp [hw]
  | some gw =>
    obtain ⟨j, want⟩ := gw
    simp only [hg] at hw ⊢
    cases hd : (ops[j]?).bind (·.dst) with
    | none => simp [hd] at hw
    | some d =>
      simp only [hd] at hw
      have hr := hrep j want hg d hd
      unfold yielded
      rw [hd]
      simp only [Option.bind_some]
      split at hw
      · rename_i c hc
        simp only [hc, Rep] at hr
        simp only [Option.some.injEq] at hw
        have : a.tmps[d]? = some (.bool c) := by
          cases ht : a.tmps[d]? with
          | none => simp [ht, undef] at hr
          | some x => simp [ht] at hr; rw [hr]
        simp only [this]
        rw [← hw]
        cases c <;> cases want <;> rfl
      · rename_i vs hc
        simp only [hc, Rep] at hr
        simp only [Option.some.injEq] at hw
        subst hw
        cases ht : a.tmps[d]? with
        | none => rfl
        | some x => simp [ht] at hr; subst hr; rfl
      · cases hw

/-- One operation that does not look at the hidden slot. -/
theorem yields_sound (hc : CallOk E.P call) {d0 : Tmp} {o : Oper} {i : Nat} (ho : ops[i]? = some o) (hs : Sim E.P B W0 H σ w) (hr : RelX σ n ds d0 a α) (hd : ∀ d, o.dst = some d → d < n) (hlook : d0 ∉ o.looksAt ops) {v : AV} {H' : AHeap}
    (hy : YieldsA E call ops o α H v H') {K : Act → World → Prop} {Q : Exit → Act → World → Prop} (hK : ∀ u w' σ', Ext B σ σ' → Sim E.P B W0 H' σ' w' → RelX σ' n ds d0 (a.put o.dst u) (put α o.dst v) → K (a.put o.dst u) w') : wpOp E.P ops Q i K a w := by
  have hguard : ∀ g w', o.guard = some (g, w') → ∀ d, (ops[g]?).bind (·.dst) = some d → Rep σ (α d) (a.tmps.getD d undef) := fun g w' hg d hgd => hr.rep d (by
    rintro rfl
    exact hlook (by simp [Oper.looksAt, hg, hgd]))
  have hev : ∀ x ∈ o.op.operands, Rep σ (ev α x) (a.eval x) := fun x hx => by
    cases x with
    | tmp t => exact hr.rep t (by
        rintro rfl
        exact hlook (List.mem_append_left _ (List.mem_filterMap.2 ⟨.tmp t, by simpa using hx, rfl⟩)))
    | const v => exact Rep.ofV v
    | global g => simp [ev, Act.eval, Rep]
    | func f => simp [ev, Act.eval, Rep, RepL]
  unfold wpOp
  rw [ho]
  simp only
  rcases hy with ⟨hw, hst⟩ | ⟨hw, rfl, rfl⟩
  · rw [if_pos (wanted_relX hguard hw)]
    refine .inl (wp_of_uponA (stepOp_sound hs hc o (ev α) a.eval hev hst) ?_)
    rintro u w1 ⟨σ1, hext, hsim, hrep⟩
    exact hK u w1 σ1 hext hsim ((hr.mono hext.le).put hd hrep)
  · rw [if_neg (by rw [wanted_relX hguard hw]; simp)]
    exact hK _ _ σ (Ext.refl _ _) hs (hr.put hd undefA_rep)

/-- One operation, with nothing hidden. -/
theorem yieldsF_sound (hc : CallOk E.P call) {o : Oper} {i : Nat} (ho : ops[i]? = some o) (hs : Sim E.P B W0 H σ w) (hr : RelF σ n ds a α) (hd : ∀ d, o.dst = some d → d < n) {v : AV} {H' : AHeap}
    (hy : YieldsA E call ops o α H v H') {K : Act → World → Prop} {Q : Exit → Act → World → Prop} (hK : ∀ u w' σ', Ext B σ σ' → Sim E.P B W0 H' σ' w' → RelF σ' n ds (a.put o.dst u) (put α o.dst v) → K (a.put o.dst u) w') : wpOp E.P ops Q i K a w := by
  unfold wpOp
  rw [ho]
  simp only
  rcases hy with ⟨hw, hst⟩ | ⟨hw, rfl, rfl⟩
  · rw [if_pos (wanted_rel hr hw)]
    refine .inl (wp_of_uponA (stepOp_sound hs hc o (ev α) a.eval (fun x _ => hr.eval x) hst) ?_)
    rintro u w1 ⟨σ1, hext, hsim, hrep⟩
    exact hK u w1 σ1 hext hsim ((hr.mono hext.le).put hd hrep)
  · rw [if_neg (by rw [wanted_rel hr hw]; simp)]
    exact hK _ _ σ (Ext.refl _ _) hs (hr.put hd undefA_rep)

theorem RelF.toX (h : RelF σ n ds a α) (d0 : Tmp) : RelX σ n ds d0 a α := ⟨h.size, fun i _ => h.rep i, h.defers⟩

def remP (p : Nat → Bool) (i : Nat) : Nat → Bool := fun m => if m = i then false else p m
theorem remP_self (p : Nat → Bool) (i : Nat) : remP p i i = false := by simp [remP]
theorem remP_ne {p : Nat → Bool} {i m : Nat} (h : ¬ m = i) : remP p i m = p m := by simp [remP, h]
theorem remP_true {p : Nat → Bool} {i m : Nat} (h : remP p i m = true) : m ≠ i ∧ p m = true := by
  unfold remP at h
  split at h
  · cases h
  · rename_i e; exact ⟨e, h⟩

/-- All writes ahead of i0 are made. -/
def AllWr (E : Env) (ops : Array Oper) (i0 : Nat) (p : Nat → Bool) : Prop := ∀ m om, m < i0 → ops[m]? = some om → kdOf E om.op = .wr → p m = true

/-- A state in which no variable is hidden. -/
def NormS (E : Env) (call : CallO) (ops : Array Oper) (α0 : Frm) (H0 : AHeap) (B : Nat → Prop) (W0 : World) (σ : St) (n : Nat) (ds : List Deferred) (i0 : Nat) (p : Nat → Bool) (a : Act) (w : World) : Prop :=
  (p i0 = true → AllWr E ops i0 p) ∧ ∃ σ1, Ext B σ σ1 ∧ Sim E.P B W0 (Hk E call ops α0 H0 p ops.size) σ1 w ∧ RelF σ1 n ds a (Fk E call ops α0 H0 p ops.size)

/-- A state in which i0's variable is laid already, and hidden. -/
def PendS (E : Env) (call : CallO) (ops : Array Oper) (α0 : Frm) (H0 : AHeap) (B : Nat → Prop) (W0 : World) (σ : St) (n : Nat) (ds : List Deferred) (i0 : Nat) (d0 : Tmp) (t0 : TypeId) (zv : Value) (p : Nat → Bool) (a : Act) (w : World) : Prop :=
  p i0 = true ∧ ¬ AllWr E ops i0 p ∧ ∃ σ1 b W1, Ext B σ σ1 ∧ BelowS B W0 W1 ∧ Base E.P B W0 ∧ ¬ B b ∧ W1.heap[b]? = some (.cells zv.cells t0 (0, 0)) ∧ (∀ o, σ1.cells b o = none) ∧
    Sim E.P (fun k => B k ∨ k = b) W1 (Hk E call ops α0 H0 (remP p i0) ops.size) σ1 w ∧ RelX σ1 n ds d0 a (Fk E call ops α0 H0 (remP p i0) ops.size) ∧ a.tmps.getD d0 undef = .pointer (some ⟨b, 0, none⟩)

theorem Ext.sub {A : Nat → Prop} {σ σ' : St} (h : Ext B σ σ') (k : ∀ i, A i → B i) : Ext A σ σ' := ⟨h.le, fun b o hb => h.old b o (k b hb)⟩

/-- A new block is hidden. -/
theorem Sim.hide (hs : Sim P B W0 H σ w) (o : Obj) : Sim P (fun k => B k ∨ k = w.heap.size) (w.alloc o) H σ (w.alloc o) := by
  have hold : ∀ b, b < w.heap.size → (w.alloc o).heap[b]? = w.heap[b]? := fun b hb => heap_old w o hb
  have hsz : (w.alloc o).heap.size = w.heap.size + 1 := by show (w.heap.push o).size = _; simp
  refine ⟨BelowS.refl _ _, ⟨fun k hk => ?_, fun g hg => ⟨.inl (hs.base.tab g hg).1, fun c hc => ?_⟩⟩, fun b' o' v h => ?_, hs.one, hs.fresh, hs.keys, fun id x hx => ?_, hs.inj⟩
  · rw [hsz]
    rcases hk with hk | rfl
    · have := hs.size k hk; omega
    · omega
  · rw [cell_of_heap (hold g (hs.size g (hs.base.tab g hg).1))]
    exact (hs.baseNow.tab g hg).2 c hc
  · rw [cell_of_heap (hold b' (hs.cells_lt h))]; exact hs.cells b' o' v h
  · have ho := hs.obj id x hx
    have hk : ObjOk P B σ (w.alloc o) id x := ho.keep σ.le_refl (fun b hb => ⟨hold b (by
      obtain ⟨b', hb', _, hlt⟩ := ho.blk
      rw [hb] at hb'; cases hb'; exact hlt), fun _ => rfl⟩) (fun _ => rfl)
    obtain ⟨bb, hb1, _, hblt⟩ := ho.blk
    have up : ∀ {b : Nat}, blk σ id x = some b → ¬ B b → ¬ (B b ∨ b = w.heap.size) := fun {b} hb hn => by
      rintro (h | rfl)
      · exact hn h
      · rw [hb1] at hb; cases hb; omega
    cases x with
    | cells te cs => obtain ⟨b, c, e, h1, h2, h3⟩ := hk; exact ⟨b, c, e, h1, up h1 h2, h3⟩
    | tip m et => obtain ⟨b, cap, c, s, h1, h2, h3⟩ := hk; exact ⟨b, cap, c, s, h1, up (by simp [Ab.blk, h1]) h2, h3⟩
    | row m et s cs => obtain ⟨b, cap, c, h1, h1', h2, h3⟩ := hk; exact ⟨b, cap, c, h1, h1', up h1 h2, h3⟩
    | map es cl => obtain ⟨b, ms, h1, h2, h3⟩ := hk; exact ⟨b, ms, h1, up h1 h2, h3⟩

/-- What was hidden is hidden no more. -/
theorem Sim.unhide {b : Nat} {W1 : World} (hs : Sim P (fun k => B k ∨ k = b) W1 H σ w) (hbel : BelowS B W0 W1) (hbase : Base P B W0) : Sim P B W0 H σ w ∧ (∀ id x, H.get id = some x → blk σ id x ≠ some b) := by
  refine ⟨⟨hbel.trans (hs.below.mono fun i hi => .inl hi), hbase, hs.cells, hs.one, hs.fresh, hs.keys, fun id x hx => ?_, hs.inj⟩, fun id x hx he => ?_⟩
  · have hk := hs.obj id x hx
    cases x with
    | cells te cs => obtain ⟨b, c, e, h1, h2, h3⟩ := hk; exact ⟨b, c, e, h1, fun h => h2 (.inl h), h3⟩
    | tip m et => obtain ⟨b, cap, c, s, h1, h2, h3⟩ := hk; exact ⟨b, cap, c, s, h1, fun h => h2 (.inl h), h3⟩
    | row m et s cs => obtain ⟨b, cap, c, h1, h1', h2, h3⟩ := hk; exact ⟨b, cap, c, h1, h1', fun h => h2 (.inl h), h3⟩
    | map es cl => obtain ⟨b, ms, h1, h2, h3⟩ := hk; exact ⟨b, ms, h1, fun h => h2 (.inl h), h3⟩
  · obtain ⟨b', hb', hn, _⟩ := (hs.obj id x hx).blk
    rw [he] at hb'
    cases hb'
    exact hn (.inr rfl)

section
variable {α0 : Frm} {H0 : AHeap} {o0 : Oper} {t0 : TypeId} {d0 : Tmp} {zv : Value}

theorem wr_kd {m : Nat} {om : Oper} (hom : ops[m]? = some om) (h : wrAt E call ops α0 H0 m = true) : kdOf E om.op = .wr := by
  unfold wrAt at h
  split at h
  · rename_i r o hr ho
    rw [hom] at ho
    cases ho
    simp only [Bool.and_eq_true, decide_eq_true_eq] at h
    exact h.2
  · cases h

/-- What lies behind i0 is not made while she is hidden. -/
theorem no_dep (hlex : lexA E ops i0 = true) {p : Nat → Bool} (hd : DownP ops p) (hna : ¬ AllWr E ops i0 p) {j : Nat} (hj : j < ops.size) (hpj : p j = true) : behind ops ops.size j i0 = false := by
  cases hb : behind ops ops.size j i0 with
  | false => rfl
  | true =>
    exfalso
    apply hna
    intro m om hm hom hw
    exact behind_down hd _ _ _ hpj (lexA_dep hlex hj hb hm hom hw)

theorem no_dep_ready (hlex : lexA E ops i0 = true) {p : Nat → Bool} (hd : DownP ops p) (hna : ¬ AllWr E ops i0 p) {j : Nat} {o : Oper} (ho : ops[j]? = some o) (hr : ∀ e ∈ o.after, Region.binds .any e = true → p e.on = true) : behind ops ops.size j i0 = false := by
  cases hb : behind ops ops.size j i0 with
  | false => rfl
  | true =>
    exfalso
    apply hna
    intro m om hm hom hw
    exact behind_ready hd ho hr _ _ (lexA_dep hlex (Array.getElem?_eq_some_iff.1 ho).1 hb hm hom hw)

theorem al_step (hlex : lexA E ops i0 = true) (ho0 : ops[i0]? = some o0) (hop : o0.op = .alloc t0) (hgd : o0.guard = none) (hok : OkAt E call ops α0 H0 i0) : ∃ z zv i, zeroQ E.P t0 = some z ∧ E.P.info? t0 = some i ∧ i.zero = some zv ∧ z = zv.cells.toList.map ofV1 ∧
    valAt E call ops α0 H0 i0 = .ptr (tr E call ops α0 H0 i0).2.next 0 ∧ (tr E call ops α0 H0 (i0 + 1)).2 = (tr E call ops α0 H0 i0).2.push (.cells (some t0) z) ∧ wrAt E call ops α0 H0 i0 = true := by
  obtain ⟨o, r, ho, hr, _, _⟩ := hok
  rw [ho0] at ho
  cases ho
  have hres : resAt E call ops α0 H0 i0 = some r := by simp [resAt, ho0, bnd, hr]
  have htr : (tr E call ops α0 H0 (i0 + 1)).2 = r.2.2 := by simp only [tr, ho0, hr]
  unfold stepX at hr
  rw [hgd] at hr
  simp only [wantedA, bnd, sel, if_true, hop, stepOp] at hr
  cases hal : allocA E.P t0 (tr E call ops α0 H0 i0).2 with
  | none => simp [hal] at hr
  | some q =>
    simp only [hal, Option.some.injEq] at hr
    subst hr
    unfold allocA at hal
    split at hal
    · rename_i z hz
      obtain ⟨i, zv, hi, hzv, hze⟩ := zeroQ_spec hz
      simp only [Option.some.injEq] at hal
      subst hal
      exact ⟨z, zv, i, hz, hi, hzv, hze, by simp [valAt, hres], htr, by simp [wrAt, hres, ho0, hop, kdOf]⟩
    · cases hal

theorem insP_rem {p : Nat → Bool} {i j : Nat} (h : j ≠ i) : remP (insP p j) i = insP (remP p i) j := by
  funext m
  by_cases e : m = i
  · subst e; rw [remP_self, insP_ne (Ne.symm h), remP_self]
  · rw [remP_ne e]
    by_cases e2 : m = j
    · subst e2; rw [insP_self, insP_self]
    · rw [insP_ne e2, insP_ne e2, remP_ne e]

theorem rem_ins {p : Nat → Bool} {i : Nat} (h : p i = true) : insP (remP p i) i = p := by
  funext m
  by_cases e : m = i
  · subst e; rw [insP_self, h]
  · rw [insP_ne e, remP_ne e]

/-- The hidden variable comes to light. -/
theorem to_light (hlex : lexA E ops i0 = true) (hok : ∀ m, m < ops.size → OkAt E call ops α0 H0 m) (ho0 : ops[i0]? = some o0) (hop : o0.op = .alloc t0) (hgd : o0.guard = none) (hdst : o0.dst = some d0) (hdn : d0 < n) {p : Nat → Bool}
    (hpn : p i0 = true) (hall : AllWr E ops i0 p) (hnod : ∀ m, i0 < m → m < ops.size → p m = true → behind ops ops.size m i0 = false) {σ1 : St} {b : Nat} {W1 : World} (hext : Ext B σ σ1) (hbel : BelowS B W0 W1) (hbase : Base E.P B W0) (hB : ¬ B b)
    (hzvq : ∀ i, E.P.info? t0 = some i → i.zero = some zv) (hW1 : W1.heap[b]? = some (.cells zv.cells t0 (0, 0))) (hnone : ∀ o, σ1.cells b o = none)
    (hs : Sim E.P (fun k => B k ∨ k = b) W1 (Hk E call ops α0 H0 (remP p i0) ops.size) σ1 w) (hr : RelX σ1 n ds d0 a (Fk E call ops α0 H0 (remP p i0) ops.size)) (hptr : a.tmps.getD d0 undef = .pointer (some ⟨b, 0, none⟩)) :
    NormS E call ops α0 H0 B W0 σ n ds i0 p a w := by
  have hin : i0 < ops.size := (Array.getElem?_eq_some_iff.1 ho0).1
  obtain ⟨z, zv', i, hz, hi, hzv', hze, hval, hnext, hwr⟩ := al_step hlex ho0 hop hgd (hok i0 hin)
  have : zv' = zv := by
    have := hzvq i hi
    rw [hzv'] at this
    exact Option.some.inj this
  subst this
  have hnw : ∀ m, i0 < m → m < ops.size → p m = true → wrAt E call ops α0 H0 m = false := fun m hm hmn hp => by
    cases hw : wrAt E call ops α0 H0 m with
    | false => rfl
    | true =>
      have hom : ops[m]? = some ops[m] := Array.getElem?_eq_getElem hmn
      rcases (lexA_spec hlex hom).2 i0 o0 hm ho0 with h | ⟨_, h⟩
      · rw [hnod m hm hmn hp] at h; cases h
      · rcases h with h | h
        · exact absurd ⟨by rw [hop]; rfl, wr_kd hom hw⟩ h
        · omega
  have hH : Hk E call ops α0 H0 (remP p i0) ops.size = (tr E call ops α0 H0 i0).2 := by
    rw [← Hk_lt (fun m hm => hok m (by omega)) i0 (Nat.le_refl _), ← Hk_ge ops.size (by omega)]
    refine Hk_agree _ fun m hm hmw => ?_
    have hom : ops[m]? = some ops[m] := Array.getElem?_eq_getElem hm
    rcases Nat.lt_trichotomy m i0 with hlt | heq | hgt
    · rw [remP_ne (by omega), hall m _ hlt hom (wr_kd hom hmw)]; simp [hlt]
    · subst heq; rw [remP_self]; simp
    · rw [remP_ne (by omega)]
      cases hp : p m with
      | false => simp; omega
      | true => rw [hnw m hgt hm hp] at hmw; cases hmw
  have hH2 : Hk E call ops α0 H0 p ops.size = (tr E call ops α0 H0 i0).2.push (.cells (some t0) z) := by
    have := Hk_insert_wr (p := remP p i0) hwr ops.size hin fun m h1 h2 hp => hnw m h1 h2 (remP_true hp).2
    rw [rem_ins hpn] at this
    rw [this, hnext]
  have hF : Fk E call ops α0 H0 p ops.size = put (Fk E call ops α0 H0 (remP p i0) ops.size) (some d0) (.ptr (tr E call ops α0 H0 i0).2.next 0) := by
    have := Fk_insert (E := E) (call := call) (ops := ops) (α := α0) (H := H0) (p := remP p i0) (i := i0) (remP_self p i0) ops.size (fun m h1 h2 hp d hdd => by
      have hom : ops[m]? = some ops[m] := Array.getElem?_eq_getElem h2
      rcases (lexA_spec hlex hom).2 i0 o0 h1 ho0 with h | ⟨h, _⟩
      · rw [hnod m h1 h2 (remP_true hp).2] at h; cases h
      · have := (apart_dst h).2.1 d (by simpa [dstAt, ho0] using hdd)
        simpa [dstAt, hom] using this)
    rw [rem_ins hpn, if_pos hin] at this
    rw [this, hval]
    simp [dstAt, ho0, hdst]
  obtain ⟨hs2, hfree⟩ := hs.unhide hbel hbase
  rw [hH] at hs2 hfree
  have hwb : w.heap[b]? = some (.cells zv'.cells t0 (0, 0)) := by
    rw [hs.below.block b (.inr rfl)]; exact hW1
  obtain ⟨q1, q2⟩ := hs2.pushAt (b := b) (cap := 0) (x := .cells (some t0) z) (w' := w) hB (fun _ _ _ => rfl) hs2.below hfree hnone (by simp [blk, St.bindR]) ⟨b, zv'.cells, t0, by simp [St.bindR], hB, hwb, by rw [hze]; exact RepL.ofV1 _, hnone, fun _ h => Option.some.inj h⟩
  refine ⟨fun _ => hall, _, hext.trans q2, by rw [hH2]; exact q1, ?_⟩
  rw [hF]
  have hr2 := hr.mono q2.le
  refine ⟨hr2.size, fun k => ?_, hr2.defers⟩
  simp only [Ab.put]
  by_cases hk : k = d0
  · subst hk
    rw [if_pos rfl, hptr]
    simp only [Rep]
    exact ⟨b, by simp [St.bindR], rfl⟩
  · rw [if_neg hk]
    exact hr2.rep k hk

theorem AllWr.ins {p : Nat → Bool} {j : Nat} (h : AllWr E ops i0 p) : AllWr E ops i0 (insP p j) := fun m om hm hom hw => by
  by_cases e : m = j
  · subst e; exact insP_self _ _
  · rw [insP_ne e]; exact h m om hm hom hw

theorem behind_edge {k : Nat} {o : Oper} {e : Edge} {i : Nat} {N : Nat} (hN : 0 < N) (ho : ops[k]? = some o) (he : e ∈ o.after) (hb : Region.binds .any e = true) (h : e.on = i) : behind ops N k i = true := by
  cases N with
  | zero => omega
  | succ N =>
    simp only [behind, ho]
    rw [Array.any_eq_true']
    exact ⟨e, he, by simp [hb, h]⟩

open Classical in
/-- One operation, wherever she stands. -/
theorem al_one (hc : CallOk E.P call) (hlex : lexA E ops i0 = true) (hok : ∀ m, m < ops.size → OkAt E call ops α0 H0 m) (hdn : ∀ (i : Nat) (o : Oper), ops[i]? = some o → ∀ d, o.dst = some d → d < n) (ho0 : ops[i0]? = some o0) (hop : o0.op = .alloc t0) (hgd : o0.guard = none) (hdst : o0.dst = some d0)
    (hzvq : ∀ i, E.P.info? t0 = some i → i.zero = some zv) {p : Nat → Bool} (hd : DownP ops p) {j : Nat} {o : Oper} (ho : ops[j]? = some o) (hpj : p j = false) (hrdy : ∀ e ∈ o.after, Region.binds .any e = true → p e.on = true)
    (hst : NormS E call ops α0 H0 B W0 σ n ds i0 p a w ∨ PendS E call ops α0 H0 B W0 σ n ds i0 d0 t0 zv p a w) {Q : Exit → Act → World → Prop} {K : Act → World → Prop}
    (hK : ∀ a' w', NormS E call ops α0 H0 B W0 σ n ds i0 (insP p j) a' w' ∨ PendS E call ops α0 H0 B W0 σ n ds i0 d0 t0 zv (insP p j) a' w' → K a' w') : wpOp E.P ops Q j K a w := by
  have hin : i0 < ops.size := (Array.getElem?_eq_some_iff.1 ho0).1
  have hjn : j < ops.size := (Array.getElem?_eq_some_iff.1 ho).1
  have hd0n : d0 < n := hdn i0 o0 ho0 d0 hdst
  rcases hst with ⟨hinv, σ1, hext, hs, hr⟩ | ⟨hp0, hna, σ1, b, W1, hext, hbel, hbase, hB, hW1, hnone, hs, hr, hptr⟩
  · -- nothing is hidden
    by_cases hj0 : j = i0 ∧ ¬ AllWr E ops i0 p
    · -- she is laid ahead of her time
      obtain ⟨rfl, hna⟩ := hj0
      rw [ho0] at ho
      cases ho
      obtain ⟨z, zv', i, hz, hi, hzv', hze, _⟩ := al_step hlex ho0 hop hgd (hok j hin)
      have hzz : zv' = zv := by
        have := hzvq i hi
        rw [hzv'] at this
        exact Option.some.inj this
      subst hzz
      have hrun : (Instr.alloc t0 true (.tuple #[])).run E.P w = .ok (.pointer (some ⟨w.heap.size, 0, none⟩)) (w.alloc (.cells zv'.cells t0)) := by
        simp [Instr.alloc, zeroValue, typeInfo, hi, hzv', newVar, newRow]
      unfold wpOp
      rw [ho0]
      simp only
      rw [if_pos (by simp [Region.wanted, hgd])]
      refine .inl (wp_of_uponA (R := fun u w' => u = .pointer (some ⟨w.heap.size, 0, none⟩) ∧ w' = w.alloc (.cells zv'.cells t0)) ?_ ?_)
      · obtain ⟨dst, op, ty, pos, after, guard⟩ := o0
        simp only at hop
        subst hop
        simp only [execOp, Sem.run_bind, hrun, Result.andThen_ok, Sem.run_pure, UponA, and_self]
      · rintro u w' ⟨rfl, rfl⟩
        refine hK _ _ (.inr ⟨insP_self _ _, fun hall => hna fun m om hm hom hw => ?_, σ1, w.heap.size, w.alloc (.cells zv'.cells t0), hext, hs.below.alloc hs.size _, hs.base, hs.notNew, heap_new w _, fun o => hs.cells_new o, ?_, ?_, ?_⟩)
        · have := hall m om hm hom hw
          rwa [insP_ne (by omega)] at this
        · have : remP (insP p j) j = p := by
            funext m
            by_cases e : m = j
            · subst e; rw [remP_self, hpj]
            · rw [remP_ne e, insP_ne e]
          rw [this]
          exact hs.hide _
        · have : remP (insP p j) j = p := by
            funext m
            by_cases e : m = j
            · subst e; rw [remP_self, hpj]
            · rw [remP_ne e, insP_ne e]
          rw [this, hdst]
          refine ⟨by simp [Act.put, hr.size], fun k hk => ?_, hr.defers⟩
          have := hr.rep k
          simpa [Act.put, Array.getElem?_setIfInBounds_ne (Ne.symm hk)] using this
        · rw [hdst]
          have : d0 < a.tmps.size := by rw [hr.size]; exact hd0n
          simp [Act.put, this]
    · -- as ever
      obtain ⟨H', hy, hput, hH⟩ := step_core (call := call) (α := α0) (H := H0) hok hd ho hpj hrdy
        (fun m om hm hp hb hom => by
          rcases (lexA_spec hlex ho).2 m om hm hom with h | ⟨h1, h2⟩
          · rw [hb] at h; cases h
          · refine ⟨h1, ?_⟩
            rcases h2 with h2 | rfl
            · exact h2
            · rintro ⟨hw, _⟩
              have hall : AllWr E ops j p := by
                by_cases h : AllWr E ops j p
                · exact h
                · exact absurd ⟨rfl, h⟩ hj0
              rw [hall m om hm hom hw] at hp
              cases hp)
        (fun m om hm hp hb hom => by
          rcases (lexA_spec hlex hom).2 j o hm ho with h | ⟨h1, h2⟩
          · rw [hb] at h; cases h
          · refine ⟨h1, ?_⟩
            rcases h2 with h2 | rfl
            · exact h2
            · rintro ⟨hw, _⟩
              have := hinv hp j o hm ho hw
              rw [hpj] at this
              cases this)
      refine yieldsF_sound (K := K) hc ho hs hr (hdn j o ho) hy ?_
      intro u w' σ' he' hs' hr'
      refine hK _ _ (.inl ⟨fun hp => ?_, σ', hext.trans he', hH ▸ hs', hput ▸ hr'⟩)
      have hall : AllWr E ops i0 p := by
        by_cases e : j = i0
        · by_cases h : AllWr E ops i0 p
          · exact h
          · exact absurd ⟨e, h⟩ hj0
        · rw [insP_ne (Ne.symm e)] at hp
          exact hinv hp
      exact hall.ins
  · -- she is hidden
    have hji : j ≠ i0 := by
      rintro rfl
      rw [hp0] at hpj
      cases hpj
    have hbj : behind ops ops.size j i0 = false := no_dep_ready hlex hd hna ho hrdy
    have hbi : behind ops ops.size i0 j = false := by
      cases h : behind ops ops.size i0 j with
      | false => rfl
      | true => have := behind_down hd _ _ _ hp0 h; rw [hpj] at this; cases this
    have hd' : DownP ops (remP p i0) := by
      intro k ok e hk hok' he hb
      obtain ⟨hk1, hk2⟩ := remP_true hk
      have h1 := hd k ok e hk2 hok' he hb
      have hkn : k < ops.size := (Array.getElem?_eq_some_iff.1 hok').1
      by_cases h2 : e.on = i0
      · have := no_dep hlex hd hna hkn hk2
        rw [behind_edge (by omega) hok' he hb h2] at this
        cases this
      · rw [remP_ne h2]; exact h1
    have hrdy' : ∀ e ∈ o.after, Region.binds .any e = true → remP p i0 e.on = true := by
      intro e he hb
      by_cases h2 : e.on = i0
      · rw [behind_edge (by omega) ho he hb h2] at hbj
        cases hbj
      · rw [remP_ne h2]; exact hrdy e he hb
    obtain ⟨H', hy, hput, hH⟩ := step_core (call := call) (α := α0) (H := H0) hok hd' ho (by rw [remP_ne hji]; exact hpj) hrdy'
      (fun m om hm hp hb hom => by
        rcases (lexA_spec hlex ho).2 m om hm hom with h | ⟨h1, h2⟩
        · rw [hb] at h; cases h
        · refine ⟨h1, ?_⟩
          rcases h2 with h2 | h2
          · exact h2
          · exact absurd h2 hji)
      (fun m om hm hp hb hom => by
        rcases (lexA_spec hlex hom).2 j o hm ho with h | ⟨h1, h2⟩
        · rw [hb] at h; cases h
        · refine ⟨h1, ?_⟩
          rcases h2 with h2 | h2
          · exact h2
          · exact absurd h2 (remP_true hp).1)
    have hap : d0 ∉ o.looksAt ops ∧ o.dst ≠ some d0 := by
      rcases Nat.lt_trichotomy i0 j with hlt | heq | hgt
      · rcases (lexA_spec hlex ho).2 i0 o0 hlt ho0 with h | ⟨h, _⟩
        · rw [hbj] at h; cases h
        · exact ⟨(apart_dst h).1 d0 hdst, (apart_dst h).2.1 d0 hdst⟩
      · exact absurd heq.symm hji
      · rcases (lexA_spec hlex ho0).2 j o hgt ho with h | ⟨h, _⟩
        · rw [hbi] at h; cases h
        · exact ⟨(apart_dst h).2.2 d0 hdst, fun e => (apart_dst h).2.1 d0 e hdst⟩
    refine yields_sound (d0 := d0) (K := K) hc ho hs hr (hdn j o ho) hap.1 hy ?_
    intro u w' σ' he' hs' hr'
    have hptr' : (a.put o.dst u).tmps.getD d0 undef = .pointer (some ⟨b, 0, none⟩) := by
      rw [← hptr]
      cases hdd : o.dst with
      | none => rfl
      | some d =>
        have : d ≠ d0 := fun e => hap.2 (by rw [hdd, e])
        simp [Act.put, Array.getElem?_setIfInBounds_ne this]
    have hnone' : ∀ o, σ'.cells b o = none := fun o => by rw [he'.old b o (.inr rfl)]; exact hnone o
    rw [hH] at hs'
    rw [hput] at hr'
    rw [← insP_rem hji] at hs' hr'
    have hext' : Ext B σ σ' := hext.trans (he'.sub fun _ h => .inl h)
    have hp0' : insP p j i0 = true := by rw [insP_ne (Ne.symm hji)]; exact hp0
    by_cases hall : AllWr E ops i0 (insP p j)
    · refine hK _ _ (.inl (to_light (zv := zv) hlex hok ho0 hop hgd hdst hd0n hp0' hall ?_ hext' hbel hbase hB hzvq hW1 hnone' hs' hr' hptr'))
      intro m hm hmn hpm
      by_cases e : m = j
      · subst e; exact hbj
      · rw [insP_ne e] at hpm
        exact no_dep hlex hd hna hmn hpm
    · exact hK _ _ (.inr ⟨hp0', hall, σ', b, W1, hext', hbel, hbase, hB, hW1, hnone', hs', hr', hptr'⟩)

theorem AllWr.all {p : Nat → Bool} (h : ∀ m, m < ops.size → p m = true) : AllWr E ops i0 p := fun m om _ hom _ => h m (Array.getElem?_eq_some_iff.1 hom).1

/-- Every order, from any state. -/
theorem al_any (hc : CallOk E.P call) (hlex : lexA E ops i0 = true) (hok : ∀ m, m < ops.size → OkAt E call ops α0 H0 m) (hdn : ∀ (i : Nat) (o : Oper), ops[i]? = some o → ∀ d, o.dst = some d → d < n) (ho0 : ops[i0]? = some o0) (hop : o0.op = .alloc t0) (hgd : o0.guard = none) (hdst : o0.dst = some d0)
    (hzvq : ∀ i, E.P.info? t0 = some i → i.zero = some zv) {Q : Exit → Act → World → Prop}
    (hQ : ∀ σ1 a' w', Ext B σ σ1 → Sim E.P B W0 (tr E call ops α0 H0 ops.size).2 σ1 w' → RelF σ1 n ds a' (tr E call ops α0 H0 ops.size).1 → Q .normal a' w') : ∀ (fuel : Nat) (listed : Array Bool) (a : Act) (w : World), listed.size = ops.size →
    DownP ops (fun m => listed.getD m false) → cntP (fun m => listed.getD m false) ops.size = fuel →
    (NormS E call ops α0 H0 B W0 σ n ds i0 (fun m => listed.getD m false) a w ∨ PendS E call ops α0 H0 B W0 σ n ds i0 d0 t0 zv (fun m => listed.getD m false) a w) → wpAny E.P .any ops Q fuel listed a w := by
  have hrd : ∀ listed : Array Bool, listed.size = ops.size → ∀ m, m < ops.size → listed.getD m true = listed.getD m false := fun listed hs m hm => by
    have : m < listed.size := by omega
    simp [this]
  intro fuel
  induction fuel with
  | zero =>
    intro listed a w hs hd hcnt hst
    have hall := cntP_zero _ hcnt
    refine ⟨?_, ?_⟩
    · rw [List.eq_nil_iff_forall_not_mem]
      intro j hj
      obtain ⟨h1, o, ho, _⟩ := mem_ready.1 hj
      have hlt : j < ops.size := (Array.getElem?_eq_some_iff.1 ho).1
      have h2 : listed.getD j false = true := hall j hlt
      rw [hrd listed hs j hlt, h2] at h1
      cases h1
    · rcases hst with ⟨_, σ1, h1, h2, h3⟩ | ⟨_, hna, _⟩
      · have e1 : Fk E call ops α0 H0 (fun m => listed.getD m false) ops.size = (tr E call ops α0 H0 ops.size).1 := by
          rw [← Fk_lt hok ops.size (Nat.le_refl _)]
          funext t
          refine Fk_agree _ fun m hm hne => ?_
          have : listed.getD m false = true := hall m hm
          simp [this, hm] at hne
        have e2 : Hk E call ops α0 H0 (fun m => listed.getD m false) ops.size = (tr E call ops α0 H0 ops.size).2 := by
          rw [← Hk_lt hok ops.size (Nat.le_refl _)]
          refine Hk_agree _ fun m hm _ => ?_
          have : listed.getD m false = true := hall m hm
          simp [this, hm]
        rw [e1] at h3
        rw [e2] at h2
        exact hQ σ1 a w h1 h2 h3
      · exact absurd (AllWr.all hall) hna
  | succ fuel ih =>
    intro listed a w hs hd hcnt hst
    refine ⟨fun hnil => ?_, fun i hi => ?_⟩
    · exfalso
      rcases firstWr (fun m => !listed.getD m false) 0 ops.size with h | ⟨m, _, h2, h3, h4⟩
      · have := cntP_all (p := fun m => listed.getD m false) ops.size fun m hm => by have := h m (by omega) hm; simpa using this
        omega
      · have hom : ops[m]? = some ops[m] := Array.getElem?_eq_getElem h2
        have : m ∈ Region.ready .any ops listed := mem_ready.2 ⟨by rw [hrd listed hs m h2]; simpa using h3, _, hom, fun e he hb => by
          have := h4 e.on (by omega) ((lexA_spec hlex hom).1 e he hb)
          simpa using this⟩
        rw [hnil] at this
        cases this
    · obtain ⟨h1, o, ho, hall⟩ := mem_ready.1 hi
      have hin : i < ops.size := (Array.getElem?_eq_some_iff.1 ho).1
      rw [hrd listed hs i hin] at h1
      have hset : (fun m => (listed.setIfInBounds i true).getD m false) = insP (fun m => listed.getD m false) i := by
        funext m
        by_cases e : m = i
        · subst e
          have : m < listed.size := by omega
          simp [this, insP]
        · rw [insP_ne e]
          exact getD_set_ne false (Ne.symm e)
      refine al_one hc hlex hok hdn ho0 hop hgd hdst hzvq hd ho h1 hall hst ?_
      intro a' w' hst'
      refine ih (listed.setIfInBounds i true) a' w' (by simp [hs]) ?_ ?_ (by rw [hset]; exact hst')
      · rw [hset]
        intro j oj e hj hoj he hb
        by_cases e1 : e.on = i
        · rw [e1]; exact insP_self _ _
        · rw [insP_ne e1]
          by_cases e2 : j = i
          · subst e2
            rw [ho] at hoj; cases hoj
            exact hall e he hb
          · rw [insP_ne e2] at hj
            exact hd j oj e hj hoj he hb
      · rw [hset]
        have := cntP_set (p := fun m => listed.getD m false) h1 ops.size
        rw [if_pos hin] at this
        omega

/-- The run in the text's order serves every order. -/
theorem dynA_any (hc : CallOk E.P call) (hlex : lexA E ops i0 = true) (hdn : ∀ (i : Nat) (o : Oper), ops[i]? = some o → ∀ d, o.dst = some d → d < n) {α : Frm} {H : AHeap} {α' : Frm} {H' : AHeap} (h : execOpsD E call ops 0 ops.toList [] [] α H = some (α', H'))
    (hs : Sim E.P B W0 H σ w) (hr : RelF σ n ds a α) {Q : Exit → Act → World → Prop}
    (hQ : ∀ σ1 a' w', Ext B σ σ1 → Sim E.P B W0 H' σ1 w' → RelF σ1 n ds a' α' → Q .normal a' w') : wpAny E.P .any ops Q ops.size (Array.replicate ops.size false) a w := by
  obtain ⟨hok, htr⟩ := okD (E := E) (call := call) (ops := ops) (α := α) (H := H) ops.toList 0 [] [] α' H' (by simp) (by simp) (fun i _ _ hi => absurd hi (by omega)) (fun i _ _ hi => absurd hi (by omega)) h
  replace hok : ∀ m, m < ops.size → OkAt E call ops α H m := fun m hm => hok m (by omega) hm
  obtain ⟨o0, t0, d0, ho0, hop, hgd, hdst⟩ := lexA_al hlex
  obtain ⟨z, zv, i, hz, hi, hzv, _⟩ := al_step hlex ho0 hop hgd (hok i0 (Array.getElem?_eq_some_iff.1 ho0).1)
  have hrep : ∀ m : Nat, (Array.replicate ops.size false).getD m false = false := fun m => by
    by_cases hm : m < ops.size
    · simp [hm]
    · simp [hm]
  have hp : (fun m => (Array.replicate ops.size false).getD m false) = fun _ => false := by funext m; exact hrep m
  have hF : ∀ k, Fk E call ops α H (fun _ => false) k = α := fun k => by
    induction k with
    | zero => rfl
    | succ k ih => simp [Fk, ih]
  have hH : ∀ k, Hk E call ops α H (fun _ => false) k = H := fun k => by
    induction k with
    | zero => rfl
    | succ k ih => simp [Hk, ih]
  refine al_any (t0 := t0) (zv := zv) (σ := σ) (α0 := α) (H0 := H) hc hlex hok hdn ho0 hop hgd hdst (fun i' hi' => by rw [hi] at hi'; cases hi'; exact hzv) (Q := Q) (by rw [htr]; exact hQ) ops.size (Array.replicate ops.size false) a w (by simp) (by rw [hp]; intro j o e hj; cases hj) (by
    rw [hp]
    have : ∀ k, cntP (fun _ => false) k = k := fun k => by
      induction k with
      | zero => rfl
      | succ k ih => simp [cntP, ih]
    exact this _) (.inl ?_)
  rw [hp]
  refine ⟨fun h => by simp at h, σ, Ext.refl _ _, ?_, ?_⟩
  · rw [hH]; exact hs
  · rw [hF]; exact hr
end
end
end Go.Ab
