/- The operations that write or make memory, against the model. -/
import Derived.Test.YtkpnccaoolbeeaaGreatDoorAc7
namespace Go.Ab
set_option linter.unusedVariables false
open Go Go.RowKit

section
variable {P : Program} {B : Nat → Prop} {W0 : World} {H : AHeap} {σ : St} {w : World}

theorem ObjOk.blk {id : Nat} {x : AObj} (h : ObjOk P B σ w id x) : ∃ b, Ab.blk σ id x = some b ∧ ¬ B b ∧ b < w.heap.size := by
  cases x with
  | cells te cs =>
    obtain ⟨b, c, e, h1, h2, h3, _⟩ := h
    exact ⟨b, h1, h2, (Array.getElem?_eq_some_iff.1 h3).1⟩
  | tip n et =>
    obtain ⟨b, cap, c, s, h1, h2, h3, _⟩ := h
    exact ⟨b, by simp [Ab.blk, h1], h2, (Array.getElem?_eq_some_iff.1 h3).1⟩
  | row n et s cs =>
    obtain ⟨b, cap, c, h1, _, h2, h3, _⟩ := h
    exact ⟨b, h1, h2, (Array.getElem?_eq_some_iff.1 h3).1⟩
  | map es clock =>
    obtain ⟨b, ms, h1, h2, h3, _⟩ := h
    exact ⟨b, h1, h2, (Array.getElem?_eq_some_iff.1 h3).1⟩

theorem ObjOk.keep {σ' : St} {w' : World} {id : Nat} {x : AObj} (h : ObjOk P B σ w id x) (hle : σ.le σ')
    (hb : ∀ b, Ab.blk σ id x = some b → w'.heap[b]? = w.heap[b]? ∧ ∀ o, σ'.cells b o = σ.cells b o) (hown : ∀ n, σ'.own id n = σ.own id n) : ObjOk P B σ' w' id x := by
  cases x with
  | cells te cs =>
    obtain ⟨b, c, e, h1, h2, h3, h4, h5, h6⟩ := h
    obtain ⟨q1, q2⟩ := hb b h1
    exact ⟨b, c, e, hle.loc _ _ h1, h2, q1.trans h3, h4.mono hle, fun o => (q2 o).trans (h5 o), h6⟩
  | tip n et =>
    obtain ⟨b, cap, c, s, h1, h2, h3, h4, h5, h6, h7, h8, h9⟩ := h
    obtain ⟨q1, q2⟩ := hb b (by simp [Ab.blk, h1])
    exact ⟨b, cap, c, s, hle.own _ _ _ h1, h2, q1.trans h3, h4, h5, h6, h7, fun o ho => (q2 o).trans (h8 o ho), fun m hm => (hown m).trans (h9 m hm)⟩
  | row n et s cs =>
    obtain ⟨b, cap, c, h1, h1', h2, h3, h4, h5, h6, h7, h8, h9, h10, h11, h12⟩ := h
    obtain ⟨q1, q2⟩ := hb b h1
    exact ⟨b, cap, c, hle.loc _ _ h1, hle.own _ _ _ h1', h2, q1.trans h3, h4, h5, h6, h7, h8, h9, h10.mono hle, h11, fun o => (q2 o).trans (h12 o)⟩
  | map es clock =>
    obtain ⟨b, ms, h1, h2, h3, h4, h5⟩ := h
    obtain ⟨q1, q2⟩ := hb b h1
    exact ⟨b, ms, hle.loc _ _ h1, h2, q1.trans h3, h4.mono hle, fun o => (q2 o).trans (h5 o)⟩

theorem blk_keep {σ' : St} {id : Nat} {x : AObj} {b : Nat} (hle : σ.le σ') (h : blk σ id x = some b) : blk σ' id x = some b := by
  cases x with
  | cells te cs => exact hle.loc _ _ h
  | row n et s cs => exact hle.loc _ _ h
  | map es clock => exact hle.loc _ _ h
  | tip n et =>
    simp only [blk] at h ⊢
    obtain ⟨p, hp, rfl⟩ := Option.map_eq_some_iff.1 h
    rw [hle.own _ _ _ hp]; rfl

theorem AHeap.get_lt {H : AHeap} {id : Nat} {x : AObj} (h : H.get id = some x) : id < H.next := by
  unfold AHeap.get at h
  split at h
  · assumption
  · cases h

theorem AHeap.get_push (H : AHeap) (x : AObj) (id : Nat) : (H.push x).get id = if H.next = id then some x else H.get id := by
  simp only [AHeap.get, AHeap.push, getL]
  by_cases h1 : id < H.next
  · rw [if_pos (by omega), if_pos h1]
  · by_cases h2 : H.next = id
    · rw [if_pos (by omega), if_pos h2, if_pos h2]
    · rw [if_neg (by omega), if_neg h2, if_neg h1]

theorem getL_setL : ∀ (l : List (Nat × AObj)) (id : Nat) (y : AObj) (k : Nat), getL (setL l id y) k = if id = k then (getL l id).map fun _ => y else getL l k
  | [], id, y, k => by simp [setL, getL]
  | (j, x) :: l, id, y, k => by
    have ih := getL_setL l id y k
    by_cases hj : j = id
    · subst hj
      simp only [setL, if_pos, getL]
      by_cases hk : j = k <;> simp [hk]
    · simp only [setL, if_neg hj, getL]
      by_cases hk : j = k
      · subst hk
        simp [Ne.symm hj]
      · simp only [if_neg hk]
        exact ih

theorem AHeap.get_set (H : AHeap) (id : Nat) (y : AObj) (k : Nat) : (H.set id y).get k = if id = k then (H.get id).map (fun _ => y) else H.get k := by
  have := getL_setL H.objs id y k
  simp only [AHeap.get, AHeap.set, this]
  by_cases e : id = k
  · subst e
    by_cases h : id < H.next
    · simp [h]
    · simp [h]
  · simp [e]

theorem Sim.size (hs : Sim P B W0 H σ w) : ∀ k, B k → k < w.heap.size := fun k hk => Nat.lt_of_lt_of_le (hs.base.lt k hk) hs.below.size
/-- The same blocks, and all that came since. -/
theorem Sim.baseNow (hs : Sim P B W0 H σ w) : Base P (· < w.heap.size) w :=
  ⟨fun _ h => h, fun g hg => ⟨hs.size g (hs.base.tab g hg).1, fun c hc => by
    have h1 := hs.below.block g (hs.base.tab g hg).1
    have h2 := (hs.base.tab g hg).2 c hc
    simpa only [World.cell?, h1] using h2⟩⟩
theorem Sim.notNew (hs : Sim P B W0 H σ w) : ¬ B w.heap.size := fun h => Nat.lt_irrefl _ (hs.size _ h)

theorem Sim.cells_lt (hs : Sim P B W0 H σ w) {b o : Nat} {v : Value} (h : σ.cells b o = some v) : b < w.heap.size := by
  have := hs.cells b o v h
  unfold World.cell? at this
  rcases Nat.lt_or_ge b w.heap.size with h' | h'
  · exact h'
  · simp [Array.getElem?_eq_none h'] at this

theorem Sim.cells_new (hs : Sim P B W0 H σ w) (o : Nat) : σ.cells w.heap.size o = none := by
  cases h : σ.cells w.heap.size o with
  | none => rfl
  | some v => exact absurd (hs.cells_lt h) (Nat.lt_irrefl _)

theorem heap_new (w : World) (o : Obj) : (w.alloc o).heap[w.heap.size]? = some o := by
  show (w.heap.push o)[w.heap.size]? = some o
  simp

theorem heap_old (w : World) (o : Obj) {k : Nat} (h : k < w.heap.size) : (w.alloc o).heap[k]? = w.heap[k]? := Below.heap_alloc w o k h

theorem cell_of_heap {w w' : World} {b : Nat} (h : w'.heap[b]? = w.heap[b]?) (o : Nat) : w'.cell? ⟨b, o, none⟩ = w.cell? ⟨b, o, none⟩ := by
  simp [World.cell?, h]

/-- A new block of one's own. -/
def St.bind (σ : St) (id b : Nat) : St := { σ with loc := fun i => if i = id then some b else σ.loc i }

theorem Sim.bind_le (hs : Sim P B W0 H σ w) (b : Nat) : σ.le (σ.bind H.next b) := by
  refine ⟨fun _ _ _ h => h, fun i c h => ?_, fun _ _ _ h => h⟩
  simp only [St.bind]
  split
  · rename_i hi; subst hi; rw [(hs.fresh H.next (Nat.le_refl _)).1] at h; cases h
  · exact h

theorem Sim.push (hs : Sim P B W0 H σ w) {cs : List AV} {c : Array Value} (e : TypeId) {te : Option TypeId} (hte : ∀ t, te = some t → e = t) (hr : RepL σ cs c.toList) :
    Sim P B W0 (H.push (.cells te cs)) (σ.bind H.next w.heap.size) (w.alloc (.cells c e)) := by
  have hle := hs.bind_le w.heap.size
  refine ⟨hs.below.alloc hs.size _, hs.base, ?_, hs.one, ?_, ?_, ?_, ?_⟩
  · intro b o v h
    rw [cell_of_heap (heap_old w _ (hs.cells_lt h))]
    exact hs.cells b o v h
  · intro id hid
    have hid' : H.next + 1 ≤ id := hid
    have := hs.fresh id (by omega)
    exact ⟨by simp only [St.bind]; rw [if_neg (by omega)]; exact this.1, this.2⟩
  · intro id x h
    rw [AHeap.get_push] at h
    show id < H.next + 1
    split at h
    · omega
    · have := hs.keys id x h; omega
  · intro id x h
    rw [AHeap.get_push] at h
    split at h
    · rename_i hid
      subst hid
      cases h
      exact ⟨w.heap.size, c, e, by simp [St.bind], hs.notNew, heap_new w _, hr.mono hle, fun o => hs.cells_new o, hte⟩
    · have ho := hs.obj id x h
      refine ho.keep hle (fun b hb => ?_) (fun _ => rfl)
      obtain ⟨b', hb', _, hlt⟩ := ho.blk
      rw [hb] at hb'
      cases hb'
      exact ⟨heap_old w _ hlt, fun _ => rfl⟩
  · intro id id' x x' h h' hb
    rw [AHeap.get_push] at h h'
    have key : ∀ i y, H.get i = some y → ∃ b, blk (σ.bind H.next w.heap.size) i y = some b ∧ b < w.heap.size := fun i y hy => by
      obtain ⟨b, h1, _, h3⟩ := (hs.obj i y hy).blk
      exact ⟨b, blk_keep hle h1, h3⟩
    split at h
    · rename_i e1
      split at h'
      · rename_i e2; omega
      · cases h
        obtain ⟨b, h1, h2⟩ := key id' x' h'
        rw [h1, ← e1] at hb
        simp [blk, St.bind] at hb
        omega
    · split at h'
      · rename_i e2
        cases h'
        obtain ⟨b, h1, h2⟩ := key id x h
        rw [h1, ← e2] at hb
        simp [blk, St.bind] at hb
        omega
      · obtain ⟨b, h1, _, _⟩ := (hs.obj id x h).blk
        obtain ⟨b', h1', _, _⟩ := (hs.obj id' x' h').blk
        rw [blk_keep hle h1, blk_keep hle h1'] at hb
        exact hs.inj id id' x x' h h' (by rw [h1, h1', hb])

theorem RepL.bindW {cs : List AV} {us : List Value} (hs : Sim P B W0 H σ w) (h : RepL σ cs us) (b : Nat) : RepL (σ.bind H.next b) cs us := h.mono (hs.bind_le b)

/-- What an operation is asked: it yields a value, or calls a function that hands one back. -/
def UponA (P : Program) (r : Result Next) (Post : Value → World → Prop) : Prop :=
  match r with
  | .ok (.value u) w' => Post u w'
  | .ok .skip w' => Post undef w'
  | .ok (.enter f args) w' => Calls P f args w' (fun e w'' => ∃ u, e = .returned u ∧ Post u w'')
  | _ => False

def Goes (P : Program) (B : Nat → Prop) (W0 : World) (σ : St) (v : AV) (H' : AHeap) (u : Value) (w' : World) : Prop := ∃ σ', Ext B σ σ' ∧ Sim P B W0 H' σ' w' ∧ Rep σ' v u

theorem alloc_sound (hs : Sim P B W0 H σ w) {t : TypeId} {v : AV} {H' : AHeap} (h : allocA P t H = some (v, H')) :
    UponA P ((do pure (Next.value (← Instr.alloc t true (.tuple #[]))) : Sem Next).run P w) (Goes P B W0 σ v H') := by
  unfold allocA at h
  split at h
  · rename_i z hz
    simp only [Option.some.injEq, Prod.mk.injEq] at h
    obtain ⟨rfl, rfl⟩ := h
    obtain ⟨i, zv, hi, hzv, rfl⟩ := zeroQ_spec hz
    have hrun : (Instr.alloc t true (.tuple #[])).run P w = .ok (.pointer (some ⟨w.heap.size, 0, none⟩)) (w.alloc (.cells zv.cells t)) := by
      simp [Instr.alloc, zeroValue, typeInfo, hi, hzv, newVar, newRow]
    simp only [Sem.run_bind, hrun, Result.andThen_ok, Sem.run_pure, UponA]
    refine ⟨_, ⟨hs.bind_le _, fun _ _ _ => rfl⟩, hs.push t (fun _ h => Option.some.inj h) (RepL.ofV1 _), ?_⟩
    simp [Rep, St.bind]
  · cases h

theorem box_sound (hs : Sim P B W0 H σ w) {t : TypeId} {x v : AV} {u : Value} {H' : AHeap} (hr : Rep σ x u) (h : boxA x H = some (v, H')) :
    UponA P ((do pure (Next.value (← Instr.box t u)) : Sem Next).run P w) (Goes P B W0 σ v H') := by
  unfold boxA at h
  split at h
  · rename_i hw
    simp only [Option.some.injEq, Prod.mk.injEq] at h
    obtain ⟨rfl, rfl⟩ := h
    have hrun : (Instr.box t u).run P w = .ok (.pointer (some ⟨w.heap.size, 0, none⟩)) (w.alloc (.cells u.cells t)) := by
      simp [Instr.box, newVar, newRow]
    simp only [Sem.run_bind, hrun, Result.andThen_ok, Sem.run_pure, UponA]
    refine ⟨_, ⟨hs.bind_le _, fun _ _ _ => rfl⟩, hs.push t (fun _ h => by cases h) (hr.cells hw), ?_⟩
    simp [Rep, St.bind]
  · cases h

theorem allOne_spec : ∀ {cs : List AV} {us : List Value}, allOne cs = true → RepL σ cs us → ∀ u ∈ us, u.oneCell' = true
  | [], us, _, hr, u, hu => by rw [RepL.nil_iff] at hr; subst hr; cases hu
  | c :: cs, us, h, hr, u, hu => by
    rw [RepL.cons_iff] at hr
    obtain ⟨x, us', rfl, r, q⟩ := hr
    simp only [allOne, Bool.and_eq_true] at h
    cases hu with
    | tail _ hu => exact allOne_spec h.2 q u hu
    | head =>
      have h1 := h.1
      cases c <;> simp only [AV.one, Bool.false_eq_true] at h1 <;> simp only [Rep] at r
      case any => exact r
      case int => subst r; rfl
      case bool => subst r; rfl
      case str => subst r; rfl
      case vec => obtain ⟨a, cap, rfl, _⟩ := r; rfl
      case ptr => obtain ⟨b, _, rfl⟩ := r; rfl
      case rptr => obtain ⟨b, o, rfl, _⟩ := r; rfl
      case fn => obtain ⟨us, vs, rfl, _⟩ := r; rfl
      case iface => obtain ⟨x, rfl, _⟩ := r; rfl
      case sl => obtain ⟨b, cap, _, _, rfl, _⟩ := r; rfl
      case map => obtain ⟨b, _, rfl⟩ := r; rfl
      case val => subst r; exact h1

theorem Sim.set_cells (hs : Sim P B W0 H σ w) {id b : Nat} {cs cs' : List AV} {te : Option TypeId} (hg : H.get id = some (.cells te cs)) (hb : σ.loc id = some b) {c c' : Array Value} {e : TypeId}
    (hh : w.heap[b]? = some (.cells c e (0, 0))) (hr : RepL σ cs' c'.toList) : Sim P B W0 (H.set id (.cells te cs')) σ (w.setRow b c') := by
  have hB : ¬ B b := by
    obtain ⟨b', c0, e0, h1, h2, _⟩ := hs.obj id _ hg
    rw [hb] at h1; cases h1; exact h2
  have hnone : ∀ o, σ.cells b o = none := by
    obtain ⟨b', c0, e0, h1, _, _, _, h5, _⟩ := hs.obj id _ hg
    rw [hb] at h1; cases h1; exact h5
  have hte : ∀ t, te = some t → e = t := by
    obtain ⟨b', c0, e0, h1, _, h3, _, _, h6⟩ := hs.obj id _ hg
    rw [hb] at h1; cases h1
    rw [hh] at h3; cases h3; exact h6
  have hother : ∀ k, k ≠ b → (w.setRow b c').heap[k]? = w.heap[k]? := fun k hk => setRow_other w b k c' hk
  have hblk : ∀ k x, (H.set id (.cells te cs')).get k = some x → ∃ y, H.get k = some y ∧ blk σ k x = blk σ k y ∧ (k ≠ id → x = y) := by
    intro k x hk
    rw [AHeap.get_set] at hk
    split at hk
    · rename_i e1
      subst e1
      rw [hg] at hk
      cases hk
      exact ⟨_, hg, rfl, fun h => absurd rfl h⟩
    · exact ⟨x, hk, rfl, fun _ => rfl⟩
  refine ⟨hs.below.trans ⟨rfl, rfl, rfl, by simp, fun k hk => hother k (by rintro rfl; exact hB hk)⟩, hs.base, ?_, hs.one, hs.fresh, ?_, ?_, ?_⟩
  · intro b' o v h
    have : b' ≠ b := by rintro rfl; rw [hnone] at h; cases h
    rw [cell_of_heap (hother b' this)]
    exact hs.cells b' o v h
  · intro k x hk
    obtain ⟨y, hy, _⟩ := hblk k x hk
    exact hs.keys k y hy
  · intro k x hk
    by_cases hkid : k = id
    · subst hkid
      rw [AHeap.get_set, if_pos rfl, hg] at hk
      cases hk
      exact ⟨b, c', e, hb, hB, setRow_heap w b c c' e (0, 0) hh, hr, hnone, hte⟩
    · obtain ⟨y, hy, _, hxy⟩ := hblk k x hk
      have := hxy hkid
      subst this
      have ho := hs.obj k x hy
      refine ho.keep σ.le_refl (fun b' hb' => ⟨hother b' ?_, fun _ => rfl⟩) (fun _ => rfl)
      rintro rfl
      exact hkid (hs.inj k id x _ hy hg (by rw [hb']; simp [blk, hb]))
  · intro k k' x x' hk hk' hbb
    obtain ⟨y, hy, e1, _⟩ := hblk k x hk
    obtain ⟨y', hy', e2, _⟩ := hblk k' x' hk'
    exact hs.inj k k' y y' hy hy' (by rw [← e1, ← e2, hbb])

theorem getL_delL : ∀ (l : List (Nat × AObj)) (id k : Nat), getL (delL l id) k = if id = k then none else getL l k
  | [], id, k => by simp [delL, getL]
  | (j, x) :: l, id, k => by
    have ih := getL_delL l id k
    simp only [delL]
    by_cases hj : j = id
    · subst hj
      rw [if_pos rfl, ih]
      by_cases hk : j = k
      · simp [hk]
      · simp [hk, getL]
    · rw [if_neg hj]
      simp only [getL, ih]
      by_cases hjk : j = k
      · subst hjk; simp [Ne.symm hj]
      · simp [hjk]

theorem AHeap.get_del (H : AHeap) (id k : Nat) : (H.del id).get k = if id = k then none else H.get k := by
  have := getL_delL H.objs id k
  simp only [AHeap.get, AHeap.del, this]
  by_cases e : id = k
  · simp [e]
  · simp [e]

/-- An object that nobody reads any more. -/
theorem Sim.del (hs : Sim P B W0 H σ w) (id : Nat) : Sim P B W0 (H.del id) σ w := by
  have hsub : ∀ k x, (H.del id).get k = some x → H.get k = some x := fun k x h => by
    rw [AHeap.get_del] at h
    split at h
    · cases h
    · exact h
  exact ⟨hs.below, hs.base, hs.cells, hs.one, hs.fresh, fun k x h => hs.keys k x (hsub k x h), fun k x h => hs.obj k x (hsub k x h), fun k k' x x' h h' e => hs.inj k k' x x' (hsub k x h) (hsub k' x' h') e⟩

/-- Where a new object lies, and in how much room. -/
def St.bindR (σ : St) (id b cap : Nat) : St :=
  { σ with loc := fun i => if i = id then some b else σ.loc i, own := fun i n => if i = id ∧ n = 0 then some (b, cap) else σ.own i n }

theorem Sim.bindR_le (hs : Sim P B W0 H σ w) (b cap : Nat) : σ.le (σ.bindR H.next b cap) := by
  refine ⟨fun _ _ _ h => h, fun i c h => ?_, fun i n x h => ?_⟩
  · simp only [St.bindR]
    split
    · rename_i hi; subst hi; rw [(hs.fresh H.next (Nat.le_refl _)).1] at h; cases h
    · exact h
  · simp only [St.bindR]
    split
    · rename_i hi; obtain ⟨rfl, rfl⟩ := hi; rw [(hs.fresh H.next (Nat.le_refl _)).2] at h; cases h
    · exact h

/-- A new object, in a block that no other one has. -/
theorem Sim.pushAt (hs : Sim P B W0 H σ w) {b cap : Nat} {w' : World} {x : AObj} (hB : ¬ B b) (hb : ∀ k, k ≠ b → k < w.heap.size → w'.heap[k]? = w.heap[k]?) (hbel : BelowS B W0 w')
    (hfree : ∀ id y, H.get id = some y → blk σ id y ≠ some b) (hnone : ∀ o, σ.cells b o = none) (hx : blk (σ.bindR H.next b cap) H.next x = some b) (hok : ObjOk P B (σ.bindR H.next b cap) w' H.next x) :
    Sim P B W0 (H.push x) (σ.bindR H.next b cap) w' ∧ Ext B σ (σ.bindR H.next b cap) := by
  have hle := hs.bindR_le b cap
  refine ⟨⟨hbel, hs.base, ?_, hs.one, ?_, ?_, ?_, ?_⟩, hle, fun _ _ _ => rfl⟩
  · intro b' o v h
    have h1 : σ.cells b' o = some v := h
    have hne : b' ≠ b := by rintro rfl; rw [hnone] at h1; cases h1
    rw [cell_of_heap (hb b' hne (hs.cells_lt h1))]
    exact hs.cells b' o v h1
  · intro id hid
    have hid' : H.next + 1 ≤ id := hid
    have := hs.fresh id (by omega)
    refine ⟨by simp only [St.bindR]; rw [if_neg (by omega)]; exact this.1, fun n => ?_⟩
    simp only [St.bindR]; rw [if_neg (by omega)]; exact this.2 n
  · intro id y h
    rw [AHeap.get_push] at h
    show id < H.next + 1
    split at h
    · omega
    · have := hs.keys id y h; omega
  · intro id y h
    rw [AHeap.get_push] at h
    split at h
    · rename_i hid
      subst hid
      cases h
      exact hok
    · have ho := hs.obj id y h
      have hlt := hs.keys id y h
      refine ho.keep hle (fun b' hb' => ⟨hb b' ?_ ?_, fun _ => rfl⟩) (fun n => ?_)
      · rintro rfl; exact hfree id y h hb'
      · obtain ⟨b2, hb2, _, hlt2⟩ := ho.blk
        rw [hb'] at hb2; cases hb2; exact hlt2
      · simp only [St.bindR]; rw [if_neg (by omega)]
  · intro id id' y y' h h' he
    rw [AHeap.get_push] at h h'
    have key : ∀ i z, H.get i = some z → ∃ b', blk (σ.bindR H.next b cap) i z = some b' ∧ blk σ i z = some b' ∧ b' ≠ b := fun i z hz => by
      obtain ⟨b', h1, _, _⟩ := (hs.obj i z hz).blk
      refine ⟨b', blk_keep hle h1, h1, ?_⟩
      rintro rfl
      exact hfree i z hz h1
    split at h
    · rename_i e1
      split at h'
      · rename_i e2; omega
      · cases h
        obtain ⟨b', h1, _, h3⟩ := key id' y' h'
        rw [h1, ← e1, hx] at he
        cases he
        exact absurd rfl h3
    · split at h'
      · rename_i e2
        cases h'
        obtain ⟨b', h1, _, h3⟩ := key id y h
        rw [h1, ← e2, hx] at he
        cases he
        exact absurd rfl h3
      · obtain ⟨b1, h1, g1, _⟩ := key id y h
        obtain ⟨b2, h2, g2, _⟩ := key id' y' h'
        rw [h1, h2] at he
        exact hs.inj id id' y y' h h' (by rw [g1, g2, he])

/-- A new object in a new block. -/
theorem Sim.pushNew (hs : Sim P B W0 H σ w) {cap : Nat} {w1 : World} {o : Obj} {x : AObj} (hw1 : w1.heap = w.heap) (hbel : BelowS B W0 w1)
    (hx : blk (σ.bindR H.next w.heap.size cap) H.next x = some w.heap.size) (hok : (w1.alloc o).heap[w.heap.size]? = some o → ObjOk P B (σ.bindR H.next w.heap.size cap) (w1.alloc o) H.next x) :
    Sim P B W0 (H.push x) (σ.bindR H.next w.heap.size cap) (w1.alloc o) ∧ Ext B σ (σ.bindR H.next w.heap.size cap) := by
  have hsize : w1.heap.size = w.heap.size := by rw [hw1]
  refine hs.pushAt hs.notNew (fun k hk hlt => ?_) (hbel.alloc (fun k hk => by rw [hsize]; exact hs.size k hk) _) (fun id y hy he => ?_) (fun o => hs.cells_new o) hx (hok ?_)
  · rw [heap_old w1 _ (by omega), hw1]
  · obtain ⟨b, h1, _, h3⟩ := (hs.obj id y hy).blk
    rw [h1] at he
    cases he
    exact absurd h3 (Nat.lt_irrefl _)
  · rw [← hsize]; exact heap_new w1 o

/-- An object that is written. -/
theorem Sim.setAt (hs : Sim P B W0 H σ w) {id b : Nat} {x y : AObj} {w' : World} (hg : H.get id = some x) (hbx : blk σ id x = some b) (hby : blk σ id y = some b) (hb : ∀ k, k ≠ b → w'.heap[k]? = w.heap[k]?) (hbel : BelowS B W0 w')
    (hnone : ∀ o, σ.cells b o = none) (hok : ObjOk P B σ w' id y) : Sim P B W0 (H.set id y) σ w' := by
  have hblk : ∀ k z, (H.set id y).get k = some z → ∃ z', H.get k = some z' ∧ blk σ k z = blk σ k z' ∧ (k ≠ id → z = z') := by
    intro k z hk
    rw [AHeap.get_set] at hk
    split at hk
    · rename_i e1
      subst e1
      rw [hg] at hk
      cases hk
      exact ⟨_, hg, by rw [hbx, hby], fun h => absurd rfl h⟩
    · exact ⟨z, hk, rfl, fun _ => rfl⟩
  refine ⟨hbel, hs.base, ?_, hs.one, hs.fresh, ?_, ?_, ?_⟩
  · intro b' o v h
    have : b' ≠ b := by rintro rfl; rw [hnone] at h; cases h
    rw [cell_of_heap (hb b' this)]
    exact hs.cells b' o v h
  · intro k z hk
    obtain ⟨z', hz', _⟩ := hblk k z hk
    exact hs.keys k z' hz'
  · intro k z hk
    by_cases hkid : k = id
    · subst hkid
      rw [AHeap.get_set, if_pos rfl, hg] at hk
      cases hk
      exact hok
    · obtain ⟨z', hz', _, hxy⟩ := hblk k z hk
      have := hxy hkid
      subst this
      have ho := hs.obj k z hz'
      refine ho.keep σ.le_refl (fun b' hb' => ⟨hb b' ?_, fun _ => rfl⟩) (fun _ => rfl)
      rintro rfl
      exact hkid (hs.inj k id z _ hz' hg (by rw [hb', hbx]))
  · intro k k' z z' hk hk' hbb
    obtain ⟨q, hq, e1, _⟩ := hblk k z hk
    obtain ⟨q', hq', e2, _⟩ := hblk k' z' hk'
    exact hs.inj k k' q q' hq hq' (by rw [← e1, ← e2, hbb])

theorem take_overlay {α : Type} (l m : List α) (off N : Nat) (h1 : off + m.length ≤ N) (h2 : N ≤ l.length) : (l.take off ++ m ++ l.drop (off + m.length)).take N = (l.take N).take off ++ m ++ (l.take N).drop (off + m.length) := by
  apply List.ext_getElem?
  intro i
  by_cases hN : i < N
  · rw [List.getElem?_take_of_lt hN]
    by_cases ho : i < off
    · rw [List.append_assoc, List.getElem?_append_left (by simp; omega), List.append_assoc, List.getElem?_append_left (by simp; omega), List.getElem?_take_of_lt ho, List.getElem?_take_of_lt ho, List.getElem?_take_of_lt hN]
    · have e1 : (l.take off).length = off := by simp; omega
      have e2 : ((l.take N).take off).length = off := by simp; omega
      have L : ∀ X : List α, (l.take off ++ (m ++ X))[i]? = (m ++ X)[i - off]? := fun X => by rw [List.getElem?_append_right (by omega), e1]
      have R : ∀ X : List α, ((l.take N).take off ++ (m ++ X))[i]? = (m ++ X)[i - off]? := fun X => by rw [List.getElem?_append_right (by omega), e2]
      rw [List.append_assoc, List.append_assoc, L, R]
      by_cases hm : i - off < m.length
      · rw [List.getElem?_append_left hm, List.getElem?_append_left hm]
      · rw [List.getElem?_append_right (by omega), List.getElem?_append_right (by omega), List.getElem?_drop, List.getElem?_drop, List.getElem?_take_of_lt (by omega)]
  · rw [List.getElem?_eq_none (by simp; omega), List.getElem?_eq_none (by simp; omega)]

/-- Cells of a row are written. -/
theorem Sim.set_row (hs : Sim P B W0 H σ w) {id n s o : Nat} {et : TypeId} {cs xs : List AV} {us : List Value} (hg : H.get id = some (.row n et s cs)) (hr : RepL σ xs us) (hone : ∀ u ∈ us, u.oneCell' = true) (hfit : o + xs.length ≤ cs.length) :
    ∃ b cap c, σ.loc id = some b ∧ σ.own id 0 = some (b, cap) ∧ w.heap[b]? = some (.cells c et (0, 0)) ∧ o + us.length ≤ c.size ∧
      Sim P B W0 (H.set id (.row n et s (overlay cs o xs))) σ (w.setRow b (c.toList.take o ++ us ++ c.toList.drop (o + us.length)).toArray) := by
  obtain ⟨b, cap, c, h1, h1', h2, h3, h4, h5, h6, h7, h8, h9, h10, h11, h12⟩ := hs.obj id _ hg
  have hl := hr.length
  have hns : n * s ≤ c.size := by rw [h6]; exact Nat.mul_le_mul_right _ h7
  have hcl : c.toList.length = c.size := by simp
  refine ⟨b, cap, c, h1, h1', h3, by omega, ?_⟩
  have htake := take_overlay c.toList us o (n * s) (by omega) (by omega)
  refine hs.setAt (b := b) hg h1 h1 (fun k hk => setRow_other w b k _ hk) (hs.below.trans ⟨rfl, rfl, rfl, by simp, fun k hk => setRow_other w b k _ (by rintro rfl; exact h2 hk)⟩) h12
    ⟨b, cap, _, h1, h1', h2, setRow_heap w b c _ et (0, 0) h3, h4, h5, ?_, h7, h8, ?_, ?_, ?_, h12⟩
  · simp only [List.size_toArray, List.length_append, List.length_take, List.length_drop]
    omega
  · unfold overlay
    simp only [List.length_append, List.length_take, List.length_drop]
    omega
  · rw [htake]
    unfold overlay
    rw [← hl]
    exact ((h10.take _).append hr).append (h10.drop _)
  · rw [htake]
    intro v hv
    rcases List.mem_append.1 hv with hv | hv
    · rcases List.mem_append.1 hv with hv | hv
      · exact h11 v (List.mem_of_mem_take hv)
      · exact hone v hv
    · exact h11 v (List.mem_of_mem_drop hv)

theorem store_sound (hs : Sim P B W0 H σ w) {t : TypeId} {a x v : AV} {ua ux : Value} {H' : AHeap} (ra : Rep σ a ua) (rx : Rep σ x ux) (h : storeA P t a x H = some (v, H')) :
    UponA P ((do Instr.storeAt t ua ux; pure Next.skip : Sem Next).run P w) (Goes P B W0 σ v H') := by
  cases a with
  | ptr id off =>
    simp only [storeA] at h
    split at h
    · rename_i cs hg
      split at h
      · rename_i hc
        obtain ⟨h1, h2, h3, h4⟩ := hc
        simp only [Option.some.injEq, Prod.mk.injEq] at h
        obtain ⟨rfl, rfl⟩ := h
        obtain ⟨b, c, e, hb, hB, hh, hr, hn⟩ := hs.obj id _ hg
        simp only [Rep] at ra
        obtain ⟨b', hb', rfl⟩ := ra
        rw [hb] at hb'
        cases hb'
        have hcells := rx.cells h2
        have hlen := hcells.length
        have hclen := hr.length
        simp only [Array.length_toList] at hlen hclen
        obtain ⟨n, hn'⟩ := Option.ne_none_iff_exists'.1 h2
        have hsz : (sizeOf t).run P w = .ok ux.cells.size w := by
          rw [rx.width hn']
          exact szQ_run (by rw [h1, hn'])
        have hst := run_storeCells_at (P := P) b off e ux.cells.toList 0 c w hh (by simp; omega) (allOne_spec h4 hcells)
        simp only [Nat.add_zero] at hst
        have hrun : (Instr.storeAt t (.pointer (some ⟨b, off, none⟩)) ux).run P w = .ok () (w.setRow b (c.toList.take off ++ ux.cells.toList ++ c.toList.drop (off + ux.cells.toList.length)).toArray) := by
          simp only [Instr.storeAt, Instr.sureAddr, storeVar, Sem.run_bind, Sem.run_pure, Result.andThen_ok, hsz]
          simpa using hst
        simp only [Sem.run_bind, hrun, Result.andThen_ok, Sem.run_pure, UponA]
        refine ⟨σ, Ext.refl _ _, hs.set_cells hg hb hh ?_, by simp [undefA, Rep, undef]⟩
        rw [show ux.cells.toList.length = x.cells.length from by simpa using hlen]
        exact ((hr.take _).append hcells).append (hr.drop _)
      · cases h
    · rename_i n et s cs hg
      split at h
      · rename_i hc
        obtain ⟨h1, h2, h3, h4⟩ := hc
        simp only [Option.some.injEq, Prod.mk.injEq] at h
        obtain ⟨rfl, rfl⟩ := h
        have hcells := rx.cells h2
        obtain ⟨b, cap, c, hb, hown, hh, hfit, hsim⟩ := hs.set_row (o := off) hg hcells (allOne_spec h4 hcells) h3
        simp only [Rep] at ra
        obtain ⟨b', hb', rfl⟩ := ra
        rw [hb] at hb'
        cases hb'
        obtain ⟨m, hm⟩ := Option.ne_none_iff_exists'.1 h2
        have hsz : (sizeOf t).run P w = .ok ux.cells.size w := by
          rw [rx.width hm]
          exact szQ_run (by rw [h1, hm])
        have hst := run_storeCells_at (P := P) b off et ux.cells.toList 0 c w hh (by simpa using hfit) (allOne_spec h4 hcells)
        simp only [Nat.add_zero] at hst
        have hrun : (Instr.storeAt t (.pointer (some ⟨b, off, none⟩)) ux).run P w = .ok () (w.setRow b (c.toList.take off ++ ux.cells.toList ++ c.toList.drop (off + ux.cells.toList.length)).toArray) := by
          simp only [Instr.storeAt, Instr.sureAddr, storeVar, Sem.run_bind, Sem.run_pure, Result.andThen_ok, hsz]
          simpa using hst
        simp only [Sem.run_bind, hrun, Result.andThen_ok, Sem.run_pure, UponA]
        exact ⟨σ, Ext.refl _ _, hsim, by simp [undefA, Rep, undef]⟩
      · cases h
    · cases h
  | _ => simp [storeA] at h

theorem makeMap_sound (hs : Sim P B W0 H σ w) (t : TypeId) : UponA P ((do pure (Next.value (← Instr.makeMap t none)) : Sem Next).run P w) (Goes P B W0 σ (makeMapA H).1 (makeMapA H).2) := by
  have hrun : (Instr.makeMap t none).run P w = .ok (.map (some w.heap.size)) (w.alloc (.map #[] 0)) := by simp [Instr.makeMap]
  simp only [Sem.run_bind, hrun, Result.andThen_ok, Sem.run_pure, UponA]
  obtain ⟨h1, h2⟩ := hs.pushNew (cap := 0) (x := .map [] 0) (o := .map #[] 0) (w1 := w) rfl hs.below (by simp [blk, St.bindR]) fun hn =>
    ⟨w.heap.size, #[], by simp [St.bindR], hs.notNew, hn, by simp [RepE], fun o => hs.cells_new o⟩
  exact ⟨_, h2, h1, by simp [makeMapA, Rep, St.bindR]⟩

theorem RepE.append : ∀ {es fs : List (AV × AV × Nat)} {ms ns : List MapEntry}, RepE σ es ms → RepE σ fs ns → RepE σ (es ++ fs) (ms ++ ns)
  | [], _, _, _, h, k => by simp only [RepE] at h; subst h; simpa using k
  | (k', v, b) :: es, fs, ms, ns, h, k => by
    simp only [RepE] at h
    obtain ⟨m, ms', rfl, r1, r2, r3, r4⟩ := h
    simp only [List.cons_append, RepE]
    exact ⟨m, _, rfl, r1, r2, r3, r4.append k⟩

theorem RepE.setAt : ∀ {es : List (AV × AV × Nat)} {ms : List MapEntry} {i : Nat} {k v : AV} {f : MapEntry → MapEntry}, RepE σ es ms → (∀ m, ms[i]? = some m → Rep σ k (f m).key ∧ Rep σ v (f m).val ∧ (f m).born = m.born) → RepE σ (setAt es i k v) (ms.modify i f)
  | [], ms, i, k, v, f, h, _ => by simp only [RepE] at h; subst h; simp [Ab.setAt, RepE]
  | (k', v', b) :: es, ms, i, k, v, f, h, hf => by
    simp only [RepE] at h
    obtain ⟨m, ms', rfl, r1, r2, r3, r4⟩ := h
    cases i with
    | zero =>
      obtain ⟨q1, q2, q3⟩ := hf m (by simp)
      simp only [Ab.setAt, List.take_zero, List.getElem?_cons_zero, List.nil_append, List.drop_succ_cons, List.drop_zero, List.singleton_append, List.modify_zero_cons, RepE]
      exact ⟨f m, ms', rfl, q1, q2, by rw [q3, r3], r4⟩
    | succ i =>
      have ih := RepE.setAt (i := i) (k := k) (v := v) (f := f) r4 (fun m' hm' => hf m' (by simpa using hm'))
      simp only [Ab.setAt, List.take_succ_cons, List.getElem?_cons_succ, List.cons_append, List.drop_succ_cons, List.modify_succ_cons, RepE] at ih ⊢
      exact ⟨m, _, rfl, r1, r2, r3, ih⟩

theorem findNow_at {d : TypeDesc} {k : Value} : ∀ (ms : List MapEntry) (i j : Nat) (x : Value), Instr.findNow d k ms i = some (some (j, x)) → ∃ m, i ≤ j ∧ ms[j - i]? = some m ∧ Instr.sameNow d k m.key = some true
  | [], i, j, x, h => by simp [Instr.findNow] at h
  | m :: ms, i, j, x, h => by
    simp only [Instr.findNow] at h
    split at h
    · rename_i hm
      simp only [Option.some.injEq, Prod.mk.injEq] at h
      obtain ⟨rfl, _⟩ := h
      exact ⟨m, Nat.le_refl _, by simp, hm⟩
    · obtain ⟨m', h1, h2, h3⟩ := findNow_at ms (i + 1) j x h
      refine ⟨m', by omega, ?_, h3⟩
      rw [show j - i = (j - (i + 1)) + 1 from by omega]
      simpa using h2
    · cases h

theorem mapUpdate_sound (hs : Sim P B W0 H σ w) {t : TypeId} {m k x v : AV} {um uk ux : Value} {H' : AHeap} (rm : Rep σ m um) (rk : Rep σ k uk) (rx : Rep σ x ux) (h : mapUpdateA P t m k x H = some (v, H')) :
    UponA P ((do Instr.mapUpdate t um uk ux; pure Next.skip : Sem Next).run P w) (Goes P B W0 σ v H') := by
  unfold mapUpdateA at h
  split at h
  · rename_i id
    split at h
    · rename_i es clock hg
      split at h
      · rename_i kt et hmq
        split at h
        · rename_i hk
          obtain ⟨hk, hw1, hw2⟩ := hk
          have hu := mapQ_spec hmq
          obtain ⟨b, ms, hb, hB, hh, re, hn⟩ := hs.obj id _ hg
          simp only [Rep] at rm
          obtain ⟨b', hb', rfl⟩ := rm
          rw [hb] at hb'
          cases hb'
          have hset : ∀ o' : Obj, (∀ k', k' ≠ b → (w.heap.setIfInBounds b o')[k']? = w.heap[k']?) ∧ (w.heap.setIfInBounds b o')[b]? = some o' := fun o' => ⟨(Go.MapKept.heap_set hh).2, (Go.MapKept.heap_set hh).1⟩
          have hbel : ∀ o' : Obj, BelowS B W0 { w with heap := w.heap.setIfInBounds b o' } := fun o' => hs.below.trans ⟨rfl, rfl, rfl, by simp, fun k' hk' => (hset o').1 k' (by rintro rfl; exact hB hk')⟩
          split at h
          · rename_i j v1 hf
            obtain ⟨k1, r', k2, k3⟩ := key_ok (w := w) rk hk re hf (em := false)
            obtain ⟨j', v', y, e1, rfl, ry⟩ := k3.resolve_left (by simp)
            simp only [Option.some.injEq, Prod.mk.injEq] at e1
            obtain ⟨rfl, rfl⟩ := e1
            cases h
            obtain ⟨mm, hmm, hstay⟩ : ∃ mm, ms[j]? = some mm ∧ (Instr.keyThatStays mm.key uk).run P w = .ok uk w := by
              unfold keyOkA at hk
              cases hkt : P.underlying kt with
              | none => simp [hkt] at hk
              | some d =>
                have isk : Go.MapKept.IsKey d uk ∧ (Instr.findNow d uk ms.toList 0 = some (some (j, y))) := by
                  cases d <;> simp only [hkt, Bool.false_eq_true] at hk
                  case int q =>
                    cases k <;> simp only [Bool.false_eq_true] at hk
                    rename_i q' n
                    simp only [Rep] at rk
                    subst rk
                    refine ⟨by simpa [Go.MapKept.IsKey] using hk, ?_⟩
                    obtain ⟨r2, h1, h2⟩ := findA_ok (σ := σ) (d := .int q) (k := .int q' n) (u := .int q' n) (by simp [Rep]) (.inl ⟨⟨q, rfl⟩, q', n, rfl⟩) es ms.toList 0 _ re hf
                    have : (Instr.findKey kt (.int q' n) ms.toList).run P w = .ok r2 w := by simp [Instr.findKey, under_run hkt, h1]
                    rw [k2] at this
                    cases this
                    exact h1
                  case string =>
                    cases k <;> simp only [Bool.false_eq_true] at hk
                    rename_i l
                    simp only [Rep] at rk
                    subst rk
                    refine ⟨by simp [Go.MapKept.IsKey], ?_⟩
                    obtain ⟨r2, h1, h2⟩ := findA_ok (σ := σ) (d := .string) (k := .str l) (u := .string ⟨l.toArray⟩) (by simp [Rep]) (.inr ⟨rfl, l, rfl⟩) es ms.toList 0 _ re hf
                    have : (Instr.findKey kt (.string ⟨l.toArray⟩) ms.toList).run P w = .ok r2 w := by simp [Instr.findKey, under_run hkt, h1]
                    rw [k2] at this
                    cases this
                    exact h1
                  case array n el =>
                    cases k <;> simp only [Bool.false_eq_true] at hk
                    cases es with
                    | nil => simp [findA] at hf
                    | cons e es => obtain ⟨k', v', b'⟩ := e; simp [findA, keyEqA] at hf
                obtain ⟨mm, _, hmm, hsame⟩ := findNow_at ms.toList 0 j y isk.2
                simp only [Nat.sub_zero, Array.getElem?_toList] at hmm
                refine ⟨mm, hmm, ?_⟩
                have heq : mm.key = uk := by
                  have hk1 := isk.1
                  cases d <;> cases uk <;> simp [Go.MapKept.IsKey] at hk1 <;> cases hkk : mm.key <;> simp [hkk, Instr.sameNow, Go.MapKept.bytes_beq] at hsame <;> simp_all
                rw [heq]
                exact Go.MapKept.run_keyThatStays isk.1
            have hrun : (Instr.mapUpdate t (.map (some b)) uk ux).run P w = .ok () { w with heap := w.heap.setIfInBounds b (.map (ms.modify j fun e => { e with key := uk, val := ux }) clock) } := by
              simp [Instr.mapUpdate, under_run hu, Go.MapKept.run_getObj_map hh, k1, k2, hmm, hstay, Go.MapKept.run_setObj_map _ hh]
            simp only [Sem.run_bind, hrun, Result.andThen_ok, Sem.run_pure, UponA]
            refine ⟨σ, Ext.refl _ _, hs.setAt (b := b) hg hb hb (hset _).1 (hbel _) hn ⟨b, _, hb, hB, (hset _).2, ?_, hn⟩, by simp [undefA, Rep, undef]⟩
            rw [Array.toList_modify]
            exact re.setAt fun m' _ => ⟨rk, rx, rfl⟩
          · rename_i hf
            obtain ⟨k1, r', k2, k3⟩ := key_ok (w := w) rk hk re hf (em := false)
            have : r' = none := by
              rcases k3 with ⟨_, h2⟩ | ⟨j, v, x, h1, _⟩
              · exact h2
              · simp at h1
            subst this
            cases h
            have hrun : (Instr.mapUpdate t (.map (some b)) uk ux).run P w = .ok () { w with heap := w.heap.setIfInBounds b (.map (ms.push { key := uk, val := ux, born := clock }) (clock + 1)) } := by
              simp [Instr.mapUpdate, under_run hu, Go.MapKept.run_getObj_map hh, k1, k2, Go.MapKept.run_setObj_map _ hh]
            simp only [Sem.run_bind, hrun, Result.andThen_ok, Sem.run_pure, UponA]
            refine ⟨σ, Ext.refl _ _, hs.setAt (b := b) hg hb hb (hset _).1 (hbel _) hn ⟨b, _, hb, hB, (hset _).2, ?_, hn⟩, by simp [undefA, Rep, undef]⟩
            rw [Array.toList_push]
            exact re.append (by simp only [RepE]; exact ⟨_, _, rfl, rk, rx, rfl, rfl⟩)
          · cases h
        · cases h
      · cases h
    · cases h
  · cases h

end
end Go.Ab
