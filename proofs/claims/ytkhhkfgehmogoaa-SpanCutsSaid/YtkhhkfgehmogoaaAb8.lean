/- The operations that write or make memory, against the model. -/
import Derived.Test.YtkhhkfgehmogoaaAb7
namespace Go.Ab
set_option linter.unusedVariables false
open Go Go.RowKit

section
variable {P : Program} {B : Nat} {W0 : World} {H : AHeap} {σ : St} {w : World}

theorem ObjOk.blk {id : Nat} {x : AObj} (h : ObjOk P B σ w id x) : ∃ b, Ab.blk σ id x = some b ∧ B ≤ b ∧ b < w.heap.size := by
  cases x with
  | cells cs =>
    obtain ⟨b, c, e, h1, h2, h3, _⟩ := h
    exact ⟨b, h1, h2, (Array.getElem?_eq_some_iff.1 h3).1⟩
  | tip n et =>
    obtain ⟨b, cap, c, s, h1, h2, h3, _⟩ := h
    exact ⟨b, by simp [Ab.blk, h1], h2, (Array.getElem?_eq_some_iff.1 h3).1⟩

theorem ObjOk.keep {σ' : St} {w' : World} {id : Nat} {x : AObj} (h : ObjOk P B σ w id x) (hle : σ.le σ')
    (hb : ∀ b, Ab.blk σ id x = some b → w'.heap[b]? = w.heap[b]? ∧ ∀ o, σ'.cells b o = σ.cells b o) (hown : ∀ n, σ'.own id n = σ.own id n) : ObjOk P B σ' w' id x := by
  cases x with
  | cells cs =>
    obtain ⟨b, c, e, h1, h2, h3, h4, h5⟩ := h
    obtain ⟨q1, q2⟩ := hb b h1
    exact ⟨b, c, e, hle.loc _ _ h1, h2, q1.trans h3, h4.mono hle, fun o => (q2 o).trans (h5 o)⟩
  | tip n et =>
    obtain ⟨b, cap, c, s, h1, h2, h3, h4, h5, h6, h7, h8, h9⟩ := h
    obtain ⟨q1, q2⟩ := hb b (by simp [Ab.blk, h1])
    exact ⟨b, cap, c, s, hle.own _ _ _ h1, h2, q1.trans h3, h4, h5, h6, h7, fun o ho => (q2 o).trans (h8 o ho), fun m hm => (hown m).trans (h9 m hm)⟩

theorem blk_keep {σ' : St} {id : Nat} {x : AObj} {b : Nat} (hle : σ.le σ') (h : blk σ id x = some b) : blk σ' id x = some b := by
  cases x with
  | cells cs => exact hle.loc _ _ h
  | tip n et =>
    simp only [blk] at h ⊢
    obtain ⟨p, hp, rfl⟩ := Option.map_eq_some_iff.1 h
    rw [hle.own _ _ _ hp]; rfl

theorem AHeap.get_lt {H : AHeap} {id : Nat} {x : AObj} (h : H.get id = some x) : id < H.next := by
  unfold AHeap.get at h
  split at h
  · assumption
  · cases h

theorem AHeap.get_push (H : AHeap) (x : AObj) (id : Nat) : (H.push x).get id = if H.next = id then some x else H.get id := by
  simp only [AHeap.get, AHeap.push, getL]
  by_cases h1 : id < H.next
  · rw [if_pos (by omega), if_pos h1]
  · by_cases h2 : H.next = id
    · rw [if_pos (by omega), if_pos h2, if_pos h2]
    · rw [if_neg (by omega), if_neg h2, if_neg h1]

theorem getL_setL : ∀ (l : List (Nat × AObj)) (id : Nat) (y : AObj) (k : Nat), getL (setL l id y) k = if id = k then (getL l id).map fun _ => y else getL l k
  | [], id, y, k => by simp [setL, getL]
  | (j, x) :: l, id, y, k => by
    have ih := getL_setL l id y k
    by_cases hj : j = id
    · subst hj
      simp only [setL, if_pos, getL]
      by_cases hk : j = k <;> simp [hk]
    · simp only [setL, if_neg hj, getL]
      by_cases hk : j = k
      · subst hk
        simp [Ne.symm hj]
      · simp only [if_neg hk]
        exact ih

theorem AHeap.get_set (H : AHeap) (id : Nat) (y : AObj) (k : Nat) : (H.set id y).get k = if id = k then (H.get id).map (fun _ => y) else H.get k := by
  have := getL_setL H.objs id y k
  simp only [AHeap.get, AHeap.set, this]
  by_cases e : id = k
  · subst e
    by_cases h : id < H.next
    · simp [h]
    · simp [h]
  · simp [e]

theorem Sim.size (hs : Sim P B W0 H σ w) : B ≤ w.heap.size := Nat.le_trans hs.base hs.below.size

theorem Sim.cells_lt (hs : Sim P B W0 H σ w) {b o : Nat} {v : Value} (h : σ.cells b o = some v) : b < w.heap.size := by
  have := hs.cells b o v h
  unfold World.cell? at this
  rcases Nat.lt_or_ge b w.heap.size with h' | h'
  · exact h'
  · simp [Array.getElem?_eq_none h'] at this

theorem Sim.cells_new (hs : Sim P B W0 H σ w) (o : Nat) : σ.cells w.heap.size o = none := by
  cases h : σ.cells w.heap.size o with
  | none => rfl
  | some v => exact absurd (hs.cells_lt h) (Nat.lt_irrefl _)

theorem heap_new (w : World) (o : Obj) : (w.alloc o).heap[w.heap.size]? = some o := by
  show (w.heap.push o)[w.heap.size]? = some o
  simp

theorem heap_old (w : World) (o : Obj) {k : Nat} (h : k < w.heap.size) : (w.alloc o).heap[k]? = w.heap[k]? := Below.heap_alloc w o k h

theorem cell_of_heap {w w' : World} {b : Nat} (h : w'.heap[b]? = w.heap[b]?) (o : Nat) : w'.cell? ⟨b, o, none⟩ = w.cell? ⟨b, o, none⟩ := by
  simp [World.cell?, h]

/-- A new block of one's own. -/
def St.bind (σ : St) (id b : Nat) : St := { σ with loc := fun i => if i = id then some b else σ.loc i }

theorem Sim.bind_le (hs : Sim P B W0 H σ w) (b : Nat) : σ.le (σ.bind H.next b) := by
  refine ⟨fun _ _ _ h => h, fun i c h => ?_, fun _ _ _ h => h⟩
  simp only [St.bind]
  split
  · rename_i hi; subst hi; rw [(hs.fresh H.next (Nat.le_refl _)).1] at h; cases h
  · exact h

theorem Sim.push (hs : Sim P B W0 H σ w) {cs : List AV} {c : Array Value} (e : TypeId) (hr : RepL σ cs c.toList) :
    Sim P B W0 (H.push (.cells cs)) (σ.bind H.next w.heap.size) (w.alloc (.cells c e)) := by
  have hle := hs.bind_le w.heap.size
  refine ⟨hs.below.alloc hs.size _, hs.base, ?_, hs.one, ?_, ?_, ?_, ?_⟩
  · intro b o v h
    rw [cell_of_heap (heap_old w _ (hs.cells_lt h))]
    exact hs.cells b o v h
  · intro id hid
    have hid' : H.next + 1 ≤ id := hid
    have := hs.fresh id (by omega)
    exact ⟨by simp only [St.bind]; rw [if_neg (by omega)]; exact this.1, this.2⟩
  · intro id x h
    rw [AHeap.get_push] at h
    show id < H.next + 1
    split at h
    · omega
    · have := hs.keys id x h; omega
  · intro id x h
    rw [AHeap.get_push] at h
    split at h
    · rename_i hid
      subst hid
      cases h
      exact ⟨w.heap.size, c, e, by simp [St.bind], hs.size, heap_new w _, hr.mono hle, fun o => hs.cells_new o⟩
    · have ho := hs.obj id x h
      refine ho.keep hle (fun b hb => ?_) (fun _ => rfl)
      obtain ⟨b', hb', _, hlt⟩ := ho.blk
      rw [hb] at hb'
      cases hb'
      exact ⟨heap_old w _ hlt, fun _ => rfl⟩
  · intro id id' x x' h h' hb
    rw [AHeap.get_push] at h h'
    have key : ∀ i y, H.get i = some y → ∃ b, blk (σ.bind H.next w.heap.size) i y = some b ∧ b < w.heap.size := fun i y hy => by
      obtain ⟨b, h1, _, h3⟩ := (hs.obj i y hy).blk
      exact ⟨b, blk_keep hle h1, h3⟩
    split at h
    · rename_i e1
      split at h'
      · rename_i e2; omega
      · cases h
        obtain ⟨b, h1, h2⟩ := key id' x' h'
        rw [h1, ← e1] at hb
        simp [blk, St.bind] at hb
        omega
    · split at h'
      · rename_i e2
        cases h'
        obtain ⟨b, h1, h2⟩ := key id x h
        rw [h1, ← e2] at hb
        simp [blk, St.bind] at hb
        omega
      · obtain ⟨b, h1, _, _⟩ := (hs.obj id x h).blk
        obtain ⟨b', h1', _, _⟩ := (hs.obj id' x' h').blk
        rw [blk_keep hle h1, blk_keep hle h1'] at hb
        exact hs.inj id id' x x' h h' (by rw [h1, h1', hb])

theorem RepL.bindW {cs : List AV} {us : List Value} (hs : Sim P B W0 H σ w) (h : RepL σ cs us) (b : Nat) : RepL (σ.bind H.next b) cs us := h.mono (hs.bind_le b)

/-- What an operation is asked: it yields a value, or calls a function that hands one back. -/
def UponA (P : Program) (r : Result Next) (Post : Value → World → Prop) : Prop :=
  match r with
  | .ok (.value u) w' => Post u w'
  | .ok .skip w' => Post undef w'
  | .ok (.enter f args) w' => Calls P f args w' (fun e w'' => ∃ u, e = .returned u ∧ Post u w'')
  | _ => False

def Goes (P : Program) (B : Nat) (W0 : World) (σ : St) (v : AV) (H' : AHeap) (u : Value) (w' : World) : Prop := ∃ σ', Ext B σ σ' ∧ Sim P B W0 H' σ' w' ∧ Rep σ' v u

theorem alloc_sound (hs : Sim P B W0 H σ w) {t : TypeId} {v : AV} {H' : AHeap} (h : allocA P t H = some (v, H')) :
    UponA P ((do pure (Next.value (← Instr.alloc t true (.tuple #[]))) : Sem Next).run P w) (Goes P B W0 σ v H') := by
  unfold allocA at h
  split at h
  · rename_i z hz
    simp only [Option.some.injEq, Prod.mk.injEq] at h
    obtain ⟨rfl, rfl⟩ := h
    obtain ⟨i, zv, hi, hzv, rfl⟩ := zeroQ_spec hz
    have hrun : (Instr.alloc t true (.tuple #[])).run P w = .ok (.pointer (some ⟨w.heap.size, 0, none⟩)) (w.alloc (.cells zv.cells t)) := by
      simp [Instr.alloc, zeroValue, typeInfo, hi, hzv, newVar, newRow]
    simp only [Sem.run_bind, hrun, Result.andThen_ok, Sem.run_pure, UponA]
    refine ⟨_, ⟨hs.bind_le _, fun _ _ _ => rfl⟩, hs.push t (RepL.ofV1 _), ?_⟩
    simp [Rep, St.bind]
  · cases h

theorem box_sound (hs : Sim P B W0 H σ w) {t : TypeId} {x v : AV} {u : Value} {H' : AHeap} (hr : Rep σ x u) (h : boxA x H = some (v, H')) :
    UponA P ((do pure (Next.value (← Instr.box t u)) : Sem Next).run P w) (Goes P B W0 σ v H') := by
  unfold boxA at h
  split at h
  · rename_i hw
    simp only [Option.some.injEq, Prod.mk.injEq] at h
    obtain ⟨rfl, rfl⟩ := h
    have hrun : (Instr.box t u).run P w = .ok (.pointer (some ⟨w.heap.size, 0, none⟩)) (w.alloc (.cells u.cells t)) := by
      simp [Instr.box, newVar, newRow]
    simp only [Sem.run_bind, hrun, Result.andThen_ok, Sem.run_pure, UponA]
    refine ⟨_, ⟨hs.bind_le _, fun _ _ _ => rfl⟩, hs.push t (hr.cells hw), ?_⟩
    simp [Rep, St.bind]
  · cases h

theorem allOne_spec : ∀ {cs : List AV} {us : List Value}, allOne cs = true → RepL σ cs us → ∀ u ∈ us, u.oneCell' = true
  | [], us, _, hr, u, hu => by rw [RepL.nil_iff] at hr; subst hr; cases hu
  | c :: cs, us, h, hr, u, hu => by
    rw [RepL.cons_iff] at hr
    obtain ⟨x, us', rfl, r, q⟩ := hr
    simp only [allOne, Bool.and_eq_true] at h
    cases hu with
    | tail _ hu => exact allOne_spec h.2 q u hu
    | head =>
      have h1 := h.1
      cases c <;> simp only [AV.one, Bool.false_eq_true] at h1 <;> simp only [Rep] at r
      case any => exact r
      case int => subst r; rfl
      case bool => subst r; rfl
      case str => subst r; rfl
      case vec => obtain ⟨a, cap, rfl, _⟩ := r; rfl
      case ptr => obtain ⟨b, _, rfl⟩ := r; rfl
      case rptr => obtain ⟨b, o, rfl, _⟩ := r; rfl
      case fn => obtain ⟨us, vs, rfl, _⟩ := r; rfl
      case iface => obtain ⟨x, rfl, _⟩ := r; rfl
      case val => subst r; exact h1

theorem Sim.set_cells (hs : Sim P B W0 H σ w) {id b : Nat} {cs cs' : List AV} (hg : H.get id = some (.cells cs)) (hb : σ.loc id = some b) {c c' : Array Value} {e : TypeId}
    (hh : w.heap[b]? = some (.cells c e (0, 0))) (hr : RepL σ cs' c'.toList) : Sim P B W0 (H.set id (.cells cs')) σ (w.setRow b c') := by
  have hB : B ≤ b := by
    obtain ⟨b', c0, e0, h1, h2, _⟩ := hs.obj id _ hg
    rw [hb] at h1; cases h1; exact h2
  have hnone : ∀ o, σ.cells b o = none := by
    obtain ⟨b', c0, e0, h1, _, _, _, h5⟩ := hs.obj id _ hg
    rw [hb] at h1; cases h1; exact h5
  have hother : ∀ k, k ≠ b → (w.setRow b c').heap[k]? = w.heap[k]? := fun k hk => setRow_other w b k c' hk
  have hblk : ∀ k x, (H.set id (.cells cs')).get k = some x → ∃ y, H.get k = some y ∧ blk σ k x = blk σ k y ∧ (k ≠ id → x = y) := by
    intro k x hk
    rw [AHeap.get_set] at hk
    split at hk
    · rename_i e1
      subst e1
      rw [hg] at hk
      cases hk
      exact ⟨_, hg, rfl, fun h => absurd rfl h⟩
    · exact ⟨x, hk, rfl, fun _ => rfl⟩
  refine ⟨hs.below.trans ⟨rfl, rfl, rfl, by simp, fun k hk => hother k (by omega)⟩, hs.base, ?_, hs.one, hs.fresh, ?_, ?_, ?_⟩
  · intro b' o v h
    have : b' ≠ b := by rintro rfl; rw [hnone] at h; cases h
    rw [cell_of_heap (hother b' this)]
    exact hs.cells b' o v h
  · intro k x hk
    obtain ⟨y, hy, _⟩ := hblk k x hk
    exact hs.keys k y hy
  · intro k x hk
    by_cases hkid : k = id
    · subst hkid
      rw [AHeap.get_set, if_pos rfl, hg] at hk
      cases hk
      exact ⟨b, c', e, hb, hB, setRow_heap w b c c' e (0, 0) hh, hr, hnone⟩
    · obtain ⟨y, hy, _, hxy⟩ := hblk k x hk
      have := hxy hkid
      subst this
      have ho := hs.obj k x hy
      refine ho.keep σ.le_refl (fun b' hb' => ⟨hother b' ?_, fun _ => rfl⟩) (fun _ => rfl)
      rintro rfl
      exact hkid (hs.inj k id x _ hy hg (by rw [hb']; simp [blk, hb]))
  · intro k k' x x' hk hk' hbb
    obtain ⟨y, hy, e1, _⟩ := hblk k x hk
    obtain ⟨y', hy', e2, _⟩ := hblk k' x' hk'
    exact hs.inj k k' y y' hy hy' (by rw [← e1, ← e2, hbb])

theorem store_sound (hs : Sim P B W0 H σ w) {t : TypeId} {a x v : AV} {ua ux : Value} {H' : AHeap} (ra : Rep σ a ua) (rx : Rep σ x ux) (h : storeA P t a x H = some (v, H')) :
    UponA P ((do Instr.storeAt t ua ux; pure Next.skip : Sem Next).run P w) (Goes P B W0 σ v H') := by
  cases a with
  | ptr id off =>
    simp only [storeA] at h
    split at h
    · rename_i cs hg
      split at h
      · rename_i hc
        obtain ⟨h1, h2, h3, h4⟩ := hc
        simp only [Option.some.injEq, Prod.mk.injEq] at h
        obtain ⟨rfl, rfl⟩ := h
        obtain ⟨b, c, e, hb, hB, hh, hr, hn⟩ := hs.obj id _ hg
        simp only [Rep] at ra
        obtain ⟨b', hb', rfl⟩ := ra
        rw [hb] at hb'
        cases hb'
        have hcells := rx.cells h2
        have hlen := hcells.length
        have hclen := hr.length
        simp only [Array.length_toList] at hlen hclen
        obtain ⟨n, hn'⟩ := Option.ne_none_iff_exists'.1 h2
        have hsz : (sizeOf t).run P w = .ok ux.cells.size w := by
          rw [rx.width hn']
          exact szQ_run (by rw [h1, hn'])
        have hst := run_storeCells_at (P := P) b off e ux.cells.toList 0 c w hh (by simp; omega) (allOne_spec h4 hcells)
        simp only [Nat.add_zero] at hst
        have hrun : (Instr.storeAt t (.pointer (some ⟨b, off, none⟩)) ux).run P w = .ok () (w.setRow b (c.toList.take off ++ ux.cells.toList ++ c.toList.drop (off + ux.cells.toList.length)).toArray) := by
          simp only [Instr.storeAt, Instr.sureAddr, storeVar, Sem.run_bind, Sem.run_pure, Result.andThen_ok, hsz]
          simpa using hst
        simp only [Sem.run_bind, hrun, Result.andThen_ok, Sem.run_pure, UponA]
        refine ⟨σ, Ext.refl _ _, hs.set_cells hg hb hh ?_, by simp [undefA, Rep, undef]⟩
        rw [show ux.cells.toList.length = x.cells.length from by simpa using hlen]
        exact ((hr.take _).append hcells).append (hr.drop _)
      · cases h
    · cases h
  | _ => simp [storeA] at h

end
end Go.Ab
