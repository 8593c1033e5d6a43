/- Slice literals; calls in a memory of their own; each operation against the model. -/
import Derived.Test.YtkpnccaoolbeeaaGreatDoorAc10
import Derived.Laws.MakeOwn
namespace Go.Ab
set_option linter.unusedVariables false
open Go Go.RowKit

section
variable {P : Program} {B : Nat → Prop} {W0 : World} {H : AHeap} {σ : St} {w : World}

theorem inOrder_spec : ∀ {parts : List (Nat × AV)} {k : Nat}, inOrder k parts = true → ∀ (i : Nat) (p : Nat × AV), parts[i]? = some p → p.1 = k + i
  | [], _, _, i, p, hp => by simp at hp
  | (j, a) :: parts, k, h, i, p, hp => by
    simp only [inOrder, Bool.and_eq_true, beq_iff_eq] at h
    cases i with
    | zero => simp at hp; subst hp; simpa using h.1
    | succ i => simp at hp; have := inOrder_spec h.2 i p hp; omega

theorem fill_row (s : Nat) : ∀ (us : List (Nat × Value)) (k : Nat) (cells : Array Value), (∀ (i : Nat) (p : Nat × Value), us[i]? = some p → p.1 = k + i ∧ p.2.cells.size = s) → (k + us.length) * s ≤ cells.size →
    ∃ out, Instr.fill (fun i => some (i * s, s)) cells us = some out ∧ out.size = cells.size ∧ (∀ o, o < k * s → out[o]? = cells[o]?) ∧
      ∀ (i : Nat) (p : Nat × Value), us[i]? = some p → ∀ (j : Nat) (v : Value), p.2.cells[j]? = some v → out[(k + i) * s + j]? = some v
  | [], k, cells, _, _ => ⟨cells, rfl, rfl, fun _ _ => rfl, by simp⟩
  | (i0, u) :: us, k, cells, hp, hle => by
    obtain ⟨h1, h2⟩ := hp 0 (i0, u) (by simp)
    simp only [Nat.add_zero] at h1 h2
    subst h1
    simp only [List.length_cons] at hle
    have hfit : i0 * s + s ≤ cells.size := by
      have : (i0 + 1) * s ≤ (i0 + (us.length + 1)) * s := Nat.mul_le_mul_right _ (by omega)
      rw [Nat.add_mul, Nat.one_mul] at this
      omega
    have hget := overlay_get (i0 * s) u.cells.toList 0 cells (by simp [h2]; omega)
    obtain ⟨out, e1, e2, e3, e4⟩ := fill_row s us (i0 + 1) ((u.cells.toList.zipIdx 0).foldl (fun (cs : Array Value) (p : Value × Nat) => cs.setIfInBounds (i0 * s + p.2) p.1) cells)
      (fun i p hi => by have := hp (i + 1) p (by simpa using hi); omega)
      (by
        have hsz : ((u.cells.toList.zipIdx 0).foldl (fun (cs : Array Value) (p : Value × Nat) => cs.setIfInBounds (i0 * s + p.2) p.1) cells).size = cells.size := by
          have hf := congrArg List.length (overlay_fold (i0 * s) u.cells.toList cells (by simp [h2]; omega))
          simp only [Array.length_toList, List.length_append, List.length_take, List.length_drop, h2] at hf
          rw [hf]; omega
        rw [hsz]
        rw [show i0 + 1 + us.length = i0 + (us.length + 1) from by omega]
        exact hle)
    have hsz : ((u.cells.toList.zipIdx 0).foldl (fun (cs : Array Value) (p : Value × Nat) => cs.setIfInBounds (i0 * s + p.2) p.1) cells).size = cells.size := by
      have hf := congrArg List.length (overlay_fold (i0 * s) u.cells.toList cells (by simp [h2]; omega))
      simp only [Array.length_toList, List.length_append, List.length_take, List.length_drop, h2] at hf
      rw [hf]; omega
    refine ⟨out, ?_, e2.trans hsz, ?_, ?_⟩
    · simp only [Instr.fill]
      rw [if_neg (by simp [h2]; omega), ← Array.foldl_toList, Array.toList_zipIdx]
      exact e1
    · intro o ho
      rw [e3 o (by rw [Nat.add_mul]; omega), hget o, if_neg (by omega)]
    · intro i p hi j v hj
      cases i with
      | zero =>
        simp at hi
        subst hi
        have hjs : j < s := by rw [← h2]; exact (Array.getElem?_eq_some_iff.1 hj).1
        rw [Nat.add_zero, e3 _ (by rw [Nat.add_mul, Nat.one_mul]; omega), hget, if_pos (by simp [h2]; omega)]
        rw [show i0 * s + j - (i0 * s + 0) = j from by omega]
        simpa using hj
      | succ i =>
        have := e4 i p (by simpa using hi) j v hj
        rwa [show i0 + (i + 1) = i0 + 1 + i from by omega]

mutual
theorem Rep.erase0 (v : AV) (u : Value) (h : Rep σ v u) : Rep σ v.bare u := by
  cases v with
  | vec o es =>
    simp only [AV.bare, Rep] at h ⊢
    obtain ⟨a, cap, e, hl, ho, r⟩ := h
    refine ⟨a, cap, e, hl, ?_, r⟩
    cases o with
    | own k => trivial
    | _ => exact ho
  | _ => exact h
end

theorem RepL.bare : ∀ {cs : List AV} {us : List Value}, RepL σ cs us → RepL σ (cs.map AV.bare) us
  | [], _, h => by simpa using h
  | c :: cs, _, h => by
    rw [RepL.cons_iff] at h
    obtain ⟨u, us', rfl, r, q⟩ := h
    exact RepL.cons_iff.2 ⟨u, us', rfl, Rep.erase0 c u r, RepL.bare q⟩

theorem Rep.erase {v : AV} {u : Value} (h : Rep σ v u) : Rep σ v.erase u := by
  cases v with
  | agg cs =>
    simp only [AV.erase, Rep] at h ⊢
    obtain ⟨us, e, r⟩ := h
    exact ⟨us, e, r.bare⟩
  | tup cs =>
    simp only [AV.erase, Rep] at h ⊢
    obtain ⟨us, e, r⟩ := h
    refine ⟨us, e, ?_⟩
    clear e
    induction cs generalizing us with
    | nil => simpa using r
    | cons c cs ih =>
      rw [RepL.cons_iff] at r
      obtain ⟨u', us', rfl, r1, q⟩ := r
      refine RepL.cons_iff.2 ⟨u', us', rfl, ?_, ih us' q⟩
      cases c with
      | agg ds =>
        simp only [Rep] at r1 ⊢
        obtain ⟨xs, e1, r2⟩ := r1
        exact ⟨xs, e1, r2.bare⟩
      | _ => exact Rep.erase0 _ _ r1
  | _ => exact Rep.erase0 _ _ h

theorem AV.erase_width (v : AV) : v.erase.width = v.width := by
  cases v <;> simp [AV.erase, AV.width, AV.bare]

theorem RepL.erase : ∀ {cs : List AV} {us : List Value}, RepL σ cs us → RepL σ (cs.map AV.erase) us
  | [], _, h => by simpa using h
  | c :: cs, _, h => by
    rw [RepL.cons_iff] at h
    obtain ⟨u, us', rfl, r, q⟩ := h
    exact RepL.cons_iff.2 ⟨u, us', rfl, r.erase, RepL.erase q⟩

theorem allWidth_spec {n : Nat} : ∀ {cs : List AV}, allWidth n cs = true → ∀ c ∈ cs, c.width = some n
  | [], _, c, hc => by cases hc
  | d :: cs, h, c, hc => by
    simp only [allWidth, Bool.and_eq_true, beq_iff_eq] at h
    cases hc with
    | head => exact h.1
    | tail _ hc => exact allWidth_spec h.2 c hc

theorem allOneL_spec : ∀ {cs : List AV}, allOneL cs = true → ∀ c ∈ cs, allOne c.cells = true
  | [], _, c, hc => by cases hc
  | d :: cs, h, c, hc => by
    simp only [allOneL, Bool.and_eq_true] at h
    cases hc with
    | head => exact h.1
    | tail _ hc => exact allOneL_spec h.2 c hc

/-- Cells of a new block are known for good. -/
def St.know (σ : St) (b0 : Nat) (cs : List Value) : St := { σ with cells := fun b o => if b = b0 ∧ o < cs.length then cs[o]? else σ.cells b o }

theorem Sim.know_new (hs : Sim P B W0 H σ w) {cs : List Value} {c : Array Value} {et : TypeId} {w1 : World} (hw1 : w1.heap = w.heap) (hbel : BelowS B W0 w1) (hcc : ∀ (j : Nat) (v : Value), cs[j]? = some v → c[j]? = some v)
    (hone : ∀ v ∈ cs, v.oneCell' = true) : Sim P B W0 H (σ.know w.heap.size cs) (w1.alloc (.cells c et)) ∧ Ext B σ (σ.know w.heap.size cs) := by
  have hsize : w1.heap.size = w.heap.size := by rw [hw1]
  have hold : ∀ b, b < w.heap.size → (w1.alloc (.cells c et)).heap[b]? = w.heap[b]? := fun b hb => by
    rw [heap_old w1 _ (by omega), hw1]
  have hnew : (w1.alloc (.cells c et)).heap[w.heap.size]? = some (.cells c et (0, 0)) := by
    rw [← hsize]; exact heap_new w1 _
  have hle : σ.le (σ.know w.heap.size cs) := by
    refine ⟨fun b o v h => ?_, fun _ _ h => h, fun _ _ _ h => h⟩
    simp only [St.know]
    rw [if_neg]
    · exact h
    · rintro ⟨rfl, _⟩
      rw [hs.cells_new] at h; cases h
  refine ⟨⟨hbel.alloc (fun k hk => by rw [hsize]; exact hs.size k hk) _, hs.base, ?_, ?_, hs.fresh, hs.keys, ?_, hs.inj⟩, hle, ?_⟩
  · intro b o v h
    simp only [St.know] at h
    split at h
    · rename_i hh
      obtain ⟨rfl, _⟩ := hh
      rw [cell_of_row hnew]
      exact hcc _ v h
    · rw [cell_of_heap (hold b (hs.cells_lt h))]
      exact hs.cells b o v h
  · intro b o v h
    simp only [St.know] at h
    split at h
    · exact hone v (List.mem_of_getElem? h)
    · exact hs.one b o v h
  · intro id x hx
    have ho := hs.obj id x hx
    refine ho.keep hle (fun b hb => ?_) (fun _ => rfl)
    obtain ⟨b', hb', _, hlt⟩ := ho.blk
    rw [hb] at hb'
    cases hb'
    refine ⟨hold b hlt, fun o => ?_⟩
    simp only [St.know]
    rw [if_neg (by rintro ⟨rfl, _⟩; exact absurd hlt (Nat.lt_irrefl _))]
  · intro b o hb
    simp only [St.know]
    rw [if_neg (by rintro ⟨rfl, _⟩; exact hs.notNew hb)]

theorem flat_get {α : Type} (l : List α) : ∀ (n i : Nat), ((List.replicate n l).flatten)[i]? = if i < n * l.length then l[i % l.length]? else none
  | 0, i => by simp
  | n + 1, i => by
    rw [List.replicate_succ, List.flatten_cons]
    by_cases h : i < l.length
    · rw [List.getElem?_append_left h, Nat.mod_eq_of_lt h, if_pos]
      rw [Nat.add_mul]; omega
    · rw [List.getElem?_append_right (by omega), flat_get l n, ← Nat.mod_eq_sub_mod (by omega)]
      by_cases h2 : i - l.length < n * l.length
      · rw [if_pos h2, if_pos (by rw [Nat.add_mul]; omega)]
      · rw [if_neg h2, if_neg (by rw [Nat.add_mul]; omega)]

theorem madeCells_list (a : Array Value) (n : Nat) (h : a.size ≠ 0) : (madeCells a (n * a.size)).toList = (List.replicate n a.toList).flatten := by
  apply List.ext_getElem?
  intro i
  rw [flat_get, Array.getElem?_toList]
  simp only [madeCells, Array.length_toList]
  by_cases hi : i < n * a.size
  · rw [if_pos hi]
    have hm : i % a.size < a.size := Nat.mod_lt _ (Nat.pos_of_ne_zero h)
    simp [hi, hm]
  · rw [if_neg hi]
    simp [hi]

theorem makeSlice_sound (hs : Sim P B W0 H σ w) {t : TypeId} {l c v : AV} {ul uc : Value} {H' : AHeap} (rl : Rep σ l ul) (rc : Rep σ c uc) (h : makeSliceA P t l c H = some (v, H')) :
    UponA P ((do pure (Next.value (← Instr.makeSlice t ul uc)) : Sem Next).run P w) (Goes P B W0 σ v H') := by
  unfold makeSliceA at h
  split at h
  · rename_i kl n kc m et het
    split at h
    · rename_i s by_ z hsz hbyq hz
      split at h
      · rename_i hc
        obtain ⟨rfl, h0, hbig, hs0, hzl, hone, hby⟩ := hc
        simp only [Option.some.injEq, Prod.mk.injEq] at h
        obtain ⟨rfl, rfl⟩ := h
        simp only [Rep] at rl rc
        subst rl rc
        obtain ⟨i, zv, hi, his, hib, hiz, hzs⟩ := info_of hsz hbyq hz
        obtain ⟨i2, zv2, hi2, hiz2, hze⟩ := zeroQ_spec hz
        rw [hi] at hi2
        cases hi2
        rw [hiz] at hiz2
        cases hiz2
        have hzs' : zv.cells.size = s := by rw [hzs, hzl]
        have hrun := run_make (P := P) w t et i zv (elemQ_spec het) hi hiz kl kc n n h0 (Int.le_refl _) (by
          rw [hib]
          have : ((n.toNat * by_ : Nat) : Int) ≤ 140737488355328 := by omega
          rw [Int.natCast_mul, Int.toNat_of_nonneg h0] at this
          rw [Int.mul_comm]; omega) (by omega)
        have hlist := madeCells_list zv.cells n.toNat (by rw [hzs']; exact hs0)
        have hrep : RepL σ ((List.replicate n.toNat z).flatten) (madeCells zv.cells (n.toNat * i.size)).toList := by
          rw [his, ← hzs', hlist, hze]
          have : (List.replicate n.toNat (zv.cells.toList.map ofV1)).flatten = ((List.replicate n.toNat zv.cells.toList).flatten).map ofV1 := by
            rw [List.map_flatten, List.map_replicate]
          rw [this]
          exact RepL.ofV1 _
        have hzone : ∀ u ∈ zv.cells.toList, u.oneCell' = true := allOne_spec (σ := σ) hone (by rw [hze]; exact RepL.ofV1 _)
        obtain ⟨q1, q2⟩ := hs.row_new (n := n.toNat) (cap := n.toNat) (us := (madeCells zv.cells (n.toNat * i.size)).toList) (zs := #[]) (w1 := w) hsz hs0 hrep
          (by simp [size_madeCells, his]) (fun u hu => by
            rw [his, ← hzs', hlist] at hu
            obtain ⟨l, hl, hu'⟩ := List.mem_flatten.1 hu
            rw [List.mem_replicate] at hl
            obtain ⟨_, rfl⟩ := hl
            exact hzone u hu') (by simp [size_madeCells, his]) (Nat.le_refl _) (by unfold maxLen; omega) rfl hs.below
        simp only [Sem.run_bind, hrun, Result.andThen_ok, Sem.run_pure, UponA]
        refine ⟨_, q2, by simpa using q1, ?_⟩
        simp only [Rep]
        exact ⟨w.heap.size, n.toNat, by simp [St.bindR], by simp [St.bindR], by simp, by omega⟩
      · cases h
    · cases h
  · cases h

theorem buildSlice_sound (hs : Sim P B W0 H σ w) {t : TypeId} {len : Nat} {parts : List (Nat × AV)} {us : Array (Nat × Value)} {v : AV} {H' : AHeap}
    (hu : us.toList.map (·.1) = parts.map (·.1)) (hp : RepL σ (parts.map (·.2)) (us.toList.map (·.2))) (h : buildSliceA P t len parts H = some (v, H')) :
    UponA P ((do pure (Next.value (← Instr.buildSlice t len us)) : Sem Next).run P w) (Goes P B W0 σ v H') := by
  unfold buildSliceA at h
  split at h
  · rename_i et het
    split at h
    · rename_i s z hsz hz
      split at h
      · rename_i hc
        obtain ⟨hlen, hord, hwid, hone, hs0, hzl, hbig⟩ := hc
        simp only [Option.some.injEq, Prod.mk.injEq] at h
        obtain ⟨rfl, rfl⟩ := h
        have ht := elemQ_spec het
        obtain ⟨i, zv, hi, hzv, hze⟩ := zeroQ_spec hz
        have hul : us.toList.length = len := by
          have := congrArg List.length hu
          simp only [List.length_map] at this
          omega
        have her : RepL σ (parts.map fun p => p.2.erase) (us.toList.map (·.2)) := by
          have := hp.erase
          rwa [List.map_map] at this
        have hszu : ∀ (i : Nat) (p : Nat × Value), us.toList[i]? = some p → p.1 = 0 + i ∧ p.2.cells.size = s := by
          intro i p hip
          have h1 : (us.toList.map (·.1))[i]? = some p.1 := by simp [List.getElem?_map, hip]
          rw [hu, List.getElem?_map] at h1
          obtain ⟨q, hq, hqe⟩ := Option.map_eq_some_iff.1 h1
          have h2 := inOrder_spec hord i q hq
          have h3 : (parts.map fun p => p.2.erase)[i]? = some q.2.erase := by simp [List.getElem?_map, hq]
          obtain ⟨u, hu2, ru⟩ := her.get h3
          have h4 : (us.toList.map (·.2))[i]? = some p.2 := by simp [List.getElem?_map, hip]
          rw [h4] at hu2
          cases hu2
          exact ⟨by rw [← hqe, h2], ru.width (allWidth_spec hwid _ (List.mem_of_getElem? h3))⟩
        obtain ⟨zc, hzc1, hzc2, hzc3⟩ : ∃ zc : Array Value, zc.size = len * s ∧ (len * s = 0 → (Array.range (len * s)).map (fun x => (#[] : Array Value)[x % (#[] : Array Value).size]!) = zc) ∧
            (¬ len * s = 0 → (Array.range (len * s)).map (fun x => zv.cells[x % zv.cells.size]!) = zc) := by
          by_cases h0 : len * s = 0
          · exact ⟨_, by simp, fun _ => rfl, fun h => absurd h0 h⟩
          · exact ⟨_, by simp, fun h => absurd h h0, fun _ => rfl⟩
        obtain ⟨out, e1, e2, _, e4⟩ := fill_row s us.toList 0 zc hszu (by rw [hul, hzc1, Nat.zero_add]; exact Nat.le_refl _)
        have hrun : (Instr.buildSlice t len us).run P w = .ok (.slice (some ⟨w.heap.size, 0, none⟩) len len) (w.alloc (.cells out et)) := by
          have hbig' : ¬ (len * s > 2 ^ 24) := by omega
          simp only [Instr.buildSlice, Sem.run_bind, under_run ht, Result.andThen_ok, szQ_run hsz, Sem.run_ite, if_neg hbig', Sem.run_pure]
          by_cases h0 : len * s = 0
          · simp only [if_pos h0, hzc2 h0, e1, Sem.run_bind, newRow, run_newObj, Result.andThen_ok, Sem.run_pure]
            rfl
          · have hzr : (zeroValue et).run P w = .ok zv w := by simp [zeroValue, typeInfo, hi, hzv]
            simp only [if_neg h0, hzr, Result.andThen_ok, hzc3 h0, e1, Sem.run_bind, newRow, run_newObj, Sem.run_pure]
            rfl
        simp only [Sem.run_bind, hrun, Result.andThen_ok, Sem.run_pure, UponA]
        have hcells : ∀ x ∈ out.toList.take (len * s), x.oneCell' = true := by
          intro x hx
          obtain ⟨o, ho⟩ := List.getElem?_of_mem hx
          have hol : o < len * s := by
            have := (List.getElem?_eq_some_iff.1 ho).1
            simp at this; omega
          rw [List.getElem?_take_of_lt hol, Array.getElem?_toList] at ho
          have hspos : 0 < s := Nat.pos_of_ne_zero hs0
          have hi' : o / s < us.toList.length := by rw [hul]; exact (Nat.div_lt_iff_lt_mul hspos).2 hol
          have hget : us.toList[o / s]? = some (us.toList[o / s]) := List.getElem?_eq_getElem hi'
          have hsz' := (hszu _ _ hget).2
          have hmod : o % s < (us.toList[o / s]).2.cells.size := by rw [hsz']; exact Nat.mod_lt _ hspos
          have := e4 (o / s) _ hget (o % s) _ (Array.getElem?_eq_getElem hmod)
          rw [Nat.zero_add, Nat.mul_comm, Nat.div_add_mod, ho] at this
          cases this
          have h3 : (us.toList.map (·.2))[o / s]? = some (us.toList[o / s]).2 := by rw [List.getElem?_map, hget]; rfl
          have hlt : o / s < (parts.map fun p => p.2.erase).length := by rw [← her.length]; simpa using hi'
          obtain ⟨u, hu2, ru⟩ := her.get (List.getElem?_eq_getElem hlt)
          rw [h3] at hu2
          cases hu2
          have hmem := List.getElem_mem hlt
          refine allOne_spec (allOneL_spec hone _ hmem) (ru.cells (by rw [allWidth_spec hwid _ hmem]; simp)) _ ?_
          simp
        have hol : (out.toList.take (len * s)).length = len * s := by
          simp [e2, hzc1]
        obtain ⟨hsim, hext⟩ := hs.know_new (cs := out.toList.take (len * s)) (c := out) (et := et) (w1 := w) rfl hs.below
          (fun j x hj => by
            have hjl : j < len * s := by have := (List.getElem?_eq_some_iff.1 hj).1; omega
            rw [List.getElem?_take_of_lt hjl] at hj; simpa using hj)
          hcells
        have hpl : (parts.map fun p => p.2.erase).length = len := by simp [hlen]
        refine ⟨_, hext, hsim, ?_⟩
        simp only [Rep]
        refine ⟨_, len, by rw [hpl], by rw [hpl]; exact Nat.le_refl _, by rw [hpl]; rfl, .inr ⟨w.heap.size, 0, s, rfl, ?_⟩⟩
        refine RepRow.of_vals (her.mono hext.le) (fun u hu' => ?_) (fun i u hi' j x hj => ?_)
        · obtain ⟨q, hq, rfl⟩ := List.mem_map.1 hu'
          obtain ⟨k, hk⟩ := List.getElem?_of_mem hq
          exact (hszu k q hk).2
        · rw [List.getElem?_map] at hi'
          obtain ⟨q, hq, rfl⟩ := Option.map_eq_some_iff.1 hi'
          have hout := e4 i q hq j x hj
          rw [Nat.zero_add] at hout
          have hil : i < len := by rw [← hul]; exact (List.getElem?_eq_some_iff.1 hq).1
          have hjs : j < s := by rw [← (hszu i q hq).2]; exact (Array.getElem?_eq_some_iff.1 hj).1
          have hlt : i * s + j < len * s := by
            have : (i + 1) * s ≤ len * s := Nat.mul_le_mul_right _ hil
            rw [Nat.add_mul, Nat.one_mul] at this
            omega
          rw [show 0 + i * s + j = i * s + j from by omega]
          simp only [St.know]
          rw [if_pos ⟨trivial, by rw [hol]; exact hlt⟩, List.getElem?_take_of_lt hlt, Array.getElem?_toList]
          exact hout
      · cases h
    · cases h
  · cases h

end
end Go.Ab
