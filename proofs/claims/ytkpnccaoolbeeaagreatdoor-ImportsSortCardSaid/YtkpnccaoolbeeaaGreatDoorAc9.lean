/- Slices that are built and that grow, against the model. -/
import Derived.Test.YtkpnccaoolbeeaaGreatDoorAc8
namespace Go.Ab
set_option linter.unusedVariables false
open Go Go.RowKit

section
variable {P : Program} {B : Nat → Prop} {W0 : World} {H : AHeap} {σ : St} {w : World}

/-- The cells of a row, and what they serve for wherever they lie again. -/
theorem RepRow.flat {b s : Nat} : ∀ {off : Nat} {es : List AV}, RepRow σ b s off es → ∃ cs : List Value, cs.length = es.length * s ∧ (∀ j v, cs[j]? = some v → σ.cells b (off + j) = some v) ∧
    ∀ σ' b' off', σ.le σ' → (∀ j v, cs[j]? = some v → σ'.cells b' (off' + j) = some v) → RepRow σ' b' s off' es
  | _, [], _ => ⟨[], by simp, by simp, fun _ _ _ _ _ => by simp [RepRow]⟩
  | off, e :: es, h => by
    simp only [RepRow] at h
    obtain ⟨⟨u, r, hs, hc⟩, q⟩ := h
    obtain ⟨cs, hl, hcs, hre⟩ := RepRow.flat q
    refine ⟨u.cells.toList ++ cs, by simp [hl, hs, Nat.add_mul, Nat.add_comm], ?_, ?_⟩
    · intro j v hj
      by_cases hjs : j < s
      · rw [List.getElem?_append_left (by simpa [hs] using hjs)] at hj
        exact hc j v (by simpa using hj)
      · rw [List.getElem?_append_right (by simp [hs]; omega)] at hj
        have := hcs _ v hj
        simp only [Array.length_toList, hs] at this
        rwa [show off + s + (j - s) = off + j from by omega] at this
    · intro σ' b' off' hle hnew
      simp only [RepRow]
      refine ⟨⟨u, r.mono hle, hs, ?_⟩, hre σ' b' (off' + s) hle ?_⟩
      · intro j v hj
        have hjs : j < s := by rw [← hs]; exact (Array.getElem?_eq_some_iff.1 hj).1
        exact hnew j v (by rw [List.getElem?_append_left (by simpa [hs] using hjs)]; simpa using hj)
      · intro j v hj
        have := hnew (s + j) v (by rw [List.getElem?_append_right (by simp [hs])]; simpa [hs] using hj)
        rwa [show off' + (s + j) = off' + s + j from by omega] at this

theorem RepRow.of_vals {b s : Nat} : ∀ {off : Nat} {es : List AV} {us : List Value}, RepL σ es us → (∀ u ∈ us, u.cells.size = s) →
    (∀ (i : Nat) (u : Value), us[i]? = some u → ∀ (j : Nat) (v : Value), u.cells[j]? = some v → σ.cells b (off + i * s + j) = some v) → RepRow σ b s off es
  | _, [], _, _, _, _ => by simp [RepRow]
  | off, e :: es, us, h, hsz, hc => by
    rw [RepL.cons_iff] at h
    obtain ⟨u, us', rfl, r, q⟩ := h
    simp only [RepRow]
    refine ⟨⟨u, r, hsz u (by simp), fun j v hj => by simpa using hc 0 u (by simp) j v hj⟩, RepRow.of_vals q (fun u hu => hsz u (by simp [hu])) ?_⟩
    intro i u' hi j v hj
    have := hc (i + 1) u' (by simpa using hi) j v hj
    rwa [show off + (i + 1) * s + j = off + s + i * s + j from by rw [Nat.add_mul]; omega] at this

theorem RepRow.append {b s : Nat} : ∀ {off : Nat} {es fs : List AV}, RepRow σ b s off es → RepRow σ b s (off + es.length * s) fs → RepRow σ b s off (es ++ fs)
  | _, [], _, _, h => by simpa using h
  | off, e :: es, fs, h, k => by
    simp only [RepRow] at h
    simp only [List.cons_append, RepRow]
    refine ⟨h.1, RepRow.append h.2 ?_⟩
    rwa [show off + s + es.length * s = off + (e :: es).length * s from by simp [Nat.add_mul]; omega]

/-- Cells of block b0 from o0 on are known for good now, and where this version of this growing row lies. -/
def St.commit (σ : St) (b0 o0 : Nat) (cs : List Value) (k n cap : Nat) : St where
  cells := fun b o => if b = b0 ∧ o0 ≤ o ∧ o < o0 + cs.length then cs[o - o0]? else σ.cells b o
  loc := σ.loc
  own := fun k' n' => if k' = k ∧ n' = n then some (b0, cap) else σ.own k' n'

theorem St.commit_le {b0 o0 k n cap : Nat} {cs : List Value} (hc : ∀ o, o0 ≤ o → σ.cells b0 o = none) (ho : σ.own k n = none ∨ σ.own k n = some (b0, cap)) : σ.le (σ.commit b0 o0 cs k n cap) := by
  refine ⟨fun b o v h => ?_, fun _ _ h => h, fun k' n' x h => ?_⟩
  · simp only [St.commit]
    split
    · rename_i hh
      obtain ⟨rfl, h1, _⟩ := hh
      rw [hc o h1] at h; cases h
    · exact h
  · simp only [St.commit]
    split
    · rename_i hh
      obtain ⟨rfl, rfl⟩ := hh
      rcases ho with ho | ho <;> rw [ho] at h
      · cases h
      · exact h
    · exact h

theorem St.commit_get {b0 o0 k n cap : Nat} {cs : List Value} {j : Nat} {v : Value} (h : cs[j]? = some v) : (σ.commit b0 o0 cs k n cap).cells b0 (o0 + j) = some v := by
  have hj : j < cs.length := (List.getElem?_eq_some_iff.1 h).1
  simp only [St.commit]
  rw [if_pos ⟨trivial, by omega, by omega⟩, show o0 + j - o0 = j from by omega, h]

/-- A new row with room, its first cells known for good. -/
theorem Sim.grow_new (hs : Sim P B W0 H σ w) {k n et : Nat} {s cap : Nat} {cs : List Value} {c : Array Value} {w1 : World}
    (hw1 : w1.heap = w.heap) (hbel : BelowS B W0 w1) (hsz : szQ P et = some s) (hcs : cs.length = n * s) (hcc : ∀ (j : Nat) (v : Value), cs[j]? = some v → c[j]? = some v)
    (hone : ∀ v ∈ cs, v.oneCell' = true) (hcsz : c.size = cap * s) (hncap : n ≤ cap) (hcm : cap ≤ maxLen)
    (hk : ∀ m, n ≤ m → σ.own k m = none) {H' : AHeap} (hH : H'.next = max H.next (k + 1))
    (hg : ∀ i, H'.get i = if i = k then some (.tip n et) else H.get i) :
    Sim P B W0 H' (σ.commit w.heap.size 0 cs k n cap) (w1.alloc (.cells c et)) ∧ σ.le (σ.commit w.heap.size 0 cs k n cap) := by
  have hle : σ.le (σ.commit w.heap.size 0 cs k n cap) := St.commit_le (fun o _ => hs.cells_new o) (.inl (hk n (Nat.le_refl _)))
  have hsize : w1.heap.size = w.heap.size := by rw [hw1]
  have hold : ∀ b, b < w.heap.size → (w1.alloc (.cells c et)).heap[b]? = w.heap[b]? := fun b hb => by
    rw [heap_old w1 _ (by omega), hw1]
  have hnew : (w1.alloc (.cells c et)).heap[w.heap.size]? = some (.cells c et (0, 0)) := by
    rw [← hsize]; exact heap_new w1 _
  refine ⟨⟨hbel.alloc (fun k hk => by rw [hsize]; exact hs.size k hk) _, hs.base, ?_, ?_, ?_, ?_, ?_, ?_⟩, hle⟩
  · intro b o v h
    simp only [St.commit] at h
    split at h
    · rename_i hh
      obtain ⟨rfl, _, _⟩ := hh
      rw [cell_of_row hnew]
      exact hcc _ v (by simpa using h)
    · rw [cell_of_heap (hold b (hs.cells_lt h))]
      exact hs.cells b o v h
  · intro b o v h
    simp only [St.commit] at h
    split at h
    · exact hone v (List.mem_of_getElem? h)
    · exact hs.one b o v h
  · intro id hid
    rw [hH] at hid
    have hid1 : H.next ≤ id := by omega
    have hne : id ≠ k := by omega
    have := hs.fresh id hid1
    refine ⟨this.1, fun m => ?_⟩
    simp only [St.commit]
    rw [if_neg (by rintro ⟨rfl, _⟩; exact hne rfl)]
    exact this.2 m
  · intro id x h
    rw [hg] at h
    rw [hH]
    split at h
    · omega
    · have := hs.keys id x h; omega
  · intro id x h
    rw [hg] at h
    split at h
    · rename_i e
      subst e
      cases h
      refine ⟨w.heap.size, cap, c, s, by simp [St.commit], hs.notNew, hnew, hsz, hcsz, hncap, hcm, ?_, ?_⟩
      · intro o ho
        simp only [St.commit]
        rw [if_neg (by rw [hcs]; omega)]
        exact hs.cells_new o
      · intro m hm
        simp only [St.commit]
        rw [if_neg (by omega)]
        exact hk m (by omega)
    · rename_i hne
      have ho := hs.obj id x h
      refine ho.keep hle (fun b hb => ?_) (fun m => by simp only [St.commit]; rw [if_neg (by rintro ⟨e, _⟩; exact hne e)])
      obtain ⟨b', hb', _, hlt⟩ := ho.blk
      rw [hb] at hb'
      cases hb'
      exact ⟨hold b hlt, fun o => by simp only [St.commit]; rw [if_neg (by rintro ⟨rfl, _⟩; exact absurd hlt (Nat.lt_irrefl _))]⟩
  · intro id id' x x' h h' hb
    have key : ∀ i y, i ≠ k → H.get i = some y → ∃ b, blk (σ.commit w.heap.size 0 cs k n cap) i y = some b ∧ blk σ i y = some b ∧ b < w.heap.size := fun i y _ hy => by
      obtain ⟨b, h1, _, h3⟩ := (hs.obj i y hy).blk
      exact ⟨b, blk_keep hle h1, h1, h3⟩
    have keyk : blk (σ.commit w.heap.size 0 cs k n cap) k (.tip n et) = some w.heap.size := by simp [blk, St.commit]
    rw [hg] at h h'
    split at h
    · rename_i e1
      split at h'
      · rename_i e2; rw [e1, e2]
      · rename_i e2
        cases h
        obtain ⟨b, h1, _, h3⟩ := key id' x' e2 h'
        rw [e1, keyk, h1] at hb
        cases hb
        exact absurd h3 (Nat.lt_irrefl _)
    · rename_i e1
      split at h'
      · rename_i e2
        cases h'
        obtain ⟨b, h1, _, h3⟩ := key id x e1 h
        rw [e2, keyk, h1] at hb
        cases hb
        exact absurd h3 (Nat.lt_irrefl _)
      · rename_i e2
        obtain ⟨b, h1, g1, _⟩ := key id x e1 h
        obtain ⟨b', h1', g1', _⟩ := key id' x' e2 h'
        rw [h1, h1'] at hb
        exact hs.inj id id' x x' h h' (by rw [g1, g1', hb])

/-- A row whose next cells are written in their place. -/
theorem Sim.grow_room (hs : Sim P B W0 H σ w) {k n m et : Nat} {s cap b : Nat} {cs : List Value} {c : Array Value} (hk : H.get k = some (.tip n et)) (hown : σ.own k n = some (b, cap))
    (hh : w.heap[b]? = some (.cells c et (0, 0))) (hsz : szQ P et = some s) (hcs : cs.length = m * s) (hone : ∀ v ∈ cs, v.oneCell' = true) (hm : 0 < m) (hroom : n + m ≤ cap) :
    Sim P B W0 (H.set k (.tip (n + m) et)) (σ.commit b (n * s) cs k (n + m) cap) (w.setRow b (c.toList.take (n * s) ++ cs ++ c.toList.drop (n * s + cs.length)).toArray) ∧ Ext B σ (σ.commit b (n * s) cs k (n + m) cap) := by
  obtain ⟨b', cap', c', s', h1, hB, h3, h4, h5, h6, h7, h8, h9⟩ := hs.obj k _ hk
  rw [hown] at h1
  cases h1
  rw [hh] at h3
  cases h3
  rw [hsz] at h4
  cases h4
  have hle : σ.le (σ.commit b (n * s) cs k (n + m) cap) := St.commit_le h8 (.inl (h9 _ (by omega)))
  have hother : ∀ i, i ≠ b → (w.setRow b (c.toList.take (n * s) ++ cs ++ c.toList.drop (n * s + cs.length)).toArray).heap[i]? = w.heap[i]? := fun i hi => setRow_other w b i _ hi
  have hnow := setRow_heap w b c (c.toList.take (n * s) ++ cs ++ c.toList.drop (n * s + cs.length)).toArray et (0, 0) hh
  have hfit : n * s + cs.length ≤ c.size := by rw [hcs, h5, ← Nat.add_mul]; exact Nat.mul_le_mul_right _ hroom
  have hget : ∀ o, ((c.toList.take (n * s) ++ cs ++ c.toList.drop (n * s + cs.length)).toArray)[o]? = if n * s ≤ o ∧ o < n * s + cs.length then cs[o - n * s]? else c[o]? := by
    intro o
    rw [List.getElem?_toArray]
    by_cases h1 : o < n * s
    · rw [if_neg (by omega), List.append_assoc, List.getElem?_append_left (by simp; omega), List.getElem?_take_of_lt h1, Array.getElem?_toList]
    · rw [List.append_assoc, List.getElem?_append_right (by simp; omega)]
      simp only [List.length_take, Array.length_toList]
      rw [show min (n * s) c.size = n * s from by omega]
      by_cases h2 : o < n * s + cs.length
      · rw [if_pos ⟨by omega, h2⟩, List.getElem?_append_left (by omega)]
      · rw [if_neg (by omega), List.getElem?_append_right (by omega), List.getElem?_drop, Array.getElem?_toList]
        congr 1
        omega
  have hgset : ∀ i, (H.set k (.tip (n + m) et)).get i = if i = k then some (.tip (n + m) et) else H.get i := fun i => by
    rw [AHeap.get_set]
    by_cases e : k = i
    · subst e; simp [hk]
    · rw [if_neg e, if_neg (Ne.symm e)]
  have hblkk : blk (σ.commit b (n * s) cs k (n + m) cap) k (.tip (n + m) et) = some b := by simp [blk, St.commit]
  have hblk0 : blk σ k (.tip n et) = some b := by simp [blk, hown]
  refine ⟨⟨hs.below.trans ⟨rfl, rfl, rfl, by simp, fun i hi => hother i (by rintro rfl; exact hB hi)⟩, hs.base, ?_, ?_, ?_, ?_, ?_, ?_⟩, hle, ?_⟩
  · intro b' o v h
    simp only [St.commit] at h
    by_cases hb : b' = b
    · subst hb
      rw [cell_of_row hnow, hget]
      split at h
      · rename_i hh'
        rw [if_pos ⟨hh'.2.1, hh'.2.2⟩]; exact h
      · rename_i hh'
        rw [if_neg (fun q => hh' ⟨rfl, q.1, q.2⟩)]
        have := hs.cells b' o v h
        rwa [cell_of_row hh] at this
    · rw [if_neg (fun q => hb q.1)] at h
      rw [cell_of_heap (hother b' hb)]
      exact hs.cells b' o v h
  · intro b' o v h
    simp only [St.commit] at h
    split at h
    · exact hone v (List.mem_of_getElem? h)
    · exact hs.one b' o v h
  · intro id hid
    have hid' : H.next ≤ id := hid
    have hne : id ≠ k := by have := hs.keys k _ hk; omega
    have := hs.fresh id hid'
    refine ⟨this.1, fun q => ?_⟩
    simp only [St.commit]
    rw [if_neg (by rintro ⟨e, _⟩; exact hne e)]
    exact this.2 q
  · intro id x h
    rw [hgset] at h
    show id < H.next
    split at h
    · rename_i e; subst e; exact hs.keys id _ hk
    · exact hs.keys id x h
  · intro id x h
    rw [hgset] at h
    split at h
    · rename_i e
      subst e
      cases h
      refine ⟨b, cap, _, s, by simp [St.commit], hB, hnow, hsz, ?_, hroom, h7, ?_, ?_⟩
      · simp only [List.size_toArray, List.length_append, List.length_take, List.length_drop, Array.length_toList]
        omega
      · intro o ho
        simp only [St.commit]
        rw [Nat.add_mul] at ho
        rw [if_neg (by rw [hcs]; omega)]
        exact h8 o (by omega)
      · intro q hq
        simp only [St.commit]
        rw [if_neg (by omega)]
        exact h9 q (by omega)
    · rename_i hne
      have ho := hs.obj id x h
      have hbb : ∀ b', blk σ id x = some b' → b' ≠ b := by
        rintro b' hb' rfl
        exact hne (hs.inj id k x _ h hk (by rw [hb', hblk0]))
      refine ho.keep hle (fun b' hb' => ⟨hother b' (hbb b' hb'), fun o => ?_⟩) (fun q => ?_)
      · simp only [St.commit]
        rw [if_neg (fun q => hbb b' hb' q.1)]
      · simp only [St.commit]
        rw [if_neg (by rintro ⟨e, _⟩; exact hne e)]
  · intro id id' x x' h h' hb
    have key : ∀ i y, i ≠ k → H.get i = some y → ∃ b', blk (σ.commit b (n * s) cs k (n + m) cap) i y = some b' ∧ blk σ i y = some b' ∧ b' ≠ b := fun i y hi hy => by
      obtain ⟨b', q1, _, _⟩ := (hs.obj i y hy).blk
      refine ⟨b', blk_keep hle q1, q1, ?_⟩
      rintro rfl
      exact hi (hs.inj i k y _ hy hk (by rw [q1, hblk0]))
    rw [hgset] at h h'
    split at h
    · rename_i e1
      split at h'
      · rename_i e2; rw [e1, e2]
      · rename_i e2
        cases h
        obtain ⟨b', q1, _, q3⟩ := key id' x' e2 h'
        rw [e1, hblkk, q1] at hb
        cases hb
        exact absurd rfl q3
    · rename_i e1
      split at h'
      · rename_i e2
        cases h'
        obtain ⟨b', q1, _, q3⟩ := key id x e1 h
        rw [e2, hblkk, q1] at hb
        cases hb
        exact absurd rfl q3
      · rename_i e2
        obtain ⟨b1, q1, g1, _⟩ := key id x e1 h
        obtain ⟨b2, q2, g2, _⟩ := key id' x' e2 h'
        rw [q1, q2] at hb
        exact hs.inj id id' x x' h h' (by rw [g1, g2, hb])
  · intro b' o hb'
    simp only [St.commit]
    rw [if_neg (by rintro ⟨rfl, _⟩; exact hB hb')]

end
end Go.Ab
