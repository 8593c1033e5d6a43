/- append and slice literals, against the model. -/
import Derived.Test.YtkhhkfgehmogoaaAb9
namespace Go.Ab
set_option linter.unusedVariables false
open Go Go.RowKit

section
variable {P : Program} {B : Nat} {W0 : World} {H : AHeap} {σ : St} {w : World}

theorem run_append_zero (t ty e : TypeId) (i : TypeInfo) (ht : P.underlying t = some (.slice e)) (hi : P.info? e = some i) (a a2 : Option Addr) (n cap c2 : Nat) (h : n ≤ cap) :
    (Builtin.append_ #[t, t] ty #[.slice a n cap, .slice a2 0 c2]).run P w = .ok (.slice a n cap) w := by
  cases a <;> cases a2 <;> simp [Builtin.append_, run_underlying ht, sizeOf, typeInfo, hi, Builtin.lenOf, Builtin.firstCells, loadCells, loadCellsFrom, h, storeCells]

theorem setL_same : ∀ (l : List (Nat × AObj)) (k : Nat) (x : AObj), getL l k = some x → setL l k x = l
  | [], _, _, h => by simp [getL] at h
  | (j, y) :: l, k, x, h => by
    simp only [getL] at h
    simp only [setL]
    split
    · rename_i e; rw [if_pos e] at h; cases h; rfl
    · rename_i e; rw [if_neg e] at h; rw [setL_same l k x h]

theorem AHeap.set_same {k : Nat} {x : AObj} (h : H.get k = some x) : H.set k x = H := by
  unfold AHeap.set
  have : getL H.objs k = some x := by
    unfold AHeap.get at h
    split at h
    · exact h
    · cases h
  rw [setL_same H.objs k x this]

theorem info_of {t : TypeId} {s b : Nat} {z : List AV} (hs : szQ P t = some s) (hb : byQ P t = some b) (hz : zeroQ P t = some z) :
    ∃ i zv, P.info? t = some i ∧ i.size = s ∧ i.bytes = b ∧ i.zero = some zv ∧ zv.cells.size = z.length := by
  obtain ⟨i, zv, hi, hzv, rfl⟩ := zeroQ_spec hz
  refine ⟨i, zv, hi, ?_, ?_, hzv, by simp⟩
  · simpa [szQ, hi] using hs
  · simpa [byQ, hi] using hb

theorem append_sound (hs : Sim P B W0 H σ w) {t1 t2 ty : TypeId} {x y v : AV} {ux uy : Value} {H' : AHeap} (rx : Rep σ x ux) (ry : Rep σ y uy) (h : appendA P t1 t2 x y H = some (v, H')) :
    UponA P ((do pure (Next.value (← Builtin.append_ #[t1, t2] ty #[ux, uy])) : Sem Next).run P w) (Goes P B W0 σ v H') := by
  cases x with
  | vec o es =>
   cases y with
   | vec o' fs =>
    simp only [appendA] at h
    split at h
    · rename_i et het
      split at h
      · rename_i s by_ z hsz hby hz
        split at h
        · rename_i hc
          obtain ⟨rfl, hst1, hst2, hs0, hzl, hbytes, hlen⟩ := hc
          have ht := elemQ_spec het
          obtain ⟨i, zv, hi, his, hib, hiz, hzs⟩ := info_of hsz hby hz
          have rx0 := rx
          simp only [Rep] at rx ry
          obtain ⟨ax, cx, rfl, hlx, hox, hrx⟩ := rx
          obtain ⟨ay, cy, rfl, hly, _, hry⟩ := ry
          obtain ⟨et1, s1, he1, hs1, hw1⟩ := strideQ_spec hst1
          obtain ⟨et2, s2, he2, hs2, hw2⟩ := strideQ_spec hst2
          rw [het] at he1 he2
          cases he1
          cases he2
          rw [hsz] at hs1 hs2
          cases hs1
          cases hs2
          have hm63 : es.length + fs.length ≤ maxLen := by unfold maxLen; omega
          by_cases hm0 : fs = []
          · subst hm0
            have hrun := run_append_zero (P := P) (w := w) t1 ty et i ht hi ax ay es.length cx cy hlx
            simp only [List.length_nil] at h ⊢
            simp only [Sem.run_bind, hrun, Result.andThen_ok, Sem.run_pure, UponA]
            cases o with
            | nil =>
              simp only at h
              split at h
              · rename_i he0
                simp only [if_true, Option.some.injEq, Prod.mk.injEq] at h
                obtain ⟨rfl, rfl⟩ := h
                have : es = [] := List.eq_nil_of_length_eq_zero he0
                subst this
                exact ⟨σ, Ext.refl _ _, hs, rx0⟩
              · cases h
            | ro =>
              simp only [if_true, Option.some.injEq, Prod.mk.injEq] at h
              obtain ⟨rfl, rfl⟩ := h
              exact ⟨σ, Ext.refl _ _, hs, rx0⟩
            | own k =>
              simp only at h
              split at h
              · rename_i n et' hk
                split at h
                · rename_i hne
                  obtain ⟨rfl, rfl⟩ := hne
                  simp only [Nat.add_zero, List.append_nil, Option.some.injEq, Prod.mk.injEq] at h
                  obtain ⟨rfl, rfl⟩ := h
                  rw [AHeap.set_same hk]
                  exact ⟨σ, Ext.refl _ _, hs, rx0⟩
                · cases h
              · cases h
          · have hmpos : 0 < fs.length := List.length_pos_iff.2 hm0
            obtain ⟨by2, oy, sy, rfl, rowy⟩ := hry.resolve_left hm0
            have hsy : sy = s := rowy.stride hm0 hw2
            subst hsy
            obtain ⟨news, hnl, hnc, hnre⟩ := rowy.flat
            have hnews : ∀ (j : Nat) (u : Value), news[j]? = some u → w.cell? ((⟨by2, oy, none⟩ : Addr).add j) = some u := fun j u hj => by
              rw [Addr.add_mk]; exact hs.cells _ _ _ (hnc j u hj)
            have hnone : ∀ u ∈ news, u.oneCell' = true := fun u hu => by
              obtain ⟨j, hj⟩ := List.getElem?_of_mem hu
              exact hs.one _ _ _ (hnc j u hj)
            have hnl' : news.length = fs.length * i.size := by rw [hnl, his]
            cases o with
            | ro => simp only [List.length_eq_zero_iff, hm0, if_false] at h; cases h
            | nil =>
              simp only at h
              split at h
              · rename_i he0
                simp only [List.length_eq_zero_iff, hm0, if_false, Option.some.injEq, Prod.mk.injEq] at h
                obtain ⟨rfl, rfl⟩ := h
                obtain ⟨rfl, _, hcx⟩ := hox
                subst hcx
                rw [he0]
                have hrun := run_append_nil (P := P) w t1 ty et i zv ht hi hiz ⟨by2, oy, none⟩ fs.length cy news hnl' hnews hmpos (by omega) (by
                  rw [hib]; have := hbytes; rw [he0, Nat.zero_add] at this; omega)
                have hge := grownCap_ge w fs.length 0 et
                have hcm := grownCap_le_maxLen w fs.length 0 et (by omega)
                simp only [Sem.run_bind, hrun, Result.andThen_ok, Sem.run_pure, UponA]
                obtain ⟨hsim, hle⟩ := hs.grow_new (k := H.next) (n := fs.length) (et := et) (s := sy) (cap := grownCap w fs.length 0 et) (cs := news)
                  (c := news.toArray ++ Builtin.zeroCells zv.cells (grownCap w fs.length 0 et - fs.length)) (w1 := w.drew) rfl hs.below.drew hsz hnl
                  (fun j v hj => by
                    have : j < news.length := (List.getElem?_eq_some_iff.1 hj).1
                    rw [Array.getElem?_append_left (by simpa using this)]; simpa using hj)
                  hnone (by
                    simp only [Array.size_append, List.size_toArray, size_zeroCells, hzs, hzl, hnl, ← Nat.add_mul]
                    congr 1; omega) hge hcm (fun m _ => (hs.fresh H.next (Nat.le_refl _)).2 m) (H' := H.push (.tip fs.length et))
                  (by show H.next + 1 = _; omega) (fun i => by
                    rw [AHeap.get_push]
                    by_cases e : H.next = i
                    · subst e; simp
                    · rw [if_neg e, if_neg (Ne.symm e)])
                refine ⟨_, ⟨hle, fun b o hb => ?_⟩, hsim, ?_⟩
                · simp only [St.commit]
                  rw [if_neg (by rintro ⟨rfl, _⟩; have := hs.size; omega)]
                · simp only [Rep]
                  refine ⟨_, _, rfl, hge, ⟨w.heap.size, by simp [St.commit], rfl⟩, .inr ⟨w.heap.size, 0, sy, rfl, hnre _ _ _ hle fun j v hj => St.commit_get hj⟩⟩
              · cases h
            | own k =>
              simp only at h
              split at h
              · rename_i n et' hk
                split at h
                · rename_i hne
                  obtain ⟨rfl, rfl⟩ := hne
                  simp only [Option.some.injEq, Prod.mk.injEq] at h
                  obtain ⟨rfl, rfl⟩ := h
                  obtain ⟨b, cap, c, s', h1, hB, h3, h4, h5, h6, h7, h8, h9⟩ := hs.obj k _ hk
                  rw [hsz] at h4
                  cases h4
                  obtain ⟨b', hb', rfl⟩ := hox
                  rw [h1] at hb'
                  obtain ⟨rfl, rfl⟩ : b = b' ∧ cap = cx := by simpa using hb'
                  have rowx : RepRow σ b sy 0 es := by
                    rcases hrx with rfl | ⟨b2, o2, s2, e2, row⟩
                    · simp [RepRow]
                    · cases e2
                      by_cases hes : es = []
                      · subst hes; simp [RepRow]
                      · have := row.stride hes hw1
                        subst this
                        exact row
                  by_cases hroom : es.length + fs.length ≤ cap
                  · have hfit : es.length * i.size + news.length ≤ c.size := by rw [hnl', h5, ← his, ← Nat.add_mul]; exact Nat.mul_le_mul_right _ hroom
                    have hrun := run_append_room (P := P) w t1 ty et' i ht hi b es.length cap c h3 ⟨by2, oy, none⟩ fs.length cy news hnl' hnews hnone hroom hfit
                    obtain ⟨hsim, hext⟩ := hs.grow_room hk h1 h3 hsz hnl hnone hmpos hroom
                    simp only [Sem.run_bind, hrun, Result.andThen_ok, Sem.run_pure, UponA, his]
                    refine ⟨_, hext, hsim, ?_⟩
                    simp only [Rep]
                    refine ⟨_, cap, by rw [List.length_append], by rw [List.length_append]; exact hroom, ⟨b, by simp [St.commit], rfl⟩, .inr ⟨b, 0, sy, rfl, ?_⟩⟩
                    refine RepRow.append (rowx.mono hext.le) ?_
                    exact hnre _ _ _ hext.le fun j v hj => by
                      rw [Nat.zero_add]; exact St.commit_get hj
                  · obtain ⟨olds, hol, hoc, hore⟩ := rowx.flat
                    have holds : ∀ (j : Nat) (u : Value), olds[j]? = some u → w.cell? ((⟨b, 0, none⟩ : Addr).add j) = some u := fun j u hj => by
                      rw [Addr.add_mk]; exact hs.cells _ _ _ (hoc j u hj)
                    have hone' : ∀ u ∈ olds ++ news, u.oneCell' = true := fun u hu => by
                      rcases List.mem_append.1 hu with hu | hu
                      · obtain ⟨j, hj⟩ := List.getElem?_of_mem hu
                        exact hs.one _ _ _ (hoc j u hj)
                      · exact hnone u hu
                    have hrun := run_append_grow (P := P) w t1 ty et' i zv ht hi hiz ⟨b, 0, none⟩ es.length cap olds (by rw [hol, his]) holds ⟨by2, oy, none⟩ fs.length cy news hnl' hnews (by omega) (by omega)
                      (growslice_fits (by omega) (by rw [hib]; exact hbytes))
                    have hge := grownCap_ge w (es.length + fs.length) cap et'
                    have hcm := grownCap_le_maxLen w (es.length + fs.length) cap et' hm63
                    simp only [Sem.run_bind, hrun, Result.andThen_ok, Sem.run_pure, UponA]
                    have hkn : k < H.next := hs.keys k _ hk
                    obtain ⟨hsim, hle⟩ := hs.grow_new (k := k) (n := es.length + fs.length) (et := et') (s := sy) (cap := grownCap w (es.length + fs.length) cap et') (cs := olds ++ news)
                      (c := olds.toArray ++ news.toArray ++ Builtin.zeroCells zv.cells (grownCap w (es.length + fs.length) cap et' - (es.length + fs.length))) (w1 := w.drew) rfl hs.below.drew hsz
                      (by rw [List.length_append, hol, hnl, ← Nat.add_mul])
                      (fun j v hj => by
                        have : j < (olds ++ news).length := (List.getElem?_eq_some_iff.1 hj).1
                        rw [Array.getElem?_append_left (by simpa using this)]; simpa using hj)
                      hone' (by
                        simp only [Array.size_append, List.size_toArray, size_zeroCells, hzs, hzl, hnl, hol, ← Nat.add_mul]
                        congr 1; omega) hge hcm (fun m hm => h9 m (by omega)) (H' := H.set k (.tip (es.length + fs.length) et'))
                      (by show H.next = _; omega) (fun i => by
                        rw [AHeap.get_set]
                        by_cases e : k = i
                        · subst e; simp [hk]
                        · rw [if_neg e, if_neg (Ne.symm e)])
                    refine ⟨_, ⟨hle, fun b o hb => ?_⟩, hsim, ?_⟩
                    · simp only [St.commit]
                      rw [if_neg (by rintro ⟨rfl, _⟩; have := hs.size; omega)]
                    · simp only [Rep]
                      refine ⟨_, _, by rw [List.length_append], by rw [List.length_append]; exact hge, ⟨w.heap.size, by simp [St.commit], rfl⟩, .inr ⟨w.heap.size, 0, sy, rfl, ?_⟩⟩
                      refine RepRow.append (hore _ _ _ hle fun j v hj => ?_) (hnre _ _ _ hle fun j v hj => ?_)
                      · exact St.commit_get (by rw [List.getElem?_append_left (List.getElem?_eq_some_iff.1 hj).1]; exact hj)
                      · rw [Nat.zero_add, show es.length * sy + j = 0 + (olds.length + j) from by rw [hol]; omega]
                        exact St.commit_get (by rw [List.getElem?_append_right (by omega)]; simpa using hj)
                · cases h
              · cases h
        · cases h
      · cases h
    · cases h
   | _ => simp [appendA] at h
  | _ => simp [appendA] at h

end
end Go.Ab
