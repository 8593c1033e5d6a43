/- append and slice literals, against the model. -/
import Derived.Test.YtkpnccaoolbeeaaGreatDoorAc9
import Derived.Deep.Upon
namespace Go.Ab
set_option linter.unusedVariables false
open Go Go.RowKit

section
variable {P : Program} {B : Nat → Prop} {W0 : World} {H : AHeap} {σ : St} {w : World}

theorem run_append_zero (t ty e : TypeId) (i : TypeInfo) (ht : P.underlying t = some (.slice e)) (hi : P.info? e = some i) (a a2 : Option Addr) (n cap c2 : Nat) (h : n ≤ cap) :
    (Builtin.append_ #[t, t] ty #[.slice a n cap, .slice a2 0 c2]).run P w = .ok (.slice a n cap) w := by
  cases a <;> cases a2 <;> simp [Builtin.append_, run_underlying ht, sizeOf, typeInfo, hi, Builtin.lenOf, Builtin.firstCells, loadCells, loadCellsFrom, h, storeCells]

theorem setL_same : ∀ (l : List (Nat × AObj)) (k : Nat) (x : AObj), getL l k = some x → setL l k x = l
  | [], _, _, h => by simp [getL] at h
  | (j, y) :: l, k, x, h => by
    simp only [getL] at h
    simp only [setL]
    split
    · rename_i e; rw [if_pos e] at h; cases h; rfl
    · rename_i e; rw [if_neg e] at h; rw [setL_same l k x h]

theorem AHeap.set_same {k : Nat} {x : AObj} (h : H.get k = some x) : H.set k x = H := by
  unfold AHeap.set
  have : getL H.objs k = some x := by
    unfold AHeap.get at h
    split at h
    · exact h
    · cases h
  rw [setL_same H.objs k x this]

theorem info_of {t : TypeId} {s b : Nat} {z : List AV} (hs : szQ P t = some s) (hb : byQ P t = some b) (hz : zeroQ P t = some z) :
    ∃ i zv, P.info? t = some i ∧ i.size = s ∧ i.bytes = b ∧ i.zero = some zv ∧ zv.cells.size = z.length := by
  obtain ⟨i, zv, hi, hzv, rfl⟩ := zeroQ_spec hz
  refine ⟨i, zv, hi, ?_, ?_, hzv, by simp⟩
  · simpa [szQ, hi] using hs
  · simpa [byQ, hi] using hb

theorem appendVec_sound (hs : Sim P B W0 H σ w) {t1 ty : TypeId} {o o' : Own} {es fs : List AV} {v : AV} {ux uy : Value} {H' : AHeap} (rx : Rep σ (.vec o es) ux) (ry : Rep σ (.vec o' fs) uy) {et s by_ : Nat} {z : List AV}
    (het : elemQ P t1 = some et) (hsz : szQ P et = some s) (hby : byQ P et = some by_) (hz : zeroQ P et = some z) (hs0 : s ≠ 0) (hzl : z.length = s) (h : appendVec P t1 et by_ o es fs H = some (v, H')) :
    UponA P ((do pure (Next.value (← Builtin.append_ #[t1, t1] ty #[ux, uy])) : Sem Next).run P w) (Goes P B W0 σ v H') := by
        simp only [appendVec] at h
        split at h
        · rename_i hc
          obtain ⟨hst1, hst2, hbytes, hlen⟩ := hc
          have ht := elemQ_spec het
          obtain ⟨i, zv, hi, his, hib, hiz, hzs⟩ := info_of hsz hby hz
          have rx0 := rx
          simp only [Rep] at rx ry
          obtain ⟨ax, cx, rfl, hlx, hox, hrx⟩ := rx
          obtain ⟨ay, cy, rfl, hly, _, hry⟩ := ry
          obtain ⟨et1, s1, he1, hs1, hw1⟩ := strideQ_spec hst1
          obtain ⟨et2, s2, he2, hs2, hw2⟩ := strideQ_spec hst2
          rw [het] at he1 he2
          cases he1
          cases he2
          rw [hsz] at hs1 hs2
          cases hs1
          cases hs2
          have hm63 : es.length + fs.length ≤ maxLen := by unfold maxLen; omega
          by_cases hm0 : fs = []
          · subst hm0
            have hrun := run_append_zero (P := P) (w := w) t1 ty et i ht hi ax ay es.length cx cy hlx
            simp only [List.length_nil] at h ⊢
            simp only [Sem.run_bind, hrun, Result.andThen_ok, Sem.run_pure, UponA]
            cases o with
            | nil =>
              simp only at h
              split at h
              · rename_i he0
                simp only [if_true, Option.some.injEq, Prod.mk.injEq] at h
                obtain ⟨rfl, rfl⟩ := h
                have : es = [] := List.eq_nil_of_length_eq_zero he0
                subst this
                exact ⟨σ, Ext.refl _ _, hs, rx0⟩
              · cases h
            | ro =>
              simp only [if_true, Option.some.injEq, Prod.mk.injEq] at h
              obtain ⟨rfl, rfl⟩ := h
              exact ⟨σ, Ext.refl _ _, hs, rx0⟩
            | full =>
              simp only [if_true, Option.some.injEq, Prod.mk.injEq] at h
              obtain ⟨rfl, rfl⟩ := h
              exact ⟨σ, Ext.refl _ _, hs, rx0⟩
            | own k =>
              simp only at h
              split at h
              · rename_i n et' hk
                split at h
                · rename_i hne
                  obtain ⟨rfl, rfl⟩ := hne
                  simp only [Nat.add_zero, List.append_nil, Option.some.injEq, Prod.mk.injEq] at h
                  obtain ⟨rfl, rfl⟩ := h
                  rw [AHeap.set_same hk]
                  exact ⟨σ, Ext.refl _ _, hs, rx0⟩
                · cases h
              · cases h
          · have hmpos : 0 < fs.length := List.length_pos_iff.2 hm0
            obtain ⟨by2, oy, sy, rfl, rowy⟩ := hry.resolve_left hm0
            have hsy : sy = s := rowy.stride hm0 hw2
            subst hsy
            obtain ⟨news, hnl, hnc, hnre⟩ := rowy.flat
            have hnews : ∀ (j : Nat) (u : Value), news[j]? = some u → w.cell? ((⟨by2, oy, none⟩ : Addr).add j) = some u := fun j u hj => by
              rw [Addr.add_mk]; exact hs.cells _ _ _ (hnc j u hj)
            have hnone : ∀ u ∈ news, u.oneCell' = true := fun u hu => by
              obtain ⟨j, hj⟩ := List.getElem?_of_mem hu
              exact hs.one _ _ _ (hnc j u hj)
            have hnl' : news.length = fs.length * i.size := by rw [hnl, his]
            cases o with
            | ro => simp only [List.length_eq_zero_iff, hm0, if_false] at h; cases h
            | full =>
              simp only [List.length_eq_zero_iff, hm0, if_false, Option.some.injEq, Prod.mk.injEq] at h
              obtain ⟨rfl, rfl⟩ := h
              simp only [OwnOk] at hox
              subst hox
              have hkn : ∀ m, es.length + fs.length ≤ m → σ.own H.next m = none := fun m _ => (hs.fresh H.next (Nat.le_refl _)).2 m
              cases ax with
              | none =>
                have hes : es = [] := by
                  rcases hrx with h0 | ⟨b, off, s, e, _⟩
                  · exact h0
                  · cases e
                subst hes
                have hrun := run_append_nil (P := P) w t1 ty et i zv ht hi hiz ⟨by2, oy, none⟩ fs.length cy news hnl' hnews hmpos (by omega) (by
                  rw [hib]; have := hbytes; rw [List.length_nil, Nat.zero_add] at this; omega)
                have hge := grownCap_ge w fs.length 0 et
                have hcm := grownCap_le_maxLen w fs.length 0 et (by omega)
                simp only [List.length_nil, Nat.zero_add, List.nil_append] at hkn ⊢
                simp only [Sem.run_bind, hrun, Result.andThen_ok, Sem.run_pure, UponA]
                obtain ⟨hsim, hle⟩ := hs.grow_new (k := H.next) (n := fs.length) (et := et) (s := sy) (cap := grownCap w fs.length 0 et) (cs := news)
                  (c := news.toArray ++ Builtin.zeroCells zv.cells (grownCap w fs.length 0 et - fs.length)) (w1 := w.drew) rfl hs.below.drew hsz hnl
                  (fun j v hj => by
                    have : j < news.length := (List.getElem?_eq_some_iff.1 hj).1
                    rw [Array.getElem?_append_left (by simpa using this)]; simpa using hj)
                  hnone (by
                    simp only [Array.size_append, List.size_toArray, size_zeroCells, hzs, hzl, hnl, ← Nat.add_mul]
                    congr 1; omega) hge hcm (fun m _ => (hs.fresh H.next (Nat.le_refl _)).2 m) (H' := H.push (.tip fs.length et))
                  (by show H.next + 1 = _; omega) (fun i => by
                    rw [AHeap.get_push]
                    by_cases e : H.next = i
                    · subst e; simp
                    · rw [if_neg e, if_neg (Ne.symm e)])
                refine ⟨_, ⟨hle, fun b o hb => ?_⟩, hsim, ?_⟩
                · simp only [St.commit]
                  rw [if_neg (by rintro ⟨rfl, _⟩; exact hs.notNew hb)]
                · simp only [Rep]
                  refine ⟨_, _, rfl, hge, ⟨w.heap.size, by simp [St.commit], rfl⟩, .inr ⟨w.heap.size, 0, sy, rfl, hnre _ _ _ hle fun j v hj => St.commit_get hj⟩⟩
              | some ad =>
                obtain ⟨olds, hol, holds, hore, hone'⟩ : ∃ olds : List Value, olds.length = es.length * sy ∧ (∀ (j : Nat) (u : Value), olds[j]? = some u → w.cell? (ad.add j) = some u) ∧
                    (∀ σ' b' off', σ.le σ' → (∀ (j : Nat) (v : Value), olds[j]? = some v → σ'.cells b' (off' + j) = some v) → RepRow σ' b' sy off' es) ∧ ∀ u ∈ olds, u.oneCell' = true := by
                  by_cases hes : es = []
                  · subst hes
                    exact ⟨[], by simp, by simp, fun _ _ _ _ _ => by simp [RepRow], by simp⟩
                  · obtain ⟨b2, o2, s2, e2, row⟩ := hrx.resolve_left hes
                    cases e2
                    have := row.stride hes hw1
                    subst this
                    obtain ⟨olds, hol, hoc, hore⟩ := row.flat
                    exact ⟨olds, hol, fun j u hj => by rw [Addr.add_mk]; exact hs.cells _ _ _ (hoc j u hj), hore, fun u hu => by
                      obtain ⟨j, hj⟩ := List.getElem?_of_mem hu
                      exact hs.one _ _ _ (hoc j u hj)⟩
                have hrun := run_append_grow (P := P) w t1 ty et i zv ht hi hiz ad es.length es.length olds (by rw [hol, his]) holds ⟨by2, oy, none⟩ fs.length cy news hnl' hnews (by omega) (by omega)
                  (growslice_fits (by omega) (by rw [hib]; exact hbytes))
                have hge := grownCap_ge w (es.length + fs.length) es.length et
                have hcm := grownCap_le_maxLen w (es.length + fs.length) es.length et hm63
                simp only [Sem.run_bind, hrun, Result.andThen_ok, Sem.run_pure, UponA]
                obtain ⟨hsim, hle⟩ := hs.grow_new (k := H.next) (n := es.length + fs.length) (et := et) (s := sy) (cap := grownCap w (es.length + fs.length) es.length et) (cs := olds ++ news)
                  (c := olds.toArray ++ news.toArray ++ Builtin.zeroCells zv.cells (grownCap w (es.length + fs.length) es.length et - (es.length + fs.length))) (w1 := w.drew) rfl hs.below.drew hsz
                  (by rw [List.length_append, hol, hnl, ← Nat.add_mul])
                  (fun j v hj => by
                    have : j < (olds ++ news).length := (List.getElem?_eq_some_iff.1 hj).1
                    rw [Array.getElem?_append_left (by simpa using this)]; simpa using hj)
                  (fun u hu => by
                    rcases List.mem_append.1 hu with hu | hu
                    · exact hone' u hu
                    · exact hnone u hu) (by
                    simp only [Array.size_append, List.size_toArray, size_zeroCells, hzs, hzl, hnl, hol, ← Nat.add_mul]
                    congr 1; omega) hge hcm hkn (H' := H.push (.tip (es.length + fs.length) et))
                  (by show H.next + 1 = _; omega) (fun i => by
                    rw [AHeap.get_push]
                    by_cases e : H.next = i
                    · subst e; simp
                    · rw [if_neg e, if_neg (Ne.symm e)])
                refine ⟨_, ⟨hle, fun b o hb => ?_⟩, hsim, ?_⟩
                · simp only [St.commit]
                  rw [if_neg (by rintro ⟨rfl, _⟩; exact hs.notNew hb)]
                · simp only [Rep]
                  refine ⟨_, _, by rw [List.length_append], by rw [List.length_append]; exact hge, ⟨w.heap.size, by simp [St.commit], rfl⟩, .inr ⟨w.heap.size, 0, sy, rfl, ?_⟩⟩
                  refine RepRow.append (hore _ _ _ hle fun j v hj => ?_) (hnre _ _ _ hle fun j v hj => ?_)
                  · exact St.commit_get (by rw [List.getElem?_append_left (List.getElem?_eq_some_iff.1 hj).1]; exact hj)
                  · rw [Nat.zero_add, show es.length * sy + j = 0 + (olds.length + j) from by rw [hol]; omega]
                    exact St.commit_get (by rw [List.getElem?_append_right (by omega)]; simpa using hj)
            | nil =>
              simp only at h
              split at h
              · rename_i he0
                simp only [List.length_eq_zero_iff, hm0, if_false, Option.some.injEq, Prod.mk.injEq] at h
                obtain ⟨rfl, rfl⟩ := h
                obtain ⟨rfl, _, hcx⟩ := hox
                subst hcx
                rw [he0]
                have hrun := run_append_nil (P := P) w t1 ty et i zv ht hi hiz ⟨by2, oy, none⟩ fs.length cy news hnl' hnews hmpos (by omega) (by
                  rw [hib]; have := hbytes; rw [he0, Nat.zero_add] at this; omega)
                have hge := grownCap_ge w fs.length 0 et
                have hcm := grownCap_le_maxLen w fs.length 0 et (by omega)
                simp only [Sem.run_bind, hrun, Result.andThen_ok, Sem.run_pure, UponA]
                obtain ⟨hsim, hle⟩ := hs.grow_new (k := H.next) (n := fs.length) (et := et) (s := sy) (cap := grownCap w fs.length 0 et) (cs := news)
                  (c := news.toArray ++ Builtin.zeroCells zv.cells (grownCap w fs.length 0 et - fs.length)) (w1 := w.drew) rfl hs.below.drew hsz hnl
                  (fun j v hj => by
                    have : j < news.length := (List.getElem?_eq_some_iff.1 hj).1
                    rw [Array.getElem?_append_left (by simpa using this)]; simpa using hj)
                  hnone (by
                    simp only [Array.size_append, List.size_toArray, size_zeroCells, hzs, hzl, hnl, ← Nat.add_mul]
                    congr 1; omega) hge hcm (fun m _ => (hs.fresh H.next (Nat.le_refl _)).2 m) (H' := H.push (.tip fs.length et))
                  (by show H.next + 1 = _; omega) (fun i => by
                    rw [AHeap.get_push]
                    by_cases e : H.next = i
                    · subst e; simp
                    · rw [if_neg e, if_neg (Ne.symm e)])
                refine ⟨_, ⟨hle, fun b o hb => ?_⟩, hsim, ?_⟩
                · simp only [St.commit]
                  rw [if_neg (by rintro ⟨rfl, _⟩; exact hs.notNew hb)]
                · simp only [Rep]
                  refine ⟨_, _, rfl, hge, ⟨w.heap.size, by simp [St.commit], rfl⟩, .inr ⟨w.heap.size, 0, sy, rfl, hnre _ _ _ hle fun j v hj => St.commit_get hj⟩⟩
              · cases h
            | own k =>
              simp only at h
              split at h
              · rename_i n et' hk
                split at h
                · rename_i hne
                  obtain ⟨rfl, rfl⟩ := hne
                  simp only [Option.some.injEq, Prod.mk.injEq] at h
                  obtain ⟨rfl, rfl⟩ := h
                  obtain ⟨b, cap, c, s', h1, hB, h3, h4, h5, h6, h7, h8, h9⟩ := hs.obj k _ hk
                  rw [hsz] at h4
                  cases h4
                  obtain ⟨b', hb', rfl⟩ := hox
                  rw [h1] at hb'
                  obtain ⟨rfl, rfl⟩ : b = b' ∧ cap = cx := by simpa using hb'
                  have rowx : RepRow σ b sy 0 es := by
                    rcases hrx with rfl | ⟨b2, o2, s2, e2, row⟩
                    · simp [RepRow]
                    · cases e2
                      by_cases hes : es = []
                      · subst hes; simp [RepRow]
                      · have := row.stride hes hw1
                        subst this
                        exact row
                  by_cases hroom : es.length + fs.length ≤ cap
                  · have hfit : es.length * i.size + news.length ≤ c.size := by rw [hnl', h5, ← his, ← Nat.add_mul]; exact Nat.mul_le_mul_right _ hroom
                    have hrun := run_append_room (P := P) w t1 ty et' i ht hi b es.length cap c h3 ⟨by2, oy, none⟩ fs.length cy news hnl' hnews hnone hroom hfit
                    obtain ⟨hsim, hext⟩ := hs.grow_room hk h1 h3 hsz hnl hnone hmpos hroom
                    simp only [Sem.run_bind, hrun, Result.andThen_ok, Sem.run_pure, UponA, his]
                    refine ⟨_, hext, hsim, ?_⟩
                    simp only [Rep]
                    refine ⟨_, cap, by rw [List.length_append], by rw [List.length_append]; exact hroom, ⟨b, by simp [St.commit], rfl⟩, .inr ⟨b, 0, sy, rfl, ?_⟩⟩
                    refine RepRow.append (rowx.mono hext.le) ?_
                    exact hnre _ _ _ hext.le fun j v hj => by
                      rw [Nat.zero_add]; exact St.commit_get hj
                  · obtain ⟨olds, hol, hoc, hore⟩ := rowx.flat
                    have holds : ∀ (j : Nat) (u : Value), olds[j]? = some u → w.cell? ((⟨b, 0, none⟩ : Addr).add j) = some u := fun j u hj => by
                      rw [Addr.add_mk]; exact hs.cells _ _ _ (hoc j u hj)
                    have hone' : ∀ u ∈ olds ++ news, u.oneCell' = true := fun u hu => by
                      rcases List.mem_append.1 hu with hu | hu
                      · obtain ⟨j, hj⟩ := List.getElem?_of_mem hu
                        exact hs.one _ _ _ (hoc j u hj)
                      · exact hnone u hu
                    have hrun := run_append_grow (P := P) w t1 ty et' i zv ht hi hiz ⟨b, 0, none⟩ es.length cap olds (by rw [hol, his]) holds ⟨by2, oy, none⟩ fs.length cy news hnl' hnews (by omega) (by omega)
                      (growslice_fits (by omega) (by rw [hib]; exact hbytes))
                    have hge := grownCap_ge w (es.length + fs.length) cap et'
                    have hcm := grownCap_le_maxLen w (es.length + fs.length) cap et' hm63
                    simp only [Sem.run_bind, hrun, Result.andThen_ok, Sem.run_pure, UponA]
                    have hkn : k < H.next := hs.keys k _ hk
                    obtain ⟨hsim, hle⟩ := hs.grow_new (k := k) (n := es.length + fs.length) (et := et') (s := sy) (cap := grownCap w (es.length + fs.length) cap et') (cs := olds ++ news)
                      (c := olds.toArray ++ news.toArray ++ Builtin.zeroCells zv.cells (grownCap w (es.length + fs.length) cap et' - (es.length + fs.length))) (w1 := w.drew) rfl hs.below.drew hsz
                      (by rw [List.length_append, hol, hnl, ← Nat.add_mul])
                      (fun j v hj => by
                        have : j < (olds ++ news).length := (List.getElem?_eq_some_iff.1 hj).1
                        rw [Array.getElem?_append_left (by simpa using this)]; simpa using hj)
                      hone' (by
                        simp only [Array.size_append, List.size_toArray, size_zeroCells, hzs, hzl, hnl, hol, ← Nat.add_mul]
                        congr 1; omega) hge hcm (fun m hm => h9 m (by omega)) (H' := H.set k (.tip (es.length + fs.length) et'))
                      (by show H.next = _; omega) (fun i => by
                        rw [AHeap.get_set]
                        by_cases e : k = i
                        · subst e; simp [hk]
                        · rw [if_neg e, if_neg (Ne.symm e)])
                    refine ⟨_, ⟨hle, fun b o hb => ?_⟩, hsim, ?_⟩
                    · simp only [St.commit]
                      rw [if_neg (by rintro ⟨rfl, _⟩; exact hs.notNew hb)]
                    · simp only [Rep]
                      refine ⟨_, _, by rw [List.length_append], by rw [List.length_append]; exact hge, ⟨w.heap.size, by simp [St.commit], rfl⟩, .inr ⟨w.heap.size, 0, sy, rfl, ?_⟩⟩
                      refine RepRow.append (hore _ _ _ hle fun j v hj => ?_) (hnre _ _ _ hle fun j v hj => ?_)
                      · exact St.commit_get (by rw [List.getElem?_append_left (List.getElem?_eq_some_iff.1 hj).1]; exact hj)
                      · rw [Nat.zero_add, show es.length * sy + j = 0 + (olds.length + j) from by rw [hol]; omega]
                        exact St.commit_get (by rw [List.getElem?_append_right (by omega)]; simpa using hj)
                · cases h
              · cases h
        · cases h

/-- The cells of a row whose elements are all so wide. -/
theorem RepRow.cellsL {b s : Nat} : ∀ {off : Nat} {es : List AV}, RepRow σ b s off es → allWidth s es = true → ∃ us : List Value, RepL σ (es.flatMap AV.cells) us ∧ us.length = es.length * s ∧ ∀ j v, us[j]? = some v → σ.cells b (off + j) = some v
  | _, [], _, _ => ⟨[], by simp [RepL], by simp, by simp⟩
  | off, e :: es, h, hw => by
    simp only [RepRow] at h
    simp only [allWidth, Bool.and_eq_true, beq_iff_eq] at hw
    obtain ⟨⟨u, r, hs, hc⟩, q⟩ := h
    obtain ⟨us, r2, hl, hc2⟩ := RepRow.cellsL q hw.2
    refine ⟨u.cells.toList ++ us, ?_, by simp [hl, hs, Nat.add_mul, Nat.add_comm], ?_⟩
    · simp only [List.flatMap_cons]
      exact (r.cells (by rw [hw.1]; simp)).append r2
    · intro j v hj
      by_cases hjs : j < s
      · rw [List.getElem?_append_left (by simpa [hs] using hjs)] at hj
        exact hc j v (by simpa using hj)
      · rw [List.getElem?_append_right (by simp [hs]; omega)] at hj
        have := hc2 _ v hj
        simp only [Array.length_toList, hs] at this
        rwa [show off + s + (j - s) = off + j from by omega] at this

theorem allWidth_head {s : Nat} {es : List AV} (h : allWidth s es = true) : ∀ e, es.head? = some e → e.width = some s := by
  intro e he
  cases es with
  | nil => simp at he
  | cons x es =>
    simp only [allWidth, Bool.and_eq_true, beq_iff_eq] at h
    simp at he; subst he; exact h.1

theorem vec_cells (hs : Sim P B W0 H σ w) {o : Own} {es : List AV} {u : Value} {s : Nat} (r : Rep σ (.vec o es) u) (hw : allWidth s es = true) : ∃ a cap, ∃ us : List Value, u = .slice a es.length cap ∧ es.length ≤ cap ∧ OwnOk σ o a es.length cap ∧ RepL σ (es.flatMap AV.cells) us ∧ us.length = es.length * s ∧
    (∀ ad, a = some ad → ∀ j v, us[j]? = some v → w.cell? (ad.add j) = some v) ∧ (a = none → es = []) ∧ ∀ v ∈ us, v.oneCell' = true := by
  simp only [Rep] at r
  obtain ⟨a, cap, rfl, h1, h2, h3⟩ := r
  by_cases hes : es = []
  · subst hes
    exact ⟨a, cap, [], rfl, h1, h2, by simp [RepL], by simp, by simp, fun _ => rfl, by simp⟩
  · obtain ⟨b, off, s', rfl, row⟩ := h3.resolve_left hes
    have hss : s' = s := row.stride hes (allWidth_head hw)
    subst hss
    obtain ⟨us, r2, hl, hc⟩ := row.cellsL hw
    refine ⟨_, cap, us, rfl, h1, h2, r2, hl, fun ad e j v hj => ?_, by simp, fun v hv => ?_⟩
    · cases e
      rw [Addr.add_mk]
      exact hs.cells _ _ _ (hc j v hj)
    · obtain ⟨j, hj⟩ := List.getElem?_of_mem hv
      exact hs.one _ _ _ (hc j v hj)

theorem src_ok (hs : Sim P B W0 H σ w) {y : AV} {u : Value} {s m : Nat} {src : List AV} (r : Rep σ y u) (h : srcA P H s y = some (m, src)) : ∃ a cap, ∃ us : List Value, u = .slice a m cap ∧ RepL σ src us ∧ us.length = m * s ∧
    (∀ ad, a = some ad → ∀ j v, us[j]? = some v → w.cell? (ad.add j) = some v) ∧ (a = none → m = 0) ∧ ∀ v ∈ us, v.oneCell' = true := by
  cases y with
  | vec o fs =>
    simp only [srcA] at h
    split at h
    · rename_i hw
      simp only [Option.some.injEq, Prod.mk.injEq] at h
      obtain ⟨rfl, rfl⟩ := h
      obtain ⟨a, cap, us, h1, _, _, h4, h5, h6, h7, h8⟩ := vec_cells hs r hw
      exact ⟨a, cap, us, h1, h4, h5, h6, fun e => by rw [h7 e]; rfl, h8⟩
    · cases h
  | sl id s' off len =>
    simp only [srcA] at h
    split at h
    · rename_i n et s2 cs hg
      split at h
      · rename_i hc
        obtain ⟨rfl, hle, rfl⟩ := hc
        simp only [Option.some.injEq, Prod.mk.injEq] at h
        obtain ⟨rfl, rfl⟩ := h
        obtain ⟨b, cap, c, h1, h1', h2, h3, h4, h5, h6, h7, h8, h9, h10, h11, h12⟩ := hs.obj id _ hg
        simp only [Rep] at r
        obtain ⟨b', cap', e1, e2, rfl, e3⟩ := r
        rw [h1] at e1
        cases e1
        rw [h1'] at e2
        cases e2
        have hmul : off * s2 + len * s2 ≤ n * s2 := by rw [← Nat.add_mul]; exact Nat.mul_le_mul_right _ hle
        have hns : n * s2 ≤ c.size := by rw [h6]; exact Nat.mul_le_mul_right _ h7
        refine ⟨some ⟨b, off * s2, none⟩, cap - off, ((c.toList.take (n * s2)).drop (off * s2)).take (len * s2), rfl, (h10.drop _).take _, ?_, ?_, by simp, fun v hv => h11 v (List.mem_of_mem_drop (List.mem_of_mem_take hv))⟩
        · simp only [List.length_take, List.length_drop, Array.length_toList]
          omega
        · rintro ad e j v hj
          cases e
          have hjl : j < len * s2 := by have := (List.getElem?_eq_some_iff.1 hj).1; simp at this; omega
          rw [List.getElem?_take_of_lt hjl, List.getElem?_drop, List.getElem?_take_of_lt (by omega), Array.getElem?_toList] at hj
          rw [Addr.add_mk, cell_of_row h3]
          exact hj
      · cases h
    · cases h
  | val v0 =>
    simp only [srcA] at h
    split at h
    · rename_i hes
      obtain ⟨a0, c0, rfl⟩ := isES_spec hes
      simp only [Option.some.injEq, Prod.mk.injEq] at h
      obtain ⟨rfl, rfl⟩ := h
      simp only [Rep] at r
      subst r
      exact ⟨some a0, c0, [], rfl, by simp [RepL], by simp, by simp, by simp, by simp⟩
    · cases h
  | _ => simp [srcA] at h

/-- A new row, with whatever behind its elements. -/
theorem Sim.row_new (hs : Sim P B W0 H σ w) {n s cap : Nat} {et : TypeId} {cs : List AV} {us : List Value} {zs : Array Value} {w1 : World} (hsz : szQ P et = some s) (hs0 : s ≠ 0) (hr : RepL σ cs us) (hl : us.length = n * s) (hone : ∀ v ∈ us, v.oneCell' = true)
    (hzs : us.length + zs.size = cap * s) (hn : n ≤ cap) (hcm : cap ≤ maxLen) (hw1 : w1.heap = w.heap) (hbel : BelowS B W0 w1) :
    Sim P B W0 (H.push (.row n et s cs)) (σ.bindR H.next w.heap.size cap) (w1.alloc (.cells (us.toArray ++ zs) et)) ∧ Ext B σ (σ.bindR H.next w.heap.size cap) := by
  refine hs.pushNew (cap := cap) hw1 hbel (by simp [blk, St.bindR]) fun hnew => ⟨w.heap.size, cap, _, by simp [St.bindR], by simp [St.bindR], hs.notNew, hnew, hsz, hs0, by simp [hzs], hn, hcm, by rw [← hr.length, hl], ?_, ?_, fun o => hs.cells_new o⟩
  · have : ((us.toArray ++ zs).toList).take (n * s) = us := by simp [← hl]
    rw [this]
    exact hr.mono (hs.bindR_le _ _)
  · have : ((us.toArray ++ zs).toList).take (n * s) = us := by simp [← hl]
    rw [this]
    exact hone

/-- There is room in a row. -/
theorem run_append_room_row (t tx ty e : TypeId) (i : TypeInfo) (ht : P.underlying t = some (.slice e)) (hi : P.info? e = some i) (g sLen sCap : Nat) (cur : Array Value) (hg : w.heap[g]? = some (.cells cur e (0, 0)))
    (x : Value) (m : Nat) (news : List Value) (hs : Src P i.size tx x m news w) (hroom : sLen + m ≤ sCap) (hfit : sLen * i.size + news.length ≤ cur.size) :
    (Builtin.append_ #[t, tx] ty #[.slice (some ⟨g, 0, none⟩) sLen sCap, x]).run P w =
      .ok (.slice (some ⟨g, 0, none⟩) (sLen + m) sCap) (w.setRow g (cur.toList.take (sLen * i.size) ++ news ++ cur.toList.drop (sLen * i.size + news.length)).toArray) := by
  have hst := run_storeCells_at P g (sLen * i.size) e news 0 cur w hg (by simpa using hfit) hs.one
  simp only [Nat.add_zero] at hst
  rcases hs.kind with ⟨e', hk⟩ | hk <;> simp [Builtin.append_, run_underlying ht, run_underlying hk, sizeOf, typeInfo, hi, hs.len, hroom, hs.cells, Addr.add_lit, hst]

theorem appendSrc_sound (hs : Sim P B W0 H σ w) {t1 t2 ty : TypeId} {x v : AV} {ux uy : Value} {H' : AHeap} (rx : Rep σ x ux) {m : Nat} {src : List AV} {news : List Value} {et s by_ : Nat} {z : List AV}
    (hsrc : Src P s t2 uy m news w) (rnews : RepL σ src news)
    (het : elemQ P t1 = some et) (hsz : szQ P et = some s) (hby : byQ P et = some by_) (hz : zeroQ P et = some z) (hs0 : s ≠ 0) (hzl : z.length = s) (h : appendSrc et s by_ x m src H = some (v, H')) :
    UponA P ((do pure (Next.value (← Builtin.append_ #[t1, t2] ty #[ux, uy])) : Sem Next).run P w) (Goes P B W0 σ v H') := by
  have ht := elemQ_spec het
  obtain ⟨i, zv, hi, his, hib, hiz, hzs⟩ := info_of hsz hby hz
  unfold appendSrc at h
  have hnl := hsrc.newsLen
  have hnone := hsrc.one
  have hsrc' : Src P i.size t2 uy m news w := by rw [his]; exact hsrc
  cases x with
  | vec o es =>
    simp only at h
    split at h
    · rename_i hm0
      subst hm0
      cases h
      have hn0 : news = [] := by apply List.eq_nil_of_length_eq_zero; rw [hnl]; simp
      subst hn0
      have rx' := rx
      simp only [Rep] at rx
      obtain ⟨ax, cx, rfl, hlx, _⟩ := rx
      have hrun := run_append_nothing (P := P) w t1 t2 ty et i ht hi ax es.length cx hlx uy hsrc'
      simp only [Sem.run_bind, hrun, Result.andThen_ok, Sem.run_pure, UponA]
      exact ⟨σ, Ext.refl _ _, hs, rx'⟩
    · rename_i hm0
      have hmpos : 0 < m := Nat.pos_of_ne_zero hm0
      have go : ∀ {o : Own}, Rep σ (.vec o es) ux → (o = .nil ∨ o = .full) → (if allWidth s es = true ∧ (es.length + m) * by_ ≤ 140737488355328 ∧ es.length + m ≤ 9223372036854775807 then some (AV.sl H.next s 0 (es.length + m), H.push (.row (es.length + m) et s (es.flatMap AV.cells ++ src))) else none) = some (v, H') →
          UponA P ((do pure (Next.value (← Builtin.append_ #[t1, t2] ty #[ux, uy])) : Sem Next).run P w) (Goes P B W0 σ v H') := by
        intro o rx ho h
        split at h
        · rename_i hc
          obtain ⟨hw, hbytes, hlen⟩ := hc
          cases h
          obtain ⟨ax, cx, olds, rfl, hlx, hox, rolds, hol, holds, hax, hone'⟩ := vec_cells hs rx hw
          have hcx : cx = es.length := by
            rcases ho with rfl | rfl
            · simp only [OwnOk] at hox; omega
            · exact hox
          subst hcx
          have hm63 : es.length + m ≤ maxLen := by unfold maxLen; omega
          have hold : (Builtin.firstCells i.size es.length (.slice ax es.length es.length)).run P w.drew = .ok olds.toArray w.drew := by
            cases ax with
            | none =>
              have hes := hax rfl
              subst hes
              have hol0 : olds = [] := by apply List.eq_nil_of_length_eq_zero; rw [hol]; simp
              subst hol0
              exact run_firstCells_none _ _ _ _ _
            | some adx => exact run_firstCells_some _ _ _ _ _ _ _ (by rw [hol, his]) (by simpa using holds adx rfl)
          have hrun := run_append_grow_src (P := P) w t1 t2 ty et i zv ht hi hiz ax es.length es.length olds hold uy m news hsrc' (by omega) (by omega)
            (growslice_fits (by omega) (by rw [hib]; exact hbytes))
          have hge := grownCap_ge w (es.length + m) es.length et
          have hcm := grownCap_le_maxLen w (es.length + m) es.length et hm63
          obtain ⟨q1, q2⟩ := hs.row_new (n := es.length + m) (cap := grownCap w (es.length + m) es.length et) (us := olds ++ news) (cs := es.flatMap AV.cells ++ src) (zs := Builtin.zeroCells zv.cells (grownCap w (es.length + m) es.length et - (es.length + m))) (w1 := w.drew) hsz hs0 (rolds.append rnews)
            (by rw [List.length_append, hol, hnl, ← Nat.add_mul]) (fun v hv => by
              rcases List.mem_append.1 hv with hv | hv
              · exact hone' v hv
              · exact hnone v hv) (by
              rw [List.length_append, hol, hnl, size_zeroCells, hzs, hzl, ← Nat.add_mul, ← Nat.add_mul]; congr 1; omega) hge hcm rfl hs.below.drew
          simp only [Sem.run_bind, hrun, Result.andThen_ok, Sem.run_pure, UponA]
          refine ⟨_, q2, q1, ?_⟩
          simp only [Rep]
          exact ⟨w.heap.size, grownCap w (es.length + m) es.length et, by simp [St.bindR], by simp [St.bindR], by simp, by omega⟩
        · cases h
      cases o with
      | ro => simp at h
      | own k => simp at h
      | nil => exact go rx (.inl rfl) h
      | full => exact go rx (.inr rfl) h
  | sl id s' off len =>
    simp only at h
    have rx' := rx
    simp only [Rep] at rx
    obtain ⟨b, cap, hloc, hown, rfl, hcap⟩ := rx
    split at h
    · rename_i hm0
      subst hm0
      cases h
      have hn0 : news = [] := by apply List.eq_nil_of_length_eq_zero; rw [hnl]; simp
      subst hn0
      have hrun := run_append_nothing (P := P) w t1 t2 ty et i ht hi (some ⟨b, off * s', none⟩) len (cap - off) (by omega) uy hsrc'
      simp only [Sem.run_bind, hrun, Result.andThen_ok, Sem.run_pure, UponA]
      exact ⟨σ, Ext.refl _ _, hs, rx'⟩
    · rename_i hm0
      have hmpos : 0 < m := Nat.pos_of_ne_zero hm0
      split at h
      · rename_i n et' s2 cs hg
        split at h
        · rename_i hc
          obtain ⟨rfl, rfl, rfl, rfl, hln, hbytes, hlen⟩ := hc
          cases h
          obtain ⟨b', cap', c, h1, h1', h2, h3, h4, h5, h6, h7, h8, h9, h10, h11, h12⟩ := hs.obj id _ hg
          rw [hloc] at h1
          cases h1
          rw [hown] at h1'
          cases h1'
          have hm63 : len + m ≤ maxLen := by unfold maxLen; omega
          have hln' : len * s2 ≤ n * s2 := Nat.mul_le_mul_right _ hln
          have hns : n * s2 ≤ c.size := by rw [h6]; exact Nat.mul_le_mul_right _ h7
          have holl : (c.toList.take (len * s2)).length = len * s2 := by simp; omega
          have hcut : (c.toList.take (n * s2)).take (len * s2) = c.toList.take (len * s2) := by rw [List.take_take]; congr 1; omega
          have r10 : RepL σ (cs.take (len * s2)) (c.toList.take (len * s2)) := by rw [← hcut]; exact h10.take _
          have o11 : ∀ v ∈ c.toList.take (len * s2), v.oneCell' = true := fun v hv => h11 v (by rw [← hcut] at hv; exact List.mem_of_mem_take hv)
          have c9 : (cs.take (len * s2)).length = len * s2 := by rw [← r10.length, holl]
          simp only [Nat.zero_mul, Nat.sub_zero]
          by_cases hroom : len + m ≤ cap
          · have hfit : len * i.size + news.length ≤ c.size := by rw [hnl, h6, his, ← Nat.add_mul]; exact Nat.mul_le_mul_right _ hroom
            have hrun := run_append_room_row (P := P) (w := w) t1 t2 ty et' i ht hi b len cap c h3 uy m news hsrc' hroom hfit
            simp only [Sem.run_bind, hrun, Result.andThen_ok, Sem.run_pure, UponA, his]
            have hdel := hs.del id
            have hnew := setRow_heap w b c (c.toList.take (len * s2) ++ news ++ c.toList.drop (len * s2 + news.length)).toArray et' (0, 0) h3
            have htk : ((c.toList.take (len * s2) ++ news ++ c.toList.drop (len * s2 + news.length)).toArray.toList).take ((len + m) * s2) = c.toList.take (len * s2) ++ news := by
              have : (len + m) * s2 = (c.toList.take (len * s2) ++ news).length := by rw [List.length_append, holl, hnl, Nat.add_mul]
              rw [this]
              exact List.take_left' rfl
            have hle := hdel.bindR_le b cap
            obtain ⟨q1, q2⟩ := hdel.pushAt (b := b) (cap := cap) (x := .row (len + m) et' s2 (cs.take (len * s2) ++ src)) (w' := w.setRow b (c.toList.take (len * s2) ++ news ++ c.toList.drop (len * s2 + news.length)).toArray) h2 (fun k hk _ => setRow_other w b k _ hk)
              (hs.below.trans ⟨rfl, rfl, rfl, by simp, fun k hk => setRow_other w b k _ (by rintro rfl; exact h2 hk)⟩)
              (fun k y hy he => by
                rw [AHeap.get_del] at hy
                split at hy
                · cases hy
                · rename_i hne
                  exact hne (hs.inj id k _ y hg hy (by rw [he]; simp [blk, hloc])))
              h12 (by simp [blk, St.bindR])
              ⟨b, cap, _, by simp [St.bindR], by simp [St.bindR], h2, hnew, h4, h5, by
                simp only [List.size_toArray, List.length_append, List.length_take, List.length_drop, Array.length_toList]; rw [his] at hfit; omega, hroom, h8, by
                rw [List.length_append, c9, rnews.length.symm, hnl, Nat.add_mul], by
                rw [htk]; exact (r10.append rnews).mono hle, by
                rw [htk]; intro v hv
                rcases List.mem_append.1 hv with hv | hv
                · exact o11 v hv
                · exact hnone v hv, h12⟩
            refine ⟨_, q2, q1, ?_⟩
            simp only [Rep]
            refine ⟨b, cap, ?_, ?_, by simp, by omega⟩
            · show (σ.bindR H.next b cap).loc H.next = _
              simp [St.bindR]
            · show (σ.bindR H.next b cap).own H.next 0 = _
              simp [St.bindR]
          · have hold : (Builtin.firstCells i.size len (.slice (some ⟨b, 0, none⟩) len cap)).run P w.drew = .ok (c.toList.take (len * s2)).toArray w.drew :=
              run_firstCells_some _ _ _ _ _ _ _ (by rw [holl, his]) (fun j u hj => by
                have hjl : j < len * s2 := by have := (List.getElem?_eq_some_iff.1 hj).1; omega
                rw [List.getElem?_take_of_lt hjl, Array.getElem?_toList] at hj
                rw [Addr.add_mk, Nat.zero_add]
                exact (cell_of_row (w := w) h3 j).trans hj)
            have hrun := run_append_grow_src (P := P) w t1 t2 ty et' i zv ht hi hiz (some ⟨b, 0, none⟩) len cap (c.toList.take (len * s2)) hold uy m news hsrc' (by omega) (by omega)
              (growslice_fits (by omega) (by rw [hib]; exact hbytes))
            have hge := grownCap_ge w (len + m) cap et'
            have hcm := grownCap_le_maxLen w (len + m) cap et' hm63
            simp only [Sem.run_bind, hrun, Result.andThen_ok, Sem.run_pure, UponA]
            obtain ⟨q1, q2⟩ := (hs.del id).row_new (n := len + m) (cap := grownCap w (len + m) cap et') (us := c.toList.take (len * s2) ++ news) (cs := cs.take (len * s2) ++ src) (zs := Builtin.zeroCells zv.cells (grownCap w (len + m) cap et' - (len + m))) (w1 := w.drew) h4 h5 (r10.append rnews)
              (by rw [List.length_append, holl, hnl, ← Nat.add_mul]) (fun v hv => by
                rcases List.mem_append.1 hv with hv | hv
                · exact o11 v hv
                · exact hnone v hv) (by
                rw [List.length_append, holl, hnl, size_zeroCells, hzs, hzl, ← Nat.add_mul, ← Nat.add_mul]; congr 1; omega) hge hcm rfl hs.below.drew
            refine ⟨_, q2, q1, ?_⟩
            simp only [Rep]
            refine ⟨w.heap.size, grownCap w (len + m) cap et', ?_, ?_, by simp, by omega⟩
            · show (σ.bindR H.next w.heap.size _).loc H.next = _
              simp [St.bindR]
            · show (σ.bindR H.next w.heap.size _).own H.next 0 = _
              simp [St.bindR]
        · cases h
      · cases h
  | _ => simp at h

theorem appendRow_sound (hs : Sim P B W0 H σ w) {t1 ty : TypeId} {x y v : AV} {ux uy : Value} {H' : AHeap} (rx : Rep σ x ux) (ry : Rep σ y uy) {et s by_ : Nat} {z : List AV}
    (het : elemQ P t1 = some et) (hsz : szQ P et = some s) (hby : byQ P et = some by_) (hz : zeroQ P et = some z) (hs0 : s ≠ 0) (hzl : z.length = s) (h : appendRow P et s by_ x y H = some (v, H')) :
    UponA P ((do pure (Next.value (← Builtin.append_ #[t1, t1] ty #[ux, uy])) : Sem Next).run P w) (Goes P B W0 σ v H') := by
  have ht := elemQ_spec het
  unfold appendRow at h
  split at h
  · cases h
  · rename_i m src hsrc
    obtain ⟨ay, cy, news, rfl, rnews, hnl, hnews, hay, hnone⟩ := src_ok hs ry hsrc
    refine appendSrc_sound hs rx (news := news) ?_ rnews het hsz hby hz hs0 hzl h
    cases ay with
    | none =>
      have hm0 := hay rfl
      subst hm0
      have hn0 : news = [] := by apply List.eq_nil_of_length_eq_zero; rw [hnl]; simp
      subst hn0
      exact Src.ofNil w ht cy
    | some ad => exact Src.ofSlice w ht ad m cy news hnl (hnews ad rfl) hnone

theorem bytesQ_spec {d : TypeId} (h : bytesQ P d = true) : ∃ et, elemQ P d = some et ∧ szQ P et = some 1 := by
  unfold bytesQ at h
  split at h
  · rename_i et het
    simp only [Bool.and_eq_true, beq_iff_eq] at h
    exact ⟨et, het, h.2⟩
  · cases h

theorem appendStr_sound (hs : Sim P B W0 H σ w) {t1 t2 ty : TypeId} {x v : AV} {l : List UInt8} {ux uy : Value} {H' : AHeap} (rx : Rep σ x ux) (ry : Rep σ (.str l) uy) {et s by_ : Nat} {z : List AV}
    (het : elemQ P t1 = some et) (hsz : szQ P et = some s) (hby : byQ P et = some by_) (hz : zeroQ P et = some z) (hs0 : s ≠ 0) (hzl : z.length = s) (h : appendStr P t1 t2 et s by_ x l H = some (v, H')) :
    UponA P ((do pure (Next.value (← Builtin.append_ #[t1, t2] ty #[ux, uy])) : Sem Next).run P w) (Goes P B W0 σ v H') := by
  unfold appendStr at h
  split at h
  · rename_i hc
    obtain ⟨_, hst, rfl⟩ := hc
    simp only [Rep] at ry
    subst ry
    have hS := Src.ofString (P := P) w (isStrQ_spec hst) ⟨l.toArray⟩
    have hb : byteCells ⟨l.toArray⟩ = l.map fun b => Value.int .u8 b.toNat := by simp [byteCells]
    have hz' : (⟨l.toArray⟩ : ByteArray).size = l.length := by simp [ByteArray.size]
    rw [hb, hz'] at hS
    exact appendSrc_sound hs rx hS (RepL.of_map _ _ l fun b _ => by simp [Rep]) het hsz hby hz hs0 hzl h
  · cases h

theorem append_sound (hs : Sim P B W0 H σ w) {mutT : TypeId → Bool} {t1 t2 ty : TypeId} {x y v : AV} {ux uy : Value} {H' : AHeap} (rx : Rep σ x ux) (ry : Rep σ y uy) (h : appendA mutT P t1 t2 x y H = some (v, H')) :
    UponA P ((do pure (Next.value (← Builtin.append_ #[t1, t2] ty #[ux, uy])) : Sem Next).run P w) (Goes P B W0 σ v H') := by
  unfold appendA at h
  split at h
  · rename_i et het
    split at h
    · rename_i s by_ z hsz hby hz
      split at h
      · rename_i l
        split at h
        · rename_i hc
          obtain ⟨hs0, hzl⟩ := hc
          exact appendStr_sound hs rx ry het hsz hby hz hs0 hzl h
        · cases h
      · rename_i hne
        clear hne
        split at h
        · rename_i hc
          obtain ⟨rfl, hs0, hzl⟩ := hc
          split at h
          · rename_i o es fs hp
            obtain ⟨o', hx, hy⟩ : ∃ o', x = .vec o es ∧ y = .vec o' fs := by
              unfold persist at hp
              split at hp
              · rename_i o1 es1 o2 fs1
                cases o1 <;> simp only at hp
                case ro => simp only [Option.some.injEq, Prod.mk.injEq] at hp; obtain ⟨rfl, rfl, rfl⟩ := hp; exact ⟨_, rfl, rfl⟩
                case own => simp only [Option.some.injEq, Prod.mk.injEq] at hp; obtain ⟨rfl, rfl, rfl⟩ := hp; exact ⟨_, rfl, rfl⟩
                all_goals
                  split at hp
                  · cases hp
                  · simp only [Option.some.injEq, Prod.mk.injEq] at hp; obtain ⟨rfl, rfl, rfl⟩ := hp; exact ⟨_, rfl, rfl⟩
              · cases hp
            subst hx hy
            exact appendVec_sound hs rx ry het hsz hby hz hs0 hzl h
          · exact appendRow_sound hs rx ry het hsz hby hz hs0 hzl h
        · cases h
    · cases h
  · cases h

end
end Go.Ab
