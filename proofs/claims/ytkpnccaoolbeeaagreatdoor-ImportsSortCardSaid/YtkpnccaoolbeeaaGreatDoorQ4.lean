/- ImportsSort: imports.Sorted on the machine. -/
import Derived.Test.YtkpnccaoolbeeaaGreatDoorQ3
namespace Go.Proofs.YtkpnccaoolbeeaaGreatDoor
set_option linter.unusedVariables false
set_option linter.unusedSimpArgs false
open Go Go.Ab

theorem pairs_used : ∀ l : List Im, pairsA (flat (used l)) = some (U l)
  | [] => rfl
  | (a, b, c) :: l => by
    have ih := pairs_used l
    cases c with
    | false => simpa [used, U] using ih
    | true =>
      have h1 : used ((a, b, true) :: l) = (a, b, true) :: used l := by simp [used]
      have h2 : U ((a, b, true) :: l) = (a, b) :: U l := by simp [U]
      rw [h1, h2, flat_cons]
      simp only [encI, List.cons_append, List.nil_append, pairsA, ih, bnd]
theorem used_len (l : List Im) : (used l).length = (U l).length := by simp [used, U]
theorem encP_flat : ∀ l : List Pr, l.flatMap encP = flat (l.map ofP)
  | [] => rfl
  | x :: l => by
    rw [List.map_cons, flat_cons, List.flatMap_cons, encP_flat l]
    rfl

theorem sort_c {l : List Im} {n m : Nat} {cs : List AV} {L : List (Nat × AObj)} (hk : 0 < m) (hnn : n = (used l).length) (hg : getL L 0 = some (.row l.length 26 3 cs)) (hle : n ≤ l.length) (hb : n ≤ 1099511627776) (hcs : cs.take (n * 3) = flat (used l)) :
    ∃ L' cs', run env2 12 [.sl 0 3 0 n, .fn (.func 13) [] []] ⟨m, L⟩ = some (.tup [], ⟨m, L'⟩) ∧ getL L' 0 = some (.row l.length 26 3 cs') ∧ cs'.take (n * 3) = flat ((srt (U l)).map ofP) := by
  rw [run_ext rfl]
  have e : env2.ext = orX awakeX (sortX 12 13 srt) := rfl
  rw [e]
  have hUn : (U l).length = n := by rw [hnn, used_len]
  by_cases h0 : n = 0
  · refine ⟨L, cs, ?_, hg, ?_⟩
    · simp [orX, awakeX, sortX, h0]
    · have hU : U l = [] := List.length_eq_zero_iff.1 (by omega)
      rw [h0, hU]
      simp [srt, flat]
  · have hget : AHeap.get ⟨m, L⟩ 0 = some (.row l.length 26 3 cs) := by simp [AHeap.get, hk, hg]
    refine ⟨setL L 0 (.row l.length 26 3 (overlay cs 0 ((srt (U l)).flatMap encP))), overlay cs 0 ((srt (U l)).flatMap encP), ?_, ?_, ?_⟩
    · simp only [orX, awakeX, Nat.reduceEqDiff, false_and, if_false, sortX, if_true, h0, and_self, hget, hle, hb, hcs, pairs_used, bnd, AHeap.set]
    · rw [getL_setL, if_pos rfl, hg]; rfl
    · have h1 : ((srt (U l)).flatMap encP).length = n * 3 := by rw [encP_len, srt_len, hUn]
      rw [← encP_flat]
      simp only [overlay, List.take_zero, List.nil_append]
      rw [← h1, List.take_left]

theorem chunk_flat : ∀ (S : List Im) (cs : List AV), cs.take (S.length * 3) = flat S → chunkA true 3 S.length cs = V S
  | [], _, _ => rfl
  | x :: S, cs, h => by
    have h3 : cs.take 3 = encI x := by
      have := congrArg (List.take 3) h
      rw [List.take_take, flat_cons, List.take_append_of_le_length (by simp [encI])] at this
      rw [Nat.min_eq_left (by simp only [List.length_cons]; omega)] at this
      simpa [encI] using this
    have h4 : (cs.drop 3).take (S.length * 3) = flat S := by
      have := congrArg (List.drop 3) h
      rw [List.drop_take, flat_cons] at this
      have e1 : (x :: S).length * 3 - 3 = S.length * 3 := by simp only [List.length_cons]; omega
      rw [e1] at this
      rw [this]
      rfl
    show AV.agg (cs.take 3) :: chunkA true 3 S.length (cs.drop 3) = .agg (encI x) :: V S
    rw [h3, chunk_flat S _ h4]
theorem frz_V (P : Program) (H : AHeap) (n : Nat) : ∀ S : List Im, mapO (frz P H (n + 2)) (V S) = some (V S)
  | [] => rfl
  | x :: S => by
    have h1 : frz P H (n + 2) (.agg (encI x)) = some (.agg (encI x)) := by simp [frz, mapO, encI, bnd]
    show mapO (frz P H (n + 2)) (.agg (encI x) :: V S) = some (.agg (encI x) :: V S)
    simp only [mapO, h1, frz_V P H n S, bnd]

theorem frz_sl {P : Program} {H : AHeap} {n id len m et : Nat} {cs ds : List AV} (hg : H.get id = some (.row m et 3 cs)) (ha : aggQ P et = some true) (hle : len ≤ m) (hm : mapO (frz P H n) (chunkA true 3 len cs) = some ds) :
    frz P H (n + 1) (.sl id 3 0 len) = some (.vec .ro ds) := by
  simp [frz, hg, ha, hle, hm, bnd]

theorem sorted_c {l : List Im} (hl : l ≠ []) (hn : l.length ≤ 100) : closedCall Tryz.prog (run env2) 5 [.vec .ro (V l)] = some (.vec .ro (V ((srt (U l)).map ofP))) := by
  have h1 := clone_c hl hn 0 []
  obtain ⟨r, hr, n, m, cs, L, rfl, hk, hnn, hg, hle, hcs⟩ := delete_c (l := l) (k := 0) (m := 1) (L := [(0, .row l.length 26 3 (flat l))]) (by omega) rfl hn
  have hlen : ∃ cs2 L2, run env2 12 [.sl 0 3 0 n, .fn (.func 13) [] []] ⟨m, L⟩ = some (.tup [], ⟨m, L2⟩) ∧ getL L2 0 = some (.row l.length 26 3 cs2) ∧ cs2.take (n * 3) = flat ((srt (U l)).map ofP) := by
    obtain ⟨L', cs', q1, q2, q3⟩ := sort_c (cs := cs) hk hnn hg hle (by omega) hcs
    exact ⟨cs', L', q1, q2, q3⟩
  obtain ⟨cs2, L2, q1, q2, q3⟩ := hlen
  have hrun : run env2 5 [.vec .ro (V l)] .empty = some (.sl 0 3 0 n, ⟨m, L2⟩) := by
    rw [run_body (E := env2) (fn := Tryz.f5) rfl rfl Tryz.func5 rfl (by rw [Tryz.ntmps5]; simp)]
    simp only [go_sem, envP, ↓reduceIte, Nat.reduceEqDiff, Nat.reduceAdd, Nat.reduceLT, h1, hr, q1, Tryz.results5]
  have hSn : ((srt (U l)).map ofP).length = n := by rw [List.length_map, srt_len, ← used_len, hnn]
  have hch := chunk_flat _ cs2 (by rw [hSn]; exact q3)
  rw [hSn] at hch
  have hget : AHeap.get ⟨m, L2⟩ 0 = some (.row l.length 26 3 cs2) := by simp [AHeap.get, hk, q2]
  have hf : frz Tryz.prog ⟨m, L2⟩ 100 (.sl 0 3 0 n) = some (.vec .ro (V ((srt (U l)).map ofP))) := by
    have hz := frz_V Tryz.prog ⟨m, L2⟩ 97 ((srt (U l)).map ofP)
    exact frz_sl (n := 99) hget agg26 hle (by rw [hch]; exact hz)
  have hnp : (AV.vec Own.ro (V ((srt (U l)).map ofP))).noPtr = true := by
    show (true && AV.noPtr.go (V ((srt (U l)).map ofP))) = true
    rw [V_np]
    rfl
  unfold closedCall
  have he : ([AV.vec Own.ro (V l)].map AV.erase) = [.vec .ro (V l)] := rfl
  have hp : AV.noPtr.go [AV.vec Own.ro (V l)] = true := by
    show ((true && AV.noPtr.go (V l)) && true) = true
    rw [V_np]
    rfl
  rw [he, if_pos hp, hrun]
  have hv : (AV.sl 0 3 0 n).erase.noPtr = false := rfl
  simp only [hv, Bool.false_eq_true, if_false, hf, bnd, hnp, if_true]
end Go.Proofs.YtkpnccaoolbeeaaGreatDoor
