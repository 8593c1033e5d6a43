/- Proved: the given statement on RunAlike: for any two results that can be read as data the law returns true and leaves both as they were; the variables that the row lists hold what the card ties to the text. -/
import Derived.Test.YtpdhkcakoekdgaaGreatDoorR3
import Derived.Test.YtpdhkcakoekdgaaGreatDoorRg
import Derived.Test.YtpdhkcakoekdgaaGreatDoorTie
import Derived.Test.YtpdhkcakoekdgaaGreatDoorCards
import Derived.WalkKit
import Derived.ProofKit
import Derived.OpenShut
import Derived.SliceStrings
import Derived.Carry
import Derived.Lay
import Derived.LaidMore
import Derived.LaidOnce
import Derived.SevenTiedAt
import Derived.Stop.Joined
import Derived.Below
namespace Go.Proofs.YtpdhkcakoekdgaaGreatDoor
open Go Go.Ab
open Go.ChangeShapes Go.WideShapes Go.ChangeAt Go.RowKit
set_option linter.unusedVariables false

/-- All that may be read is known. -/
def σW (W : World) : St := { cells := fun b o => match W.cell? ⟨b, o, none⟩ with | some v => if v.oneCell' = true then some v else none | none => none, loc := fun _ => none, own := fun _ _ => none }
theorem σW_cell {W : World} {b o : Nat} {v : Value} (h : W.cell? ⟨b, o, none⟩ = some v) (h1 : v.oneCell' = true) : (σW W).cells b o = some v := by simp [σW, h, h1]

theorem calls_true' {E : Env} (hE : EnvOk E) {f : FuncId} {args : List AV} {us : List Value} (w : World) (hr : RepL (σW w) args us) (h : closedCall E.P (run E) f args = some (.bool true)) :
    Calls E.P f us.toArray w fun e w' => e = .returned (.bool true) ∧ Below w.heap.size w w' := by
  have k1 : ∀ b o v, (σW w).cells b o = some v → w.cell? ⟨b, o, none⟩ = some v := by
    intro b o v hv
    simp only [σW] at hv
    split at hv
    · rename_i x hx
      split at hv
      · cases hv; exact hx
      · cases hv
    · cases hv
  have k2 : ∀ b o v, (σW w).cells b o = some v → v.oneCell' = true := by
    intro b o v hv
    simp only [σW] at hv
    split at hv
    · split at hv
      · rename_i h1; cases hv; exact h1
      · cases hv
    · cases hv
  have hs : Sim E.P (· < w.heap.size) w .empty (σW w) w :=
    ⟨BelowS.refl _ _, fun _ h => h, k1, k2, fun _ _ => ⟨rfl, fun _ => rfl⟩, fun id x hx => by simp [AHeap.get, AHeap.empty] at hx, fun id x hx => by simp [AHeap.get, AHeap.empty] at hx,
      fun id id' x x' hx => by simp [AHeap.get, AHeap.empty] at hx⟩
  refine (closed_sound hs (run_sound hE) hr h).2.mono ?_
  rintro e w' ⟨u, rfl, σ1, hext, hsim, hrep⟩
  simp only [Rep] at hrep
  subst hrep
  exact ⟨rfl, hsim.below.os, hsim.below.tape, hsim.below.output, hsim.below.size, hsim.below.block⟩

theorem row_rep {σ : St} {b : Nat} : ∀ (l : List (List UInt8)) (off : Nat), (∀ j x, l[j]? = some x → σ.cells b (off + j) = some (.string ⟨x.toArray⟩)) → RepRow σ b 1 off (S l)
  | [], _, _ => by simp [S, RepRow]
  | x :: l, off, h => by
    show RepRow σ b 1 off (.str x :: S l)
    simp only [RepRow]
    refine ⟨⟨.string ⟨x.toArray⟩, by simp [Rep], rfl, fun j v hj => ?_⟩, row_rep l (off + 1) fun j y hj => ?_⟩
    · have : j = 0 := by have := (Array.getElem?_eq_some_iff.1 hj).1; simp [Value.cells] at this; omega
      subst this
      simp [Value.cells] at hj
      subst hj
      exact h 0 x rfl
    · have := h (j + 1) y (by simpa using hj)
      rw [show off + 1 + j = off + (j + 1) by omega]
      exact this

theorem strs_rep {W : World} {cs : List Value} {H : Type} {enc : TypeId × Value → H} {fuel : Nat} {x : DataW H × List MemPlace} (h : DataW.trod enc Tryz.prog W 0 (fun _ => true) true fuel 23 cs = some x) :
    ∃ sv l, cs = [sv] ∧ l.length ≤ 9223372036854775807 ∧ Rep (σW W) (.vec .ro (S l)) sv := by
  rcases open_strings Tryz.underlying23 Tryz.underlying9 (by kernel_rfl) h with ⟨rfl, _⟩ | ⟨a, len, cap, ss, rfl, _, hl, hm, hz, _, hcell, _⟩
  · exact ⟨_, [], rfl, by simp, by simp only [Rep]; exact ⟨none, 0, rfl, by simp [S], trivial, .inl rfl⟩⟩
  · have hlen : ((ss.take len).map (·.data.toList)).length = len := by simp at hz ⊢; omega
    refine ⟨_, (ss.take len).map (·.data.toList), rfl, by rw [hlen]; unfold maxLen at hm; simp at hz; omega, ?_⟩
    simp only [Rep]
    refine ⟨some a, cap, by rw [S_len, hlen], by rw [S_len, hlen]; exact hl, trivial, ?_⟩
    by_cases h0 : len = 0
    · subst h0; exact .inl (by simp [S])
    · right
      have hsz : ss.length = cap := by simpa using hz
      obtain ⟨b, off, sp⟩ := a
      have hsp : sp = none := by
        have := hcell 0 (by omega)
        cases sp with
        | none => rfl
        | some s =>
          exfalso
          simp only [Addr.add, if_true, World.cell?] at this
          split at this <;> simp at this
      subst hsp
      refine ⟨b, off, 1, rfl, row_rep _ _ fun j x hj => ?_⟩
      rw [List.getElem?_map, Option.map_eq_some_iff] at hj
      obtain ⟨s, hs, rfl⟩ := hj
      have hjl : j < len := by
        have := (List.getElem?_eq_some_iff.1 hs).1
        simp at this; omega
      have hs2 : ss[j]? = some s := by rw [List.getElem?_take] at hs; simpa [hjl] using hs
      have := hcell j (by omega)
      rw [Addr.add_mk] at this
      refine σW_cell (this.trans ?_) rfl
      simp [List.getD, hs2]

theorem one_slice {W : World} {t e : TypeId} {cs : List Value} {H : Type} {enc : TypeId × Value → H} {fuel : Nat} {x : DataW H × List MemPlace} (ht : Tryz.prog.underlying t = some (.slice e)) (h : DataW.trod enc Tryz.prog W 0 (fun _ => true) true fuel t cs = some x) :
    ∃ sv, cs = [sv] ∧ sv.oneCell' = true := by
  rcases DataW.trod_slice ht h with ⟨rfl, _⟩ | ⟨a, len, cap, elems, rest, n, _, rfl, _⟩
  · exact ⟨_, rfl, rfl⟩
  · exact ⟨_, rfl, rfl⟩

set_option maxRecDepth 100000 in
theorem arg_rep {W : World} {v : Value} {base : Nat} {H : Type} {enc : TypeId × Value → H} {d : DataW H} {p : List MemPlace} (hv : Value.okWide Tryz.prog W .any base 28 v) (h : DataW.Trod enc Tryz.prog W 0 (fun _ => true) true 28 v d p) :
    ∃ (a : Int) (l : List (List UInt8)), l.length ≤ 9223372036854775807 ∧ Rep (σW W) (.agg [.int .i64 a, .any, .any, .any, .any, .any, .vec .ro (S l), .any]) v := by
  obtain ⟨cs, rfl, hsz⟩ := okWide_struct Tryz.underlying28 hv
  obtain ⟨fuel, hf⟩ := h
  obtain ⟨xs, n, rfl, _, hl, hxs, hel⟩ := DataW.trod_struct Tryz.underlying28 hf
  have c28 : Tryz.prog.cellsOf 28 = 8 := by kernel_rfl
  have c22 : Tryz.prog.cellsOf 22 = 1 := by kernel_rfl
  have c26 : Tryz.prog.cellsOf 26 = 5 := by kernel_rfl
  have c23 : Tryz.prog.cellsOf 23 = 1 := by kernel_rfl
  have c24 : Tryz.prog.cellsOf 24 = 1 := by kernel_rfl
  have c3 : Tryz.prog.cellsOf 3 = 1 := by kernel_rfl
  have c2 : Tryz.prog.cellsOf 2 = 1 := by kernel_rfl
  have c9 : Tryz.prog.cellsOf 9 = 1 := by kernel_rfl
  obtain ⟨ls⟩ := cs
  simp only [Value.cells] at hl hel
  rw [c28] at hl
  match ls, hl with
  | [x0, x1, x2, x3, x4, x5, x6, x7], _ =>
    match xs, hxs with
    | [y0, y1, y2, y3], _ =>
      have f0 : DataW.trod enc Tryz.prog W 0 (fun _ => true) true n 22 [x0] = some y0 := by
        have q : DataW.trod enc Tryz.prog W 0 (fun _ => true) true n 22 (([x0, x1, x2, x3, x4, x5, x6, x7].drop 0).take (Tryz.prog.cellsOf 22)) = some y0 := hel 0 _ rfl
        rw [c22] at q
        exact q
      have f1 : DataW.trod enc Tryz.prog W 0 (fun _ => true) true n 26 [x1, x2, x3, x4, x5] = some y1 := by
        have q : DataW.trod enc Tryz.prog W 0 (fun _ => true) true n 26 (([x0, x1, x2, x3, x4, x5, x6, x7].drop 1).take (Tryz.prog.cellsOf 26)) = some y1 := hel 1 _ rfl
        rw [c26] at q
        exact q
      have f2 : DataW.trod enc Tryz.prog W 0 (fun _ => true) true n 23 [x6] = some y2 := by
        have q : DataW.trod enc Tryz.prog W 0 (fun _ => true) true n 23 (([x0, x1, x2, x3, x4, x5, x6, x7].drop 6).take (Tryz.prog.cellsOf 23)) = some y2 := hel 2 _ rfl
        rw [c23] at q
        exact q
      have f3 : DataW.trod enc Tryz.prog W 0 (fun _ => true) true n 3 [x7] = some y3 := by
        have q : DataW.trod enc Tryz.prog W 0 (fun _ => true) true n 3 (([x0, x1, x2, x3, x4, x5, x6, x7].drop 7).take (Tryz.prog.cellsOf 3)) = some y3 := hel 3 _ rfl
        rw [c3] at q
        exact q
      obtain ⟨a, e0, _⟩ := DataW.trod_int Tryz.underlying22 f0
      obtain ⟨sv, l, e2, hl2, hr⟩ := strs_rep f2
      obtain ⟨k3, e3, _⟩ := DataW.trod_int Tryz.underlying3 f3
      obtain ⟨zs, m, rfl, _, _, hzs, hel2⟩ := DataW.trod_struct Tryz.underlying26 f1
      match zs, hzs with
      | [z0, z1, z2, z3, z4], _ =>
        have g0 : DataW.trod enc Tryz.prog W 0 (fun _ => true) true m 3 [x1] = some z0 := by
          have q : DataW.trod enc Tryz.prog W 0 (fun _ => true) true m 3 (([x1, x2, x3, x4, x5].drop 0).take (Tryz.prog.cellsOf 3)) = some z0 := hel2 0 _ rfl
          rw [c3] at q
          exact q
        have g1 : DataW.trod enc Tryz.prog W 0 (fun _ => true) true m 2 [x2] = some z1 := by
          have q : DataW.trod enc Tryz.prog W 0 (fun _ => true) true m 2 (([x1, x2, x3, x4, x5].drop 1).take (Tryz.prog.cellsOf 2)) = some z1 := hel2 1 _ rfl
          rw [c2] at q
          exact q
        have g2 : DataW.trod enc Tryz.prog W 0 (fun _ => true) true m 9 [x3] = some z2 := by
          have q : DataW.trod enc Tryz.prog W 0 (fun _ => true) true m 9 (([x1, x2, x3, x4, x5].drop 2).take (Tryz.prog.cellsOf 9)) = some z2 := hel2 2 _ rfl
          rw [c9] at q
          exact q
        have g3 : DataW.trod enc Tryz.prog W 0 (fun _ => true) true m 23 [x4] = some z3 := by
          have q : DataW.trod enc Tryz.prog W 0 (fun _ => true) true m 23 (([x1, x2, x3, x4, x5].drop 3).take (Tryz.prog.cellsOf 23)) = some z3 := hel2 3 _ rfl
          rw [c23] at q
          exact q
        have g4 : DataW.trod enc Tryz.prog W 0 (fun _ => true) true m 24 [x5] = some z4 := by
          have q : DataW.trod enc Tryz.prog W 0 (fun _ => true) true m 24 (([x1, x2, x3, x4, x5].drop 4).take (Tryz.prog.cellsOf 24)) = some z4 := hel2 4 _ rfl
          rw [c24] at q
          exact q
        obtain ⟨q0, e10, _⟩ := DataW.trod_int Tryz.underlying3 g0
        obtain ⟨q1, e11, _⟩ := DataW.trod_int Tryz.underlying2 g1
        obtain ⟨q2, e12, _⟩ := DataW.trod_string Tryz.underlying9 g2
        obtain ⟨q3, e13, o3⟩ := one_slice Tryz.underlying23 g3
        obtain ⟨q4, e14, o4⟩ := one_slice Tryz.underlying24 g4
        simp only [List.cons.injEq, and_true] at e0 e2 e3 e10 e11 e12 e13 e14
        subst e0 e2 e3 e10 e11 e12 e13 e14
        refine ⟨a, l, hl2, ?_⟩
        simp only [Rep]
        refine ⟨_, rfl, ?_⟩
        simp only [RepL, Rep]
        exact ⟨_, _, rfl, rfl, _, _, rfl, rfl, _, _, rfl, rfl, _, _, rfl, rfl, _, _, rfl, o3, _, _, rfl, o4, _, _, rfl, by simpa only [Rep] using hr, _, _, rfl, rfl, rfl⟩
theorem walk3 {a b : Int} {l m : List (List UInt8)} (hl : l.length ≤ 9223372036854775807) (hm : m.length ≤ 9223372036854775807) {u v : Value} (W : World)
    (h1 : Rep (σW W) (.agg [.int .i64 a, .any, .any, .any, .any, .any, .vec .ro (S l), .any]) u) (h2 : Rep (σW W) (.agg [.int .i64 b, .any, .any, .any, .any, .any, .vec .ro (S m), .any]) v) :
    Calls Tryz.prog 3 #[u, v] W fun e w' => e = .returned (.bool true) ∧ Below W.heap.size W w' :=
  calls_true' env2Ok (us := [u, v]) W (by simp only [RepL]; exact ⟨_, _, rfl, h1, _, _, rfl, h2, rfl⟩) (runAlike_c a b l m hl hm)

theorem own : ownKnob Tryz.prog.godebug = none := by kernel_rfl
theorem laidOut : laidOutB Tryz.prog = true := by kernel_rfl

set_option maxRecDepth 100000 in
theorem lifted3 (os : Os) (started : os.Started) (H : Type) (enc : TypeId × Value → H) :
    ReturnsInHanded {} Tryz.checked os 3 .any (fun w args => (Rows.runAlikeSpec.pre enc Tryz.prog Tryz.f3 [] false w args ∧ laidMetH Tryz.prog Rows.runAlikeRow.laid w) ∧ sizedMet enc Tryz.prog Tryz.f3 (OpenSpec.ofChange Rows.runAlikeSpec) false w args)
      (Rows.runAlikeSpec.post enc Tryz.prog Tryz.f3 false true false false) := by
  refine returnsInHanded_of_change_and (C := Tryz.checked) (X := fun w _ => laidMetH Tryz.prog Rows.runAlikeRow.laid w) (fun _ _ _ hh h => h.of_heap hh) own started (by kernel_rfl) Tryz.func3
    (ChangeSpec.witness_shaped (enc := enc) (C := Tryz.checked) (os := os) (X := fun w _ => laidMetH Tryz.prog Rows.runAlikeRow.laid w) false (World.laidAll Tryz.prog os Rows.runAlikeRow.laid) #[.agg #[.int .i64 0, .int .i64 0, .int .i64 0, .string .empty, .slice none 0 0, .slice none 0 0, .slice none 0 0, .int .i64 0], .agg #[.int .i64 0, .int .i64 0, .int .i64 0, .string .empty, .slice none 0 0, .slice none 0 0, .slice none 0 0, .int .i64 0]] 8 (World.laidAll_os _ _ _)
      (World.shaped_of_ZipB (by kernel_rfl) (by kernel_rfl)) (by kernel_rfl) (by kernel_rfl) (by kernel_rfl)
      (by rw [MakeChecks.laidMetH_plain _ _ _ (by kernel_rfl)]; exact laidMet_laidAll _ (by kernel_rfl) (by kernel_rfl))) ?_
  intro W base args ds gs before hval0 hW _ _ hL _
  have hval : ∀ (j : Nat) t v, Tryz.f3.params[j]? = some t → args[j]? = some v → Value.okWide Tryz.prog W .any base t v := hval0
  have hW' := hW
  obtain ⟨p, q, hA0, hV, rfl, hfz, hnd⟩ := hW
  have hA : DataW.TrodAll enc Tryz.prog W 0 (fun _ => true) true Tryz.f3.params.toList args.toList ds p := hA0
  rw [Tryz.params3] at hA hval
  obtain ⟨v0, v1, d0, d1, p0, p1, rfl, rfl, rfl, h0, h1⟩ := trodAll_two hA
  obtain ⟨rfl, rfl⟩ := trodVars_none hV
  obtain ⟨a, l, hl, ha⟩ := arg_rep (hval 0 28 v0 rfl rfl) h0
  obtain ⟨b, m, hm, hb⟩ := arg_rep (hval 1 28 v1 rfl rfl) h1
  have hlt0 : ∀ x ∈ p0, x.block < W.heap.size := fun x hx => hW'.lt x (by simp [hx])
  have hlt1 : ∀ x ∈ p1, x.block < W.heap.size := fun x hx => hW'.lt x (by simp [hx])
  clear hA0 hval0
  simp only [List.append_nil] at hW'
  refine (walk3 hl hm W ha hb).mono fun e W' ⟨he, bel⟩ => ?_
  subst he
  exact ⟨_, rfl, _, _, _, [], _, [], hW', trodAll_mk1 (shut_bool Tryz.underlying4 _), trodAll_mk2 (Below.trod laidOut (by kernel_rfl) (of_decide_eq_true (by kernel_rfl)) h0 bel hlt0) (Below.trod laidOut (by kernel_rfl) (of_decide_eq_true (by kernel_rfl)) h1 bel hlt1), rfl, bel.frame _, fun h => by cases h⟩

theorem over3 : Rows.runAlikeRow.holds Tryz.pinned (OpenSpec.ofChange Rows.runAlikeSpec) :=
  OpenClaim.holds_of_wide 3 Tryz.f3 rfl rfl rfl rfl rfl rfl rfl ⟨rfl, rfl, rfl, rfl, rfl⟩ rfl rfl rfl rfl rfl named3 Tryz.func3 joined
    (of_decide_eq_true (by kernel_rfl)) (by unfold Func.isWrapper; first | (rw [if_pos (by decide +kernel)]; kernel_rfl) | (rw [if_neg (by decide +kernel)]; exact ⟨rfl, rfl⟩))
    (fun os started H enc _ => lifted3 os started H enc)

theorem runAlikeDone : Rows.RunAlikeCardSaid :=
  Claim7.holds_tied_plain_at .later [] [.data, .data, .data, .data, .sentinel, .sentinel, .pinned] true (true, "1dd7e55bb1fecd6e265368e9f085cacf096b54bfcbd0c8cdb216f56f0886ae2b") true over3 (fun _ h => by cases h) (by kernel_rfl) (fun _ h => by cases h) runAlike_row_tie rfl ⟨rfl, rfl⟩ (by kernel_rfl) rfl
    (fun f fn hf hfn => by
      obtain rfl : f = 3 := Option.some.inj ((show Tryz.prog.funcNamed "whetstone/whetstonelaw16.RunAlike" = some 3 by kernel_rfl).symm.trans hf) |>.symm
      obtain rfl : fn = Tryz.f3 := (Option.some.inj (Tryz.func3.symm.trans hfn)).symm
      exact ⟨by kernel_rfl, fun j t ht => by
        rw [Tryz.params3] at ht
        have hm : t ∈ [28, 28] := by simpa using Array.mem_of_getElem? ht
        have hall : ([28, 28].all fun u => !Tryz.prog.wantsStandIn u) = true := by kernel_rfl
        exact (show Tryz.prog.wantsStandIn t = false by simpa using List.all_eq_true.1 hall t hm)⟩)
    (by kernel_rfl)
#print axioms runAlikeDone
end Go.Proofs.YtpdhkcakoekdgaaGreatDoor
