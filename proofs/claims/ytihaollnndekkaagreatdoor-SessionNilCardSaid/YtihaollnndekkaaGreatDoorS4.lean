/- Proved: the given statement on SessionNil: for any query, module and request that can be read as data the law returns true and leaves all three as they were; the variables that the row lists hold what the card ties to the text. -/
import Derived.Test.YtihaollnndekkaaGreatDoorS3
import Derived.Test.YtihaollnndekkaaGreatDoorRg4
import Derived.Test.YtihaollnndekkaaGreatDoorTi
import Derived.Test.YtihaollnndekkaaGreatDoorSf
import Derived.Test.YtihaollnndekkaaGreatDoorCards
import Derived.WalkKit
import Derived.ProofKit
import Derived.OpenShut
import Derived.Carry
import Derived.Lay
import Derived.LaidMore
import Derived.LaidOnce
import Derived.LaidSub
import Derived.SevenTiedAt
import Derived.Stop.Joined
import Derived.Below
import Derived.Lib.LaidTab
import Derived.Lib.Space
namespace Go.Proofs.YtihaollnndekkaaGreatDoor
open Go Go.Ab
open Go.ChangeShapes Go.WideShapes Go.ChangeAt Go.RowKit
set_option linter.unusedVariables false

theorem space_only : Rows.sessionNilRow.laid.filter (fun x => x.1 == "strings.asciiSpace") = [("strings.asciiSpace", Rows.laid_strings_asciiSpace)] := by kernel_rfl
theorem space_tab : (Rows.laid_strings_asciiSpace : DataW Unit) = Lib.tabData .u8 Lib.asciiSpaceTab := by kernel_rfl
theorem baseW {W : World} (h : laidMetH Tryz.prog Rows.sessionNilRow.laid W) : Base Tryz.prog (· < W.heap.size) W := by
  refine ⟨fun _ h => h, fun g hg => ?_⟩
  obtain rfl := Option.some.inj (spaceG.symm.trans hg)
  have h1 := h.filter (fun x => x.1 == "strings.asciiSpace")
  rw [space_only, space_tab] at h1
  have h2 := (laidMetH_iff.1 h1).1
  have ht := Lib.tabIs_of_head spaceG (t := 208) (e := 5) (n := 256) (by kernel_rfl) Tryz.underlying208 Tryz.underlying5 (by kernel_rfl) (by kernel_rfl) h2
  have hc : ∀ c : Nat, c < 256 → W.cell? ⟨0, c, none⟩ = some (.int .u8 (if Lib.isSp (UInt8.ofNat c) then 1 else 0)) := fun c hc => by
    rw [ht.cell spaceG c (by rw [Lib.asciiSpaceTab_length]; exact hc), Lib.asciiSpaceTab_at c hc]
  exact ⟨World.block_lt_of_cell? _ _ (hc 0 (by omega)), hc⟩

theorem own : ownKnob Tryz.prog.godebug = none := by kernel_rfl
theorem laidOut : laidOutB Tryz.prog = true := by kernel_rfl

set_option maxRecDepth 100000 in
theorem lifted3 (os : Os) (started : os.Started) (H : Type) (enc : TypeId × Value → H) :
    ReturnsInHanded {} Tryz.checked os 3 .any (fun w args => (Rows.sessionNilSpec.pre enc Tryz.prog Tryz.f3 [] false w args ∧ laidMetH Tryz.prog Rows.sessionNilRow.laid w) ∧ sizedMet enc Tryz.prog Tryz.f3 (OpenSpec.ofChange Rows.sessionNilSpec) false w args)
      (Rows.sessionNilSpec.post enc Tryz.prog Tryz.f3 false true false false) := by
  refine returnsInHanded_of_change_and (C := Tryz.checked) (X := fun w _ => laidMetH Tryz.prog Rows.sessionNilRow.laid w) (fun _ _ _ hh h => h.of_heap hh) own started (by kernel_rfl) Tryz.func3
    (ChangeSpec.witness_shaped (enc := enc) (C := Tryz.checked) (os := os) (X := fun w _ => laidMetH Tryz.prog Rows.sessionNilRow.laid w) false (World.laidAll Tryz.prog os Rows.sessionNilRow.laid) #[.agg #[.int .i64 0, .string .empty, .int .i64 0, .int .i64 0, .int .i64 0, .string .empty], .agg #[.string .empty, .string .empty], .agg #[.int .i64 0, .string .empty, .int .i64 0, .int .i64 0, .string .empty]] 8 (World.laidAll_os _ _ _)
      (World.shaped_of_ZipB (by kernel_rfl) (by kernel_rfl)) (by kernel_rfl) (by kernel_rfl) (by kernel_rfl)
      (by rw [MakeChecks.laidMetH_plain _ _ _ (by kernel_rfl)]; exact laidMet_laidAll _ (by kernel_rfl) (by kernel_rfl))) ?_
  intro W base args ds gs before hval0 hW _ _ hL _
  have hval : ∀ (j : Nat) t v, Tryz.f3.params[j]? = some t → args[j]? = some v → Value.okWide Tryz.prog W .any base t v := hval0
  have hW' := hW
  obtain ⟨p, q, hA0, hV, rfl, hfz, hnd⟩ := hW
  have hA : DataW.TrodAll enc Tryz.prog W 0 (fun _ => true) true Tryz.f3.params.toList args.toList ds p := hA0
  rw [Tryz.params3] at hA hval
  obtain ⟨v0, v1, v2, d0, d1, d2, p0, p1, p2, rfl, rfl, rfl, h0, h1, h2⟩ := trodAll_three hA
  obtain ⟨rfl, rfl⟩ := trodVars_none hV
  have ha := arg23 (hval 0 23 v0 rfl rfl) h0
  have hb := arg25 (hval 1 25 v1 rfl rfl) h1
  have hc := arg27 (hval 2 27 v2 rfl rfl) h2
  have hlt0 : ∀ x ∈ p0, x.block < W.heap.size := fun x hx => hW'.lt x (by simp [hx])
  have hlt1 : ∀ x ∈ p1, x.block < W.heap.size := fun x hx => hW'.lt x (by simp [hx])
  have hlt2 : ∀ x ∈ p2, x.block < W.heap.size := fun x hx => hW'.lt x (by simp [hx])
  clear hA0 hval0
  simp only [List.append_nil] at hW'
  refine (walk3 W (baseW hL) ha hb hc).mono fun e W' ⟨he, bel⟩ => ?_
  subst he
  exact ⟨_, rfl, _, _, _, [], _, [], hW', trodAll_mk1 (shut_bool Tryz.underlying4 _), trodAll_mk3 (Below.trod laidOut (by kernel_rfl) (of_decide_eq_true (by kernel_rfl)) h0 bel hlt0) (Below.trod laidOut (by kernel_rfl) (of_decide_eq_true (by kernel_rfl)) h1 bel hlt1) (Below.trod laidOut (by kernel_rfl) (of_decide_eq_true (by kernel_rfl)) h2 bel hlt2), rfl, bel.frame _, fun h => by cases h⟩

theorem over3 : Rows.sessionNilRow.holds Tryz.pinned (OpenSpec.ofChange Rows.sessionNilSpec) :=
  OpenClaim.holds_of_wide 3 Tryz.f3 rfl rfl rfl rfl rfl rfl rfl ⟨rfl, rfl, rfl, rfl, rfl⟩ rfl rfl rfl rfl rfl named3 Tryz.func3 joined
    (of_decide_eq_true (by kernel_rfl)) (by unfold Func.isWrapper; first | (rw [if_pos (by decide +kernel)]; kernel_rfl) | (rw [if_neg (by decide +kernel)]; exact ⟨rfl, rfl⟩))
    (fun os started H enc _ => lifted3 os started H enc)

theorem sessionNilDone : Rows.SessionNilCardSaid :=
  Claim7.holds_tied_plain_at .later [] [.data, .data, .data, .sentinel, .sentinel, .data, .listed, .pinned, .data] true (true, "e57906a796170968be6779db0acc185fdf5d21809e64d44408d41dfdcd5aa193") true over3 (fun _ h => by cases h) card_wf (fun _ h => by cases h) rowTie rfl ⟨rfl, rfl⟩ card_main rfl
    (fun f fn hf hfn => by
      obtain rfl : f = 3 := Option.some.inj (card_named.symm.trans hf) |>.symm
      obtain rfl : fn = Tryz.f3 := (Option.some.inj (Tryz.func3.symm.trans hfn)).symm
      exact ⟨card_looks, fun j t ht => by
        rw [Tryz.params3] at ht
        have hm : t ∈ [23, 25, 27] := by simpa using Array.mem_of_getElem? ht
        exact (show Tryz.prog.wantsStandIn t = false by simpa using List.all_eq_true.1 card_stand t hm)⟩)
    card_goes
#print axioms sessionNilDone
end Go.Proofs.YtihaollnndekkaaGreatDoor
