/- strings.Count of one byte, walked. -/
import Derived.Test.YtiagmokcjljliaaGreatDoorBx
import Derived.Test.YtiagmokcjljliaaGreatDoorAm5
import Derived.Shelf.Strings.Count
namespace Go.Proofs.YtiagmokcjljliaaGreatDoor
set_option linter.unusedVariables false
open Go Go.RowKit Go.Proofs
set_option maxHeartbeats 1000000 in
set_option maxRecDepth 100000 in
theorem count_one (s : ByteArray) (c : UInt8) (w : World) :
    Calls Tryz.prog 180 #[.string s, .string ⟨#[c]⟩] w fun e w' => e = .returned (.int .i64 (Lib.countByte s.data.toList c : Nat)) ∧ w' = w := by
  go_enter Tryz.func180, Tryz.ntmps180
  go_wp2
  rw [run_callFunc_extern Tryz.func289 (by kernel_rfl) (by kernel_rfl) (by kernel_rfl) (e := Extern.BytealgCount.count) (by kernel_rfl), Lib.run_countString]
  simp only [Result.andThen]
  rw [Oper.upon_value]
  go_wp2
  go_ret
  exact ⟨rfl, rfl⟩
theorem countT_ok : Go.Ab.CallOk Tryz.prog (Go.Ab.countX 180) := Go.Ab.countX_ok (callB 180 _ Tryz.func180 (by kernel_rfl) (by kernel_rfl)) count_one
end Go.Proofs.YtiagmokcjljliaaGreatDoor
