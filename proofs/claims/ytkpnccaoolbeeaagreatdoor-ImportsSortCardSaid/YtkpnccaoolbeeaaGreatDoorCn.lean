/- strings.Count of one byte, walked. -/
import Derived.Test.YtkpnccaoolbeeaaGreatDoorBx
import Derived.Test.YtkpnccaoolbeeaaGreatDoorAc24
import Derived.Shelf.Strings.Count
namespace Go.Proofs.YtkpnccaoolbeeaaGreatDoor
set_option linter.unusedVariables false
open Go Go.RowKit Go.Proofs
set_option maxHeartbeats 1000000 in
set_option maxRecDepth 100000 in
theorem count_one (s : ByteArray) (c : UInt8) (w : World) :
    Calls Tryz.prog 156 #[.string s, .string ⟨#[c]⟩] w fun e w' => e = .returned (.int .i64 (Lib.countByte s.data.toList c : Nat)) ∧ w' = w := by
  go_enter Tryz.func156, Tryz.ntmps156
  go_wp2
  rw [run_callFunc_extern Tryz.func192 (by kernel_rfl) (by kernel_rfl) (by kernel_rfl) (e := Extern.BytealgCount.count) (by kernel_rfl), Lib.run_countString]
  simp only [Result.andThen]
  rw [Oper.upon_value]
  go_wp2
  go_ret
  exact ⟨rfl, rfl⟩
theorem countT_ok : Go.Ab.CallOk Tryz.prog (Go.Ab.countX 156) := Go.Ab.countX_ok (callB 156 _ Tryz.func156 (by kernel_rfl) (by kernel_rfl)) count_one
end Go.Proofs.YtkpnccaoolbeeaaGreatDoor
