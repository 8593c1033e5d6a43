/- ScriptWords: what the lexers answer, as a contract of the machine. -/
import Derived.Test.YtiagmokcjljliaaGreatDoorKd
import Derived.Test.YtiagmokcjljliaaGreatDoorUd
import Derived.Test.YtiagmokcjljliaaGreatDoorPi
namespace Go.Proofs.YtiagmokcjljliaaGreatDoor
set_option linter.unusedVariables false
open Go Go.Ab

theorem stringXT_ok : CallOk Tryz.prog (stringX 109 199) := stringX_ok (callB 109 _ Tryz.func109 (by kernel_rfl) (by kernel_rfl)) (by kernel_rfl) string_nil string_some
theorem mixed : Tryz.prog.follows .mixedOrders = true := by kernel_rfl
theorem envKOk : EnvOk envK where
  mixed := mixed
  good := fun f hf => okF_good (List.all_eq_true.1 all_okK f (List.contains_iff_mem.1 hf))
  ext := orX_ok copyT_ok (orX_ok stringXT_ok (orX_ok indexT_ok (orX_ok decodeT_ok parseT_ok)))
/-- Both lexers. -/
def lexX : CallO := fun f args H =>
  match args with
  | [.str l] => if (f == 4 || f == 21) = true then some (lexV (lex l), H) else none
  | _ => none
theorem lexX_ok : CallOk Tryz.prog lexX := by
  intro f args H v H' h
  unfold lexX at h
  split at h
  · rename_i l
    split at h
    · rename_i hf
      simp only [Option.some.injEq, Prod.mk.injEq] at h
      obtain ⟨rfl, rfl⟩ := h
      simp only [Bool.or_eq_true, beq_iff_eq] at hf
      rcases hf with rfl | rfl
      · exact ⟨callB 4 _ Tryz.func4 (by kernel_rfl) (by kernel_rfl), calls_of_closed envKOk (lex4 l) H⟩
      · exact ⟨callB 21 _ Tryz.func21 (by kernel_rfl) (by kernel_rfl), calls_of_closed envKOk (lex21 l) H⟩
    · cases h
  · cases h
end Go.Proofs.YtiagmokcjljliaaGreatDoor
