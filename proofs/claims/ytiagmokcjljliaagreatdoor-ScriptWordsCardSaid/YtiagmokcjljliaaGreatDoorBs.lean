/- ScriptWords: what the card ties of the library's variables is what the machine takes as known. -/
import Derived.Test.YtiagmokcjljliaaGreatDoorW2
import Derived.Test.YtiagmokcjljliaaGreatDoorRows
import Derived.Lib.LaidU8T
import Derived.Lib.LaidTab
import Derived.Lib.Space
import Derived.LaidMore
import Derived.MakeChecks
import Derived.ChangeArms
import Derived.FnData
namespace Go.Proofs.YtiagmokcjljliaaGreatDoor
open Go Go.Ab Go.Lib Go.Proofs
set_option linter.unusedVariables false

theorem tab_cell {P : Program} {W : World} {n : String} {g : Nat} {t e : TypeId} {N : Nat} {k : IntKind} {zs : List Int} (h : VarReads P W n (tabData k zs)) (hg : P.globalNamed n = some g) (hty : (P.globals[g]?).map (·.type) = some t)
    (ht : P.underlying t = some (.array N e)) (he : P.underlying e = some (.int k)) (hce : P.cellsOf e = 1) (hct : P.cellsOf t = N) (i : Nat) : W.cell? ⟨g, i, none⟩ = (zs.map fun z => Value.int k z)[i]? := by
  obtain ⟨g', t', cs, fuel, p, hg', hty', hvar, hd⟩ := h
  obtain rfl := Option.some.inj (hg.symm.trans hg')
  obtain rfl := Option.some.inj (hty.symm.trans hty')
  have hcs := cells_of_tab ht he hce hct hd
  rw [World.var?_cell hg hvar i, ← Array.getElem?_toList, hcs]
theorem str_cell {P : Program} {W : World} {n : String} {g : Nat} {t e : TypeId} {N : Nat} {ls : List (List UInt8)} (h : VarReads P W n (.agg (ls.map fun l => .lit (.string l)))) (hg : P.globalNamed n = some g) (hty : (P.globals[g]?).map (·.type) = some t)
    (ht : P.underlying t = some (.array N e)) (he : P.underlying e = some .string) (hce : P.cellsOf e = 1) {i : Nat} {l : List UInt8} (hi : i < N) (hl : ls[i]? = some l) : W.cell? ⟨g, i, none⟩ = some (.string ⟨l.toArray⟩) := by
  obtain ⟨g', t', cs, fuel, p, hg', hty', hvar, hd⟩ := h
  obtain rfl := Option.some.inj (hg.symm.trans hg')
  obtain rfl := Option.some.inj (hty.symm.trans hty')
  obtain ⟨fuel', d, q, hdi, hel⟩ := array_elem ht hd i hi
  rw [hce, Nat.mul_one] at hel
  obtain ⟨s, hs, hx, _⟩ := DataW.trod_string he hel
  rw [List.getElem?_map, hl] at hdi
  simp only [Option.map_some, Option.some.injEq] at hdi
  have h1 : d = .lit (.string s.data.toList) := congrArg Prod.fst hx
  rw [← hdi] at h1
  have h2 : l = s.data.toList := by simpa using h1
  have h3 : cs.toList[i]? = some (.string s) := by
    have := congrArg (·[0]?) hs
    simpa using this
  rw [World.var?_cell hg hvar i, ← Array.getElem?_toList, h3, h2]
theorem iface_cell {P : Program} {W : World} {n : String} {g : Nat} {t : TypeId} {x : Array (String × TypeId)} {nm : String} {d : DataW Unit} (h : VarReads P W n (.iface nm d)) (hg : P.globalNamed n = some g) (hty : (P.globals[g]?).map (·.type) = some t)
    (ht : P.underlying t = some (.interface x)) : ∃ v, W.cell? ⟨g, 0, none⟩ = some v ∧ (v = .nilIface ∨ ∃ t p, v = .iface t p) := by
  obtain ⟨g', t', cs, fuel, p, hg', hty', hvar, hd⟩ := h
  obtain rfl := Option.some.inj (hg.symm.trans hg')
  obtain rfl := Option.some.inj (hty.symm.trans hty')
  have h3 : ∃ v, cs.toList = [v] ∧ (v = .nilIface ∨ ∃ t p, v = .iface t p) := by
    cases fuel with
    | zero => simp [DataW.trod] at hd
    | succ fuel =>
      unfold DataW.trod at hd
      rw [ht] at hd
      split at hd
      all_goals first | (rename_i h1 h2; exact ⟨_, h2, .inl rfl⟩) | (rename_i h1 h2; exact ⟨_, h2, .inr ⟨_, _, rfl⟩⟩) | (rename_i h1 h2; cases h1; done) | (cases hd; done) | (split at hd <;> simp at hd; done) | (simp at hd; done) | skip
  obtain ⟨v, hv, hp⟩ := h3
  refine ⟨v, ?_, hp⟩
  rw [World.var?_cell hg hvar 0, ← Array.getElem?_toList, hv]
  rfl

theorem gSpace : Tryz.prog.globalNamed "strings.asciiSpace" = some 1 := by kernel_rfl
theorem gFirst : Tryz.prog.globalNamed "unicode/utf8.first" = some 2 := by kernel_rfl
theorem gAcc : Tryz.prog.globalNamed "unicode/utf8.acceptRanges" = some 3 := by kernel_rfl
theorem hSyn : Tryz.prog.globalNamed "strconv.ErrSyntax" = some 6 := by kernel_rfl
theorem hRan : Tryz.prog.globalNamed "strconv.ErrRange" = some 7 := by kernel_rfl
theorem gKinds : Tryz.prog.globalNamed "whetstone/script.kinds" = some 0 := by kernel_rfl
theorem dSpace : (Rows.laid_strings_asciiSpace : DataW Unit) = Lib.tabData .u8 Lib.asciiSpaceTab := by kernel_rfl
theorem dFirst : (Rows.laid_unicode_utf8_first : DataW Unit) = Lib.firstData := by kernel_rfl
theorem dAcc : (Rows.laid_unicode_utf8_acceptRanges : DataW Unit) = Lib.acceptData := by kernel_rfl
def kindL : List (List UInt8) := ["", "rename", "label", "extract", "inline", "move", "organise", "annotate", "erase", "types"].map fun s => s.toUTF8.data.toList
theorem dKinds : (Rows.laid_whetstone_script_kinds : DataW Unit) = .agg (kindL.map fun l => .lit (.string l)) := by kernel_rfl
theorem kindTab {g : Nat} {ls : List (List UInt8)} (h : strTab Tryz.prog g = some ls) : g = 0 ∧ ls = kindL := by
  unfold strTab at h
  split at h
  · rename_i hg
    exact ⟨(Option.some.inj (gKinds.symm.trans hg)).symm, (Option.some.inj h).symm⟩
  · cases h
theorem memL {i : Nat} {x : String × DataW Unit} (h : Rows.scriptWordsRow.laid[i]? = some x) : x ∈ Rows.scriptWordsRow.laid := List.mem_of_getElem? h
theorem baseW {W : World} (h : laidMetH Tryz.prog Rows.scriptWordsRow.laid W) : Base Tryz.prog (· < W.heap.size) W := by
  rw [MakeChecks.laidMetH_plain _ _ _ (by kernel_rfl)] at h
  have r0 : VarReads Tryz.prog W "strings.asciiSpace" (Lib.tabData .u8 Lib.asciiSpaceTab) := dSpace ▸ laidMet.reads h (memL (i := 0) rfl)
  have r1 : VarReads Tryz.prog W "unicode/utf8.first" Lib.firstData := dFirst ▸ laidMet.reads h (memL (i := 7) rfl)
  have r2 : VarReads Tryz.prog W "unicode/utf8.acceptRanges" Lib.acceptData := dAcc ▸ laidMet.reads h (memL (i := 8) rfl)
  have r3 : VarReads Tryz.prog W "strconv.ErrSyntax" Rows.laid_strconv_ErrSyntax := laidMet.reads h (memL (i := 5) rfl)
  have r4 : VarReads Tryz.prog W "strconv.ErrRange" Rows.laid_strconv_ErrRange := laidMet.reads h (memL (i := 6) rfl)
  have r5 : VarReads Tryz.prog W "whetstone/script.kinds" (.agg (kindL.map fun l => .lit (.string l))) := dKinds ▸ laidMet.reads h (memL (i := 9) rfl)
  have u8 := utf8Tabs_of_readsT (P := Tryz.prog) (ρ := Tryz.lays197_ren) ⟨Tryz.underlying5, Tryz.underlying355, Tryz.underlying366, Tryz.underlying367⟩ ⟨gFirst, gAcc, by kernel_rfl, by kernel_rfl, by kernel_rfl, by kernel_rfl, by kernel_rfl⟩ r1 r2
  refine ⟨fun _ h => h, fun b o p hk => ?_⟩
  have key : ∃ v, W.cell? ⟨b, o, none⟩ = some v ∧ p v := by
    match b, o, p, hk with
    | _, _, _, .space g c hg hc =>
      obtain rfl := Option.some.inj (gSpace.symm.trans hg)
      refine ⟨_, ?_, rfl⟩
      have hl : c < Lib.asciiSpaceTab.length := by
        rw [show Lib.asciiSpaceTab.length = 256 from by kernel_rfl]
        exact hc
      rw [tab_cell r0 gSpace (t := 355) (e := 5) (N := 256) (by kernel_rfl) Tryz.underlying355 Tryz.underlying5 (by kernel_rfl) (by kernel_rfl) c, List.getElem?_map, ← Lib.asciiSpaceTab_at c hc, List.getD_eq_getElem?_getD, List.getElem?_eq_getElem hl]
      rfl
    | _, _, _, .first g c hg hc =>
      obtain rfl := Option.some.inj (gFirst.symm.trans hg)
      exact ⟨_, u8.1 c hc, rfl⟩
    | _, _, _, .lo g i hg hi =>
      obtain rfl := Option.some.inj (gAcc.symm.trans hg)
      exact ⟨_, (u8.2 i hi).1, rfl⟩
    | _, _, _, .hi g i hg hi =>
      obtain rfl := Option.some.inj (gAcc.symm.trans hg)
      exact ⟨_, (u8.2 i hi).2, rfl⟩
    | _, _, _, .syn g hg =>
      obtain rfl := Option.some.inj (hSyn.symm.trans hg)
      exact iface_cell r3 hSyn (t := 165) (by kernel_rfl) Tryz.underlying165
    | _, _, _, .ran g hg =>
      obtain rfl := Option.some.inj (hRan.symm.trans hg)
      exact iface_cell r4 hRan (t := 165) (by kernel_rfl) Tryz.underlying165
    | _, _, _, .txt g i ls l hg hl =>
      obtain ⟨rfl, rfl⟩ := kindTab hg
      have hi : i < 10 := (List.getElem?_eq_some_iff.1 hl).1
      exact ⟨_, str_cell r5 gKinds (t := 97) (e := 9) (N := 10) (by kernel_rfl) Tryz.underlying97 Tryz.underlying9 (by kernel_rfl) hi hl, rfl⟩
  obtain ⟨v, hv, hp⟩ := key
  exact ⟨World.block_lt_of_cell? _ _ hv, v, hv, hp⟩
end Go.Proofs.YtiagmokcjljliaaGreatDoor
