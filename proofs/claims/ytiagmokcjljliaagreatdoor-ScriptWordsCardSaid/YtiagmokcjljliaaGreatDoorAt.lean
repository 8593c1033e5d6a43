/- strconv.Atoi at this program: the shelf's contracts laid (written by the kit's lay-plain), and as a contract of the machine. -/
import Derived.Shelf.Strconv.AtoiAll
import Derived.Test.YtiagmokcjljliaaGreatDoorProg
import Derived.Test.YtiagmokcjljliaaGreatDoorBx
namespace Go.Ab
open Go
set_option linter.unusedVariables false
/-- strconv.Atoi: of the errors no more than that they are some. -/
def atoiX (f0 : FuncId) (t : TypeId) : CallO := fun f args H =>
  match args with
  | [.str l] =>
    if f = f0 ∧ l.length ≤ 1099511627776 then
      match Lib.atoiAll l with
      | .ok v => some (.tup [.int .i64 v, .val .nilIface], H)
      | Lib.NumEnd.syntax => some (.tup [.int .i64 0, .iface t .any], H)
      | .range => some (.tup [.int .i64 (Lib.atoiSat l), .iface t .any], H)
    else none
  | _ => none
section
open Go.RowKit
variable {P : Program}
theorem atoiX_ok {f0 : FuncId} {t : TypeId} {g0 g1 : Nat} (hc : callable P f0) (h0 : P.globalNamed "strconv.ErrSyntax" = some g0) (h1 : P.globalNamed "strconv.ErrRange" = some g1)
    (k0 : ∀ (s : ByteArray) (v : Int) (w : World), s.size ≤ 1099511627776 → Lib.atoiAll s.data.toList = .ok v → Calls P f0 #[.string s] w fun e w' => e = .returned (.tuple #[.int .i64 v, .nilIface]) ∧ Below w.heap.size w w')
    (k1 : ∀ (s : ByteArray) (w : World), s.size ≤ 1099511627776 → Lib.atoiAll s.data.toList = Lib.NumEnd.syntax → (∃ v, w.cell? ⟨g0, 0, none⟩ = some v ∧ (v = .nilIface ∨ ∃ t p, v = .iface t p)) →
      Calls P f0 #[.string s] w fun e w' => (∃ (a : Addr), e = .returned (.tuple #[.int .i64 0, .iface t (.pointer (some a))])) ∧ Below w.heap.size w w')
    (k2 : ∀ (s : ByteArray) (w : World), s.size ≤ 1099511627776 → Lib.atoiAll s.data.toList = .range → (∃ v, w.cell? ⟨g1, 0, none⟩ = some v ∧ (v = .nilIface ∨ ∃ t p, v = .iface t p)) →
      Calls P f0 #[.string s] w fun e w' => (∃ (a : Addr), e = .returned (.tuple #[.int .i64 (Lib.atoiSat s.data.toList), .iface t (.pointer (some a))])) ∧ Below w.heap.size w w') : CallOk P (atoiX f0 t) := by
  intro f args H v H' hx
  unfold atoiX at hx
  split at hx
  · rename_i l
    split at hx
    · rename_i hq
      obtain ⟨rfl, hl⟩ := hq
      refine ⟨hc, ?_⟩
      intro B W0 σ w us hs hr
      simp only [RepL] at hr
      obtain ⟨u, us', rfl, r1, rfl⟩ := hr
      simp only [Rep] at r1
      subst r1
      have hsz : (⟨l.toArray⟩ : ByteArray).size ≤ 1099511627776 := by simpa [ByteArray.size] using hl
      cases hp : Lib.atoiAll l with
      | ok n =>
        simp only [hp, Option.some.injEq, Prod.mk.injEq] at hx
        obtain ⟨rfl, rfl⟩ := hx
        refine (k0 ⟨l.toArray⟩ n w hsz (by simpa using hp)).mono ?_
        rintro e w' ⟨rfl, hb⟩
        exact ⟨_, rfl, σ, Ext.refl B σ, hs.under hb, by simp [Rep, RepL]⟩
      | range =>
        simp only [hp, Option.some.injEq, Prod.mk.injEq] at hx
        obtain ⟨rfl, rfl⟩ := hx
        refine (k2 ⟨l.toArray⟩ w hsz (by simpa using hp) (hs.baseNow.tab g1 0 _ (.ran g1 h1)).2).mono ?_
        rintro e w' ⟨⟨a, rfl⟩, hb⟩
        exact ⟨_, rfl, σ, Ext.refl B σ, hs.under hb, by simp [Rep, RepL]; exact ⟨_, _, ⟨rfl, rfl⟩, rfl, _, rfl, _, rfl, rfl⟩⟩
      | _ =>
        simp only [hp, Option.some.injEq, Prod.mk.injEq] at hx
        obtain ⟨rfl, rfl⟩ := hx
        refine (k1 ⟨l.toArray⟩ w hsz (by simpa using hp) (hs.baseNow.tab g0 0 _ (.syn g0 h0)).2).mono ?_
        rintro e w' ⟨⟨a, rfl⟩, hb⟩
        exact ⟨_, rfl, σ, Ext.refl B σ, hs.under hb, by simp [Rep, RepL]; exact ⟨_, _, ⟨rfl, rfl⟩, rfl, _, rfl, _, rfl, rfl⟩⟩
    · cases hx
  · cases hx
end
end Go.Ab
namespace Go.Proofs
open Go.Shelf
def Tryz.laysC172_ren : Go.Shelf.Ren := ⟨fun | 172 => 86 | 244 => 150 | 245 => 151 | 247 => 237 | 279 => 238 | 280 => 239 | 281 => 240 | 282 => 241 | 287 => 231 | 316 => 357 | 171 => 38 | 205 => 358 | 321 => 349 | 322 => 350 | 243 => 81 | 246 => 146 | 283 => 232 | 284 => 233 | 285 => 234 | 286 => 235 | 129 => 334 | 317 => 351 | 318 => 352 | 319 => 353 | 320 => 354 | 337 => 449 | 338 => 450 | n => n, fun | 9 => 9 | 3 => 3 | 75 => 165 | 76 => 166 | 4 => 4 | 5 => 5 | 167 => 375 | 37 => 146 | 0 => 0 | 85 => 376 | 2 => 2 | 168 => 378 | 53 => 46 | 175 => 278 | 46 => 306 | 210 => 502 | 127 => 311 | 145 => 588 | 143 => 586 | 21 => 21 | 171 => 369 | 173 => 372 | 212 => 497 | 51 => 476 | 20 => 20 | 213 => 498 | 232 => 627 | 233 => 628 | 80 => 86 | n => n, fun | 15 => 6 | 16 => 7 | 17 => 5 | 18 => 10 | 19 => 11 | n => n⟩
theorem Tryz.laysC172 : Go.Proofs.LaysC.n172 Tryz.prog Tryz.laysC172_ren := {
  mixed := by kernel_rfl
  f129 := Tryz.func334.trans (congrArg some (by kernel_rfl))
  f171 := Tryz.func38.trans (congrArg some (by kernel_rfl))
  f172 := Tryz.func86.trans (congrArg some (by kernel_rfl))
  f205 := Tryz.func358.trans (congrArg some (by kernel_rfl))
  f243 := Tryz.func81.trans (congrArg some (by kernel_rfl))
  f244 := Tryz.func150.trans (congrArg some (by kernel_rfl))
  f245 := Tryz.func151.trans (congrArg some (by kernel_rfl))
  f246 := Tryz.func146.trans (congrArg some (by kernel_rfl))
  f247 := Tryz.func237.trans (congrArg some (by kernel_rfl))
  f279 := Tryz.func238.trans (congrArg some (by kernel_rfl))
  f280 := Tryz.func239.trans (congrArg some (by kernel_rfl))
  f281 := Tryz.func240.trans (congrArg some (by kernel_rfl))
  f282 := Tryz.func241.trans (congrArg some (by kernel_rfl))
  f283 := Tryz.func232.trans (congrArg some (by kernel_rfl))
  f284 := Tryz.func233.trans (congrArg some (by kernel_rfl))
  f285 := Tryz.func234.trans (congrArg some (by kernel_rfl))
  f286 := Tryz.func235.trans (congrArg some (by kernel_rfl))
  f287 := Tryz.func231.trans (congrArg some (by kernel_rfl))
  f316 := Tryz.func357.trans (congrArg some (by kernel_rfl))
  f317 := Tryz.func351.trans (congrArg some (by kernel_rfl))
  f318 := Tryz.func352.trans (congrArg some (by kernel_rfl))
  f319 := Tryz.func353.trans (congrArg some (by kernel_rfl))
  f320 := Tryz.func354.trans (congrArg some (by kernel_rfl))
  f321 := Tryz.func349.trans (congrArg some (by kernel_rfl))
  f322 := Tryz.func350.trans (congrArg some (by kernel_rfl))
  f337 := Tryz.func449.trans (congrArg some (by kernel_rfl))
  f338 := Tryz.func450.trans (congrArg some (by kernel_rfl))
  t0 := Tryz.underlying0
  a0 := Tryz.isAgg0
  z0 := Tryz.sizeOf0
  v0 := Tryz.zeroValue0
  t2 := Tryz.underlying2
  a2 := Tryz.isAgg2
  z2 := Tryz.sizeOf2
  v2 := Tryz.zeroValue2
  t3 := Tryz.underlying3
  a3 := Tryz.isAgg3
  z3 := Tryz.sizeOf3
  v3 := Tryz.zeroValue3
  t4 := Tryz.underlying4
  a4 := Tryz.isAgg4
  z4 := Tryz.sizeOf4
  v4 := Tryz.zeroValue4
  t5 := Tryz.underlying5
  a5 := Tryz.isAgg5
  z5 := Tryz.sizeOf5
  v5 := Tryz.zeroValue5
  t9 := Tryz.underlying9
  a9 := Tryz.isAgg9
  z9 := Tryz.sizeOf9
  v9 := Tryz.zeroValue9
  t20 := Tryz.underlying20
  a20 := Tryz.isAgg20
  z20 := Tryz.sizeOf20
  v20 := Tryz.zeroValue20
  t21 := Tryz.underlying21
  a21 := Tryz.isAgg21
  z21 := Tryz.sizeOf21
  v21 := Tryz.zeroValue21
  t37 := Tryz.underlying146
  a37 := Tryz.isAgg146
  z37 := Tryz.sizeOf146
  v37 := Tryz.zeroValue146
  t46 := Tryz.underlying306
  a46 := Tryz.isAgg306
  z46 := Tryz.sizeOf306
  v46 := Tryz.zeroValue306
  t51 := Tryz.underlying476
  a51 := Tryz.isAgg476
  z51 := Tryz.sizeOf476
  v51 := Tryz.zeroValue476
  t53 := Tryz.underlying46
  a53 := Tryz.isAgg46
  z53 := Tryz.sizeOf46
  v53 := Tryz.zeroValue46
  t75 := Tryz.underlying165
  a75 := Tryz.isAgg165
  z75 := Tryz.sizeOf165
  v75 := Tryz.zeroValue165
  t76 := Tryz.underlying166
  a76 := Tryz.isAgg166
  z76 := Tryz.sizeOf166
  v76 := Tryz.zeroValue166
  t85 := Tryz.underlying376
  a85 := Tryz.isAgg376
  z85 := Tryz.sizeOf376
  v85 := Tryz.zeroValue376
  t127 := Tryz.underlying311
  a127 := Tryz.isAgg311
  z127 := Tryz.sizeOf311
  v127 := Tryz.zeroValue311
  t143 := Tryz.underlying586
  a143 := Tryz.isAgg586
  z143 := Tryz.sizeOf586
  v143 := Tryz.zeroValue586
  t145 := Tryz.underlying588
  a145 := Tryz.isAgg588
  z145 := Tryz.sizeOf588
  v145 := Tryz.zeroValue588
  t167 := Tryz.underlying375
  a167 := Tryz.isAgg375
  z167 := Tryz.sizeOf375
  v167 := Tryz.zeroValue375
  t168 := Tryz.underlying378
  a168 := Tryz.isAgg378
  z168 := Tryz.sizeOf378
  v168 := Tryz.zeroValue378
  t171 := Tryz.underlying369
  a171 := Tryz.isAgg369
  z171 := Tryz.sizeOf369
  v171 := Tryz.zeroValue369
  t173 := Tryz.underlying372
  a173 := Tryz.isAgg372
  z173 := Tryz.sizeOf372
  v173 := Tryz.zeroValue372
  t175 := Tryz.underlying278
  a175 := Tryz.isAgg278
  z175 := Tryz.sizeOf278
  v175 := Tryz.zeroValue278
  t210 := Tryz.underlying502
  a210 := Tryz.isAgg502
  z210 := Tryz.sizeOf502
  v210 := Tryz.zeroValue502
  t212 := Tryz.underlying497
  a212 := Tryz.isAgg497
  z212 := Tryz.sizeOf497
  v212 := Tryz.zeroValue497
  t213 := Tryz.underlying498
  a213 := Tryz.isAgg498
  z213 := Tryz.sizeOf498
  t232 := Tryz.underlying627
  a232 := Tryz.isAgg627
  z232 := Tryz.sizeOf627
  v232 := Tryz.zeroValue627
  t233 := Tryz.underlying628
  a233 := Tryz.isAgg628
  z233 := Tryz.sizeOf628
  v233 := Tryz.zeroValue628
  g15 := by kernel_rfl
  g16 := by kernel_rfl
  g17 := by kernel_rfl
  g18 := by kernel_rfl
  g19 := by kernel_rfl
  t80 := Tryz.underlying86
  a80 := Tryz.isAgg86
  z80 := Tryz.sizeOf86
  v80 := Tryz.zeroValue86
  i0 := by kernel_rfl
  i2 := by kernel_rfl
  i3 := by kernel_rfl
  i4 := by kernel_rfl
  i5 := by kernel_rfl
  i9 := by kernel_rfl
  i20 := by kernel_rfl
  i21 := by kernel_rfl
  i37 := by kernel_rfl
  i46 := by kernel_rfl
  i51 := by kernel_rfl
  i53 := by kernel_rfl
  i75 := by kernel_rfl
  i76 := by kernel_rfl
  i80 := by kernel_rfl
  i85 := by kernel_rfl
  i127 := by kernel_rfl
  i143 := by kernel_rfl
  i145 := by kernel_rfl
  i167 := by kernel_rfl
  i168 := by kernel_rfl
  i171 := by kernel_rfl
  i173 := by kernel_rfl
  i175 := by kernel_rfl
  i210 := by kernel_rfl
  i212 := by kernel_rfl
  i232 := by kernel_rfl
  i233 := by kernel_rfl
  m15 := by kernel_rfl
  m16 := by kernel_rfl
  m17 := by kernel_rfl
  m18 := by kernel_rfl
  m19 := by kernel_rfl
  c0 := by kernel_rfl
  c2 := by kernel_rfl
  c3 := by kernel_rfl
  c4 := by kernel_rfl
  c5 := by kernel_rfl
  c9 := by kernel_rfl
  c20 := by kernel_rfl
  c21 := by kernel_rfl
  c37 := by kernel_rfl
  c46 := by kernel_rfl
  c51 := by kernel_rfl
  c53 := by kernel_rfl
  c75 := by kernel_rfl
  c76 := by kernel_rfl
  c80 := by kernel_rfl
  c85 := by kernel_rfl
  c127 := by kernel_rfl
  c143 := by kernel_rfl
  c145 := by kernel_rfl
  c167 := by kernel_rfl
  c168 := by kernel_rfl
  c171 := by kernel_rfl
  c173 := by kernel_rfl
  c175 := by kernel_rfl
  c210 := by kernel_rfl
  c212 := by kernel_rfl
  c213 := by kernel_rfl
  c232 := by kernel_rfl
  c233 := by kernel_rfl }
end Go.Proofs
namespace Go.Proofs.YtiagmokcjljliaaGreatDoor
open Go Go.RowKit Go.Proofs
theorem gSynC : Tryz.prog.globalNamed "strconv.ErrSyntax" = some (Tryz.laysC172_ren.g 15) := by kernel_rfl
theorem gRanC : Tryz.prog.globalNamed "strconv.ErrRange" = some (Tryz.laysC172_ren.g 16) := by kernel_rfl
theorem atoiT_ok : Go.Ab.CallOk Tryz.prog (Go.Ab.atoiX 86 378) := by
  refine Go.Ab.atoiX_ok (callB 86 _ Tryz.func86 (by kernel_rfl) (by kernel_rfl)) gSynC gRanC (fun s v w hs h => ?_) (fun s w hs h h0 => ?_) (fun s w hs h h1 => ?_)
  · refine (Any.strconv_Atoi_ok Tryz.laysC172 s (by omega) v h w).mono ?_
    rintro e w' ⟨rfl, rfl | ⟨t, rfl⟩⟩
    · exact ⟨rfl, Below.refl _ _⟩
    · exact ⟨rfl, Lib.bytesWorld_below _ _ _⟩
  · obtain ⟨v, hv, hev⟩ := h0
    refine (Any.strconv_Atoi_syntax Tryz.laysC172 s (by omega) h v w hv hev).mono ?_
    rintro e w' ⟨N, rfl, _, _, hb⟩
    exact ⟨⟨_, rfl⟩, hb⟩
  · obtain ⟨v, hv, hev⟩ := h1
    refine (Any.strconv_Atoi_range Tryz.laysC172 s (by omega) h v w hv hev).mono ?_
    rintro e w' ⟨N, rfl, _, _, hb⟩
    exact ⟨⟨_, rfl⟩, hb⟩
end Go.Proofs.YtiagmokcjljliaaGreatDoor
