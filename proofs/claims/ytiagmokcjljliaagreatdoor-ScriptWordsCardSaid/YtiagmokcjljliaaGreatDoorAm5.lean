/- The abstract machine, 5: library functions by contract. -/
import Derived.Test.YtiagmokcjljliaaGreatDoorAm4
import Derived.Lib.UnsafeStr
import Derived.Lib.Fields
import Derived.Lib.Bytealg
import Derived.Shelf.Unicode.DecodeAny
import Derived.Lib.ParseIntB
/- From the machine to the model's calls. -/
namespace Go.Ab
set_option linter.unusedVariables false
open Go Go.RowKit

def σ00 : St := { cells := fun _ _ => none, loc := fun _ => none, own := fun _ _ => none }

/-- A function that the machine shows true is true, and writes nothing that was there. -/
theorem calls_true {E : Env} (hE : EnvOk E) {f : FuncId} {args : List AV} {us : List Value} (hr : RepL σ00 args us) (h : closedCall E.P (run E) f args = some (.bool true)) (w : World) (hb : Base E.P (· < w.heap.size) w) :
    Calls E.P f us.toArray w fun e w' => e = .returned (.bool true) ∧ Below w.heap.size w w' := by
  have hs : Sim E.P (· < w.heap.size) w .empty σ00 w :=
    ⟨BelowS.refl _ _, hb, fun b o v hv => by simp [σ00] at hv, fun b o v hv => by simp [σ00] at hv, fun _ _ => ⟨rfl, fun _ => rfl⟩, fun id x hx => by simp [AHeap.get, AHeap.empty] at hx, fun id x hx => by simp [AHeap.get, AHeap.empty] at hx,
      fun id id' x x' hx => by simp [AHeap.get, AHeap.empty] at hx⟩
  refine (closed_sound hs (run_sound hE) hr h).2.mono ?_
  rintro e w' ⟨u, rfl, σ1, hext, hsim, hrep⟩
  simp only [Rep] at hrep
  subst hrep
  exact ⟨rfl, hsim.below.os, hsim.below.tape, hsim.below.output, hsim.below.size, hsim.below.block⟩
end Go.Ab

/- A function of the library by her contract: a string goes in, the same string comes out. -/
namespace Go.Ab
set_option linter.unusedVariables false
open Go Go.RowKit

theorem Sim.under {P : Program} {B : Nat → Prop} {W0 : World} {H : AHeap} {σ : St} {w w' : World} (hs : Sim P B W0 H σ w) (h : Below w.heap.size w w') : Sim P B W0 H σ w' := by
  refine ⟨hs.below.trans (.of h hs.size), hs.base, fun b o v e => ?_, hs.one, hs.fresh, hs.keys, fun id x hx => ?_, hs.inj⟩
  · rw [h.cell (hs.cells_lt e)]; exact hs.cells b o v e
  · have ho := hs.obj id x hx
    refine ho.keep σ.le_refl (fun b hb => ?_) (fun _ => rfl)
    obtain ⟨b', hb', _, hlt⟩ := ho.blk
    rw [hb] at hb'
    cases hb'
    exact ⟨h.block b hlt, fun o => rfl⟩

def cloneX (c : FuncId) : CallO := fun f args H =>
  match args with
  | [.str l] => if f = c ∧ l.length ≤ 281474976710656 then some (.str l, H) else none
  | _ => none

theorem cloneX_ok {P : Program} {c : FuncId} (hc : callable P c) (h : ∀ (s : ByteArray) (w : World), s.size ≤ 281474976710656 → Calls P c #[.string s] w fun e w' => e = .returned (.string s) ∧ Below w.heap.size w w') : CallOk P (cloneX c) := by
  intro f args H v H' hx
  unfold cloneX at hx
  split at hx
  · rename_i l
    split at hx
    · rename_i hf
      obtain ⟨rfl, hl⟩ := hf
      simp only [Option.some.injEq, Prod.mk.injEq] at hx
      obtain ⟨rfl, rfl⟩ := hx
      refine ⟨hc, ?_⟩
      intro B W0 σ w us hs hr
      simp only [RepL] at hr
      obtain ⟨u, us', rfl, h1, rfl⟩ := hr
      simp only [Rep] at h1
      subst h1
      refine (h ⟨l.toArray⟩ w (by simpa [ByteArray.size] using hl)).mono ?_
      rintro e w' ⟨rfl, hb⟩
      exact ⟨_, rfl, σ, Ext.refl B σ, hs.under hb, by simp [Rep]⟩
    · cases hx
  · cases hx
end Go.Ab

/- strings.Builder: what of its code lies outside the machine (addresses compared, bytes turned into a string in their place), by contract. -/
namespace Go.Ab
set_option linter.unusedVariables false
open Go Go.RowKit

section
variable {P : Program} {B : Nat → Prop} {W0 : World} {H : AHeap} {σ : St} {w : World}

def isNilP : AV → Bool | .val (.pointer none) => true | _ => false
def isPtr0 (id : Nat) : AV → Bool | .ptr i 0 => i == id | _ => false

/-- copyCheck: the builder's own address. -/
def copyX (f0 : FuncId) (T : TypeId) : CallO := fun f args H =>
  if f = f0 then
    match args with
    | [.ptr id 0] => match H.get id with
      | some (.cells (some t) [c, v]) =>
        if t = T then (if isNilP c = true then some (.tup [], H.set id (.cells (some t) [.ptr id 0, v])) else if isPtr0 id c = true then some (.tup [], H) else none) else none
      | _ => none
    | _ => none
  else none

theorem isNilP_spec {c : AV} (h : isNilP c = true) : c = .val (.pointer none) := by
  unfold isNilP at h
  split at h
  · rfl
  · cases h
theorem isPtr0_spec {c : AV} {id : Nat} (h : isPtr0 id c = true) : c = .ptr id 0 := by
  unfold isPtr0 at h
  split at h
  · simp only [beq_iff_eq] at h; rw [h]
  · cases h

theorem setCell_row (w : World) (b : Nat) (c : Array Value) (e : TypeId) (v : Value) (h : w.heap[b]? = some (.cells c e (0, 0))) : w.setCell ⟨b, 0, none⟩ v = w.setRow b (c.setIfInBounds 0 v) := by
  have hb : b < w.heap.size := (Array.getElem?_eq_some_iff.1 h).1
  have hg : w.heap[b] = .cells c e (0, 0) := (Array.getElem?_eq_some_iff.1 h).2
  unfold World.setCell World.setRow
  congr 1
  apply Array.ext
  · simp
  · intro i h1 h2
    simp only [Array.getElem_modify]
    by_cases hi : b = i
    · subst hi
      simp [hg]
    · simp [hi]

theorem copyX_ok {f0 : FuncId} {T : TypeId} (hc : callable P f0)
    (h1 : ∀ (b : Nat) (w : World), w.cell? ⟨b, 0, none⟩ = some (.pointer (some ⟨b, 0, none⟩)) → Calls P f0 #[.pointer (some ⟨b, 0, none⟩)] w fun e w' => e = .returned (.tuple #[]) ∧ w' = w)
    (h2 : ∀ (b : Nat) (w : World), w.cell? ⟨b, 0, none⟩ = some (.pointer none) → w.shape? b = some (T, 2) → w.frozen? ⟨b, 0, none⟩ = false → Calls P f0 #[.pointer (some ⟨b, 0, none⟩)] w fun e w' => e = .returned (.tuple #[]) ∧ w' = w.setCell ⟨b, 0, none⟩ (.pointer (some ⟨b, 0, none⟩))) :
    CallOk P (copyX f0 T) := by
  intro f args H v H' hx
  unfold copyX at hx
  split at hx
  · rename_i hf
    subst hf
    refine ⟨hc, ?_⟩
    split at hx
    · rename_i id
      split at hx
      · rename_i t c x hg
        split at hx
        · rename_i ht
          subst ht
          intro B W0 σ w us hs hr
          simp only [RepL] at hr
          obtain ⟨u, us', rfl, hu, rfl⟩ := hr
          simp only [Rep] at hu
          obtain ⟨b, hb, rfl⟩ := hu
          obtain ⟨b', cc, e, q1, q2, q3, q4, q5, q6⟩ := hs.obj id _ hg
          rw [hb] at q1
          cases q1
          have := q6 _ rfl
          subst this
          simp only [RepL] at q4
          obtain ⟨u0, r1, e1, hu0, u1, r2, e2, hu1, e3⟩ := q4
          subst e3 e2
          have hcc : cc = #[u0, u1] := by
            apply Array.ext'
            simpa using e1
          subst hcc
          have hcell : w.cell? ⟨b, 0, none⟩ = some u0 := by rw [cell_of_row q3]; rfl
          split at hx
          · rename_i hn
            rw [isNilP_spec hn] at hu0
            simp only [Rep] at hu0
            subst hu0
            simp only [Option.some.injEq, Prod.mk.injEq] at hx
            obtain ⟨rfl, rfl⟩ := hx
            refine (h2 b w hcell (by simp [World.shape?, q3]) (by simp [World.frozen?, q3])).mono ?_
            rintro e w' ⟨rfl, rfl⟩
            refine ⟨_, rfl, σ, Ext.refl B σ, ?_, by simp [Rep, RepL]⟩
            rw [setCell_row w b _ _ _ q3]
            refine hs.set_cells hg hb q3 ?_
            simp only [RepL]
            exact ⟨_, _, rfl, by simp [Rep, hb], _, _, rfl, hu1, rfl⟩
          · split at hx
            · rename_i hn
              rw [isPtr0_spec hn] at hu0
              simp only [Rep] at hu0
              obtain ⟨b2, hb2, rfl⟩ := hu0
              rw [hb] at hb2
              cases hb2
              simp only [Option.some.injEq, Prod.mk.injEq] at hx
              obtain ⟨rfl, rfl⟩ := hx
              refine (h1 b w hcell).mono ?_
              rintro e w' ⟨rfl, rfl⟩
              exact ⟨_, rfl, σ, Ext.refl B σ, hs, by simp [Rep, RepL]⟩
            · cases hx
        · cases hx
      · cases hx
    · cases hx
  · cases hx

/-- String: the bytes, which nobody may write or append to from then on. -/
def stringX (f0 : FuncId) (T : TypeId) : CallO := fun f args H =>
  if f = f0 then
    match args with
    | [.ptr id 0] => match H.get id with
      | some (.cells (some t) [_, .vec o es]) =>
        if t = T then
          match o with
          | .nil => if es.length = 0 then some (.str [], H) else none
          | .own k => match H.get k with
            | some (.tip n et) => if et = 5 ∧ n = es.length ∧ n ≠ 0 then bnd (bytesA es) fun l => some (.str l, H.del k) else none
            | _ => none
          | _ => none
        else none
      | _ => none
    | _ => none
  else none

theorem touch_freeze (hs : Sim P B W0 H σ w) {k n : Nat} {et : TypeId} (hk : H.get k = some (.tip n et)) {g cap : Nat} (hg : σ.own k n = some (g, cap)) (m : Nat) : Sim P B W0 (H.del k) σ (w.drew.freeze ⟨g, 0, none⟩ m) := by
  have hB : ¬ B g := by
    obtain ⟨b, cap', c, s, q1, q2, _⟩ := hs.obj k _ hk
    rw [hg] at q1
    cases q1
    exact q2
  have hother : ∀ i, i ≠ g → (w.drew.freeze ⟨g, 0, none⟩ m).heap[i]? = w.heap[i]? := fun i hi => by
    unfold World.freeze
    split
    · rfl
    · simp only [Array.getElem?_modify]
      rw [if_neg (fun e => hi e.symm)]
      rfl
  refine (hs.del k).touch (b := g) hother (fun o => ?_) (hs.below.trans ⟨?_, ?_, ?_, ?_, fun i hi => hother i (by rintro rfl; exact hB hi)⟩) (fun id y hy he => ?_)
  · unfold World.freeze
    split
    · rfl
    · simp only [World.cell?, Array.getElem?_modify, if_true]
      have hdr : w.drew.heap[g]? = w.heap[g]? := rfl
      rw [hdr]
      cases h : w.heap[g]? with
      | none => rfl
      | some x => cases x <;> rfl
  · unfold World.freeze; split <;> rfl
  · unfold World.freeze; split <;> rfl
  · unfold World.freeze; split <;> rfl
  · unfold World.freeze; split
    · exact Nat.le_refl _
    · show w.heap.size ≤ (Array.modify w.heap g _).size
      simp
  · have hy' : H.get id = some y ∧ id ≠ k := by
      rw [AHeap.get_del] at hy
      split at hy
      · cases hy
      · rename_i hne; exact ⟨hy, fun e => hne e.symm⟩
    exact hy'.2 (hs.inj id k y _ hy'.1 hk (by rw [he]; simp [blk, hg]))

theorem stringX_ok {f0 : FuncId} {T : TypeId} (hc : callable P f0) (hsz : szQ P 5 = some 1)
    (h1 : ∀ (b : Nat) (p : Value) (w : World), w.heap[b]? = some (.cells #[p, .slice none 0 0] T (0, 0)) → Calls P f0 #[.pointer (some ⟨b, 0, none⟩)] w fun e w' => e = .returned (.string ⟨#[]⟩) ∧ w' = w.drew)
    (h2 : ∀ (b g cap : Nat) (p : Value) (cur : Array Value) (l : List UInt8) (w : World), w.heap[b]? = some (.cells #[p, .slice (some ⟨g, 0, none⟩) l.length cap] T (0, 0)) → w.heap[g]? = some (.cells cur 5 (0, 0)) → cur.size = cap → l.length ≤ cap → cap ≤ maxLen → l ≠ [] →
      (∀ j x, l[j]? = some x → w.cell? ⟨g, j, none⟩ = some (.int .u8 x.toNat)) → Calls P f0 #[.pointer (some ⟨b, 0, none⟩)] w fun e w' => e = .returned (.string ⟨l.toArray⟩) ∧ w' = w.drew.freeze ⟨g, 0, none⟩ l.length) :
    CallOk P (stringX f0 T) := by
  intro f args H v H' hx
  unfold stringX at hx
  split at hx
  · rename_i hf
    subst hf
    refine ⟨hc, ?_⟩
    split at hx
    · rename_i id
      split at hx
      · rename_i t c o es hg
        split at hx
        · rename_i ht
          subst ht
          intro B W0 σ w us hs hr
          simp only [RepL] at hr
          obtain ⟨u, us', rfl, hu, rfl⟩ := hr
          simp only [Rep] at hu
          obtain ⟨b, hb, rfl⟩ := hu
          obtain ⟨b', cc, e, q1, q2, q3, q4, q5, q6⟩ := hs.obj id _ hg
          rw [hb] at q1
          cases q1
          have := q6 _ rfl
          subst this
          simp only [RepL] at q4
          obtain ⟨u0, r1, e1, hu0, u1, r2, e2, hu1, e3⟩ := q4
          subst e3 e2
          have hcc : cc = #[u0, u1] := by
            apply Array.ext'
            simpa using e1
          subst hcc
          have hu1' := hu1
          simp only [Rep] at hu1
          obtain ⟨a, cap, rfl, hle, hown, hrow⟩ := hu1
          split at hx
          · split at hx
            · rename_i h0
              simp only [OwnOk] at hown
              obtain ⟨rfl, _, rfl⟩ := hown
              rw [h0] at q3
              simp only [Option.some.injEq, Prod.mk.injEq] at hx
              obtain ⟨rfl, rfl⟩ := hx
              refine (h1 b u0 w q3).mono ?_
              rintro e w' ⟨rfl, rfl⟩
              exact ⟨_, rfl, σ, Ext.refl B σ, hs.drew, by simp [Rep]⟩
            · cases hx
          · rename_i k
            split at hx
            · rename_i n et hk
              split at hx
              · rename_i hq
                obtain ⟨rfl, rfl, hn0⟩ := hq
                cases hby : bytesA es with
                | none => simp [hby, bnd] at hx
                | some l =>
                  simp only [hby, bnd, Option.some.injEq, Prod.mk.injEq] at hx
                  obtain ⟨rfl, rfl⟩ := hx
                  have hes := bytesA_spec hby
                  have hlen : es.length = l.length := by rw [hes]; simp
                  simp only [OwnOk] at hown
                  obtain ⟨g, hgo, rfl⟩ := hown
                  obtain ⟨g', cap', cur, s, p1, p2, p3, p4, p5, p6, p7, p8, p9⟩ := hs.obj k _ hk
                  rw [hgo] at p1
                  cases p1
                  rw [hsz] at p4
                  cases p4
                  have hl0 : l ≠ [] := by
                    rintro rfl
                    exact hn0 (by rw [hlen]; rfl)
                  have hcells : ∀ j x, l[j]? = some x → w.cell? ⟨g, j, none⟩ = some (.int .u8 x.toNat) := by
                    intro j x hj
                    have hw : allWidth 1 es = true := by rw [hes]; exact byteRow_width l
                    obtain ⟨a2, cap2, us, e4, _, _, r2, _, hc2, _⟩ := vec_cells hs hu1' hw
                    cases e4
                    have hfl : es.flatMap AV.cells = es := by rw [hes]; exact byteRow_flat l
                    rw [hfl] at r2
                    have hje : es[j]? = some (.int .u8 x.toNat) := by rw [hes]; simp [hj]
                    obtain ⟨u, hu, ru⟩ := r2.get hje
                    simp only [Rep] at ru
                    subst ru
                    have := hc2 _ rfl j _ hu
                    rw [Addr.add_mk] at this
                    simpa using this
                  rw [hlen] at q3
                  refine (h2 b g cap u0 cur l w q3 p3 (by simpa using p5) (by omega) p7 hl0 hcells).mono ?_
                  rintro e w' ⟨rfl, rfl⟩
                  exact ⟨_, rfl, σ, Ext.refl B σ, touch_freeze hs hk hgo _, by simp [Rep]⟩
              · cases hx
            · cases hx
          · cases hx
        · cases hx
      · cases hx
    · cases hx
  · cases hx

/-- One contract, or else another. -/
def orX (a b : CallO) : CallO := fun f args H => match a f args H with | some r => some r | none => b f args H
theorem orX_ok {a b : CallO} (ha : CallOk P a) (hb : CallOk P b) : CallOk P (orX a b) := by
  intro f args H v H' h
  unfold orX at h
  split at h
  · rename_i r hr
    cases h
    exact ha f args H v H' hr
  · exact hb f args H v H' h
end
end Go.Ab

/- strings.Builder over rows, strings.Fields, the index of a byte: by contract. -/
namespace Go.Ab
set_option linter.unusedVariables false
open Go Go.RowKit

section
variable {P : Program} {B : Nat → Prop} {W0 : World} {H : AHeap} {σ : St} {w : World}

theorem Sim.like (hs : Sim P B W0 H σ w) {w' : World} (h1 : w'.heap = w.heap) (h2 : w'.os = w.os) (h3 : w'.tape = w.tape) (h4 : w'.output = w.output) : Sim P B W0 H σ w' := by
  refine ⟨⟨h2.trans hs.below.os, h3.trans hs.below.tape, h4.trans hs.below.output, by rw [h1]; exact hs.below.size, fun k hk => by rw [h1]; exact hs.below.block k hk⟩, hs.base, fun b o v e => ?_, hs.one, hs.fresh, hs.keys, fun id x hx => ?_, hs.inj⟩
  · have := hs.cells b o v e
    simpa only [World.cell?, h1] using this
  · exact (hs.obj id x hx).keep σ.le_refl (fun b hb => ⟨by rw [h1], fun o => rfl⟩) (fun _ => rfl)

theorem setCell_rowAt (w : World) (b o : Nat) (c : Array Value) (e : TypeId) (v : Value) (h : w.heap[b]? = some (.cells c e (0, 0))) : w.setCell ⟨b, o, none⟩ v = w.setRow b (c.setIfInBounds o v) := by
  have hb : b < w.heap.size := (Array.getElem?_eq_some_iff.1 h).1
  have hg : w.heap[b] = .cells c e (0, 0) := (Array.getElem?_eq_some_iff.1 h).2
  unfold World.setCell World.setRow
  congr 1
  apply Array.ext
  · simp
  · intro i h1 h2
    simp only [Array.getElem_modify]
    by_cases hi : b = i
    · subst hi
      simp [hg]
    · simp [hi]

/-- A builder's cells. -/
theorem two_cells {u0 u1 : Value} {cc : Array Value} (e1 : cc.toList = [u0, u1]) : cc = #[u0, u1] := by
  apply Array.ext'
  simpa using e1

/-- Grow, at a builder without a buffer: an empty row with room. -/
def growX (f0 : FuncId) (T bt : TypeId) : CallO := fun f args H =>
  if f = f0 then
    match args with
    | [.ptr id 0, .int .i64 n] => match H.get id with
      | some (.cells (some t) [c, .vec .nil []]) =>
        if t = T ∧ isNilP c = true ∧ 0 < n ∧ n ≤ 1099511627776 then
          some (.tup [], ((H.set id (.cells (some t) [.ptr id 0, .vec .nil []])).push (.row 0 bt 1 [])).set id (.cells (some t) [.ptr id 0, .sl H.next 1 0 0]))
        else none
      | _ => none
    | _ => none
  else none

theorem growX_ok {f0 : FuncId} {T bt : TypeId} (hc : callable P f0) (hsz : szQ P bt = some 1)
    (h1 : ∀ (b n : Nat) (w : World), w.heap[b]? = some (.cells #[.pointer none, .slice none 0 0] T (0, 0)) → 0 < n → n ≤ 1099511627776 → Calls P f0 #[.pointer (some ⟨b, 0, none⟩), .int .i64 n] w fun e w' => e = .returned (.tuple #[]) ∧
      ∃ cs : Array Value, cs.size ≤ maxLen ∧ w'.heap = (((w.setCell ⟨b, 0, none⟩ (.pointer (some ⟨b, 0, none⟩))).alloc (.cells cs bt)).setCell ⟨b, 1, none⟩ (.slice (some ⟨w.heap.size, 0, none⟩) 0 cs.size)).heap ∧ w'.os = w.os ∧ w'.tape = w.tape ∧ w'.output = w.output) :
    CallOk P (growX f0 T bt) := by
  intro f args H v H' hx
  unfold growX at hx
  split at hx
  · rename_i hf
    subst hf
    refine ⟨hc, ?_⟩
    split at hx
    · rename_i id n
      split at hx
      · rename_i t c hg
        split at hx
        · rename_i hq
          obtain ⟨rfl, hn, hn0, hn1⟩ := hq
          intro B W0 σ w us hs hr
          simp only [RepL] at hr
          obtain ⟨u, us', rfl, hu, u2, us2, rfl, hu2, rfl⟩ := hr
          simp only [Rep] at hu hu2
          subst hu2
          obtain ⟨b, hb, rfl⟩ := hu
          obtain ⟨b', cc, e, q1, q2, q3, q4, q5, q6⟩ := hs.obj id _ hg
          rw [hb] at q1
          cases q1
          have := q6 _ rfl
          subst this
          simp only [RepL] at q4
          obtain ⟨u0, r1, e1, hu0, u1, r2, e2, hu1, e3⟩ := q4
          subst e3 e2
          have hcc := two_cells e1
          subst hcc
          rw [isNilP_spec hn] at hu0
          simp only [Rep] at hu0
          subst hu0
          have hu1' := hu1
          simp only [Rep] at hu1
          obtain ⟨a, cap, rfl, _, hown, _⟩ := hu1
          simp only [OwnOk] at hown
          obtain ⟨rfl, _, rfl⟩ := hown
          simp only [Option.some.injEq, Prod.mk.injEq] at hx
          obtain ⟨rfl, rfl⟩ := hx
          obtain ⟨m, rfl⟩ : ∃ m : Nat, n = m := ⟨n.toNat, by omega⟩
          have hid := hs.keys id _ hg
          have hblt : b < w.heap.size := (Array.getElem?_eq_some_iff.1 q3).1
          refine (h1 b m w q3 (by omega) (by omega)).mono ?_
          rintro ex w' ⟨rfl, cs, hmax, hheap, e1, e2, e3⟩
          replace q3 : w.heap[b]? = some (.cells #[.pointer none, .slice none 0 0] e (0, 0)) := q3
          have s1 := hs.set_cells (cs' := [.ptr id 0, .vec .nil []]) hg hb q3 (c' := #[.pointer (some ⟨b, 0, none⟩), .slice none 0 0]) (by
            simp only [RepL]
            exact ⟨_, _, rfl, by simp [Rep, hb], _, _, rfl, hu1', rfl⟩)
          have s2 := s1.row_new (n := 0) (s := 1) (cap := cs.size) (et := bt) (cs := []) (us := []) (zs := cs) (w1 := w.setRow b #[.pointer (some ⟨b, 0, none⟩), .slice none 0 0]) hsz (by omega) (by simp [RepL]) (by simp) (by simp) (by simp) (by omega) hmax rfl s1.below
          have hnx : (H.set id (.cells (some e) [.ptr id 0, .vec .nil []])).next = H.next := rfl
          have hws : (w.setRow b #[.pointer (some ⟨b, 0, none⟩), .slice none 0 0]).heap.size = w.heap.size := by simp [World.setRow]
          rw [hnx, hws] at s2
          obtain ⟨s2, ext2⟩ := s2
          have g2 : ((H.set id (.cells (some e) [.ptr id 0, .vec .nil []])).push (.row 0 bt 1 [])).get id = some (.cells (some e) [.ptr id 0, .vec .nil []]) := by
            rw [AHeap.get_push, hnx, if_neg (by omega), AHeap.get_set, if_pos rfl, hg]; rfl
          have b2 : (σ.bindR H.next w.heap.size cs.size).loc id = some b := by
            simp only [St.bindR]
            rw [if_neg (by omega)]
            exact hb
          have hrow : (w.setRow b #[.pointer (some ⟨b, 0, none⟩), .slice none 0 0]).heap[b]? = some (.cells #[.pointer (some ⟨b, 0, none⟩), .slice none 0 0] e (0, 0)) := setRow_heap w b _ _ e (0, 0) q3
          have q3b : ((w.setRow b #[.pointer (some ⟨b, 0, none⟩), .slice none 0 0]).alloc (.cells (([] : List Value).toArray ++ cs) bt)).heap[b]? = some (.cells #[.pointer (some ⟨b, 0, none⟩), .slice none 0 0] e (0, 0)) := by
            rw [heap_old _ _ (by rw [hws]; exact hblt)]
            exact hrow
          have s3 := s2.set_cells (cs' := [.ptr id 0, .sl H.next 1 0 0]) g2 b2 q3b (c' := #[.pointer (some ⟨b, 0, none⟩), .slice (some ⟨w.heap.size, 0, none⟩) 0 cs.size]) (by
            simp only [RepL]
            refine ⟨_, _, rfl, by simp only [Rep]; exact ⟨b, b2, rfl⟩, _, _, rfl, ?_, rfl⟩
            simp only [Rep]
            exact ⟨w.heap.size, cs.size, by simp [St.bindR], by simp [St.bindR], by simp, by omega⟩)
          refine ⟨_, rfl, _, ext2, s3.like ?_ e1 e2 e3, by simp [Rep, RepL]⟩
          rw [hheap, setCell_rowAt w b 0 _ _ _ q3]
          have q3c : ((w.setRow b (#[Value.pointer none, .slice none 0 0].setIfInBounds 0 (.pointer (some ⟨b, 0, none⟩)))).alloc (.cells cs bt)).heap[b]? = some (.cells #[.pointer (some ⟨b, 0, none⟩), .slice none 0 0] e (0, 0)) := by
            rw [heap_old _ _ (by show b < (w.setRow b _).heap.size; simpa [World.setRow] using hblt)]
            exact hrow
          rw [setCell_rowAt _ b 1 _ _ _ q3c]
          simp
        · cases hx
      · cases hx
    · cases hx
  · cases hx

/-- String: the bytes, which nobody may write or append to from then on. -/
def stringY (f0 : FuncId) (T bt : TypeId) : CallO := fun f args H =>
  if f = f0 then
    match args with
    | [.ptr id 0] => match H.get id with
      | some (.cells (some t) [_, .vec .nil []]) => if t = T then some (.str [], H) else none
      | some (.cells (some t) [_, .sl k s off len]) =>
        if t = T ∧ s = 1 ∧ off = 0 then
          match H.get k with
          | some (.row n et s2 cs) => if et = bt ∧ s2 = 1 ∧ len ≤ n ∧ len ≠ 0 then bnd (bytesA (cs.take len)) fun l => some (.str l, H.del k) else none
          | _ => none
        else none
      | _ => none
    | _ => none
  else none

theorem touch_freezeB (hs : Sim P B W0 H σ w) {k g : Nat} {x : AObj} (hk : H.get k = some x) (hg : blk σ k x = some g) (m : Nat) : Sim P B W0 (H.del k) σ (w.drew.freeze ⟨g, 0, none⟩ m) := by
  have hB : ¬ B g := by
    obtain ⟨b, h1, h2, _⟩ := (hs.obj k _ hk).blk
    rw [hg] at h1
    cases h1
    exact h2
  have hother : ∀ i, i ≠ g → (w.drew.freeze ⟨g, 0, none⟩ m).heap[i]? = w.heap[i]? := fun i hi => by
    unfold World.freeze
    split
    · rfl
    · simp only [Array.getElem?_modify]
      rw [if_neg (fun e => hi e.symm)]
      rfl
  refine (hs.del k).touch (b := g) hother (fun o => ?_) (hs.below.trans ⟨?_, ?_, ?_, ?_, fun i hi => hother i (by rintro rfl; exact hB hi)⟩) (fun id y hy he => ?_)
  · unfold World.freeze
    split
    · rfl
    · simp only [World.cell?, Array.getElem?_modify, if_true]
      have hdr : w.drew.heap[g]? = w.heap[g]? := rfl
      rw [hdr]
      cases h : w.heap[g]? with
      | none => rfl
      | some x => cases x <;> rfl
  · unfold World.freeze; split <;> rfl
  · unfold World.freeze; split <;> rfl
  · unfold World.freeze; split <;> rfl
  · unfold World.freeze; split
    · exact Nat.le_refl _
    · show w.heap.size ≤ (Array.modify w.heap g _).size
      simp
  · have hy' : H.get id = some y ∧ id ≠ k := by
      rw [AHeap.get_del] at hy
      split at hy
      · cases hy
      · rename_i hne; exact ⟨hy, fun e => hne e.symm⟩
    exact hy'.2 (hs.inj id k y _ hy'.1 hk (by rw [he, hg]))

theorem stringY_ok {f0 : FuncId} {T bt : TypeId} (hc : callable P f0)
    (h1 : ∀ (b : Nat) (p : Value) (w : World), w.heap[b]? = some (.cells #[p, .slice none 0 0] T (0, 0)) → Calls P f0 #[.pointer (some ⟨b, 0, none⟩)] w fun e w' => e = .returned (.string ⟨#[]⟩) ∧ w' = w.drew)
    (h2 : ∀ (b g cap : Nat) (p : Value) (cur : Array Value) (l : List UInt8) (w : World), w.heap[b]? = some (.cells #[p, .slice (some ⟨g, 0, none⟩) l.length cap] T (0, 0)) → w.heap[g]? = some (.cells cur bt (0, 0)) → cur.size = cap → l.length ≤ cap → cap ≤ maxLen → l ≠ [] →
      (∀ j x, l[j]? = some x → w.cell? ⟨g, j, none⟩ = some (.int .u8 x.toNat)) → Calls P f0 #[.pointer (some ⟨b, 0, none⟩)] w fun e w' => e = .returned (.string ⟨l.toArray⟩) ∧ w' = w.drew.freeze ⟨g, 0, none⟩ l.length) :
    CallOk P (stringY f0 T bt) := by
  intro f args H v H' hx
  unfold stringY at hx
  split at hx
  · rename_i hf
    subst hf
    refine ⟨hc, ?_⟩
    split at hx
    · rename_i id
      split at hx
      · rename_i t c hg
        split at hx
        · rename_i ht
          subst ht
          intro B W0 σ w us hs hr
          simp only [RepL] at hr
          obtain ⟨u, us', rfl, hu, rfl⟩ := hr
          simp only [Rep] at hu
          obtain ⟨b, hb, rfl⟩ := hu
          obtain ⟨b', cc, e, q1, q2, q3, q4, q5, q6⟩ := hs.obj id _ hg
          rw [hb] at q1
          cases q1
          have := q6 _ rfl
          subst this
          simp only [RepL] at q4
          obtain ⟨u0, r1, e1, hu0, u1, r2, e2, hu1, e3⟩ := q4
          subst e3 e2
          have hcc := two_cells e1
          subst hcc
          simp only [Rep] at hu1
          obtain ⟨a, cap, rfl, _, hown, _⟩ := hu1
          simp only [OwnOk] at hown
          obtain ⟨rfl, _, rfl⟩ := hown
          simp only [Option.some.injEq, Prod.mk.injEq] at hx
          obtain ⟨rfl, rfl⟩ := hx
          refine (h1 b u0 w q3).mono ?_
          rintro e w' ⟨rfl, rfl⟩
          exact ⟨_, rfl, σ, Ext.refl B σ, hs.drew, by simp [Rep]⟩
        · cases hx
      · rename_i t c k s off len hg
        split at hx
        · rename_i hq
          obtain ⟨rfl, rfl, rfl⟩ := hq
          split at hx
          · rename_i n et s2 cs hk
            split at hx
            · rename_i hq
              obtain ⟨rfl, rfl, hln, hl0⟩ := hq
              cases hby : bytesA (cs.take len) with
              | none => simp [hby, bnd] at hx
              | some l =>
                simp only [hby, bnd, Option.some.injEq, Prod.mk.injEq] at hx
                obtain ⟨rfl, rfl⟩ := hx
                intro B W0 σ w us hs hr
                simp only [RepL] at hr
                obtain ⟨u, us', rfl, hu, rfl⟩ := hr
                simp only [Rep] at hu
                obtain ⟨b, hb, rfl⟩ := hu
                obtain ⟨b', cc, e, q1, q2, q3, q4, q5, q6⟩ := hs.obj id _ hg
                rw [hb] at q1
                cases q1
                have := q6 _ rfl
                subst this
                simp only [RepL] at q4
                obtain ⟨u0, r1, e1, hu0, u1, r2, e2, hu1, e3⟩ := q4
                subst e3 e2
                have hcc := two_cells e1
                subst hcc
                simp only [Rep] at hu1
                obtain ⟨g, cap, w1, w2, rfl, hcap⟩ := hu1
                obtain ⟨g', cap', cur, p1, p1', p2, p3, p4, p5, p6, p7, p8, p9, p10, p11, p12⟩ := hs.obj k _ hk
                rw [w1] at p1
                cases p1
                rw [w2] at p1'
                cases p1'
                have hes := bytesA_spec hby
                have hcl : cs.length = n := by omega
                have hlen : l.length = len := by
                  have := congrArg List.length hes
                  simp only [List.length_take, List.length_map] at this
                  omega
                have hcells : ∀ j x, l[j]? = some x → w.cell? ⟨g, j, none⟩ = some (.int .u8 x.toNat) := by
                  intro j x hj
                  have hjl : j < len := by have := (List.getElem?_eq_some_iff.1 hj).1; omega
                  have hje : (cs.take len)[j]? = some (.int .u8 x.toNat) := by rw [hes]; simp [hj]
                  rw [List.getElem?_take_of_lt hjl] at hje
                  obtain ⟨u, hu, ru⟩ := p10.get hje
                  simp only [Rep] at ru
                  subst ru
                  rw [List.getElem?_take_of_lt (by omega), Array.getElem?_toList] at hu
                  rw [cell_of_row p3]
                  exact hu
                simp only [Nat.zero_mul, Nat.sub_zero] at q3
                rw [← hlen] at q3
                refine (h2 b g cap u0 cur l w q3 p3 (by omega) (by omega) p8 (by intro h; rw [h] at hlen; simp at hlen; omega) hcells).mono ?_
                rintro e w' ⟨rfl, rfl⟩
                exact ⟨_, rfl, σ, Ext.refl B σ, touch_freezeB hs hk (by simpa [blk] using w1) _, by simp [Rep]⟩
            · cases hx
          · cases hx
        · cases hx
      · cases hx
    · cases hx
  · cases hx

/-- The index of a byte. -/
def indexX (f0 : FuncId) : CallO := fun f args H =>
  match args with
  | [.str l, .int .u8 c] => if f = f0 then some (.int .i64 (Lib.indexByte l c.toNat.toUInt8), H) else none
  | _ => none

theorem indexX_ok {f0 : FuncId} (hc : callable P f0) (h : ∀ (s : ByteArray) (c : Int) (w : World), Calls P f0 #[.string s, .int .u8 c] w fun e w' => e = .returned (.int .i64 (Lib.indexByte s.data.toList c.toNat.toUInt8)) ∧ w' = w) : CallOk P (indexX f0) := by
  intro f args H v H' hx
  unfold indexX at hx
  split at hx
  · rename_i l c
    split at hx
    · rename_i hf
      subst hf
      simp only [Option.some.injEq, Prod.mk.injEq] at hx
      obtain ⟨rfl, rfl⟩ := hx
      refine ⟨hc, ?_⟩
      intro B W0 σ w us hs hr
      simp only [RepL] at hr
      obtain ⟨u, us', rfl, h1, u2, us2, rfl, h2, rfl⟩ := hr
      simp only [Rep] at h1 h2
      subst h1 h2
      refine (h ⟨l.toArray⟩ c w).mono ?_
      rintro e w' ⟨rfl, rfl⟩
      exact ⟨_, rfl, σ, Ext.refl B σ, hs, by simp [Rep]⟩
    · cases hx
  · cases hx

/-- strings.Fields, of bytes below 128. -/
def fieldsX (f0 : FuncId) : CallO := fun f args H =>
  match args with
  | [.str l] => if f = f0 ∧ l.length < 4294967281 ∧ (l.all fun b => decide (b.toNat < 128)) = true then some (.vec .full ((Lib.fields l).map .str), H) else none
  | _ => none

theorem strRow_rep {σ : St} {b : Nat} : ∀ (l : List (List UInt8)) (off : Nat), (∀ j x, l[j]? = some x → σ.cells b (off + j) = some (.string ⟨x.toArray⟩)) → RepRow σ b 1 off (l.map .str)
  | [], _, _ => by simp [RepRow]
  | x :: l, off, h => by
    show RepRow σ b 1 off (.str x :: l.map .str)
    simp only [RepRow]
    refine ⟨⟨.string ⟨x.toArray⟩, by simp [Rep], rfl, fun j v hj => ?_⟩, strRow_rep l (off + 1) fun j y hj => ?_⟩
    · have : j = 0 := by have := (Array.getElem?_eq_some_iff.1 hj).1; simp [Value.cells] at this; omega
      subst this
      simp [Value.cells] at hj
      subst hj
      exact h 0 x rfl
    · have := h (j + 1) y (by simpa using hj)
      rw [show off + 1 + j = off + (j + 1) by omega]
      exact this

theorem fieldsX_ok {f0 : FuncId} {g t9 : Nat} (hc : callable P f0) (hg : P.globalNamed "strings.asciiSpace" = some g)
    (h : ∀ (s : ByteArray) (w : World), s.size < 4294967281 → (∀ (j : Nat) b, s.data.toList[j]? = some b → b.toNat < 128) → (∀ c : Nat, c < 256 → w.cell? ⟨g, c, none⟩ = some (.int .u8 (if Lib.isSp (UInt8.ofNat c) then 1 else 0))) →
      Calls P f0 #[.string s] w fun e w' => e = .returned (.slice (some ⟨w.heap.size, 0, none⟩) (Lib.fields s.data.toList).length (Lib.fields s.data.toList).length) ∧ w' = w.alloc (.cells ((Lib.fields s.data.toList).map fun l => Value.string ⟨l.toArray⟩).toArray t9)) :
    CallOk P (fieldsX f0) := by
  intro f args H v H' hx
  unfold fieldsX at hx
  split at hx
  · rename_i l
    split at hx
    · rename_i hq
      obtain ⟨rfl, hl, ha⟩ := hq
      simp only [Option.some.injEq, Prod.mk.injEq] at hx
      obtain ⟨rfl, rfl⟩ := hx
      refine ⟨hc, ?_⟩
      intro B W0 σ w us hs hr
      simp only [RepL] at hr
      obtain ⟨u, us', rfl, h1, rfl⟩ := hr
      simp only [Rep] at h1
      subst h1
      refine (h ⟨l.toArray⟩ w (by simpa [ByteArray.size] using hl) (fun j b hb => by
        have hb' : l[j]? = some b := by simpa using hb
        simpa using List.all_eq_true.1 ha b (List.mem_of_getElem? hb')) (fun c hc => by
          obtain ⟨_, v, hv, hp⟩ := hs.baseNow.tab g c _ (.space g c hg hc)
          rw [hv, hp])).mono ?_
      rintro e w' ⟨rfl, rfl⟩
      have hk := hs.know_new (cs := (Lib.fields l).map fun l => Value.string ⟨l.toArray⟩) (c := ((Lib.fields l).map fun l => Value.string ⟨l.toArray⟩).toArray) (et := t9) (w1 := w) rfl hs.below (fun j v hj => by simpa using hj) (fun v hv => by
        obtain ⟨x, _, rfl⟩ := List.mem_map.1 hv
        rfl)
      refine ⟨_, rfl, _, hk.2, hk.1, ?_⟩
      simp only [Rep]
      refine ⟨some ⟨w.heap.size, 0, none⟩, (Lib.fields l).length, by simp, by simp, by simp [OwnOk], .inr ⟨w.heap.size, 0, 1, rfl, strRow_rep _ 0 fun j x hj => ?_⟩⟩
      have hjl := (List.getElem?_eq_some_iff.1 hj).1
      simp only [St.know, Nat.zero_add, List.length_map]
      rw [if_pos ⟨trivial, hjl⟩]
      simp [hj]
    · cases hx
  · cases hx
end
end Go.Ab

/- slices.SortFunc over a row of structs of two texts and 'true', strings.Count of a byte: by contract. -/
namespace Go.Ab
set_option linter.unusedVariables false
open Go Go.RowKit

section
variable {P : Program} {B : Nat → Prop} {W0 : World} {H : AHeap} {σ : St} {w : World}

/-- Two texts. -/
abbrev Pr := List UInt8 × List UInt8
def encP (x : Pr) : List AV := [.str x.1, .str x.2, .bool true]
def encV (x : Pr) : List Value := [.string ⟨x.1.toArray⟩, .string ⟨x.2.toArray⟩, .bool true]
def pairsA : List AV → Option (List Pr)
  | [] => some []
  | .str m :: .str v :: .bool true :: r => bnd (pairsA r) fun l => some ((m, v) :: l)
  | _ => none

theorem pairsA_spec : ∀ (l : List Pr) {cs : List AV}, pairsA cs = some l → cs = l.flatMap encP
  | l, [], h => by simp only [pairsA, Option.some.injEq] at h; subst h; rfl
  | l, [_], h => by unfold pairsA at h; split at h <;> simp_all
  | l, [_, _], h => by unfold pairsA at h; split at h <;> simp_all
  | l, a :: b :: c :: r, h => by
    unfold pairsA at h
    split at h
    · rename_i hq; cases hq
    · rename_i m v r' hq
      simp only [List.cons.injEq] at hq
      obtain ⟨rfl, rfl, rfl, rfl⟩ := hq
      cases hb : pairsA r with
      | none => simp [hb, bnd] at h
      | some l' =>
        simp only [hb, bnd, Option.some.injEq] at h
        subst h
        have ih := pairsA_spec l' hb
        simp only [List.flatMap_cons, encP, List.cons_append, List.nil_append]
        rw [ih]
    · cases h

theorem encP_rep : ∀ l : List Pr, RepL σ (l.flatMap encP) (l.flatMap encV)
  | [] => by simp [RepL]
  | x :: l => by
    simp only [List.flatMap_cons]
    refine RepL.append ?_ (encP_rep l)
    simp [encP, encV, RepL, Rep]

theorem encP_uniq : ∀ (l : List Pr) {us : List Value}, RepL σ (l.flatMap encP) us → us = l.flatMap encV
  | [], us, h => by simpa [RepL] using h
  | x :: l, us, h => by
    simp only [List.flatMap_cons, encP, List.cons_append, List.nil_append, RepL, Rep] at h
    obtain ⟨u1, r1, rfl, rfl, u2, r2, rfl, rfl, u3, r3, rfl, rfl, h⟩ := h
    rw [encP_uniq l h]
    rfl
theorem encV_one : ∀ (l : List Pr), ∀ u ∈ l.flatMap encV, u.oneCell' = true := by
  intro l u hu
  obtain ⟨x, _, hx⟩ := List.mem_flatMap.1 hu
  simp only [encV, List.mem_cons, List.not_mem_nil, or_false] at hx
  rcases hx with rfl | rfl | rfl <;> rfl
theorem encP_len (l : List Pr) : (l.flatMap encP).length = l.length * 3 := by
  induction l with
  | nil => rfl
  | cons x l ih => simp only [List.flatMap_cons, List.length_append, ih, encP, List.length_cons, List.length_nil]; omega
theorem encV_len (l : List Pr) : (l.flatMap encV).length = l.length * 3 := by
  induction l with
  | nil => rfl
  | cons x l ih => simp only [List.flatMap_cons, List.length_append, ih, encV, List.length_cons, List.length_nil]; omega

/-- Function f0 sorts a row by the closure g; srt is how. -/
def sortX (f0 g : FuncId) (srt : List Pr → List Pr) : CallO := fun f args H =>
  if f = f0 then
    match args with
    | [.vec _ [], .fn (.func _) [] []] => some (.tup [], H)
    | [.sl id s off n, .fn (.func g') [] []] =>
      if n = 0 then some (.tup [], H) else
      if g' = g ∧ s = 3 ∧ off = 0 then
        match H.get id with
        | some (.row m et s2 cs) => if s2 = 3 ∧ n ≤ m ∧ n ≤ 1099511627776 then bnd (pairsA (cs.take (n * 3))) fun l => some (.tup [], H.set id (.row m et 3 (overlay cs 0 ((srt l).flatMap encP)))) else none
        | _ => none
      else none
    | _ => none
  else none

theorem sortX_ok {f0 g : FuncId} {srt : List Pr → List Pr} (hc : callable P f0) (hsl : ∀ l, (srt l).length = l.length)
    (h0 : ∀ (p : Option Addr) (cap : Nat) (fv : Value) (w : World), Calls P f0 #[.slice p 0 cap, fv] w fun e w' => e = .returned (.tuple #[]) ∧ w' = w)
    (h1 : ∀ (b cap : Nat) (l : List Pr) (c : Array Value) (et : TypeId) (w : World), w.heap[b]? = some (.cells c et (0, 0)) → c.toList.take (l.length * 3) = l.flatMap encV → l.length * 3 ≤ c.size → l ≠ [] → l.length ≤ 1099511627776 →
      Calls P f0 #[.slice (some ⟨b, 0, none⟩) l.length cap, .func (.func g) #[] #[]] w fun e w' => e = .returned (.tuple #[]) ∧ Below w.heap.size (w.setRow b ((srt l).flatMap encV ++ c.toList.drop (l.length * 3)).toArray) w') :
    CallOk P (sortX f0 g srt) := by
  intro f args H v H' hx
  unfold sortX at hx
  split at hx
  · rename_i hf
    subst hf
    refine ⟨hc, ?_⟩
    split at hx
    · rename_i o g'
      simp only [Option.some.injEq, Prod.mk.injEq] at hx
      obtain ⟨rfl, rfl⟩ := hx
      intro B W0 σ w us hs hr
      simp only [RepL] at hr
      obtain ⟨u, us', rfl, hu, u2, us2, rfl, hu2, rfl⟩ := hr
      simp only [Rep] at hu
      obtain ⟨a, cap, rfl, _⟩ := hu
      refine (h0 a cap u2 w).mono ?_
      rintro e w' ⟨rfl, rfl⟩
      exact ⟨_, rfl, σ, Ext.refl B σ, hs, by simp [Rep, RepL]⟩
    · rename_i id s off n g'
      split at hx
      · rename_i hn0
        subst hn0
        simp only [Option.some.injEq, Prod.mk.injEq] at hx
        obtain ⟨rfl, rfl⟩ := hx
        intro B W0 σ w us hs hr
        simp only [RepL] at hr
        obtain ⟨u, us', rfl, hu, u2, us2, rfl, hu2, rfl⟩ := hr
        simp only [Rep] at hu
        obtain ⟨b, cap, _, _, rfl, _⟩ := hu
        refine (h0 _ _ u2 w).mono ?_
        rintro e w' ⟨rfl, rfl⟩
        exact ⟨_, rfl, σ, Ext.refl B σ, hs, by simp [Rep, RepL]⟩
      · rename_i hn0
        split at hx
        · rename_i hq
          obtain ⟨rfl, rfl, rfl⟩ := hq
          split at hx
          · rename_i m et s2 cs hg
            split at hx
            · rename_i hq
              obtain ⟨rfl, hnm, hnb⟩ := hq
              cases hp : pairsA (cs.take (n * 3)) with
              | none => simp [hp, bnd] at hx
              | some l =>
                simp only [hp, bnd, Option.some.injEq, Prod.mk.injEq] at hx
                obtain ⟨rfl, rfl⟩ := hx
                have hcs := pairsA_spec l hp
                intro B W0 σ w us hs hr
                simp only [RepL] at hr
                obtain ⟨u, us', rfl, hu, u2, us2, rfl, hu2, rfl⟩ := hr
                simp only [Rep] at hu hu2
                obtain ⟨b, cap, hb, hown, rfl, hcap⟩ := hu
                obtain ⟨f1, f2, rfl, hf1, hf2⟩ := hu2
                simp only [RepL] at hf1 hf2
                subst hf1 hf2
                obtain ⟨b', cap', c, q1, q1', q2, q3, q4, q5, q6, q7, q8, q9, q10, q11, q12⟩ := hs.obj id _ hg
                rw [hb] at q1
                cases q1
                rw [hown] at q1'
                cases q1'
                have hcl : cs.length = m * 3 := q9
                have hn3 : n * 3 ≤ m * 3 := Nat.mul_le_mul_right _ hnm
                have hln : l.length = n := by
                  have := congrArg List.length hcs
                  rw [encP_len, List.length_take] at this
                  omega
                have hcs3 : m * 3 ≤ c.size := by rw [q6]; exact Nat.mul_le_mul_right _ q7
                have hus : c.toList.take (n * 3) = l.flatMap encV := by
                  refine encP_uniq (σ := σ) l ?_
                  rw [← hcs]
                  have := q10.take (n * 3)
                  rwa [List.take_take, Nat.min_eq_left hn3] at this
                have hfit : 0 + ((srt l).flatMap encP).length ≤ cs.length := by rw [encP_len, hsl]; omega
                obtain ⟨b2, cap2, c2, hb2, _, hh2, _, hsim⟩ := hs.set_row (o := 0) hg (encP_rep (srt l)) (encV_one (srt l)) hfit
                rw [hb] at hb2
                cases hb2
                rw [q3] at hh2
                cases hh2
                simp only [Nat.zero_mul, Nat.sub_zero]
                rw [← hln]
                refine (h1 b cap l c et w q3 (by rw [hln]; exact hus) (by omega) (by intro h; subst h; simp at hln; omega) (by omega)).mono ?_
                rintro e w' ⟨rfl, hbel⟩
                refine ⟨_, rfl, σ, Ext.refl B σ, ?_, by simp [Rep, RepL]⟩
                have hE : (c.toList.take 0 ++ (srt l).flatMap encV ++ c.toList.drop (0 + ((srt l).flatMap encV).length)).toArray = ((srt l).flatMap encV ++ c.toList.drop (l.length * 3)).toArray := by
                  rw [Nat.zero_add, encV_len, hsl, List.take_zero, List.nil_append]
                rw [hE] at hsim
                refine hsim.under ?_
                have hsz : (w.setRow b ((srt l).flatMap encV ++ c.toList.drop (l.length * 3)).toArray).heap.size = w.heap.size := by simp [World.setRow]
                rw [hsz]
                exact hbel
            · cases hx
          · cases hx
        · cases hx
    · cases hx
  · cases hx

/-- How often a byte stands in a text. -/
def countX (f0 : FuncId) : CallO := fun f args H =>
  match args with
  | [.str l, .str [c]] => if f = f0 then some (.int .i64 (Lib.countByte l c : Nat), H) else none
  | _ => none

theorem countX_ok {f0 : FuncId} (hc : callable P f0) (h : ∀ (s : ByteArray) (c : UInt8) (w : World), Calls P f0 #[.string s, .string ⟨#[c]⟩] w fun e w' => e = .returned (.int .i64 (Lib.countByte s.data.toList c : Nat)) ∧ w' = w) : CallOk P (countX f0) := by
  intro f args H v H' hx
  unfold countX at hx
  split at hx
  · rename_i l c
    split at hx
    · rename_i hf
      subst hf
      simp only [Option.some.injEq, Prod.mk.injEq] at hx
      obtain ⟨rfl, rfl⟩ := hx
      refine ⟨hc, ?_⟩
      intro B W0 σ w us hs hr
      simp only [RepL] at hr
      obtain ⟨u, us', rfl, h1, u2, us2, rfl, h2, rfl⟩ := hr
      simp only [Rep] at h1 h2
      subst h1 h2
      refine (h ⟨l.toArray⟩ c w).mono ?_
      rintro e w' ⟨rfl, rfl⟩
      exact ⟨_, rfl, σ, Ext.refl B σ, hs, by simp [Rep]⟩
    · cases hx
  · cases hx
end
end Go.Ab

/- The machine: contracts for unicode/utf8.DecodeRuneInString and strconv.ParseUint(s, 10, 63), over what is known of the library's variables. -/
namespace Go.Ab
open Go
set_option linter.unusedVariables false

/-- The first character of a text, and how many bytes it has. -/
def dec : List UInt8 → Nat × Nat
  | [] => (65533, 0)
  | a :: l => Lib.decodeN (l.length + 1) a.toNat ((l[0]?).getD 0).toNat ((l[1]?).getD 0).toNat ((l[2]?).getD 0).toNat
theorem get_getD (l : List UInt8) (i : Nat) : (⟨l.toArray⟩ : ByteArray).get! i = (l[i]?).getD 0 := by
  show l.toArray[i]! = _
  rw [getElem!_def]
  simp only [List.getElem?_toArray]
  cases l[i]? <;> rfl
theorem dec_eq (l : List UInt8) : Lib.decodeGo ⟨l.toArray⟩ = dec l := by
  cases l with
  | nil => rfl
  | cons a l =>
    unfold Lib.decodeGo
    rw [if_neg (by simp [ByteArray.size]), Lib.decode_at]
    simp only [get_getD, dec]
    simp [ByteArray.size]

def decodeX (f0 : FuncId) : CallO := fun f args H =>
  match args with
  | [.str l] => if f = f0 then some (.tup [.int .i32 (dec l).1, .int .i64 (dec l).2], H) else none
  | _ => none

section
open Go.RowKit
variable {P : Program}
theorem decodeX_ok {f0 : FuncId} {g3 g4 : Nat} (hc : callable P f0) (h3 : P.globalNamed "unicode/utf8.first" = some g3) (h4 : P.globalNamed "unicode/utf8.acceptRanges" = some g4)
    (h : ∀ (s : ByteArray) (w : World), Lib.Utf8Tabs g3 g4 w → Calls P f0 #[.string s] w fun e w' => e = .returned (.tuple #[.int .i32 (Lib.decodeGo s).1, .int .i64 (Lib.decodeGo s).2]) ∧ Below w.heap.size w w') : CallOk P (decodeX f0) := by
  intro f args H v H' hx
  unfold decodeX at hx
  split at hx
  · rename_i l
    split at hx
    · rename_i hf
      subst hf
      simp only [Option.some.injEq, Prod.mk.injEq] at hx
      obtain ⟨rfl, rfl⟩ := hx
      refine ⟨hc, ?_⟩
      intro B W0 σ w us hs hr
      simp only [RepL] at hr
      obtain ⟨u, us', rfl, h1, rfl⟩ := hr
      simp only [Rep] at h1
      subst h1
      have hT : Lib.Utf8Tabs g3 g4 w := by
        refine ⟨fun c hc => ?_, fun i hi => ⟨?_, ?_⟩⟩
        · obtain ⟨_, v, hv, hp⟩ := hs.baseNow.tab g3 c _ (.first g3 c h3 hc)
          rw [hv, hp]
        · obtain ⟨_, v, hv, hp⟩ := hs.baseNow.tab g4 (2 * i) _ (.lo g4 i h4 hi)
          rw [hv, hp]
        · obtain ⟨_, v, hv, hp⟩ := hs.baseNow.tab g4 (2 * i + 1) _ (.hi g4 i h4 hi)
          rw [hv, hp]
      refine (h ⟨l.toArray⟩ w hT).mono ?_
      rintro e w' ⟨rfl, hb⟩
      rw [dec_eq]
      exact ⟨_, rfl, σ, Ext.refl B σ, hs.under hb, by simp [Rep, RepL]⟩
    · cases hx
  · cases hx

/-- Whether digits are a number below 2^63. -/
def numOk (l : List UInt8) : Bool := match Lib.parseUintB 63 l with | .ok _ => true | _ => false
def parseX (f0 : FuncId) (t : TypeId) : CallO := fun f args H =>
  match args with
  | [.str l, .int .i64 10, .int .i64 63] =>
    if f = f0 ∧ l.length ≤ 1099511627776 then
      match Lib.parseUintB 63 l with
      | .ok u => some (.tup [.int .u64 u, .val .nilIface], H)
      | _ => some (.tup [.any, .iface t .any], H)
    else none
  | _ => none
theorem parseX_ok {f0 : FuncId} {t : TypeId} {g0 g1 : Nat} (hc : callable P f0) (h0 : P.globalNamed "strconv.ErrSyntax" = some g0) (h1 : P.globalNamed "strconv.ErrRange" = some g1)
    (k0 : ∀ (s : ByteArray) (u : Nat) (w : World), s.size ≤ 1099511627776 → Lib.parseUintB 63 s.data.toList = .ok u → Calls P f0 #[.string s, .int .i64 10, .int .i64 63] w fun e w' => e = .returned (.tuple #[.int .u64 u, .nilIface]) ∧ Below w.heap.size w w')
    (k1 : ∀ (s : ByteArray) (w : World), s.size ≤ 1099511627776 → (∀ u, Lib.parseUintB 63 s.data.toList ≠ .ok u) → (∃ v, w.cell? ⟨g0, 0, none⟩ = some v ∧ (v = .nilIface ∨ ∃ t p, v = .iface t p)) → (∃ v, w.cell? ⟨g1, 0, none⟩ = some v ∧ (v = .nilIface ∨ ∃ t p, v = .iface t p)) →
      Calls P f0 #[.string s, .int .i64 10, .int .i64 63] w fun e w' => (∃ (n : Int) (a : Addr), e = .returned (.tuple #[.int .u64 n, .iface t (.pointer (some a))])) ∧ Below w.heap.size w w') : CallOk P (parseX f0 t) := by
  intro f args H v H' hx
  unfold parseX at hx
  split at hx
  · rename_i l
    split at hx
    · rename_i hq
      obtain ⟨rfl, hl⟩ := hq
      refine ⟨hc, ?_⟩
      intro B W0 σ w us hs hr
      simp only [RepL] at hr
      obtain ⟨u, us', rfl, r1, u2, us2, rfl, r2, u3, us3, rfl, r3, rfl⟩ := hr
      simp only [Rep] at r1 r2 r3
      subst r1 r2 r3
      have hsz : (⟨l.toArray⟩ : ByteArray).size ≤ 1099511627776 := by simpa [ByteArray.size] using hl
      cases hp : Lib.parseUintB 63 l with
      | ok n =>
        simp only [hp, Option.some.injEq, Prod.mk.injEq] at hx
        obtain ⟨rfl, rfl⟩ := hx
        refine (k0 ⟨l.toArray⟩ n w hsz (by simpa using hp)).mono ?_
        rintro e w' ⟨rfl, hb⟩
        exact ⟨_, rfl, σ, Ext.refl B σ, hs.under hb, by simp [Rep, RepL]⟩
      | _ =>
        simp only [hp, Option.some.injEq, Prod.mk.injEq] at hx
        obtain ⟨rfl, rfl⟩ := hx
        refine (k1 ⟨l.toArray⟩ w hsz (fun u => by simp [hp]) (hs.baseNow.tab g0 0 _ (.syn g0 h0)).2 (hs.baseNow.tab g1 0 _ (.ran g1 h1)).2).mono ?_
        rintro e w' ⟨⟨n, a, rfl⟩, hb⟩
        exact ⟨_, rfl, σ, Ext.refl B σ, hs.under hb, by simp [Rep, RepL]; exact ⟨_, _, ⟨rfl, rfl⟩, rfl, _, rfl, _, rfl, rfl⟩⟩
    · cases hx
  · cases hx
end
end Go.Ab
