/- strings.Builder over rows, strings.Fields, the index of a byte: by contract. -/
import Derived.Test.YtkpnccaoolbeeaaGreatDoorAc22
import Derived.Lib.Fields
import Derived.Lib.Bytealg
namespace Go.Ab
set_option linter.unusedVariables false
open Go Go.RowKit

section
variable {P : Program} {B : Nat → Prop} {W0 : World} {H : AHeap} {σ : St} {w : World}

theorem Sim.like (hs : Sim P B W0 H σ w) {w' : World} (h1 : w'.heap = w.heap) (h2 : w'.os = w.os) (h3 : w'.tape = w.tape) (h4 : w'.output = w.output) : Sim P B W0 H σ w' := by
  refine ⟨⟨h2.trans hs.below.os, h3.trans hs.below.tape, h4.trans hs.below.output, by rw [h1]; exact hs.below.size, fun k hk => by rw [h1]; exact hs.below.block k hk⟩, hs.base, fun b o v e => ?_, hs.one, hs.fresh, hs.keys, fun id x hx => ?_, hs.inj⟩
  · have := hs.cells b o v e
    simpa only [World.cell?, h1] using this
  · exact (hs.obj id x hx).keep σ.le_refl (fun b hb => ⟨by rw [h1], fun o => rfl⟩) (fun _ => rfl)

theorem setCell_rowAt (w : World) (b o : Nat) (c : Array Value) (e : TypeId) (v : Value) (h : w.heap[b]? = some (.cells c e (0, 0))) : w.setCell ⟨b, o, none⟩ v = w.setRow b (c.setIfInBounds o v) := by
  have hb : b < w.heap.size := (Array.getElem?_eq_some_iff.1 h).1
  have hg : w.heap[b] = .cells c e (0, 0) := (Array.getElem?_eq_some_iff.1 h).2
  unfold World.setCell World.setRow
  congr 1
  apply Array.ext
  · simp
  · intro i h1 h2
    simp only [Array.getElem_modify]
    by_cases hi : b = i
    · subst hi
      simp [hg]
    · simp [hi]

/-- A builder's cells. -/
theorem two_cells {u0 u1 : Value} {cc : Array Value} (e1 : cc.toList = [u0, u1]) : cc = #[u0, u1] := by
  apply Array.ext'
  simpa using e1

/-- Grow, at a builder without a buffer: an empty row with room. -/
def growX (f0 : FuncId) (T bt : TypeId) : CallO := fun f args H =>
  if f = f0 then
    match args with
    | [.ptr id 0, .int .i64 n] => match H.get id with
      | some (.cells (some t) [c, .vec .nil []]) =>
        if t = T ∧ isNilP c = true ∧ 0 < n ∧ n ≤ 1099511627776 then
          some (.tup [], ((H.set id (.cells (some t) [.ptr id 0, .vec .nil []])).push (.row 0 bt 1 [])).set id (.cells (some t) [.ptr id 0, .sl H.next 1 0 0]))
        else none
      | _ => none
    | _ => none
  else none

theorem growX_ok {f0 : FuncId} {T bt : TypeId} (hc : callable P f0) (hsz : szQ P bt = some 1)
    (h1 : ∀ (b n : Nat) (w : World), w.heap[b]? = some (.cells #[.pointer none, .slice none 0 0] T (0, 0)) → 0 < n → n ≤ 1099511627776 → Calls P f0 #[.pointer (some ⟨b, 0, none⟩), .int .i64 n] w fun e w' => e = .returned (.tuple #[]) ∧
      ∃ cs : Array Value, cs.size ≤ maxLen ∧ w'.heap = (((w.setCell ⟨b, 0, none⟩ (.pointer (some ⟨b, 0, none⟩))).alloc (.cells cs bt)).setCell ⟨b, 1, none⟩ (.slice (some ⟨w.heap.size, 0, none⟩) 0 cs.size)).heap ∧ w'.os = w.os ∧ w'.tape = w.tape ∧ w'.output = w.output) :
    CallOk P (growX f0 T bt) := by
  intro f args H v H' hx
  unfold growX at hx
  split at hx
  · rename_i hf
    subst hf
    refine ⟨hc, ?_⟩
    split at hx
    · rename_i id n
      split at hx
      · rename_i t c hg
        split at hx
        · rename_i hq
          obtain ⟨rfl, hn, hn0, hn1⟩ := hq
          intro B W0 σ w us hs hr
          simp only [RepL] at hr
          obtain ⟨u, us', rfl, hu, u2, us2, rfl, hu2, rfl⟩ := hr
          simp only [Rep] at hu hu2
          subst hu2
          obtain ⟨b, hb, rfl⟩ := hu
          obtain ⟨b', cc, e, q1, q2, q3, q4, q5, q6⟩ := hs.obj id _ hg
          rw [hb] at q1
          cases q1
          have := q6 _ rfl
          subst this
          simp only [RepL] at q4
          obtain ⟨u0, r1, e1, hu0, u1, r2, e2, hu1, e3⟩ := q4
          subst e3 e2
          have hcc := two_cells e1
          subst hcc
          rw [isNilP_spec hn] at hu0
          simp only [Rep] at hu0
          subst hu0
          have hu1' := hu1
          simp only [Rep] at hu1
          obtain ⟨a, cap, rfl, _, hown, _⟩ := hu1
          simp only [OwnOk] at hown
          obtain ⟨rfl, _, rfl⟩ := hown
          simp only [Option.some.injEq, Prod.mk.injEq] at hx
          obtain ⟨rfl, rfl⟩ := hx
          obtain ⟨m, rfl⟩ : ∃ m : Nat, n = m := ⟨n.toNat, by omega⟩
          have hid := hs.keys id _ hg
          have hblt : b < w.heap.size := (Array.getElem?_eq_some_iff.1 q3).1
          refine (h1 b m w q3 (by omega) (by omega)).mono ?_
          rintro ex w' ⟨rfl, cs, hmax, hheap, e1, e2, e3⟩
          replace q3 : w.heap[b]? = some (.cells #[.pointer none, .slice none 0 0] e (0, 0)) := q3
          have s1 := hs.set_cells (cs' := [.ptr id 0, .vec .nil []]) hg hb q3 (c' := #[.pointer (some ⟨b, 0, none⟩), .slice none 0 0]) (by
            simp only [RepL]
            exact ⟨_, _, rfl, by simp [Rep, hb], _, _, rfl, hu1', rfl⟩)
          have s2 := s1.row_new (n := 0) (s := 1) (cap := cs.size) (et := bt) (cs := []) (us := []) (zs := cs) (w1 := w.setRow b #[.pointer (some ⟨b, 0, none⟩), .slice none 0 0]) hsz (by omega) (by simp [RepL]) (by simp) (by simp) (by simp) (by omega) hmax rfl s1.below
          have hnx : (H.set id (.cells (some e) [.ptr id 0, .vec .nil []])).next = H.next := rfl
          have hws : (w.setRow b #[.pointer (some ⟨b, 0, none⟩), .slice none 0 0]).heap.size = w.heap.size := by simp [World.setRow]
          rw [hnx, hws] at s2
          obtain ⟨s2, ext2⟩ := s2
          have g2 : ((H.set id (.cells (some e) [.ptr id 0, .vec .nil []])).push (.row 0 bt 1 [])).get id = some (.cells (some e) [.ptr id 0, .vec .nil []]) := by
            rw [AHeap.get_push, hnx, if_neg (by omega), AHeap.get_set, if_pos rfl, hg]; rfl
          have b2 : (σ.bindR H.next w.heap.size cs.size).loc id = some b := by
            simp only [St.bindR]
            rw [if_neg (by omega)]
            exact hb
          have hrow : (w.setRow b #[.pointer (some ⟨b, 0, none⟩), .slice none 0 0]).heap[b]? = some (.cells #[.pointer (some ⟨b, 0, none⟩), .slice none 0 0] e (0, 0)) := setRow_heap w b _ _ e (0, 0) q3
          have q3b : ((w.setRow b #[.pointer (some ⟨b, 0, none⟩), .slice none 0 0]).alloc (.cells (([] : List Value).toArray ++ cs) bt)).heap[b]? = some (.cells #[.pointer (some ⟨b, 0, none⟩), .slice none 0 0] e (0, 0)) := by
            rw [heap_old _ _ (by rw [hws]; exact hblt)]
            exact hrow
          have s3 := s2.set_cells (cs' := [.ptr id 0, .sl H.next 1 0 0]) g2 b2 q3b (c' := #[.pointer (some ⟨b, 0, none⟩), .slice (some ⟨w.heap.size, 0, none⟩) 0 cs.size]) (by
            simp only [RepL]
            refine ⟨_, _, rfl, by simp only [Rep]; exact ⟨b, b2, rfl⟩, _, _, rfl, ?_, rfl⟩
            simp only [Rep]
            exact ⟨w.heap.size, cs.size, by simp [St.bindR], by simp [St.bindR], by simp, by omega⟩)
          refine ⟨_, rfl, _, ext2, s3.like ?_ e1 e2 e3, by simp [Rep, RepL]⟩
          rw [hheap, setCell_rowAt w b 0 _ _ _ q3]
          have q3c : ((w.setRow b (#[Value.pointer none, .slice none 0 0].setIfInBounds 0 (.pointer (some ⟨b, 0, none⟩)))).alloc (.cells cs bt)).heap[b]? = some (.cells #[.pointer (some ⟨b, 0, none⟩), .slice none 0 0] e (0, 0)) := by
            rw [heap_old _ _ (by show b < (w.setRow b _).heap.size; simpa [World.setRow] using hblt)]
            exact hrow
          rw [setCell_rowAt _ b 1 _ _ _ q3c]
          simp
        · cases hx
      · cases hx
    · cases hx
  · cases hx

/-- String: the bytes, which nobody may write or append to from then on. -/
def stringY (f0 : FuncId) (T bt : TypeId) : CallO := fun f args H =>
  if f = f0 then
    match args with
    | [.ptr id 0] => match H.get id with
      | some (.cells (some t) [_, .vec .nil []]) => if t = T then some (.str [], H) else none
      | some (.cells (some t) [_, .sl k s off len]) =>
        if t = T ∧ s = 1 ∧ off = 0 then
          match H.get k with
          | some (.row n et s2 cs) => if et = bt ∧ s2 = 1 ∧ len ≤ n ∧ len ≠ 0 then bnd (bytesA (cs.take len)) fun l => some (.str l, H.del k) else none
          | _ => none
        else none
      | _ => none
    | _ => none
  else none

theorem touch_freezeB (hs : Sim P B W0 H σ w) {k g : Nat} {x : AObj} (hk : H.get k = some x) (hg : blk σ k x = some g) (m : Nat) : Sim P B W0 (H.del k) σ (w.drew.freeze ⟨g, 0, none⟩ m) := by
  have hB : ¬ B g := by
    obtain ⟨b, h1, h2, _⟩ := (hs.obj k _ hk).blk
    rw [hg] at h1
    cases h1
    exact h2
  have hother : ∀ i, i ≠ g → (w.drew.freeze ⟨g, 0, none⟩ m).heap[i]? = w.heap[i]? := fun i hi => by
    unfold World.freeze
    split
    · rfl
    · simp only [Array.getElem?_modify]
      rw [if_neg (fun e => hi e.symm)]
      rfl
  refine (hs.del k).touch (b := g) hother (fun o => ?_) (hs.below.trans ⟨?_, ?_, ?_, ?_, fun i hi => hother i (by rintro rfl; exact hB hi)⟩) (fun id y hy he => ?_)
  · unfold World.freeze
    split
    · rfl
    · simp only [World.cell?, Array.getElem?_modify, if_true]
      have hdr : w.drew.heap[g]? = w.heap[g]? := rfl
      rw [hdr]
      cases h : w.heap[g]? with
      | none => rfl
      | some x => cases x <;> rfl
  · unfold World.freeze; split <;> rfl
  · unfold World.freeze; split <;> rfl
  · unfold World.freeze; split <;> rfl
  · unfold World.freeze; split
    · exact Nat.le_refl _
    · show w.heap.size ≤ (Array.modify w.heap g _).size
      simp
  · have hy' : H.get id = some y ∧ id ≠ k := by
      rw [AHeap.get_del] at hy
      split at hy
      · cases hy
      · rename_i hne; exact ⟨hy, fun e => hne e.symm⟩
    exact hy'.2 (hs.inj id k y _ hy'.1 hk (by rw [he, hg]))

theorem stringY_ok {f0 : FuncId} {T bt : TypeId} (hc : callable P f0)
    (h1 : ∀ (b : Nat) (p : Value) (w : World), w.heap[b]? = some (.cells #[p, .slice none 0 0] T (0, 0)) → Calls P f0 #[.pointer (some ⟨b, 0, none⟩)] w fun e w' => e = .returned (.string ⟨#[]⟩) ∧ w' = w.drew)
    (h2 : ∀ (b g cap : Nat) (p : Value) (cur : Array Value) (l : List UInt8) (w : World), w.heap[b]? = some (.cells #[p, .slice (some ⟨g, 0, none⟩) l.length cap] T (0, 0)) → w.heap[g]? = some (.cells cur bt (0, 0)) → cur.size = cap → l.length ≤ cap → cap ≤ maxLen → l ≠ [] →
      (∀ j x, l[j]? = some x → w.cell? ⟨g, j, none⟩ = some (.int .u8 x.toNat)) → Calls P f0 #[.pointer (some ⟨b, 0, none⟩)] w fun e w' => e = .returned (.string ⟨l.toArray⟩) ∧ w' = w.drew.freeze ⟨g, 0, none⟩ l.length) :
    CallOk P (stringY f0 T bt) := by
  intro f args H v H' hx
  unfold stringY at hx
  split at hx
  · rename_i hf
    subst hf
    refine ⟨hc, ?_⟩
    split at hx
    · rename_i id
      split at hx
      · rename_i t c hg
        split at hx
        · rename_i ht
          subst ht
          intro B W0 σ w us hs hr
          simp only [RepL] at hr
          obtain ⟨u, us', rfl, hu, rfl⟩ := hr
          simp only [Rep] at hu
          obtain ⟨b, hb, rfl⟩ := hu
          obtain ⟨b', cc, e, q1, q2, q3, q4, q5, q6⟩ := hs.obj id _ hg
          rw [hb] at q1
          cases q1
          have := q6 _ rfl
          subst this
          simp only [RepL] at q4
          obtain ⟨u0, r1, e1, hu0, u1, r2, e2, hu1, e3⟩ := q4
          subst e3 e2
          have hcc := two_cells e1
          subst hcc
          simp only [Rep] at hu1
          obtain ⟨a, cap, rfl, _, hown, _⟩ := hu1
          simp only [OwnOk] at hown
          obtain ⟨rfl, _, rfl⟩ := hown
          simp only [Option.some.injEq, Prod.mk.injEq] at hx
          obtain ⟨rfl, rfl⟩ := hx
          refine (h1 b u0 w q3).mono ?_
          rintro e w' ⟨rfl, rfl⟩
          exact ⟨_, rfl, σ, Ext.refl B σ, hs.drew, by simp [Rep]⟩
        · cases hx
      · rename_i t c k s off len hg
        split at hx
        · rename_i hq
          obtain ⟨rfl, rfl, rfl⟩ := hq
          split at hx
          · rename_i n et s2 cs hk
            split at hx
            · rename_i hq
              obtain ⟨rfl, rfl, hln, hl0⟩ := hq
              cases hby : bytesA (cs.take len) with
              | none => simp [hby, bnd] at hx
              | some l =>
                simp only [hby, bnd, Option.some.injEq, Prod.mk.injEq] at hx
                obtain ⟨rfl, rfl⟩ := hx
                intro B W0 σ w us hs hr
                simp only [RepL] at hr
                obtain ⟨u, us', rfl, hu, rfl⟩ := hr
                simp only [Rep] at hu
                obtain ⟨b, hb, rfl⟩ := hu
                obtain ⟨b', cc, e, q1, q2, q3, q4, q5, q6⟩ := hs.obj id _ hg
                rw [hb] at q1
                cases q1
                have := q6 _ rfl
                subst this
                simp only [RepL] at q4
                obtain ⟨u0, r1, e1, hu0, u1, r2, e2, hu1, e3⟩ := q4
                subst e3 e2
                have hcc := two_cells e1
                subst hcc
                simp only [Rep] at hu1
                obtain ⟨g, cap, w1, w2, rfl, hcap⟩ := hu1
                obtain ⟨g', cap', cur, p1, p1', p2, p3, p4, p5, p6, p7, p8, p9, p10, p11, p12⟩ := hs.obj k _ hk
                rw [w1] at p1
                cases p1
                rw [w2] at p1'
                cases p1'
                have hes := bytesA_spec hby
                have hcl : cs.length = n := by omega
                have hlen : l.length = len := by
                  have := congrArg List.length hes
                  simp only [List.length_take, List.length_map] at this
                  omega
                have hcells : ∀ j x, l[j]? = some x → w.cell? ⟨g, j, none⟩ = some (.int .u8 x.toNat) := by
                  intro j x hj
                  have hjl : j < len := by have := (List.getElem?_eq_some_iff.1 hj).1; omega
                  have hje : (cs.take len)[j]? = some (.int .u8 x.toNat) := by rw [hes]; simp [hj]
                  rw [List.getElem?_take_of_lt hjl] at hje
                  obtain ⟨u, hu, ru⟩ := p10.get hje
                  simp only [Rep] at ru
                  subst ru
                  rw [List.getElem?_take_of_lt (by omega), Array.getElem?_toList] at hu
                  rw [cell_of_row p3]
                  exact hu
                simp only [Nat.zero_mul, Nat.sub_zero] at q3
                rw [← hlen] at q3
                refine (h2 b g cap u0 cur l w q3 p3 (by omega) (by omega) p8 (by intro h; rw [h] at hlen; simp at hlen; omega) hcells).mono ?_
                rintro e w' ⟨rfl, rfl⟩
                exact ⟨_, rfl, σ, Ext.refl B σ, touch_freezeB hs hk (by simpa [blk] using w1) _, by simp [Rep]⟩
            · cases hx
          · cases hx
        · cases hx
      · cases hx
    · cases hx
  · cases hx

/-- The index of a byte. -/
def indexX (f0 : FuncId) : CallO := fun f args H =>
  match args with
  | [.str l, .int .u8 c] => if f = f0 then some (.int .i64 (Lib.indexByte l c.toNat.toUInt8), H) else none
  | _ => none

theorem indexX_ok {f0 : FuncId} (hc : callable P f0) (h : ∀ (s : ByteArray) (c : Int) (w : World), Calls P f0 #[.string s, .int .u8 c] w fun e w' => e = .returned (.int .i64 (Lib.indexByte s.data.toList c.toNat.toUInt8)) ∧ w' = w) : CallOk P (indexX f0) := by
  intro f args H v H' hx
  unfold indexX at hx
  split at hx
  · rename_i l c
    split at hx
    · rename_i hf
      subst hf
      simp only [Option.some.injEq, Prod.mk.injEq] at hx
      obtain ⟨rfl, rfl⟩ := hx
      refine ⟨hc, ?_⟩
      intro B W0 σ w us hs hr
      simp only [RepL] at hr
      obtain ⟨u, us', rfl, h1, u2, us2, rfl, h2, rfl⟩ := hr
      simp only [Rep] at h1 h2
      subst h1 h2
      refine (h ⟨l.toArray⟩ c w).mono ?_
      rintro e w' ⟨rfl, rfl⟩
      exact ⟨_, rfl, σ, Ext.refl B σ, hs, by simp [Rep]⟩
    · cases hx
  · cases hx

/-- strings.Fields, of bytes below 128. -/
def fieldsX (f0 : FuncId) : CallO := fun f args H =>
  match args with
  | [.str l] => if f = f0 ∧ l.length < 4294967281 ∧ (l.all fun b => decide (b.toNat < 128)) = true then some (.vec .full ((Lib.fields l).map .str), H) else none
  | _ => none

theorem strRow_rep {σ : St} {b : Nat} : ∀ (l : List (List UInt8)) (off : Nat), (∀ j x, l[j]? = some x → σ.cells b (off + j) = some (.string ⟨x.toArray⟩)) → RepRow σ b 1 off (l.map .str)
  | [], _, _ => by simp [RepRow]
  | x :: l, off, h => by
    show RepRow σ b 1 off (.str x :: l.map .str)
    simp only [RepRow]
    refine ⟨⟨.string ⟨x.toArray⟩, by simp [Rep], rfl, fun j v hj => ?_⟩, strRow_rep l (off + 1) fun j y hj => ?_⟩
    · have : j = 0 := by have := (Array.getElem?_eq_some_iff.1 hj).1; simp [Value.cells] at this; omega
      subst this
      simp [Value.cells] at hj
      subst hj
      exact h 0 x rfl
    · have := h (j + 1) y (by simpa using hj)
      rw [show off + 1 + j = off + (j + 1) by omega]
      exact this

theorem fieldsX_ok {f0 : FuncId} {g t9 : Nat} (hc : callable P f0) (hg : P.globalNamed "strings.asciiSpace" = some g)
    (h : ∀ (s : ByteArray) (w : World), s.size < 4294967281 → (∀ (j : Nat) b, s.data.toList[j]? = some b → b.toNat < 128) → (∀ c : Nat, c < 256 → w.cell? ⟨g, c, none⟩ = some (.int .u8 (if Lib.isSp (UInt8.ofNat c) then 1 else 0))) →
      Calls P f0 #[.string s] w fun e w' => e = .returned (.slice (some ⟨w.heap.size, 0, none⟩) (Lib.fields s.data.toList).length (Lib.fields s.data.toList).length) ∧ w' = w.alloc (.cells ((Lib.fields s.data.toList).map fun l => Value.string ⟨l.toArray⟩).toArray t9)) :
    CallOk P (fieldsX f0) := by
  intro f args H v H' hx
  unfold fieldsX at hx
  split at hx
  · rename_i l
    split at hx
    · rename_i hq
      obtain ⟨rfl, hl, ha⟩ := hq
      simp only [Option.some.injEq, Prod.mk.injEq] at hx
      obtain ⟨rfl, rfl⟩ := hx
      refine ⟨hc, ?_⟩
      intro B W0 σ w us hs hr
      simp only [RepL] at hr
      obtain ⟨u, us', rfl, h1, rfl⟩ := hr
      simp only [Rep] at h1
      subst h1
      refine (h ⟨l.toArray⟩ w (by simpa [ByteArray.size] using hl) (fun j b hb => by
        have hb' : l[j]? = some b := by simpa using hb
        simpa using List.all_eq_true.1 ha b (List.mem_of_getElem? hb')) (hs.baseNow.tab g hg).2).mono ?_
      rintro e w' ⟨rfl, rfl⟩
      have hk := hs.know_new (cs := (Lib.fields l).map fun l => Value.string ⟨l.toArray⟩) (c := ((Lib.fields l).map fun l => Value.string ⟨l.toArray⟩).toArray) (et := t9) (w1 := w) rfl hs.below (fun j v hj => by simpa using hj) (fun v hv => by
        obtain ⟨x, _, rfl⟩ := List.mem_map.1 hv
        rfl)
      refine ⟨_, rfl, _, hk.2, hk.1, ?_⟩
      simp only [Rep]
      refine ⟨some ⟨w.heap.size, 0, none⟩, (Lib.fields l).length, by simp, by simp, by simp [OwnOk], .inr ⟨w.heap.size, 0, 1, rfl, strRow_rep _ 0 fun j x hj => ?_⟩⟩
      have hjl := (List.getElem?_eq_some_iff.1 hj).1
      simp only [St.know, Nat.zero_add, List.length_map]
      rw [if_pos ⟨trivial, hjl⟩]
      simp [hj]
    · cases hx
  · cases hx
end
end Go.Ab
