/- All pure operations together. -/
import Derived.Test.YtkpnccaoolbeeaaGreatDoorAc5
import Derived.MapKept
namespace Go.Ab
set_option linter.unusedVariables false
open Go Go.RowKit

section
variable {P : Program} {B : Nat → Prop} {W0 : World} {H : AHeap} {σ : St} {w : World}

theorem ldA_part {t : TypeId} {cs : List AV} {us : List Value} (hr : RepL σ cs us) {d : Nat} {v : AV} (h : ldA P t cs d = some v) : ∃ u, (part t us.toArray d).run P w = .ok u w ∧ Rep σ v u := by
  unfold ldA at h
  have hl := hr.length
  cases ha : aggQ P t with
  | none => simp [ha] at h
  | some g =>
    have hu : ∃ dsc, P.underlying t = some dsc ∧ isAggD dsc = g := by
      unfold aggQ at ha
      cases hd : P.underlying t with
      | none => simp [hd] at ha
      | some dsc => exact ⟨dsc, rfl, by simpa [hd] using ha⟩
    obtain ⟨dsc, hd, hg⟩ := hu
    have hagg : (isAgg t).run P w = .ok g w := by
      unfold isAgg
      simp only [Sem.run_bind, underlying, run_program, Result.andThen_ok, hd, Sem.run_pure]
      cases dsc <;> simp [isAggD] at hg <;> subst hg <;> rfl
    cases g with
    | false =>
      simp only [ha] at h
      obtain ⟨u, hu, ru⟩ := hr.get h
      exact ⟨u, by simp [part, hagg, hu], ru⟩
    | true =>
      simp only [ha] at h
      cases hn : szQ P t with
      | none => simp [hn] at h
      | some n =>
        simp only [hn] at h
        split at h
        · rename_i hle
          cases h
          refine ⟨.agg (us.toArray.extract d (d + n)), by simp [part, hagg, szQ_run hn], ?_⟩
          simp only [Rep]
          refine ⟨(us.drop d).take n, ?_, (hr.drop d).take n⟩
          congr 1
          apply Array.ext'
          simp
        · cases h

def kindOk (P : Program) (t : TypeId) : EK → Prop
  | .int => ∃ k, P.underlying t = some (.int k)
  | .bool => P.underlying t = some .bool
  | .str => P.underlying t = some .string

theorem eqCell_ok {k : EK} {x y : AV} {b : Bool} (h : eqCell k x y = some b) {t : TypeId} {d : Nat} {u z : Value} (ru : Rep σ x u) (rz : Rep σ y z) (ht : kindOk P t k) : (Op.equalIn (d + 1) t u z).run P w = .ok b w := by
  cases k <;> cases x <;> simp only [eqCell, reduceCtorEq] at h <;> cases y <;> simp only [reduceCtorEq] at h <;> simp only [Rep] at ru rz <;> subst ru rz
  case int.int.int k1 n1 k2 n2 =>
    split at h
    · rename_i hk
      subst hk
      cases h
      obtain ⟨k', hk'⟩ := ht
      exact run_equalIn_int w d t _ _ _ _ hk'
    · cases h
  case bool.bool.bool => cases h; exact run_equalIn_bool' w d t _ _ ht
  case str.str.str =>
    cases h
    rw [run_equalIn_string w d t _ _ ht]
    simp

theorem eqCell_cells {k : EK} {x y : AV} {b : Bool} (h : eqCell k x y = some b) : x.cells = [x] ∧ y.cells = [y] := by
  cases k <;> cases x <;> simp only [eqCell, reduceCtorEq] at h <;> cases y <;> simp only [reduceCtorEq] at h <;> exact ⟨rfl, rfl⟩

theorem eqCells_split : ∀ {ks ls : List EK} {xs ys : List AV} {b : Bool}, eqCells (ks ++ ls) xs ys = some b → ∃ b1 b2, eqCells ks (xs.take ks.length) (ys.take ks.length) = some b1 ∧ eqCells ls (xs.drop ks.length) (ys.drop ks.length) = some b2 ∧ b = (b1 && b2) ∧ ks.length ≤ xs.length ∧ ks.length ≤ ys.length
  | [], ls, xs, ys, b, h => ⟨true, b, by simp [eqCells], by simpa using h, by simp, by simp, by simp⟩
  | k :: ks, ls, [], ys, b, h => by cases ys <;> simp [eqCells] at h
  | k :: ks, ls, x :: xs, [], b, h => by simp [eqCells] at h
  | k :: ks, ls, x :: xs, y :: ys, b, h => by
    simp only [List.cons_append, eqCells] at h
    cases hc : eqCell k x y with
    | none => simp [hc] at h
    | some b0 =>
      simp only [hc] at h
      cases hr : eqCells (ks ++ ls) xs ys with
      | none => simp [hr] at h
      | some r =>
        simp only [hr, Option.some.injEq] at h
        obtain ⟨b1, b2, h1, h2, h3, h4, h5⟩ := eqCells_split hr
        refine ⟨b0 && b1, b2, ?_, by simpa using h2, ?_, by simp; omega, by simp; omega⟩
        · simp only [List.length_cons, List.take_succ_cons, eqCells, hc, h1]
        · rw [← h, h3, Bool.and_assoc]

/-- Two values that are compared cell by cell: two structs; or two of one cell. -/
def EqArg (P : Program) (t : TypeId) (ks : List EK) (x y : AV) (b : Bool) : Prop :=
  (∃ xs ys, x = .agg xs ∧ y = .agg ys ∧ aggQ P t = some true ∧ eqCells ks xs ys = some b) ∨ (∃ k, ks = [k] ∧ aggQ P t = some false ∧ eqCell k x y = some b)

theorem eqFs_ok {g : TypeId → Option (List EK)} {d : Nat} {xs ys : List AV} {us zs : List Value} (ru : RepL σ xs us) (rz : RepL σ ys zs)
    (ih : ∀ (t : TypeId) (ks : List EK) (x y : AV) (u z : Value) (b : Bool), g t = some ks → Rep σ x u → Rep σ y z → EqArg P t ks x y b → (Op.equalIn d t u z).run P w = .ok b w) :
    ∀ (fs : List Field) (off : Nat) (ks : List EK) (b : Bool), eqFs P g off fs = some ks → eqCells ks (xs.drop off) (ys.drop off) = some b → (Op.eqFields d us.toArray zs.toArray fs).run P w = .ok b w
  | [], off, ks, b, h, hb => by
    simp only [eqFs, Option.some.injEq] at h
    subst h
    have : b = true := by
      cases hx : xs.drop off <;> cases hy : ys.drop off <;> simp [hx, hy, eqCells] at hb
      exact hb
    subst this
    simp [Op.eqFields]
  | f :: fs, off, ks, b, h, hb => by
    simp only [eqFs] at h
    split at h
    · cases h
    · rename_i hn
      cases hg : g f.type with
      | none => simp [hg] at h
      | some k1 =>
        simp only [hg] at h
        split at h
        · rename_i hsz
          cases hr : eqFs P g (off + k1.length) fs with
          | none => simp [hr] at h
          | some k2 =>
            simp only [hr, Option.some.injEq] at h
            subst h
            obtain ⟨b1, b2, h1, h2, h3, h4, h5⟩ := eqCells_split hb
            simp only [List.drop_drop] at h2
            simp only [List.length_drop] at h4 h5
            obtain ⟨hsz1, hsz2, hsz3⟩ := hsz
            have hname : f.name ≠ "_" := fun e => hn (.inl e)
            have hoff : f.offset = off := by
              rcases Nat.decEq f.offset off with hne | he
              · exact absurd (.inr hne) hn
              · exact he
            have rest := eqFs_ok ru rz ih fs (off + k1.length) k2 b2 hr h2
            obtain ⟨vx, vy, e1, e2, e3⟩ : ∃ vx vy, ldA P f.type xs off = some vx ∧ ldA P f.type ys off = some vy ∧ EqArg P f.type k1 vx vy b1 := by
              rcases hsz3 with ha | ⟨ha, h11⟩
              · refine ⟨_, _, by unfold ldA; simp only [ha, hsz1]; rw [if_pos (by omega)], by unfold ldA; simp only [ha, hsz1]; rw [if_pos (by omega)], ?_⟩
                exact .inl ⟨_, _, rfl, rfl, ha, h1⟩
              · obtain ⟨k, rfl⟩ := List.length_eq_one_iff.1 h11
                have hx : off < xs.length := by simp at h4; omega
                have hy : off < ys.length := by simp at h5; omega
                refine ⟨xs[off], ys[off], by unfold ldA; simp [ha, hx], by unfold ldA; simp [ha, hy], ?_⟩
                rw [List.drop_eq_getElem_cons hx, List.drop_eq_getElem_cons hy] at h1
                simp only [List.length_singleton, List.take_succ_cons, List.take_zero] at h1
                simp only [eqCells] at h1
                cases hq : eqCell k xs[off] ys[off] with
                | none => simp [hq] at h1
                | some b' =>
                  simp only [hq, Bool.and_true, Option.some.injEq] at h1
                  subst h1
                  exact .inr ⟨k, rfl, ha, hq⟩
            obtain ⟨u1, p1, r1⟩ := ldA_part (P := P) (w := w) ru e1
            obtain ⟨u2, p2, r2⟩ := ldA_part (P := P) (w := w) rz e2
            have he := ih f.type k1 vx vy u1 u2 b1 hg r1 r2 e3
            simp only [Op.eqFields, hname, ne_eq, not_false_eq_true, if_true, hoff, Sem.run_bind, p1, p2, he, Result.andThen_ok]
            subst h3
            cases b1 with
            | true => simpa using rest
            | false => simp
        · cases h

theorem eqQ_ok : ∀ (d : Nat) (t : TypeId) (ks : List EK) (x y : AV) (u z : Value) (b : Bool) (e : Nat), d ≤ e → eqQ P d t = some ks → Rep σ x u → Rep σ y z → EqArg P t ks x y b → (Op.equalIn e t u z).run P w = .ok b w
  | 0, t, ks, x, y, u, z, b, e, _, h, _, _, _ => by simp [eqQ] at h
  | d + 1, t, ks, x, y, u, z, b, 0, he, _, _, _, _ => by omega
  | d + 1, t, ks, x, y, u, z, b, e + 1, he, h, ru, rz, hb => by
    simp only [eqQ] at h
    have one : ∀ k, some [k] = some ks → kindOk P t k → aggQ P t = some false → (Op.equalIn (e + 1) t u z).run P w = .ok b w := by
      rintro k hk ho hag
      rcases hb with ⟨xs, ys, _, _, h1, _⟩ | ⟨k', h1, _, h3⟩
      · rw [hag] at h1; cases h1
      · subst h1
        simp only [Option.some.injEq, List.cons.injEq, and_true] at hk
        subst hk
        exact eqCell_ok h3 ru rz ho
    split at h
    · rename_i hu; exact one .bool h hu (by simp [aggQ, hu, isAggD])
    · rename_i k hu; exact one .int h ⟨k, hu⟩ (by simp [aggQ, hu, isAggD])
    · rename_i hu; exact one .str h hu (by simp [aggQ, hu, isAggD])
    · rename_i fs hu
      split at h
      · cases h
      · rename_i hn
        have hst : P.stoodInHeld t = false := by
          cases hs : P.stoodInHeld t
          · rfl
          · exact absurd (.inl hs) hn
        rcases hb with ⟨xs, ys, rfl, rfl, _, h2⟩ | ⟨k', _, h1, _⟩
        · simp only [Rep] at ru rz
          obtain ⟨us, rfl, r1⟩ := ru
          obtain ⟨zs, rfl, r2⟩ := rz
          have hfo : P.fieldsOf t = fs := by simp [Program.fieldsOf, hu]
          rw [run_equalIn_struct w e t _ _ (by rw [hfo]; exact hu) hst, hfo]
          exact eqFs_ok r1 r2 (fun t ks x y u z b h1 h2 h3 h4 => eqQ_ok d t ks x y u z b e (by omega) h1 h2 h3 h4) fs.toList 0 ks b h (by simpa using h2)
        · simp [aggQ, hu, isAggD] at h1
    · cases h

theorem eqBin_ok {op : BinOp} {r : Option Bool} {v : AV} (h : eqBin op r = some v) : ∃ b, r = some b ∧ ((op = .eql ∧ v = .bool b) ∨ (op = .neq ∧ v = .bool (!b))) := by
  cases op <;> simp only [eqBin, reduceCtorEq] at h <;> cases r <;> simp only [reduceCtorEq, Option.some.injEq] at h
  · exact ⟨_, rfl, .inl ⟨rfl, h.symm⟩⟩
  · exact ⟨_, rfl, .inr ⟨rfl, h.symm⟩⟩

theorem nilBin_ok {op : BinOp} {b : Bool} {v : AV} (h : nilBin op b = some v) : (op = .eql ∧ v = .bool b) ∨ (op = .neq ∧ v = .bool (!b)) := by
  cases op <;> simp only [nilBin, reduceCtorEq, Option.some.injEq] at h
  · exact .inl ⟨rfl, h.symm⟩
  · exact .inr ⟨rfl, h.symm⟩

theorem isShift_ok {op : BinOp} (h : isShift op = true) : op = .shl ∨ op = .shr := by
  cases op <;> simp [isShift] at h
  · exact .inl rfl
  · exact .inr rfl

theorem isES_spec {v : Value} (h : isES v = true) : ∃ a c, v = .slice (some a) 0 c := by
  unfold isES at h
  split at h
  · rename_i a c; exact ⟨a, c, rfl⟩
  · cases h

theorem binA_ok {op : BinOp} {t : TypeId} {x y : Operand} {a b : AV} {u z : Value} {v : AV} (ra : Rep σ a u) (rb : Rep σ b z) (h : binA P op t a b = some v) :
    PureOk P σ w v (do pure (.value (← (do eqGuard op t x y u z; binOp op t u z)))) := by
  unfold binA at h
  split at h
  · rename_i k m k' n
    simp only [Rep] at ra rb
    subst ra rb
    split at h
    · rename_i hsh
      unfold shiftA at h
      split at h
      · cases h
      · rename_i hneg
        rcases isShift_ok hsh with rfl | rfl
        · simp only [Option.some.injEq] at h
          subst h
          exact .of_sem (by simp only [eqGuard, binOp, Op.shift, if_neg hneg]; simp; rfl) (by simp [Rep])
        · simp only [Option.some.injEq] at h
          subst h
          exact .of_sem (by simp only [eqGuard, binOp, Op.shift, if_neg hneg]; simp; rfl) (by simp [Rep])
    · split at h
      · rename_i hk
        subst hk
        obtain ⟨r, hr, rr⟩ := intBin_ok (P := P) (w := w) (σ := σ) h
        have hr' : (binOp op t (.int k m) (.int k n)).run P w = .ok r w := by
          rw [← hr]
          cases op <;> rfl
        refine .of_sem (u := r) ?_ rr
        cases op <;> simp [eqGuard, hr']
      · cases h
  · rename_i m n
    simp only [Rep] at ra rb
    subst ra rb
    unfold strBin at h
    cases op <;> simp only [Option.some.injEq, reduceCtorEq] at h <;>
      first
        | (split at h
           · rename_i hle
             cases h
             refine .of_sem (u := .string ⟨(m ++ n).toArray⟩) ?_ (by simp [Rep])
             have hsz : ¬ (((⟨m.toArray⟩ : ByteArray).size + (⟨n.toArray⟩ : ByteArray).size : Nat) : Int) > IntKind.i64.max := by
               have : IntKind.i64.max = 9223372036854775807 := by decide
               rw [this]
               simp only [ByteArray.size, List.size_toArray]
               omega
             have hap : (⟨m.toArray⟩ : ByteArray) ++ (⟨n.toArray⟩ : ByteArray) = ⟨(m ++ n).toArray⟩ := by
               apply Go.WideShapes.bytes_inj
               simp
             simp only [eqGuard, binOp, Op.stringOp, hap]
             simp only [Sem.run_bind, Sem.run_ite, if_neg hsz]
             simp
           · cases h)
        | (subst h
           exact .of_sem (by simp [eqGuard, binOp, Op.stringOp]; rfl) (by simp [Rep]))
  · rename_i m n
    split at h
    · rename_i hag
      split at h
      · rename_i hq
        have heq := eqQ_ok (P := P) (w := w) 4 t [.bool] (.bool m) (.bool n) u z (m == n) 10000 (by omega) hq ra rb (.inr ⟨.bool, rfl, hag, rfl⟩)
        simp only [Rep] at ra rb
        subst ra rb
        obtain ⟨r, hr, ho⟩ := eqBin_ok h
        cases hr
        rcases ho with ⟨rfl, rfl⟩ | ⟨rfl, rfl⟩
        · refine .of_sem (u := .bool (m == n)) ?_ (by simp [Rep])
          simp only [eqGuard, binOp, Op.equal, Op.maxDepth]
          simp [heq]
        · refine .of_sem (u := .bool (!(m == n))) ?_ (by simp [Rep])
          simp only [eqGuard, binOp, Op.equal, Op.maxDepth]
          simp [heq]
      · cases h
    · cases h
  · rename_i as bs
    split at h
    · rename_i hag
      split at h
      · rename_i ks hq
        obtain ⟨r, hr, ho⟩ := eqBin_ok h
        have heq := eqQ_ok (P := P) (w := w) 4 t ks (.agg as) (.agg bs) u z r 10000 (by omega) hq ra rb (.inl ⟨as, bs, rfl, rfl, hag, hr⟩)
        have hguard : P.eqGuardType P.depth t = false := by
          simp only [eqQ] at hq
          split at hq
          · rename_i hu; simp [aggQ, hu, isAggD] at hag
          · rename_i hu; simp [aggQ, hu, isAggD] at hag
          · rename_i hu; simp [aggQ, hu, isAggD] at hag
          · split at hq
            · cases hq
            · rename_i hn
              cases hs : P.eqGuardType P.depth t
              · rfl
              · exact absurd (.inr hs) hn
          · cases hq
        simp only [Rep] at ra rb
        obtain ⟨us, rfl, _⟩ := ra
        obtain ⟨zs, rfl, _⟩ := rb
        rcases ho with ⟨rfl, rfl⟩ | ⟨rfl, rfl⟩
        · refine .of_sem (u := .bool r) ?_ (by simp [Rep])
          simp only [Sem.run_bind, run_eqGuard_agg w _ t x y _ _ hguard, Result.andThen_ok, run_eql_struct, heq]
        · refine .of_sem (u := .bool (!r)) ?_ (by simp [Rep])
          simp only [Sem.run_bind, run_eqGuard_agg w _ t x y _ _ hguard, Result.andThen_ok, run_neq_struct, heq]
      · cases h
    · cases h
  · rename_i id off
    split at h
    · rename_i hp
      obtain ⟨e, hpe⟩ : ∃ e, P.underlying t = some (.pointer e) := by
        unfold ptrQ at hp; split at hp
        · rename_i e he; exact ⟨e, he⟩
        · cases hp
      simp only [Rep] at ra rb
      obtain ⟨b, _, rfl⟩ := ra
      subst rb
      have hq : ∀ d, (Op.equalIn (d + 1) t (.pointer (some ⟨b, off, none⟩)) (.pointer none)).run P w = .ok false w := fun d => by simp [Op.equalIn, under_run hpe]
      have hq := hq 9999
      rcases nilBin_ok h with ⟨rfl, rfl⟩ | ⟨rfl, rfl⟩
      · exact .of_sem (u := .bool false) (by simp only [eqGuard, binOp, Op.equal, Op.maxDepth]; simp [hq]) (by simp [Rep])
      · exact .of_sem (u := .bool true) (by simp only [eqGuard, binOp, Op.equal, Op.maxDepth]; simp [hq]) (by simp [Rep])
    · cases h
  · rename_i cs
    split at h
    · rename_i hp
      obtain ⟨e, hpe⟩ : ∃ e, P.underlying t = some (.pointer e) := by
        unfold ptrQ at hp; split at hp
        · rename_i e he; exact ⟨e, he⟩
        · cases hp
      simp only [Rep] at ra rb
      obtain ⟨b, off, rfl, _⟩ := ra
      subst rb
      have hq : ∀ d, (Op.equalIn (d + 1) t (.pointer (some ⟨b, off, none⟩)) (.pointer none)).run P w = .ok false w := fun d => by simp [Op.equalIn, under_run hpe]
      have hq := hq 9999
      rcases nilBin_ok h with ⟨rfl, rfl⟩ | ⟨rfl, rfl⟩
      · exact .of_sem (u := .bool false) (by simp only [eqGuard, binOp, Op.equal, Op.maxDepth]; simp [hq]) (by simp [Rep])
      · exact .of_sem (u := .bool true) (by simp only [eqGuard, binOp, Op.equal, Op.maxDepth]; simp [hq]) (by simp [Rep])
    · cases h
  · split at h
    · rename_i hp
      obtain ⟨e, hpe⟩ : ∃ e, P.underlying t = some (.pointer e) := by
        unfold ptrQ at hp; split at hp
        · rename_i e he; exact ⟨e, he⟩
        · cases hp
      simp only [Rep] at ra rb
      subst ra rb
      have hq : ∀ d, (Op.equalIn (d + 1) t (.pointer none) (.pointer none)).run P w = .ok true w := fun d => by simp [Op.equalIn, under_run hpe]
      have hq := hq 9999
      rcases nilBin_ok h with ⟨rfl, rfl⟩ | ⟨rfl, rfl⟩
      · exact .of_sem (u := .bool true) (by simp only [eqGuard, binOp, Op.equal, Op.maxDepth]; simp [hq]) (by simp [Rep])
      · exact .of_sem (u := .bool false) (by simp only [eqGuard, binOp, Op.equal, Op.maxDepth]; simp [hq]) (by simp [Rep])
    · cases h
  · rename_i it iv
    split at h
    · rename_i hp
      obtain ⟨ms, hpe⟩ : ∃ ms, P.underlying t = some (.interface ms) := by
        unfold ifaceQ at hp; split at hp
        · rename_i e he; exact ⟨e, he⟩
        · cases hp
      simp only [Rep] at ra rb
      obtain ⟨xv, rfl, _⟩ := ra
      subst rb
      have hq : ∀ d, (Op.equalIn (d + 1) t (.iface it xv) .nilIface).run P w = .ok false w := fun d => by simp [Op.equalIn, under_run hpe]
      have hq := hq 9999
      rcases nilBin_ok h with ⟨rfl, rfl⟩ | ⟨rfl, rfl⟩
      · exact .of_sem (u := .bool false) (by simp only [eqGuard, binOp, Op.equal, Op.maxDepth]; simp [hq]) (by simp [Rep])
      · exact .of_sem (u := .bool true) (by simp only [eqGuard, binOp, Op.equal, Op.maxDepth]; simp [hq]) (by simp [Rep])
    · cases h
  · rename_i ff f1 f2
    split at h
    · rename_i hp
      obtain ⟨q1, q2, q3, hpe⟩ : ∃ q1 q2 q3, P.underlying t = some (.func q1 q2 q3) := by
        unfold funcQ at hp; split at hp
        · rename_i q1 q2 q3 he; exact ⟨q1, q2, q3, he⟩
        · cases hp
      simp only [Rep] at ra rb
      obtain ⟨us1, us2, rfl, _, _⟩ := ra
      subst rb
      have hq : ∀ d, (Op.equalIn (d + 1) t (.func ff us1.toArray us2.toArray) .nilFunc).run P w = .ok false w := fun d => by simp [Op.equalIn, under_run hpe]
      have hq := hq 9999
      rcases nilBin_ok h with ⟨rfl, rfl⟩ | ⟨rfl, rfl⟩
      · exact .of_sem (u := .bool false) (by simp only [eqGuard, binOp, Op.equal, Op.maxDepth]; simp [hq]) (by simp [Rep])
      · exact .of_sem (u := .bool true) (by simp only [eqGuard, binOp, Op.equal, Op.maxDepth]; simp [hq]) (by simp [Rep])
    · cases h
  · rename_i id s off len
    split at h
    · rename_i hp
      obtain ⟨e, hpe⟩ : ∃ e, P.underlying t = some (.slice e) := by
        unfold sliceTQ at hp; split at hp
        · rename_i e he; exact ⟨e, he⟩
        · cases hp
      simp only [Rep] at ra rb
      obtain ⟨b, cap, _, _, rfl, _⟩ := ra
      obtain ⟨ad, cp, rfl, _, ho, _⟩ := rb
      simp only [OwnOk] at ho
      obtain ⟨rfl, _, rfl⟩ := ho
      have hq : ∀ d, (Op.equalIn (d + 1) t (.slice (some ⟨b, off * s, none⟩) len (cap - off)) (.slice none 0 0)).run P w = .ok false w := fun d => by simp [Op.equalIn, under_run hpe]
      have hq := hq 9999
      rcases nilBin_ok h with ⟨rfl, rfl⟩ | ⟨rfl, rfl⟩
      · exact .of_sem (u := .bool false) (by simp only [eqGuard, binOp, Op.equal, Op.maxDepth]; simp [hq]) (by simp [Rep])
      · exact .of_sem (u := .bool true) (by simp only [eqGuard, binOp, Op.equal, Op.maxDepth]; simp [hq]) (by simp [Rep])
    · cases h
  · rename_i o e1 es1
    split at h
    · rename_i hp
      obtain ⟨e, hpe⟩ : ∃ e, P.underlying t = some (.slice e) := by
        unfold sliceTQ at hp; split at hp
        · rename_i e he; exact ⟨e, he⟩
        · cases hp
      simp only [Rep] at ra rb
      obtain ⟨a0, cap, rfl, _, _, hrow⟩ := ra
      obtain ⟨ad, cp, rfl, _, ho, _⟩ := rb
      simp only [OwnOk] at ho
      obtain ⟨rfl, _, rfl⟩ := ho
      obtain ⟨b, off, s, rfl, _⟩ := hrow.resolve_left (by simp)
      have hq : ∀ d n, (Op.equalIn (d + 1) t (.slice (some ⟨b, off, none⟩) n cap) (.slice none 0 0)).run P w = .ok false w := fun d n => by simp [Op.equalIn, under_run hpe]
      have hq := hq 9999
      rcases nilBin_ok h with ⟨rfl, rfl⟩ | ⟨rfl, rfl⟩
      · exact .of_sem (u := .bool false) (by simp only [eqGuard, binOp, Op.equal, Op.maxDepth]; simp [hq]) (by simp [Rep])
      · exact .of_sem (u := .bool true) (by simp only [eqGuard, binOp, Op.equal, Op.maxDepth]; simp [hq]) (by simp [Rep])
    · cases h
  · split at h
    · rename_i hp
      obtain ⟨e, hpe⟩ : ∃ e, P.underlying t = some (.slice e) := by
        unfold sliceTQ at hp; split at hp
        · rename_i e he; exact ⟨e, he⟩
        · cases hp
      simp only [Rep] at ra rb
      obtain ⟨a0, cap, rfl, _, ho0, _⟩ := ra
      obtain ⟨ad, cp, rfl, _, ho, _⟩ := rb
      simp only [OwnOk] at ho ho0
      obtain ⟨rfl, _, rfl⟩ := ho
      obtain ⟨rfl, _, rfl⟩ := ho0
      have hq : ∀ d, (Op.equalIn (d + 1) t (.slice none 0 0) (.slice none 0 0)).run P w = .ok true w := fun d => by simp [Op.equalIn, under_run hpe]
      have hq := hq 9999
      rcases nilBin_ok h with ⟨rfl, rfl⟩ | ⟨rfl, rfl⟩
      · exact .of_sem (u := .bool true) (by simp only [eqGuard, binOp, Op.equal, Op.maxDepth]; simp [hq]) (by simp [Rep])
      · exact .of_sem (u := .bool false) (by simp only [eqGuard, binOp, Op.equal, Op.maxDepth]; simp [hq]) (by simp [Rep])
    · cases h
  · rename_i v0
    split at h
    · rename_i hp
      obtain ⟨hes, hp⟩ := hp
      obtain ⟨e, hpe⟩ : ∃ e, P.underlying t = some (.slice e) := by
        unfold sliceTQ at hp; split at hp
        · rename_i e he; exact ⟨e, he⟩
        · cases hp
      obtain ⟨a0, c0, rfl⟩ := isES_spec hes
      simp only [Rep] at ra rb
      subst ra
      obtain ⟨ad, cp, rfl, _, ho, _⟩ := rb
      simp only [OwnOk] at ho
      obtain ⟨rfl, _, rfl⟩ := ho
      have hq : ∀ d, (Op.equalIn (d + 1) t (.slice (some a0) 0 c0) (.slice none 0 0)).run P w = .ok false w := fun d => by simp [Op.equalIn, under_run hpe]
      have hq := hq 9999
      rcases nilBin_ok h with ⟨rfl, rfl⟩ | ⟨rfl, rfl⟩
      · exact .of_sem (u := .bool false) (by simp only [eqGuard, binOp, Op.equal, Op.maxDepth]; simp [hq]) (by simp [Rep])
      · exact .of_sem (u := .bool true) (by simp only [eqGuard, binOp, Op.equal, Op.maxDepth]; simp [hq]) (by simp [Rep])
    · cases h
  · cases h

theorem sliceBnd_ok {x : Option AV} {d y m : Nat} {u : Option Value} (hr : ∀ a z, x = some a → u = some z → Rep σ a z) (hs : x.isSome = u.isSome) (h : sliceBnd x d y = some m) (c : BoundsCode) :
    (match u with | some z => Instr.sliceBound z y c | none => pure d).run P w = .ok m w := by
  cases x with
  | none =>
    cases u with
    | none => simp [sliceBnd] at h; subst h; simp
    | some z => simp at hs
  | some a =>
    cases u with
    | none => simp at hs
    | some z =>
      have r := hr a z rfl rfl
      cases a with
      | int k i =>
        simp only [Rep] at r
        subst r
        simp only [sliceBnd] at h
        split at h
        · rename_i hc
          cases h
          simp [Instr.sliceBound, asIntOf, hc]
        · cases h
      | _ => simp [sliceBnd] at h

theorem RepRow.drop {b s : Nat} : ∀ {off : Nat} {es : List AV} (n : Nat), RepRow σ b s off es → RepRow σ b s (off + n * s) (es.drop n)
  | _, [], n, _ => by simp [RepRow]
  | off, e :: es, n, h => by
    cases n with
    | zero => simpa using h
    | succ n =>
      simp only [RepRow] at h
      have := RepRow.drop n h.2
      rw [List.drop_succ_cons, show off + (n + 1) * s = off + s + n * s from by rw [Nat.add_mul]; omega]
      exact this

theorem RepRow.take {b s : Nat} : ∀ {off : Nat} {es : List AV} (n : Nat), RepRow σ b s off es → RepRow σ b s off (es.take n)
  | _, [], n, _ => by simp [RepRow]
  | off, e :: es, n, h => by
    cases n with
    | zero => simp [RepRow]
    | succ n =>
      simp only [RepRow] at h
      simp only [List.take_succ_cons, RepRow]
      exact ⟨h.1, RepRow.take n h.2⟩

theorem strideQ_spec {t : TypeId} {es : List AV} (h : strideQ P t es = true) : ∃ et s, elemQ P t = some et ∧ szQ P et = some s ∧ ∀ e, es.head? = some e → e.width = some s := by
  unfold strideQ at h
  split at h
  · rename_i et het
    split at h
    · rename_i s hs
      refine ⟨et, s, het, hs, fun e he => ?_⟩
      rw [he] at h
      simpa using h
    · cases h
  · cases h

theorem RepRow.stride {b s n : Nat} {off : Nat} {es : List AV} (h : RepRow σ b s off es) (hne : es ≠ []) (hw : ∀ e, es.head? = some e → e.width = some n) : s = n := by
  cases es with
  | nil => exact absurd rfl hne
  | cons e es =>
    simp only [RepRow] at h
    obtain ⟨⟨u, r, hs, _⟩, _⟩ := h
    rw [← hs]
    exact r.width (hw e rfl)

theorem sliceBnd_le {x : Option AV} {d y m : Nat} (h : sliceBnd x d y = some m) (hd : d ≤ y) : m ≤ y := by
  unfold sliceBnd at h
  split at h
  · cases h; exact hd
  · split at h
    · cases h; omega
    · cases h
  · cases h

theorem sliceBnd_up {x : Option AV} {d y z m : Nat} (h : sliceBnd x d y = some m) (hz : y ≤ z) : sliceBnd x d z = some m := by
  unfold sliceBnd at h ⊢
  split at h
  · exact h
  · split at h
    · rename_i i hc; rw [if_pos ⟨hc.1, by omega⟩]; exact h
    · cases h
  · cases h

theorem sliceLH_spec {n : Nat} {lo hi : Option AV} {x y : Nat} (h : sliceLH n lo hi = some (x, y)) : x ≤ y ∧ y ≤ n ∧ sliceBnd lo 0 y = some x ∧ ∀ c, n ≤ c → sliceBnd hi n c = some y := by
  unfold sliceLH at h
  split at h
  · rename_i hh hhe
    split at h
    · rename_i ll hle
      simp only [Option.some.injEq, Prod.mk.injEq] at h
      obtain ⟨rfl, rfl⟩ := h
      exact ⟨sliceBnd_le hle (Nat.zero_le _), sliceBnd_le hhe (Nat.le_refl _), hle, fun c hc => sliceBnd_up hhe hc⟩
    · cases h
  · cases h

theorem pure_slice3 {t : TypeId} {a : AV} {u : Value} {lo hi mx : Option AV} {l' h' m' : Option Value} {v : AV} (hr : Rep σ a u)
    (hlo : ∀ a z, lo = some a → l' = some z → Rep σ a z) (hlo' : lo.isSome = l'.isSome) (hhi : ∀ a z, hi = some a → h' = some z → Rep σ a z) (hhi' : hi.isSome = h'.isSome)
    (hmx : ∀ a z, mx = some a → m' = some z → Rep σ a z) (hmx' : mx.isSome = m'.isSome)
    (h : slice3A P t lo hi mx a = some v) : PureOk P σ w v (do pure (.value (← Instr.sliceAt t u l' h' m'))) := by
  unfold slice3A at h
  split at h
  · rename_i hc
    obtain ⟨z1, z2, z3, z4⟩ := hc
    split at h
    · rename_i et het
      split at h
      · rename_i sz hsz
        cases h
        have hu := elemQ_spec het
        have isz : ∀ {x : Option AV} {y : Option Value}, (∀ a z, x = some a → y = some z → Rep σ a z) → x.isSome = y.isSome → isZ x = true → ∃ k, y = some (.int k 0) := by
          intro x y hx hy hz
          cases x with
          | none => simp [isZ] at hz
          | some a =>
            cases y with
            | none => simp at hy
            | some z =>
              have r := hx a z rfl rfl
              cases a with
              | int k n =>
                simp only [isZ, beq_iff_eq] at hz
                simp only [Rep] at r
                subst hz r
                exact ⟨k, rfl⟩
              | _ => simp [isZ] at hz
        obtain ⟨k1, rfl⟩ := isz hhi hhi' z1
        obtain ⟨k2, rfl⟩ := isz hmx hmx' z2
        have hl : l' = none ∨ ∃ k3, l' = some (.int k3 0) := by
          rcases z3 with z3 | z3
          · left
            rw [Option.isNone_iff_eq_none] at z3
            subst z3
            cases l' with
            | none => rfl
            | some z => simp at hlo'
          · exact .inr (isz hlo hlo' z3)
        obtain ⟨ad, len, cap, rfl⟩ : ∃ ad len cap, u = .slice ad len cap := by
          cases a <;> simp only [isSl, Bool.false_eq_true] at z4 <;> simp only [Rep] at hr
          · obtain ⟨ad, cap, rfl, _⟩ := hr; exact ⟨_, _, _, rfl⟩
          · obtain ⟨b, cap, _, _, rfl, _⟩ := hr; exact ⟨_, _, _, rfl⟩
        refine .of_sem (u := .slice ad 0 0) ?_ ?_
        · rcases hl with rfl | ⟨k3, rfl⟩ <;> simp [Instr.sliceAt, Instr.slice, Instr.sliceBounds, Instr.sliceBound, asIntOf, under_run hu, szQ_run hsz]
        · simp only [Rep]
          exact ⟨ad, 0, rfl, Nat.le_refl _, rfl, .inl trivial⟩
      · cases h
    · cases h
  · cases h

theorem pure_slice {t : TypeId} {a : AV} {u : Value} {lo hi : Option AV} {l' h' : Option Value} {v : AV} (hr : Rep σ a u)
    (hlo : ∀ a z, lo = some a → l' = some z → Rep σ a z) (hlo' : lo.isSome = l'.isSome) (hhi : ∀ a z, hi = some a → h' = some z → Rep σ a z) (hhi' : hi.isSome = h'.isSome)
    (h : sliceA P t lo hi a = some v) : PureOk P σ w v (do pure (.value (← Instr.sliceAt t u l' h' none))) := by
  cases a with
  | vec o es =>
    simp only [sliceA] at h
    simp only [Rep] at hr
    obtain ⟨ad, cap, rfl, hcap, hown, hrow⟩ := hr
    split at h
    · rename_i hst
      obtain ⟨et, sz, het, hsz, hw⟩ := strideQ_spec hst
      split at h
      · rename_i x y hxy
        cases h
        unfold sliceLH at hxy
        split at hxy
        · rename_i hh hhe
          split at hxy
          · rename_i ll hle
            simp only [Option.some.injEq, Prod.mk.injEq] at hxy
            obtain ⟨rfl, rfl⟩ := hxy
            have hu := elemQ_spec het
            have hhn : hh ≤ es.length := by
              unfold sliceBnd at hhe
              split at hhe
              · cases hhe; exact Nat.le_refl _
              · split at hhe
                · cases hhe; omega
                · cases hhe
              · cases hhe
            have hln : ll ≤ hh := by
              unfold sliceBnd at hle
              split at hle
              · cases hle; exact Nat.zero_le _
              · split at hle
                · cases hle; omega
                · cases hle
              · cases hle
            have hno : hi = none → hh = es.length := by
              rintro rfl
              simp only [sliceBnd, Option.some.injEq] at hhe
              exact hhe.symm
            have hhe' : sliceBnd hi es.length cap = some hh := by
              unfold sliceBnd at hhe ⊢
              split at hhe
              · exact hhe
              · split at hhe
                · rename_i i hc; rw [if_pos ⟨hc.1, by omega⟩]; exact hhe
                · cases hhe
              · cases hhe
            have e1 := sliceBnd_ok (P := P) (w := w) hhi hhi' hhe' .sliceAcap
            have e2 := sliceBnd_ok (P := P) (w := w) hlo hlo' hle .sliceB
            refine .of_sem (u := .slice (if cap = ll then ad else ad.map (·.add (ll * sz))) (hh - ll) (cap - ll)) ?_ ?_
            · cases h' <;> cases l' <;> simp_all [Instr.sliceAt, Instr.slice, Instr.sliceBounds, under_run hu, szQ_run hsz]
            · simp only [Rep]
              refine ⟨(if cap = ll then ad else ad.map (·.add (ll * sz))), cap - ll, ?_, ?_, ?_, ?_⟩
              · rw [show (List.drop ll (List.take hh es)).length = hh - ll from by simp; omega]
              · simp; omega
              · have hlen : (List.drop ll (List.take hh es)).length = hh - ll := by simp; omega
                rw [hlen]
                unfold cutOwn
                split
                · have := hno rfl; simp only [OwnOk] at hown ⊢; omega
                · have := hno rfl; simp only [OwnOk] at hown ⊢; omega
                · trivial
              · by_cases hempty : List.drop ll (List.take hh es) = []
                · exact .inl hempty
                · refine .inr ?_
                  have hlt : ll < hh := by
                    rcases Nat.lt_or_ge ll hh with h1 | h1
                    · exact h1
                    · exact absurd (List.drop_eq_nil_of_le (by simp; omega)) hempty
                  rcases hrow with rfl | ⟨b, off, s, rfl, row⟩
                  · simp at hempty
                  · have hs : s = sz := row.stride (by rintro rfl; simp at hempty) hw
                    subst hs
                    refine ⟨b, off + ll * s, s, ?_, (row.take hh).drop ll⟩
                    rw [if_neg (by omega)]
                    simp [Addr.add_mk]
          · cases hxy
        · cases hxy
      · cases h
    · cases h
  | sl id s off len =>
    simp only [sliceA] at h
    simp only [Rep] at hr
    obtain ⟨b, cap, hloc, hown, rfl, hcap⟩ := hr
    split at h
    · rename_i et het
      split at h
      · rename_i hsz
        split at h
        · rename_i x y hxy
          obtain ⟨h1, h2, h3, h4⟩ := sliceLH_spec hxy
          have hu := elemQ_spec het
          have e1 := sliceBnd_ok (P := P) (w := w) hhi hhi' (h4 (cap - off) (by omega)) .sliceAcap
          have e2 := sliceBnd_ok (P := P) (w := w) hlo hlo' h3 .sliceB
          refine .of_sem (u := .slice (some (if cap - off = x then ⟨b, off * s, none⟩ else ⟨b, off * s + x * s, none⟩)) (y - x) (cap - off - x)) ?_ ?_
          · have hadd : (if cap - off = x then some (⟨b, off * s, none⟩ : Addr) else (some (⟨b, off * s, none⟩ : Addr)).map (·.add (x * s))) = some (if cap - off = x then ⟨b, off * s, none⟩ else ⟨b, off * s + x * s, none⟩) := by
              split
              · rfl
              · simp [Addr.add_mk]
            rw [← hadd]
            cases h' <;> cases l' <;> simp_all [Instr.sliceAt, Instr.slice, Instr.sliceBounds, under_run hu, szQ_run hsz]
          · split at h
            · rename_i h0
              subst h0
              cases h
              simp only [Rep]
              refine ⟨b, cap, hloc, hown, ?_, by omega⟩
              simp
            · split at h
              · rename_i hlt
                cases h
                simp only [Rep]
                refine ⟨b, cap, hloc, hown, ?_, by omega⟩
                rw [if_neg (by omega), Nat.add_mul, Nat.sub_sub]
              · cases h
                simp only [Rep]
                refine ⟨_, _, by rw [show y - x = ([] : List AV).length from by simp; omega], by simp, trivial, .inl trivial⟩
        · cases h
      · cases h
    · cases h
  | str l =>
    simp only [sliceA] at h
    simp only [Rep] at hr
    subst hr
    split at h
    · rename_i hst
      split at h
      · rename_i x y hxy
        cases h
        unfold sliceLH at hxy
        split at hxy
        · rename_i hh hhe
          split at hxy
          · rename_i ll hle
            simp only [Option.some.injEq, Prod.mk.injEq] at hxy
            obtain ⟨rfl, rfl⟩ := hxy
            have hu := isStrQ_spec hst
            refine .of_sem (u := .string ((⟨l.toArray⟩ : ByteArray).extract ll hh)) ?_ ?_
            · have e1 := sliceBnd_ok (P := P) (w := w) hhi hhi' hhe .sliceAlen
              have e2 := sliceBnd_ok (P := P) (w := w) hlo hlo' hle .sliceB
              have hsz : (⟨l.toArray⟩ : ByteArray).size = l.length := by simp [ByteArray.size]
              cases h' <;> cases l' <;> simp_all [Instr.sliceAt, Instr.slice, Instr.sliceBounds, under_run hu]
            · simp only [Rep]
              congr 1
              apply Go.WideShapes.bytes_inj
              simp [List.drop_take]
          · cases hxy
        · cases hxy
      · cases h
    · cases h
  | _ => simp [sliceA] at h

theorem RepL.of_map {α : Type} (f : α → AV) (g : α → Value) (l : List α) (h : ∀ x ∈ l, Rep σ (f x) (g x)) : RepL σ (l.map f) (l.map g) := RepL.map f g l h

theorem pure_len {tys : Array TypeId} {ty : TypeId} {as : List AV} {us : Array Value} {v : AV} (hr : RepL σ as us.toList)
    (h : lenA P tys as = some v) : PureOk P σ w v (do pure (.value (← Builtin.len_ tys ty us))) := by
  obtain ⟨us⟩ := us
  cases as with
  | nil => simp [lenA] at h
  | cons a as =>
    cases as with
    | cons b as => cases a <;> simp [lenA] at h
    | nil =>
      rw [RepL.cons_iff] at hr
      obtain ⟨u, us', e, r, q⟩ := hr
      rw [RepL.nil_iff] at q
      subst q
      simp only at e
      subst e
      cases a with
      | str l =>
        simp only [lenA] at h
        simp only [Rep] at r
        subst r
        split at h
        · rename_i t ht
          split at h
          · rename_i hst
            cases h
            exact .of_sem (u := .int .i64 l.length) (by simp [Builtin.len_, ht, under_run (isStrQ_spec hst), goInt]; rfl) (by simp [Rep])
          · cases h
        · cases h
      | vec o es =>
        simp only [lenA] at h
        simp only [Rep] at r
        obtain ⟨ad, cap, rfl, _⟩ := r
        split at h
        · rename_i t ht
          split at h
          · rename_i hel
            cases h
            obtain ⟨e, he⟩ := Option.ne_none_iff_exists'.1 hel
            exact .of_sem (u := .int .i64 es.length) (by simp [Builtin.len_, ht, under_run (elemQ_spec he), goInt]) (by simp [Rep])
          · cases h
        · cases h
      | sl id s off n =>
        simp only [lenA] at h
        simp only [Rep] at r
        obtain ⟨b, cap, _, _, rfl, _⟩ := r
        split at h
        · rename_i t ht
          split at h
          · rename_i hel
            cases h
            obtain ⟨e, he⟩ := Option.ne_none_iff_exists'.1 hel
            exact .of_sem (u := .int .i64 n) (by simp [Builtin.len_, ht, under_run (elemQ_spec he), goInt]) (by simp [Rep])
          · cases h
        · cases h
      | val v0 =>
        simp only [lenA] at h
        simp only [Rep] at r
        subst r
        split at h
        · rename_i t ht
          split at h
          · rename_i hel
            obtain ⟨hes, hel⟩ := hel
            cases h
            obtain ⟨a0, c0, rfl⟩ := isES_spec hes
            obtain ⟨e, he⟩ := Option.ne_none_iff_exists'.1 hel
            exact .of_sem (u := .int .i64 0) (by simp [Builtin.len_, ht, under_run (elemQ_spec he), goInt]) (by simp [Rep])
          · cases h
        · cases h
      | _ => simp [lenA] at h

theorem pure_field {t : TypeId} {x : AV} {u : Value} {f : Nat} {v : AV} (hr : Rep σ x u) (h : fieldA P t f x = some v) : PureOk P σ w v (do pure (.value (← Instr.field t u f))) := by
  cases x with
  | agg cs =>
    simp only [fieldA] at h
    split at h
    · rename_i fs hfs
      obtain ⟨gs, hg, rfl⟩ := fieldsQ_spec hfs
      split at h
      · rename_i off ft hf
        rw [List.getElem?_map] at hf
        obtain ⟨g, hgf, hge⟩ := Option.map_eq_some_iff.1 hf
        rw [Array.getElem?_toList] at hgf
        have ho : g.offset = off := congrArg Prod.fst hge
        have ht : g.type = ft := congrArg Prod.snd hge
        simp only [Rep] at hr
        obtain ⟨us, rfl, r⟩ := hr
        obtain ⟨y, hy, ry⟩ := ldA_part (P := P) (w := w) r h
        exact .of_sem (u := y) (by simp [Instr.field, under_run hg, hgf, asAgg, ho, ht, hy]) ry
      · cases h
    · cases h
  | _ => simp [fieldA] at h

theorem keyEqA_ok {d : TypeDesc} {k k' : AV} {u u' : Value} {r : Bool} (rk : Rep σ k u) (rk' : Rep σ k' u') (hd : (∃ q, d = .int q) ∧ (∃ q n, k = .int q n) ∨ d = .string ∧ ∃ l, k = .str l) (h : keyEqA k k' = some r) :
    Instr.sameNow d u u' = some r := by
  rcases hd with ⟨⟨q, rfl⟩, q', n, rfl⟩ | ⟨rfl, l, rfl⟩
  · cases k' <;> simp only [keyEqA, reduceCtorEq] at h
    simp only [Rep] at rk rk'
    subst rk rk'
    simpa [Instr.sameNow] using h
  · cases k' <;> simp only [keyEqA, reduceCtorEq] at h
    simp only [Rep] at rk rk'
    subst rk rk'
    simp only [Instr.sameNow]
    simp only [Option.some.injEq] at h ⊢
    rw [← h]
    rw [Bool.eq_iff_iff, Go.MapKept.bytes_beq]
    simp

theorem findA_ok {d : TypeDesc} {k : AV} {u : Value} (rk : Rep σ k u) (hd : (∃ q, d = .int q) ∧ (∃ q n, k = .int q n) ∨ d = .string ∧ ∃ l, k = .str l) : ∀ (es : List (AV × AV × Nat)) (ms : List MapEntry) (i : Nat) (r : Option (Nat × AV)), RepE σ es ms → findA k es i = some r →
    ∃ r', Instr.findNow d u ms i = some r' ∧ ((r = none ∧ r' = none) ∨ ∃ j v x, r = some (j, v) ∧ r' = some (j, x) ∧ Rep σ v x)
  | [], ms, i, r, he, h => by
    simp only [RepE] at he
    subst he
    simp only [findA, Option.some.injEq] at h
    exact ⟨none, rfl, .inl ⟨h.symm, rfl⟩⟩
  | (k', v, b) :: es, ms, i, r, he, h => by
    simp only [RepE] at he
    obtain ⟨m, ms', rfl, r1, r2, r3, r4⟩ := he
    simp only [findA] at h
    cases hk : keyEqA k k' with
    | none => simp [hk] at h
    | some q =>
      have hs := keyEqA_ok rk r1 hd hk
      simp only [Instr.findNow, hs]
      cases q with
      | true =>
        simp only [hk, Option.some.injEq] at h
        exact ⟨_, rfl, .inr ⟨i, v, m.val, h.symm, rfl, r2⟩⟩
      | false =>
        simp only [hk] at h
        exact findA_ok rk hd es ms' (i + 1) r r4 h

theorem zeroV_ok {t : TypeId} {z : AV} (h : zeroV P t = some z) : ∃ u, (zeroValue t).run P w = .ok u w ∧ Rep σ z u := by
  unfold zeroV at h
  split at h
  · rename_i i hi
    obtain ⟨u, hu, rfl⟩ := Option.map_eq_some_iff.1 h
    exact ⟨u, by simp [zeroValue, typeInfo, hi, hu], Rep.ofV u⟩
  · cases h

theorem mapQ_spec {t kt et : TypeId} (h : mapQ P t = some (kt, et)) : P.underlying t = some (.map kt et) := by
  unfold mapQ at h
  split at h
  · rename_i k e he
    simp only [Option.some.injEq, Prod.mk.injEq] at h
    obtain ⟨rfl, rfl⟩ := h
    exact he
  · cases h

/-- The key is of its type, and is looked for as it is here. -/
theorem key_ok {kt : TypeId} {k : AV} {u : Value} (rk : Rep σ k u) (hk : keyOkA P kt k = true) {es : List (AV × AV × Nat)} {ms : List MapEntry} (he : RepE σ es ms) {r : Option (Nat × AV)} (h : findA k es 0 = some r) (em : Bool) :
    (Instr.checkKey em 10000 kt u).run P w = .ok () w ∧ ∃ r', (Instr.findKey kt u ms).run P w = .ok r' w ∧ ((r = none ∧ r' = none) ∨ ∃ j v x, r = some (j, v) ∧ r' = some (j, x) ∧ Rep σ v x) := by
  unfold keyOkA at hk
  cases hu : P.underlying kt with
  | none => simp [hu] at hk
  | some d =>
    cases d <;> simp only [hu, Bool.false_eq_true] at hk
    case int q =>
      cases k <;> simp only [Bool.false_eq_true] at hk
      rename_i q' n
      obtain ⟨r', h1, h2⟩ := findA_ok (d := .int q) rk (.inl ⟨⟨q, rfl⟩, q', n, rfl⟩) es ms 0 r he h
      refine ⟨?_, r', by simp [Instr.findKey, under_run hu, h1], h2⟩
      simp only [Rep] at rk
      subst rk
      exact Go.MapKept.run_checkKey (n := 9999) hu (by simpa [Go.MapKept.IsKey] using hk) em
    case string =>
      cases k <;> simp only [Bool.false_eq_true] at hk
      rename_i l
      obtain ⟨r', h1, h2⟩ := findA_ok (d := .string) rk (.inr ⟨rfl, l, rfl⟩) es ms 0 r he h
      refine ⟨?_, r', by simp [Instr.findKey, under_run hu, h1], h2⟩
      simp only [Rep] at rk
      subst rk
      exact Go.MapKept.run_checkKey (n := 9999) hu (by simp [Go.MapKept.IsKey]) em
    case array n el =>
      cases k <;> simp only [Bool.false_eq_true] at hk
      rename_i cs
      simp only [Bool.and_eq_true, beq_iff_eq] at hk
      obtain ⟨⟨hn, hel⟩, hsz⟩ := hk
      obtain ⟨q, hq⟩ : ∃ q, P.underlying el = some (.int q) := by
        split at hel
        · rename_i q hq; exact ⟨q, hq⟩
        · cases hel
      simp only [Rep] at rk
      obtain ⟨us, rfl, rl⟩ := rk
      have hl := rl.length
      constructor
      · show (Instr.checkKey em (9999 + 1) kt (.agg us.toArray)).run P w = _
        rw [Instr.checkKey]
        simp only [Sem.run_bind, under_run hu, Result.andThen_ok]
        simp only [Std.Legacy.Range.forIn_eq_forIn_range', Std.Legacy.Range.size, Nat.sub_zero, Nat.add_one_sub_one, Nat.div_one]
        have each : ∀ i ∈ List.range' 0 n, i < n := fun i hi => by simpa using hi
        generalize List.range' 0 n = is at each
        induction is with
        | nil => simp
        | cons j is ih =>
          have hj := each j (by simp)
          have hlt : j < us.length := by omega
          have hagg : (isAgg el).run P w = .ok false w := by simp [isAgg, under_run hq]
          have p1 : (part el us.toArray (j * 1)).run P w = .ok us[j] w := by
            simp [part, hagg, hlt]
          have p2 : (Instr.checkKey em 9999 el us[j]).run P w = .ok () w := by
            show (Instr.checkKey em (9998 + 1) el us[j]).run P w = _
            rw [Instr.checkKey]
            simp [under_run hq]
          simp only [List.forIn_cons, Sem.run_bind, szQ_run hsz, Result.andThen_ok, p1, p2, Sem.run_pure]
          exact ih fun i hi => each i (by simp [hi])
      · cases es with
        | nil =>
          simp only [RepE] at he
          subst he
          simp only [findA, Option.some.injEq] at h
          exact ⟨none, by simp [Instr.findKey, under_run hu, Instr.findNow], .inl ⟨h.symm, rfl⟩⟩
        | cons e es =>
          obtain ⟨k', v, b⟩ := e
          simp [findA, keyEqA] at h

theorem pure_lookup (hs : Sim P B W0 H σ w) {t : TypeId} {m k : AV} {um uk : Value} {ok : Bool} {v : AV} (rm : Rep σ m um) (rk : Rep σ k uk) (h : lookupA P H t m k ok = some v) :
    PureOk P σ w v (do pure (.value (← Instr.lookup t um uk ok))) := by
  unfold lookupA at h
  split at h
  · rename_i id
    split at h
    · rename_i es clock hg
      split at h
      · rename_i kt et hmq
        split at h
        · rename_i hk
          have hu := mapQ_spec hmq
          obtain ⟨b, ms, hb, _, hh, re, _⟩ := hs.obj id _ hg
          simp only [Rep] at rm
          obtain ⟨b', hb', rfl⟩ := rm
          rw [hb] at hb'
          cases hb'
          split at h
          · rename_i j v1 hf
            obtain ⟨k1, r', k2, k3⟩ := key_ok (w := w) rk hk re hf (em := ms.isEmpty)
            obtain ⟨j', v', x, e1, rfl, rx⟩ := k3.resolve_left (by simp)
            simp only [Option.some.injEq, Prod.mk.injEq] at e1
            obtain ⟨rfl, rfl⟩ := e1
            cases h
            refine .of_sem (u := if ok then .tuple #[x, .bool true] else x) ?_ ?_
            · simp [Instr.lookup, under_run hu, Go.MapKept.run_getObj_map hh, k1, k2]
            · cases ok
              · simpa using rx
              · simp only [if_true, Rep]
                exact ⟨[x, .bool true], rfl, RepL.cons_iff.2 ⟨_, _, rfl, rx, RepL.cons_iff.2 ⟨_, _, rfl, by simp [Rep], by simp [RepL]⟩⟩⟩
          · rename_i hf
            obtain ⟨k1, r', k2, k3⟩ := key_ok (w := w) rk hk re hf (em := ms.isEmpty)
            have : r' = none := by
              rcases k3 with ⟨_, h2⟩ | ⟨j, v, x, h1, _⟩
              · exact h2
              · simp at h1
            subst this
            split at h
            · rename_i z hz
              obtain ⟨x, hx, rx⟩ := zeroV_ok (σ := σ) (w := w) hz
              cases h
              refine .of_sem (u := if ok then .tuple #[x, .bool false] else x) ?_ ?_
              · simp [Instr.lookup, under_run hu, Go.MapKept.run_getObj_map hh, k1, k2, hx]
              · cases ok
                · simpa using rx
                · simp only [if_true, Rep]
                  exact ⟨[x, .bool false], rfl, RepL.cons_iff.2 ⟨_, _, rfl, rx, RepL.cons_iff.2 ⟨_, _, rfl, by simp [Rep], by simp [RepL]⟩⟩⟩
            · cases h
          · cases h
        · cases h
      · cases h
    · cases h
  · cases h

theorem two_ints {as : List AV} {us : Array Value} (hr : RepL σ as us.toList) {k k' : IntKind} {a b : Int} (h : as = [.int k a, .int k' b]) : us = #[.int k a, .int k' b] := by
  obtain ⟨us⟩ := us
  subst h
  rw [RepL.cons_iff] at hr
  obtain ⟨u, us', e, r, q⟩ := hr
  rw [RepL.cons_iff] at q
  obtain ⟨u2, us2, e2, r2, q2⟩ := q
  rw [RepL.nil_iff] at q2
  simp only [Rep] at r r2
  subst q2 e2 r r2
  simp only at e
  subst e
  rfl

theorem maxA_spec {as : List AV} {v : AV} (h : maxA as = some v) : ∃ k k' a b, as = [.int k a, .int k' b] ∧ v = .int k (if b > a then b else a) := by
  unfold maxA at h
  split at h
  · cases h; exact ⟨_, _, _, _, rfl, rfl⟩
  · cases h

theorem minA_spec {as : List AV} {v : AV} (h : minA as = some v) : ∃ k k' a b, as = [.int k a, .int k' b] ∧ v = .int k (if b < a then b else a) := by
  unfold minA at h
  split at h
  · cases h; exact ⟨_, _, _, _, rfl, rfl⟩
  · cases h

theorem pureOp_sound (hs : Sim P B W0 H σ w) (o : Oper) (ρa : Operand → AV) (ρ : Operand → Value) (hρ : ∀ x ∈ o.op.operands, Rep σ (ρa x) (ρ x)) {v : AV}
    (h : pureOp P o.op ρa H = some v) : PureOk P σ w v (execOp ρ o) := by
  obtain ⟨dst, op, ty, pos, after, guard⟩ := o
  simp only at h hρ
  cases op <;> simp only [pureOp, reduceCtorEq] at h
  case move x => cases h; exact ⟨ρ x, rfl, hρ x (by simp [Op.operands])⟩
  case assign x => cases h; exact ⟨ρ x, rfl, hρ x (by simp [Op.operands])⟩
  case pick c a b =>
    have rc := hρ c (by simp [Op.operands])
    have ra := hρ a (by simp [Op.operands])
    have rb := hρ b (by simp [Op.operands])
    cases hc : ρa c with
    | bool t =>
      simp only [hc, pickA] at h rc
      simp only [Rep] at rc
      cases h
      refine ⟨if t then ρ a else ρ b, by cases t <;> simp [execOp, rc, asBool], ?_⟩
      cases t <;> simpa
    | _ => simp [hc, pickA] at h
  case load t a => exact pure_load hs (hρ a (by simp [Op.operands])) h
  case fieldAddr s x f => exact pure_fieldAddr (hρ x (by simp [Op.operands])) h
  case indexAddr t x i => exact pure_indexAddr (hρ x (by simp [Op.operands])) (hρ i (by simp [Op.operands])) h
  case index t x i => exact pure_index (hρ x (by simp [Op.operands])) (hρ i (by simp [Op.operands])) h
  case binOp op t x y t' =>
    unfold binC at h
    split at h
    · rename_i hb
      have rx := hρ x (by simp [Op.operands])
      have ry := hρ y (by simp [Op.operands])
      generalize ρa x = X at hb rx
      generalize ρa y = Y at hb ry
      unfold bothNil at hb
      split at hb
      · simp only [Rep] at rx ry
        split at h
        · rename_i hc
          obtain ⟨hc1, hc2⟩ := hc
          obtain ⟨ms, hpe⟩ : ∃ ms, P.underlying t = some (.interface ms) := by
            unfold ifaceQ at hc2; split at hc2
            · rename_i e he; exact ⟨e, he⟩
            · cases hc2
          have hcc : (x matches .const _) || (y matches .const _) := by
            simp only [Bool.or_eq_true] at hc1 ⊢
            rcases hc1 with h1 | h1
            · left; cases x <;> simp [isConstO] at h1 ⊢
            · right; cases y <;> simp [isConstO] at h1 ⊢
          have hg : (eqGuard op t x y .nilIface .nilIface).run P w = .ok () w := by
            simp only [Bool.or_eq_true] at hcc
            rcases hcc with h1 | h1
            · cases op <;> cases x <;> simp at h1 <;> simp [eqGuard]
            · cases op <;> cases y <;> simp at h1 <;> cases x <;> simp [eqGuard]
          have hq : ∀ d, (Op.equalIn (d + 1) t .nilIface .nilIface).run P w = .ok true w := fun d => by simp [Op.equalIn, under_run hpe]
          have hq := hq 9999
          rcases nilBin_ok h with ⟨rfl, rfl⟩ | ⟨rfl, rfl⟩
          · exact .of_sem (u := .bool true) (by rw [rx, ry]; simp only [Sem.run_bind, hg, Result.andThen_ok, binOp, Op.equal, Op.maxDepth]; simp [hq]) (by simp [Rep])
          · exact .of_sem (u := .bool false) (by rw [rx, ry]; simp only [Sem.run_bind, hg, Result.andThen_ok, binOp, Op.equal, Op.maxDepth]; simp [hq]) (by simp [Rep])
        · cases h
      · cases hb
    · exact binA_ok (hρ x (by simp [Op.operands])) (hρ y (by simp [Op.operands])) h
  case unOp op t x =>
    have rx := hρ x (by simp [Op.operands])
    generalize ρa x = y at h rx
    unfold unA at h
    split at h
    · rename_i b
      simp only [Rep] at rx
      cases h
      exact ⟨.bool (!b), by simp [execOp, rx, Op.unary], by simp [Rep]⟩
    · rename_i k n
      simp only [Rep] at rx
      cases h
      exact ⟨.int k (k.wrap (0 - n)), by simp [execOp, rx, Op.unary, Op.intArith], by simp [Rep]⟩
    · cases h
  case convert s d x =>
    have rx := hρ x (by simp [Op.operands])
    generalize ρa x = y at h rx
    unfold convA at h
    split at h
    · rename_i k n
      simp only [Rep] at rx
      split at h
      · rename_i hsrc
        split at h
        · rename_i k' hk
          cases h
          have hd := intQ_spec hk
          obtain ⟨ds, hds⟩ : ∃ ds, P.underlying s = some ds := by
            unfold aggQ at hsrc
            cases hu : P.underlying s with
            | none => simp [hu] at hsrc
            | some ds => exact ⟨ds, rfl⟩
          exact ⟨.int k' (k'.wrap n), by simp [execOp, Go.convert, rx, under_run hd, under_run hds, Conv.intToInt], by simp [Rep]⟩
        · cases h
      · cases h
    · cases h
  case extract x i =>
    have rx := hρ x (by simp [Op.operands])
    generalize ρa x = y at h rx
    unfold extractA at h
    split at h
    · simp only [Rep] at rx
      obtain ⟨us, e, r⟩ := rx
      obtain ⟨u, hu, ru⟩ := r.get h
      exact ⟨u, by simp [execOp, e, Instr.extract, hu], ru⟩
    · cases h
  case build t parts =>
    refine pure_build (us := parts.map fun (i, x) => (i, ρ x)) (by simp) ?_ h
    intro i p u hp hu
    simp only [List.getElem?_map] at hp
    simp only [Array.toList_map, List.getElem?_map] at hu
    obtain ⟨q, hq, rfl⟩ := Option.map_eq_some_iff.1 hp
    rw [hq] at hu
    simp only [Option.map_some, Option.some.injEq] at hu
    subst hu
    refine hρ q.2 ?_
    simp only [Op.operands]
    have : q ∈ parts.toList := List.mem_of_getElem? hq
    simp
    exact ⟨q.1, by simpa using this⟩
  case slice t x lo hi mx =>
    cases mx with
    | some m =>
      simp only at h
      refine pure_slice3 (m' := some (ρ m)) (hρ x (by simp [Op.operands])) ?_ (by simp) ?_ (by simp) ?_ (by simp) h
      · intro a z ha hz
        cases lo with
        | none => simp at ha
        | some y => simp at ha hz; subst ha hz; exact hρ y (by simp [Op.operands])
      · intro a z ha hz
        cases hi with
        | none => simp at ha
        | some y => simp at ha hz; subst ha hz; exact hρ y (by simp [Op.operands])
      · intro a z ha hz
        simp at ha hz; subst ha hz; exact hρ m (by simp [Op.operands])
    | none =>
      simp only at h
      refine pure_slice (hρ x (by simp [Op.operands])) ?_ (by simp) ?_ (by simp) h
      · intro a z ha hz
        cases lo with
        | none => simp at ha
        | some y => simp at ha hz; subst ha hz; exact hρ y (by simp [Op.operands])
      · intro a z ha hz
        cases hi with
        | none => simp at ha
        | some y => simp at ha hz; subst ha hz; exact hρ y (by simp [Op.operands])
  case field t x f => exact pure_field (hρ x (by simp [Op.operands])) h
  case lookup t m k ok => exact pure_lookup hs (hρ m (by simp [Op.operands])) (hρ k (by simp [Op.operands])) h
  case makeFunc f first cap =>
    cases h
    refine ⟨.func f (first.map ρ) (cap.map ρ), rfl, ?_⟩
    simp only [Rep]
    refine ⟨first.toList.map ρ, cap.toList.map ρ, by simp [← Array.toList_map], ?_, ?_⟩
    · exact RepL.map _ _ _ fun x hx => hρ x (by simp [Op.operands]; exact .inl (by simpa using hx))
    · exact RepL.map _ _ _ fun x hx => hρ x (by simp [Op.operands]; exact .inr (by simpa using hx))
  case nilCheck x =>
    have rx := hρ x (by simp [Op.operands])
    generalize ρa x = y at h rx
    unfold nilCheckA at h
    split at h
    · cases h
      have rx' := rx
      simp only [Rep] at rx
      obtain ⟨b, hb, e⟩ := rx
      exact ⟨ρ x, by simp [execOp, e], rx'⟩
    · cases h
      have rx' := rx
      simp only [Rep] at rx
      obtain ⟨b, o, e, _⟩ := rx
      exact ⟨ρ x, by simp [execOp, e], rx'⟩
    · cases h
      have rx' := rx
      simp only [Rep] at rx
      obtain ⟨us, vs, e, _⟩ := rx
      exact ⟨ρ x, by simp [execOp, e], rx'⟩
    · cases h
  case call c =>
    cases hcal : c.callee with
    | builtin b =>
      have hargs : RepL σ (c.args.toList.map ρa) (c.args.map ρ).toList := by
        simp only [Array.toList_map]
        exact RepL.map _ _ _ fun x hx => hρ x (by simp [Op.operands, Call.operands, hcal]; exact by simpa using hx)
      simp only [hcal] at h
      cases b <;> simp only [reduceCtorEq] at h
      case len =>
        have := pure_len (P := P) (w := w) (ty := ty) hargs h
        obtain ⟨u, hu, ru⟩ := this
        exact ⟨u, by simpa [execOp, resolve, hcal, invoke, builtin] using hu, ru⟩
      case max =>
        obtain ⟨k, k', a, b, e, rfl⟩ := maxA_spec h
        have e' := two_ints hargs e
        exact ⟨.int k (if b > a then b else a), by simp [execOp, resolve, hcal, invoke, builtin, e', Builtin.max_, Builtin.max2], by simp [Rep]⟩
      case min =>
        obtain ⟨k, k', a, b, e, rfl⟩ := minA_spec h
        have e' := two_ints hargs e
        exact ⟨.int k (if b < a then b else a), by simp [execOp, resolve, hcal, invoke, builtin, e', Builtin.min_, Builtin.min2], by simp [Rep]⟩
    | _ => simp [hcal] at h

end
end Go.Ab
