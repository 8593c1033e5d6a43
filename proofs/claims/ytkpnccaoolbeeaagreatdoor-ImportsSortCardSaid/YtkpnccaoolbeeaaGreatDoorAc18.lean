/- How a run is reckoned by simp: one equation a form of code, a form of operation. -/
import Derived.Test.YtkpnccaoolbeeaaGreatDoorAc17
namespace Go.Ab
set_option linter.unusedVariables false
open Go

section
variable {E : Env} {call : CallO} {loop : (Frm → AHeap → Option Res) → Frm → AHeap → Option Res} {α : Frm} {H : AHeap} {ρ : Operand → AV}

@[congr] theorem bnd_congr {A B : Type} {x x' : Option A} {f : A → Option B} (h : x = x') : bnd x f = bnd x' f := by rw [h]
@[congr] theorem sel_congr {A : Type} {c c' : Bool} {x y : A} (h : c = c') : sel c x y = sel c' x y := by rw [h]

theorem bnd_ok {A B : Type} (a : A) (f : A → Option B) : bnd (some a) f = f a := (rfl)
theorem bnd_no {A B : Type} (f : A → Option B) : bnd none f = none := (rfl)
theorem sel_t {A : Type} (x y : A) : sel true x y = x := (rfl)
theorem sel_f {A : Type} (x y : A) : sel false x y = y := (rfl)
theorem bnd_sel {A B : Type} (c : Bool) (x y : Option A) (f : A → Option B) : bnd (sel c x y) f = sel c (bnd x f) (bnd y f) := by cases c <;> exact (rfl)
theorem bnd_bnd {A B C : Type} (x : Option A) (f : A → Option B) (g : B → Option C) : bnd (bnd x f) g = bnd x fun a => bnd (f a) g := by cases x <;> rfl

theorem xc_skip : execC E call loop .skip α H = some (.normal, α, H) := (rfl)
theorem xc_region (id : Nat) (l : List Oper) : execC E call loop (.region id l.toArray false) α H = bnd (execOps E call l.toArray l α H) fun r => some (.normal, r.1, r.2) := (rfl)
theorem xc_region_n (id : Nat) (l : List Oper) (hd : E.dyn id = false) : execC E call loop (.region id l.toArray true) α H = bnd (execOps E call l.toArray l α H) fun r => some (.normal, r.1, r.2) := by simp [execC, hd, sel]
theorem xc_region_d (id : Nat) (l : List Oper) (hd : E.dyn id = true) : execC E call loop (.region id l.toArray true) α H = bnd (execOpsD E call l.toArray 0 l [] [] α H) fun r => some (.normal, r.1, r.2) := by simp [execC, hd, sel]
theorem xc_seq (a b : Code) : execC E call loop (.seq a b) α H = bnd (execC E call loop a α H) fun r => andThen r (execC E call loop b) := (rfl)
theorem xc_cond (c : Operand) (a b : Code) : execC E call loop (.cond c a b) α H = condA α c (execC E call loop a α H) (execC E call loop b α H) := (rfl)
theorem xc_block (id : Nat) (c : Code) : execC E call loop (.block id c) α H = bnd (execC E call loop c α H) fun r => some (unblock id r) := (rfl)
theorem xc_loop (c : Code) : execC E call loop (.loop c) α H = loop (execC E call loop c) α H := (rfl)
theorem xc_exit (id : Nat) : execC E call loop (.exit id) α H = some (.exit id, α, H) := (rfl)
theorem xc_ret : execC E call loop .ret α H = some (.ret, α, H) := (rfl)

theorem xc_seq_region (id : Nat) (l : List Oper) (b : Code) : execC E call loop (.seq (.region id l.toArray false) b) α H = bnd (execOps E call l.toArray l α H) fun r => execC E call loop b r.1 r.2 := by
  rw [xc_seq, xc_region, bnd_bnd]
  congr 1
theorem xc_seq_region_n (id : Nat) (l : List Oper) (b : Code) (hd : E.dyn id = false) : execC E call loop (.seq (.region id l.toArray true) b) α H = bnd (execOps E call l.toArray l α H) fun r => execC E call loop b r.1 r.2 := by
  rw [xc_seq, xc_region_n _ _ hd, bnd_bnd]
  congr 1
theorem xc_seq_region_d (id : Nat) (l : List Oper) (b : Code) (hd : E.dyn id = true) : execC E call loop (.seq (.region id l.toArray true) b) α H = bnd (execOpsD E call l.toArray 0 l [] [] α H) fun r => execC E call loop b r.1 r.2 := by
  rw [xc_seq, xc_region_d _ _ hd, bnd_bnd]
  congr 1

theorem then_normal (f : Frm → AHeap → Option Res) : andThen (.normal, α, H) f = f α H := (rfl)
theorem then_exit (id : Nat) (f : Frm → AHeap → Option Res) : andThen (.exit id, α, H) f = some (.exit id, α, H) := (rfl)
theorem then_ret (f : Frm → AHeap → Option Res) : andThen (.ret, α, H) f = some (.ret, α, H) := (rfl)
theorem unblock_normal (id : Nat) : unblock id (.normal, α, H) = (.normal, α, H) := (rfl)
theorem unblock_ret (id : Nat) : unblock id (.ret, α, H) = (.ret, α, H) := (rfl)
theorem unblock_exit (id : Nat) : unblock id (.exit id, α, H) = (.normal, α, H) := by simp [unblock]
theorem unblock_other {id j : Nat} (h : j ≠ id) : unblock id (.exit j, α, H) = (.exit j, α, H) := by simp [unblock, h]

def condB (v : AV) (x y : Option Res) : Option Res :=
  match v with
  | .bool c => sel c x y
  | _ => none
theorem condA_eq (c : Operand) (x y : Option Res) : condA α c x y = condB (ev α c) x y := (rfl)
@[congr] theorem condB_congr {v v' : AV} {x y : Option Res} (h : v = v') : condB v x y = condB v' x y := by rw [h]
theorem condB_bool (c : Bool) (x y : Option Res) : condB (.bool c) x y = sel c x y := (rfl)

theorem xo_nil (all : Array Oper) : execOps E call all [] α H = some (α, H) := (rfl)
theorem xo_cons (all : Array Oper) (dst : Option Tmp) (op : Op) (ty : TypeId) (pos : String) (after : Array Edge) (rest : List Oper) :
    execOps E call all (⟨dst, op, ty, pos, after, none⟩ :: rest) α H = bnd (stepOp E call op (ev α) H) fun r => execOps E call all rest (put α dst r.1) r.2 := (rfl)

/-! A region that is looked at while it runs. -/
def xdK (kd : Kd) (E : Env) (call : CallO) (all : Array Oper) (k : Nat) (o : Oper) (rest : List Oper) (rs : List (Nat × Oper × Frm × AV)) (ws : List (Nat × AHeap)) (α : Frm) (H : AHeap) (r : AV × AHeap) : Option (Frm × AHeap) :=
  match kd with
  | .ins => execOpsD E call all (k + 1) rest rs ws (put α o.dst r.1) r.2
  | .rd => sel (ws.all fun w => behind all all.size k w.1 || reads E call o α r.1 w.2) (execOpsD E call all (k + 1) rest ((k, o, α, r.1) :: rs) ws (put α o.dst r.1) r.2) none
  | .wr => sel (rs.all fun q => behind all all.size k q.1 || reads E call q.2.1 q.2.2.1 q.2.2.2 r.2) (execOpsD E call all (k + 1) rest rs ((k, H) :: ws) (put α o.dst r.1) r.2) none
@[congr] theorem xdK_congr {kd kd' : Kd} {all : Array Oper} {k : Nat} {o : Oper} {rest : List Oper} {rs : List (Nat × Oper × Frm × AV)} {ws : List (Nat × AHeap)} {r : AV × AHeap} (h : kd = kd') : xdK kd E call all k o rest rs ws α H r = xdK kd' E call all k o rest rs ws α H r := by rw [h]
theorem xdK_ins (all : Array Oper) (k : Nat) (o : Oper) (rest : List Oper) (rs : List (Nat × Oper × Frm × AV)) (ws : List (Nat × AHeap)) (r : AV × AHeap) : xdK .ins E call all k o rest rs ws α H r = execOpsD E call all (k + 1) rest rs ws (put α o.dst r.1) r.2 := (rfl)
theorem xdK_rd (all : Array Oper) (k : Nat) (o : Oper) (rest : List Oper) (rs : List (Nat × Oper × Frm × AV)) (ws : List (Nat × AHeap)) (r : AV × AHeap) : xdK .rd E call all k o rest rs ws α H r = sel (ws.all fun w => behind all all.size k w.1 || reads E call o α r.1 w.2) (execOpsD E call all (k + 1) rest ((k, o, α, r.1) :: rs) ws (put α o.dst r.1) r.2) none := (rfl)
theorem xdK_wr (all : Array Oper) (k : Nat) (o : Oper) (rest : List Oper) (rs : List (Nat × Oper × Frm × AV)) (ws : List (Nat × AHeap)) (r : AV × AHeap) : xdK .wr E call all k o rest rs ws α H r = sel (rs.all fun q => behind all all.size k q.1 || reads E call q.2.1 q.2.2.1 q.2.2.2 r.2) (execOpsD E call all (k + 1) rest rs ((k, H) :: ws) (put α o.dst r.1) r.2) none := (rfl)
theorem xd_nil (all : Array Oper) (k : Nat) (rs : List (Nat × Oper × Frm × AV)) (ws : List (Nat × AHeap)) : execOpsD E call all k [] rs ws α H = some (α, H) := (rfl)
theorem xd_cons (all : Array Oper) (k : Nat) (dst : Option Tmp) (op : Op) (ty : TypeId) (pos : String) (after : Array Edge) (rest : List Oper) (rs : List (Nat × Oper × Frm × AV)) (ws : List (Nat × AHeap)) :
    execOpsD E call all k (⟨dst, op, ty, pos, after, none⟩ :: rest) rs ws α H = bnd (stepOp E call op (ev α) H) fun r => xdK (kdOf E op) E call all k ⟨dst, op, ty, pos, after, none⟩ rest rs ws α H r := by
  simp only [execOpsD, wantedA, bnd, sel, if_true]
  rfl
theorem kd_load (t : TypeId) (x : Operand) : kdOf E (.load t x) = .rd := (rfl)
theorem kd_alloc (t : TypeId) : kdOf E (.alloc t) = .wr := (rfl)
theorem kd_store (t : TypeId) (x y : Operand) : kdOf E (.store t x y) = .wr := (rfl)
theorem kd_fieldAddr (t : TypeId) (x : Operand) (f : Nat) : kdOf E (.fieldAddr t x f) = .ins := (rfl)
theorem kd_move (x : Operand) : kdOf E (.move x) = .ins := (rfl)
theorem kd_assign (x : Operand) : kdOf E (.assign x) = .ins := (rfl)
theorem kd_build (t : TypeId) (l : Array (Nat × Operand)) : kdOf E (.build t l) = .ins := (rfl)
def sameO (r : Option (AV × AHeap)) (v : AV) : Bool := match r with | some p => sameAV p.1 v | none => false
theorem sameO_some (u v : AV) : sameO (some (u, H)) v = sameAV u v := (rfl)
@[congr] theorem sameO_congr {r r' : Option (AV × AHeap)} {v : AV} (h : r = r') : sameO r v = sameO r' v := by rw [h]
theorem reads_eq (o : Oper) (v : AV) : reads E call o α v H = sameO (stepOp E call o.op (ev α) H) v := by
  unfold reads sameO
  cases stepOp E call o.op (ev α) H <;> rfl
theorem sa_int (k : IntKind) (a : Int) : sameAV (.int k a) (.int k a) = true := by simp [sameAV]
theorem sa_any : sameAV .any .any = true := by simp [sameAV]
theorem sa_bool (a : Bool) : sameAV (.bool a) (.bool a) = true := by simp [sameAV]
theorem sa_str (a : List UInt8) : sameAV (.str a) (.str a) = true := by simp [sameAV]
theorem sa_agg (xs ys : List AV) : sameAV (.agg xs) (.agg ys) = sameL xs ys := by simp [sameAV]
theorem sa_cons (x y : AV) (xs ys : List AV) : sameL (x :: xs) (y :: ys) = (sameAV x y && sameL xs ys) := by simp [sameL]
theorem sa_nil : sameL [] [] = true := by simp [sameL]
attribute [go_sem] sa_int sa_any sa_bool sa_str sa_agg sa_cons sa_nil
attribute [go_sem ↓] xd_nil xd_cons kd_load kd_alloc kd_store kd_fieldAddr kd_move kd_assign kd_build
attribute [go_sem] xdK_ins xdK_rd xdK_wr reads_eq sameO_some xc_region_n xc_region_d xc_seq_region_n xc_seq_region_d List.all_cons List.all_nil Bool.or_true Bool.and_true Bool.and_self

def wantedB (b : Bool) (v : AV) : Option Bool :=
  match v with
  | .bool c => some (c == b)
  | .val (.tuple _) => some false
  | _ => none
theorem wantedB_bool (b c : Bool) : wantedB b (.bool c) = some (c == b) := (rfl)
theorem wantedB_tt : wantedB true (.bool true) = some true := (rfl)
theorem wantedB_tf : wantedB true (.bool false) = some false := (rfl)
theorem wantedB_ft : wantedB false (.bool true) = some false := (rfl)
theorem wantedB_ff : wantedB false (.bool false) = some true := (rfl)
theorem wantedB_undef (b : Bool) : wantedB b undefA = some false := (rfl)

def slotOf (all : Array Oper) (j : Nat) : Option Tmp := (all[j]?).bind (·.dst)

def wantS (b : Bool) (α : Frm) (d : Option Tmp) : Option Bool :=
  match d with
  | some d => wantedB b (α d)
  | none => none
theorem wantS_some (b : Bool) (d : Tmp) : wantS b α (some d) = wantedB b (α d) := (rfl)
@[congr] theorem wantS_congr {b : Bool} {d d' : Option Tmp} (h : d = d') : wantS b α d = wantS b α d' := by rw [h]
@[congr] theorem wantedB_congr {b : Bool} {v v' : AV} (h : v = v') : wantedB b v = wantedB b v' := by rw [h]

theorem wantedA_eq (all : Array Oper) (j : Nat) (b : Bool) : wantedA all (some (j, b)) α = wantS b α (slotOf all j) := by
  unfold wantedA wantS slotOf
  cases h : (all[j]?).bind (·.dst) with
  | none => simp only [h]
  | some d => simp only [h]; rfl

theorem xo_guard (all : Array Oper) (dst : Option Tmp) (op : Op) (ty : TypeId) (pos : String) (after : Array Edge) (rest : List Oper) (j : Nat) (b : Bool) :
    execOps E call all (⟨dst, op, ty, pos, after, some (j, b)⟩ :: rest) α H = bnd (wantS b α (slotOf all j)) fun c =>
      sel c (bnd (stepOp E call op (ev α) H) fun r => execOps E call all rest (put α dst r.1) r.2) (execOps E call all rest (put α dst undefA) H) := by
  rw [← wantedA_eq]; rfl

def slotL : List Oper → Nat → Option Tmp
  | [], _ => none
  | o :: _, 0 => o.dst
  | _ :: r, n + 1 => slotL r n
theorem slotOf_list (l : List Oper) (j : Nat) : slotOf l.toArray j = slotL l j := by
  unfold slotOf
  induction l generalizing j with
  | nil => simp [slotL]
  | cons o r ih => cases j with
    | zero => simp [slotL]
    | succ n => simpa [slotL] using ih n
theorem slotL_zero (o : Oper) (r : List Oper) : slotL (o :: r) 0 = o.dst := (rfl)
theorem slotL_succ (o : Oper) (r : List Oper) (n : Nat) : slotL (o :: r) (n + 1) = slotL r n := (rfl)

theorem box_agg (cs : List AV) : boxA (.agg cs) H = some (.ptr H.next 0, H.push (.cells none cs)) := by simp [boxA, AV.width, AV.cells]
theorem box_int (k : IntKind) (n : Int) : boxA (.int k n) H = some (.ptr H.next 0, H.push (.cells none [.int k n])) := by simp [boxA, AV.width, AV.cells]
theorem heap_push (n : Nat) (l : List (Nat × AObj)) (x : AObj) : AHeap.push ⟨n, l⟩ x = ⟨n + 1, (n, x) :: l⟩ := (rfl)
theorem heap_set (n : Nat) (l : List (Nat × AObj)) (i : Nat) (x : AObj) : AHeap.set ⟨n, l⟩ i x = ⟨n, setL l i x⟩ := (rfl)
theorem heap_next (n : Nat) (l : List (Nat × AObj)) : AHeap.next ⟨n, l⟩ = n := (rfl)
def cellsQ (l : List (Nat × AObj)) (id : Nat) : Option (List AV) := match getL l id with | some (.cells _ cs) => some cs | some (.row _ _ _ cs) => some cs | _ => none
/-- The object that is written again. -/
def reObj (o : Option AObj) (cs : List AV) : AObj := match o with | some (.row n et s _) => .row n et s cs | some (.cells te _) => .cells te cs | _ => .cells none cs
theorem reObj_cells (te : Option TypeId) (cs ds : List AV) : reObj (some (.cells te cs)) ds = .cells te ds := (rfl)
theorem getL_cons (k : Nat) (x : AObj) (r : List (Nat × AObj)) (id : Nat) : getL ((k, x) :: r) id = if k = id then some x else getL r id := (rfl)
theorem cellsQ_cons (k : Nat) (te : Option TypeId) (cs : List AV) (r : List (Nat × AObj)) (id : Nat) : cellsQ ((k, .cells te cs) :: r) id = if k = id then some cs else cellsQ r id := by
  by_cases h : k = id <;> simp [cellsQ, getL, h]
theorem cellsQ_tip (k n : Nat) (et : TypeId) (r : List (Nat × AObj)) (id : Nat) : cellsQ ((k, .tip n et) :: r) id = if k = id then none else cellsQ r id := by
  by_cases h : k = id <;> simp [cellsQ, getL, h]
theorem setL_cons (k : Nat) (x y : AObj) (r : List (Nat × AObj)) (id : Nat) : setL ((k, x) :: r) id y = if k = id then (k, y) :: r else (k, x) :: setL r id y := (rfl)

/-- Reading a place of a block. -/
theorem load_ptr (P : Program) (t : TypeId) (n : Nat) (l : List (Nat × AObj)) (id off : Nat) : loadA P ⟨n, l⟩ t (.ptr id off) = if id < n then bnd (cellsQ l id) fun cs => ldA P t cs off else none := by
  by_cases h : id < n
  · simp only [loadA, AHeap.get, cellsQ, h, if_true]
    cases getL l id with
    | none => rfl
    | some o => cases o <;> rfl
  · simp only [loadA, AHeap.get, h, if_false]
theorem load_rptr (P : Program) (t : TypeId) (cs : List AV) : loadA P H t (.rptr cs) = ldA P t cs 0 := (rfl)
theorem ld_one {P : Program} {t : TypeId} (h : aggQ P t = some false) (cs : List AV) (off : Nat) : ldA P t cs off = cs[off]? := by simp [ldA, h]
theorem ld_agg {P : Program} {t : TypeId} {n : Nat} (h : aggQ P t = some true) (h2 : szQ P t = some n) (cs : List AV) (off : Nat) : ldA P t cs off = if off + n ≤ cs.length then some (.agg ((cs.drop off).take n)) else none := by simp [ldA, h, h2]
theorem fa_ptr {P : Program} {s : TypeId} {fs : List (Nat × TypeId)} (h : fieldsQ P s = some fs) (f : Nat) (id o : Nat) {off : Nat} {ft : TypeId} {n : Nat} (h2 : fs[f]? = some (off, ft)) (h3 : szQ P ft = some (n + 1)) :
    fieldAddrA P s f (.ptr id o) = some (.ptr id (o + off)) := by simp [fieldAddrA, h, h2, h3]
theorem fa_rptr {P : Program} {s : TypeId} {fs : List (Nat × TypeId)} (h : fieldsQ P s = some fs) (f : Nat) (cs : List AV) {off : Nat} {ft : TypeId} {n : Nat} (h2 : fs[f]? = some (off, ft)) (h3 : szQ P ft = some (n + 1)) :
    fieldAddrA P s f (.rptr cs) = if off ≤ cs.length then some (.rptr (cs.drop off)) else none := by simp [fieldAddrA, h, h2, h3]
theorem store_ptr (P : Program) (t : TypeId) (n : Nat) (l : List (Nat × AObj)) (id off : Nat) (x : AV) :
    storeA P t (.ptr id off) x ⟨n, l⟩ = if id < n then bnd (cellsQ l id) fun cs => if szQ P t = x.width ∧ x.width ≠ none ∧ off + x.cells.length ≤ cs.length ∧ allOne x.cells = true then some (undefA, ⟨n, setL l id (reObj (getL l id) (overlay cs off x.cells))⟩) else none else none := by
  by_cases h : id < n
  · simp only [storeA, AHeap.get, cellsQ, AHeap.set, h, if_true]
    cases getL l id with
    | none => rfl
    | some o => cases o <;> rfl
  · simp only [storeA, AHeap.get, h, if_false]

theorem ev_tmp (t : Tmp) : ev α (.tmp t) = α t := (rfl)
theorem ev_const (v : Value) : ev α (.const v) = ofV v := (rfl)
theorem ev_func (f : FuncId) : ev α (.func f) = .fn (.func f) [] [] := (rfl)
theorem ofV_int (k : IntKind) (n : Int) : ofV (.int k n) = .int k n := (rfl)
theorem ofV_bool (b : Bool) : ofV (.bool b) = .bool b := (rfl)
theorem ofV_str (l : List UInt8) : ofV (.string ⟨l.toArray⟩) = .str l := by simp [ofV, ofV1]
theorem ofV_nil : ofV (.slice none 0 0) = .vec .nil [] := (rfl)

theorem put_some (d : Tmp) (v : AV) (i : Nat) : put α (some d) v i = if i = d then v else α i := (rfl)
theorem put_none (v : AV) : put α none v = α := (rfl)
theorem frm0_at (args : List AV) (i : Nat) : frm0 args i = (args[i]?).getD undefA := (rfl)

theorem so_move (x : Operand) : stepOp E call (.move x) ρ H = some (ρ x, H) := (rfl)
theorem so_assign (x : Operand) : stepOp E call (.assign x) ρ H = some (ρ x, H) := (rfl)
theorem so_pick (c a b : Operand) : stepOp E call (.pick c a b) ρ H = bnd (pickA (ρ a) (ρ b) (ρ c)) fun v => some (v, H) := (rfl)
theorem so_load (t : TypeId) (a : Operand) : stepOp E call (.load t a) ρ H = bnd (loadA E.P H t (ρ a)) fun v => some (v, H) := (rfl)
theorem so_fieldAddr (s : TypeId) (x : Operand) (f : Nat) : stepOp E call (.fieldAddr s x f) ρ H = bnd (fieldAddrA E.P s f (ρ x)) fun v => some (v, H) := (rfl)
theorem so_indexAddr (t : TypeId) (x i : Operand) : stepOp E call (.indexAddr t x i) ρ H = bnd (indexAddrA E.P t (ρ x) (ρ i)) fun v => some (v, H) := (rfl)
theorem so_index (t : TypeId) (x i : Operand) : stepOp E call (.index t x i) ρ H = bnd (indexA E.P t (ρ x) (ρ i)) fun v => some (v, H) := (rfl)
theorem so_binOp (op : BinOp) (t t' : TypeId) (x y : Operand) : stepOp E call (.binOp op t x y t') ρ H = bnd (binC E.P op t (isConstO x || isConstO y) (ρ x) (ρ y)) fun v => some (v, H) := (rfl)
theorem so_unOp (op : UnOp) (t : TypeId) (x : Operand) : stepOp E call (.unOp op t x) ρ H = bnd (unA op (ρ x)) fun v => some (v, H) := (rfl)
theorem so_convert (s d : TypeId) (x : Operand) : stepOp E call (.convert s d x) ρ H = convOp E.P s d (ρ x) H := (rfl)
theorem co_int (P : Program) (s d : TypeId) (k : IntKind) (n : Int) : convOp P s d (.int k n) H = bnd (convA P s d (.int k n)) fun v => some (v, H) := (rfl)
attribute [go_sem ↓] co_int
theorem so_extract (x : Operand) (i : Nat) : stepOp E call (.extract x i) ρ H = bnd (extractA i (ρ x)) fun v => some (v, H) := (rfl)
theorem so_build (t : TypeId) (l : List (Nat × Operand)) : stepOp E call (.build t l.toArray) ρ H = bnd (buildA E.P t (l.map fun p => (p.1, ρ p.2))) fun v => some (v, H) := by simp [stepOp, pureOp]
theorem so_slice (t : TypeId) (x : Operand) (lo hi : Option Operand) : stepOp E call (.slice t x lo hi none) ρ H = bnd (sliceA E.P t (lo.map ρ) (hi.map ρ) (ρ x)) fun v => some (v, H) := (rfl)
theorem so_makeFunc (f : Fn) (first cap : List Operand) : stepOp E call (.makeFunc f first.toArray cap.toArray) ρ H = some (.fn f (first.map ρ) (cap.map ρ), H) := by simp [stepOp, pureOp, bnd]
theorem so_nilCheck (x : Operand) : stepOp E call (.nilCheck x) ρ H = bnd (nilCheckA (ρ x)) fun v => some (v, H) := (rfl)
theorem so_alloc (t : TypeId) : stepOp E call (.alloc t) ρ H = allocA E.P t H := (rfl)
theorem so_box (t : TypeId) (x : Operand) : stepOp E call (.box t x) ρ H = boxA (ρ x) H := (rfl)
theorem so_store (t : TypeId) (a x : Operand) : stepOp E call (.store t a x) ρ H = storeA E.P t (ρ a) (ρ x) H := (rfl)
theorem so_buildSlice (t : TypeId) (n : Nat) (l : List (Nat × Operand)) : stepOp E call (.buildSlice t n l.toArray) ρ H = buildSliceA E.P t n (l.map fun p => (p.1, ρ p.2)) H := by simp [stepOp]
theorem so_call (f : Operand) (l : List Operand) (tys : Array TypeId) : stepOp E call (.call ⟨.value f, l.toArray, tys⟩) ρ H = callA E call (ρ f) (l.map ρ) H := by simp [stepOp, stepCall]
theorem so_append (l : List Operand) (tys : List TypeId) : stepOp E call (.call ⟨.builtin .append, l.toArray, tys.toArray⟩) ρ H = appendOp E.mutT E.P tys (l.map ρ) H := by simp [stepOp, stepCall]
theorem so_len (l : List Operand) (tys : Array TypeId) : stepOp E call (.call ⟨.builtin .len, l.toArray, tys⟩) ρ H = lenOp E.P tys (l.map ρ) H := by simp [stepOp, stepCall]
theorem lo_str (P : Program) (tys : Array TypeId) (l : List UInt8) (H : AHeap) : lenOp P tys [.str l] H = bnd (lenA P tys [.str l]) fun v => some (v, H) := (rfl)
theorem lo_vec (P : Program) (tys : Array TypeId) (o : Own) (l : List AV) (H : AHeap) : lenOp P tys [.vec o l] H = bnd (lenA P tys [.vec o l]) fun v => some (v, H) := (rfl)
theorem lo_sl (P : Program) (tys : Array TypeId) (a b c d : Nat) (H : AHeap) : lenOp P tys [.sl a b c d] H = bnd (lenA P tys [.sl a b c d]) fun v => some (v, H) := (rfl)
attribute [go_sem ↓] lo_str lo_vec lo_sl
theorem so_max (l : List Operand) (tys : Array TypeId) : stepOp E call (.call ⟨.builtin .max, l.toArray, tys⟩) ρ H = bnd (maxA (l.map ρ)) fun v => some (v, H) := by simp [stepOp, stepCall, pureOp]
theorem so_min (l : List Operand) (tys : Array TypeId) : stepOp E call (.call ⟨.builtin .min, l.toArray, tys⟩) ρ H = bnd (minA (l.map ρ)) fun v => some (v, H) := by simp [stepOp, stepCall, pureOp]

theorem callA_closed {f : FuncId} (h : E.cl f = true) (args : List AV) : callA E call (.fn (.func f) [] []) args H = bnd (closedCall E.P call f args) fun v => some (v, H) := by simp [callA, target, h]
theorem callA_open {f : FuncId} (h : E.cl f = false) (args : List AV) : callA E call (.fn (.func f) [] []) args H = call f args H := by simp [callA, target, h]

theorem pickA_bool (a b : AV) (c : Bool) : pickA a b (.bool c) = some (if c then a else b) := (rfl)
theorem pickA_t (a b : AV) : pickA a b (.bool true) = some a := (rfl)
theorem pickA_f (a b : AV) : pickA a b (.bool false) = some b := (rfl)
theorem pick_and (c d : Bool) : (if c then AV.bool d else AV.bool false) = .bool (c && d) := by cases c <;> exact (rfl)
theorem pick_or (c d : Bool) : (if c then AV.bool true else AV.bool d) = .bool (c || d) := by cases c <;> exact (rfl)
theorem binA_int (P : Program) (op : BinOp) (t : TypeId) (k : IntKind) (a b : Int) (h : isShift op = false) : binA P op t (.int k a) (.int k b) = intBin op k a b := by simp [binA, h]
theorem bi_add (P : Program) (t : TypeId) (k : IntKind) (a b : Int) : binA P .add t (.int k a) (.int k b) = some (.int k (k.wrap (a + b))) := by simp [binA, isShift, intBin]
theorem bi_sub (P : Program) (t : TypeId) (k : IntKind) (a b : Int) : binA P .sub t (.int k a) (.int k b) = some (.int k (k.wrap (a - b))) := by simp [binA, isShift, intBin]
theorem bi_mul (P : Program) (t : TypeId) (k : IntKind) (a b : Int) : binA P .mul t (.int k a) (.int k b) = some (.int k (k.wrap (a * b))) := by simp [binA, isShift, intBin]
theorem bi_eql (P : Program) (t : TypeId) (k : IntKind) (a b : Int) : binA P .eql t (.int k a) (.int k b) = some (.bool (a == b)) := by simp [binA, isShift, intBin]
theorem bi_neq (P : Program) (t : TypeId) (k : IntKind) (a b : Int) : binA P .neq t (.int k a) (.int k b) = some (.bool (a != b)) := by simp [binA, isShift, intBin]
theorem bi_lss (P : Program) (t : TypeId) (k : IntKind) (a b : Int) : binA P .lss t (.int k a) (.int k b) = some (.bool (decide (a < b))) := by simp [binA, isShift, intBin]
theorem bi_leq (P : Program) (t : TypeId) (k : IntKind) (a b : Int) : binA P .leq t (.int k a) (.int k b) = some (.bool (decide (a ≤ b))) := by simp [binA, isShift, intBin]
theorem bi_gtr (P : Program) (t : TypeId) (k : IntKind) (a b : Int) : binA P .gtr t (.int k a) (.int k b) = some (.bool (decide (a > b))) := by simp [binA, isShift, intBin]
theorem bi_geq (P : Program) (t : TypeId) (k : IntKind) (a b : Int) : binA P .geq t (.int k a) (.int k b) = some (.bool (decide (a ≥ b))) := by simp [binA, isShift, intBin]
theorem bi_rem (P : Program) (t : TypeId) (k : IntKind) (a b : Int) : binA P .rem t (.int k a) (.int k b) = if b = 0 then none else some (.int k (a.tmod b)) := by simp [binA, isShift, intBin]
theorem bi_quo (P : Program) (t : TypeId) (k : IntKind) (a b : Int) : binA P .quo t (.int k a) (.int k b) = if b = 0 then none else some (.int k (k.wrap (a.tdiv b))) := by simp [binA, isShift, intBin]
theorem binC_of {P : Program} {op : BinOp} {t : TypeId} {c : Bool} {x y : AV} (h : bothNil x y = false) : binC P op t c x y = binA P op t x y := by simp [binC, h]
theorem bc_int (P : Program) (op : BinOp) (t : TypeId) (c : Bool) (k : IntKind) (a : Int) (y : AV) : binC P op t c (.int k a) y = binA P op t (.int k a) y := binC_of rfl
theorem bc_bool (P : Program) (op : BinOp) (t : TypeId) (c : Bool) (a : Bool) (y : AV) : binC P op t c (.bool a) y = binA P op t (.bool a) y := binC_of rfl
theorem bc_str (P : Program) (op : BinOp) (t : TypeId) (c : Bool) (a : List UInt8) (y : AV) : binC P op t c (.str a) y = binA P op t (.str a) y := binC_of rfl
theorem bc_agg (P : Program) (op : BinOp) (t : TypeId) (c : Bool) (a : List AV) (y : AV) : binC P op t c (.agg a) y = binA P op t (.agg a) y := binC_of rfl
theorem bc_vec (P : Program) (op : BinOp) (t : TypeId) (c : Bool) (o : Own) (a : List AV) (y : AV) : binC P op t c (.vec o a) y = binA P op t (.vec o a) y := binC_of rfl
theorem bc_ptr (P : Program) (op : BinOp) (t : TypeId) (c : Bool) (a b : Nat) (y : AV) : binC P op t c (.ptr a b) y = binA P op t (.ptr a b) y := binC_of rfl
theorem bc_rptr (P : Program) (op : BinOp) (t : TypeId) (c : Bool) (a : List AV) (y : AV) : binC P op t c (.rptr a) y = binA P op t (.rptr a) y := binC_of rfl
attribute [go_sem ↓] bc_int bc_bool bc_str bc_agg bc_vec bc_ptr bc_rptr
theorem binA_str (P : Program) (op : BinOp) (t : TypeId) (a b : List UInt8) : binA P op t (.str a) (.str b) = strBin op a b := (rfl)

theorem fin_ret (P : Program) (rs : List ResultVar) : finish P rs (.ret, α, H) = bnd (resultsA P α H rs) fun vs => some (tupled vs, H) := (rfl)
theorem fin_normal (P : Program) (rs : List ResultVar) : finish P rs (.normal, α, H) = bnd (resultsA P α H rs) fun vs => some (tupled vs, H) := (rfl)
theorem res_nil (P : Program) : resultsA P α H [] = some [] := (rfl)
theorem res_tmp (P : Program) (t : Tmp) (r : List ResultVar) : resultsA P α H (.tmp t :: r) = bnd (resultsA P α H r) fun vs => some (α t :: vs) := (rfl)
def cellRes (P : Program) (H : AHeap) (t : TypeId) (v : AV) : Option AV := match v with | .ptr id off => loadA P H t (.ptr id off) | _ => none
theorem cellRes_ptr (P : Program) (t : TypeId) (id off : Nat) : cellRes P H t (.ptr id off) = loadA P H t (.ptr id off) := (rfl)
theorem res_cell (P : Program) (a : Tmp) (t : TypeId) (r : List ResultVar) : resultsA P α H (.cell a t :: r) = bnd (cellRes P H t (α a)) fun v => bnd (resultsA P α H r) fun vs => some (v :: vs) := (rfl)
theorem tupled_one (v : AV) : tupled [v] = v := (rfl)
theorem tupled_two (v v2 : AV) : tupled [v, v2] = .tup [v, v2] := (rfl)
theorem tupled_three (v v2 v3 : AV) : tupled [v, v2, v3] = .tup [v, v2, v3] := (rfl)

def outOf (r : Option (AV × AHeap)) : Option AV := match r with | some p => some p.1 | none => none
theorem outOf_some (v : AV) : outOf (some (v, H)) = some v := (rfl)
theorem outOf_sel (c : Bool) (x y : Option (AV × AHeap)) : outOf (sel c x y) = sel c (outOf x) (outOf y) := by cases c <;> exact (rfl)
@[congr] theorem outOf_congr {r r' : Option (AV × AHeap)} (h : r = r') : outOf r = outOf r' := by rw [h]

/-- A closed call, out of the run of its body. -/
theorem closed_of {f : FuncId} {fn : Func} {c : Code} {args args' : List AV} {v v' : AV} (hG : E.G f = true) (hdf : E.df f = false) (h1 : E.P.funcs[f]? = some fn) (h2 : fn.body = some c) (hn : args.length ≤ fn.ntmps) (he : args.map AV.erase = args')
    (hp : AV.noPtr.go args' = true) (hr : outOf (bnd (execC E (run E) loopO c (frm0 args') .empty) (finish E.P fn.results.toList)) = some v) (hv : v.erase = v') (hv2 : v'.noPtr = true) :
    closedCall E.P (run E) f args = some v' := by
  unfold closedCall
  rw [he, if_pos hp, run_body hG hdf h1 h2 (by rw [← he]; simpa using hn)]
  cases hq : bnd (execC E (run E) loopO c (frm0 args') .empty) (finish E.P fn.results.toList) with
  | none => rw [hq] at hr; cases hr
  | some p =>
    obtain ⟨u, H'⟩ := p
    rw [hq] at hr
    simp only [outOf, Option.some.injEq] at hr
    subst hr
    simp only
    rw [hv, if_pos hv2]

end

theorem er_agg (cs : List AV) : (AV.agg cs).erase = .agg (cs.map AV.bare) := (rfl)
theorem er_int (k : IntKind) (n : Int) : (AV.int k n).erase = .int k n := (rfl)
theorem er_bool (b : Bool) : (AV.bool b).erase = .bool b := (rfl)
theorem er_str (l : List UInt8) : (AV.str l).erase = .str l := (rfl)
theorem er_vec (o : Own) (l : List AV) : (AV.vec o l).erase = .vec o.bare l := (rfl)
theorem ba_int (k : IntKind) (n : Int) : (AV.int k n).bare = .int k n := (rfl)
theorem ba_bool (b : Bool) : (AV.bool b).bare = .bool b := (rfl)
theorem ba_str (l : List UInt8) : (AV.str l).bare = .str l := (rfl)
theorem ba_vec (o : Own) (l : List AV) : (AV.vec o l).bare = .vec o.bare l := (rfl)

theorem dec_t (i : Decidable True) : @decide True i = true := by simp
theorem dec_f (i : Decidable False) : @decide False i = false := by simp
attribute [go_sem] reObj_cells getL_cons
attribute [go_sem] Option.map_some Option.map_none load_rptr dec_t dec_f er_agg er_int er_bool er_str er_vec ba_int ba_bool ba_str ba_vec
attribute [go_sem ↓] xc_seq_region xc_ret xc_skip xc_cond xc_block xc_exit xc_seq xc_region xo_nil xo_cons xo_guard wantS_some so_move so_assign so_pick so_load so_fieldAddr so_indexAddr so_index so_binOp so_unOp so_convert so_extract so_build so_slice so_makeFunc so_nilCheck so_alloc so_box so_store so_buildSlice so_call so_append so_len so_max so_min
attribute [go_sem ↓] bnd_ok sel_t sel_f ev_tmp ev_const put_some wantedB_tt wantedB_tf wantedB_ft wantedB_ff wantedB_undef condB_bool then_normal then_exit then_ret
attribute [go_sem] bnd_ok bnd_no sel_t sel_f wantedB_tt wantedB_tf wantedB_ft wantedB_ff wantedB_undef ev_tmp ev_const ev_func ofV_int ofV_bool ofV_str ofV_nil put_some put_none frm0_at then_normal then_exit then_ret unblock_normal unblock_ret unblock_exit condA_eq condB_bool slotOf_list slotL_zero slotL_succ box_agg box_int AHeap.empty heap_push heap_set heap_next cellsQ_cons cellsQ_tip setL_cons load_ptr bi_add bi_sub bi_mul bi_eql bi_neq bi_lss bi_leq bi_gtr bi_geq bi_rem bi_quo binA_str pickA_t pickA_f fin_ret fin_normal res_nil res_tmp cellRes_ptr res_cell tupled_one tupled_two tupled_three outOf_some
attribute [go_sem] List.getElem?_cons_zero List.getElem?_cons_succ Option.getD_some List.map_cons List.map_nil
end Go.Ab
