/- What abstract values and abstract memory say of the model's values and of its world; the pure operations do in the model what they do here. -/
import Derived.Test.YtkpnccaoolbeeaaGreatDoorAc1
import Derived.Below
namespace Go.Ab
set_option linter.unusedVariables false
open Go Go.RowKit

/-- What is known for good: cells that nobody writes any more; where an abstract block lies; where, and in how much room, a version of a growing row lies. -/
structure St where
  cells : Nat → Nat → Option Value
  loc : Nat → Option Nat
  own : Nat → Nat → Option (Nat × Nat)

structure St.le (σ σ' : St) : Prop where
  cells : ∀ b o v, σ.cells b o = some v → σ'.cells b o = some v
  loc : ∀ i b, σ.loc i = some b → σ'.loc i = some b
  own : ∀ k n x, σ.own k n = some x → σ'.own k n = some x

theorem St.le_refl (σ : St) : σ.le σ := ⟨fun _ _ _ h => h, fun _ _ h => h, fun _ _ _ h => h⟩
theorem St.le_trans {a b c : St} (h : a.le b) (k : b.le c) : a.le c :=
  ⟨fun x y v e => k.cells x y v (h.cells x y v e), fun i x e => k.loc i x (h.loc i x e), fun i n x e => k.own i n x (h.own i n x e)⟩

def OwnOk (σ : St) (o : Own) (a : Option Addr) (n cap : Nat) : Prop :=
  match o with
  | .ro => True
  | .nil => a = none ∧ n = 0 ∧ cap = 0
  | .full => cap = n
  | .own k => ∃ b, σ.own k n = some (b, cap) ∧ a = some ⟨b, 0, none⟩

mutual
def Rep (σ : St) : AV → Value → Prop
  | .junk, _ => True
  | .any, u => u.oneCell' = true
  | .int k n, u => u = .int k n
  | .bool b, u => u = .bool b
  | .str l, u => u = .string ⟨l.toArray⟩
  | .agg cs, u => ∃ us : List Value, u = .agg us.toArray ∧ RepL σ cs us
  | .tup cs, u => ∃ us : List Value, u = .tuple us.toArray ∧ RepL σ cs us
  | .vec o es, u => ∃ a cap, u = .slice a es.length cap ∧ es.length ≤ cap ∧ OwnOk σ o a es.length cap ∧ (es = [] ∨ ∃ b off s, a = some ⟨b, off, none⟩ ∧ RepRow σ b s off es)
  | .ptr id off, u => ∃ b, σ.loc id = some b ∧ u = .pointer (some ⟨b, off, none⟩)
  | .rptr cs, u => ∃ b off, u = .pointer (some ⟨b, off, none⟩) ∧ RepCells σ b off cs
  | .fn f first cap, u => ∃ us vs : List Value, u = .func f us.toArray vs.toArray ∧ RepL σ first us ∧ RepL σ cap vs
  | .iface t v, u => ∃ x, u = .iface t x ∧ Rep σ v x
  | .val v, u => u = v
  | .sl id s off len, u => ∃ b cap, σ.loc id = some b ∧ σ.own id 0 = some (b, cap) ∧ u = .slice (some ⟨b, off * s, none⟩) len (cap - off) ∧ off + len ≤ cap
  | .map id, u => ∃ b, σ.loc id = some b ∧ u = .map (some b)
def RepL (σ : St) : List AV → List Value → Prop
  | [], us => us = []
  | c :: cs, us => ∃ u us', us = u :: us' ∧ Rep σ c u ∧ RepL σ cs us'
def RepCells (σ : St) (b : Nat) : Nat → List AV → Prop
  | _, [] => True
  | off, c :: cs => (∃ u, σ.cells b off = some u ∧ Rep σ c u) ∧ RepCells σ b (off + 1) cs
def RepRow (σ : St) (b s : Nat) : Nat → List AV → Prop
  | _, [] => True
  | off, e :: es => (∃ u, Rep σ e u ∧ u.cells.size = s ∧ ∀ j v, u.cells[j]? = some v → σ.cells b (off + j) = some v) ∧ RepRow σ b s (off + s) es
end

theorem OwnOk.mono {σ σ' : St} (h : σ.le σ') {o : Own} {a : Option Addr} {n cap : Nat} (k : OwnOk σ o a n cap) : OwnOk σ' o a n cap := by
  cases o with
  | ro => trivial
  | nil => exact k
  | full => exact k
  | own k' => obtain ⟨b, e, ha⟩ := k; exact ⟨b, h.own _ _ _ e, ha⟩

mutual
theorem Rep.mono {σ σ' : St} (h : σ.le σ') : ∀ (a : AV) (u : Value), Rep σ a u → Rep σ' a u
  | .junk, _, _ => by simp [Rep]
  | .any, _, k => by simpa [Rep] using k
  | .int _ _, _, k => by simpa [Rep] using k
  | .bool _, _, k => by simpa [Rep] using k
  | .str _, _, k => by simpa [Rep] using k
  | .agg cs, _, k => by
    simp only [Rep] at k ⊢
    obtain ⟨us, e, r⟩ := k
    exact ⟨us, e, RepL.mono h cs us r⟩
  | .tup cs, _, k => by
    simp only [Rep] at k ⊢
    obtain ⟨us, e, r⟩ := k
    exact ⟨us, e, RepL.mono h cs us r⟩
  | .vec o es, _, k => by
    simp only [Rep] at k ⊢
    obtain ⟨a, cap, e, hl, ho, r⟩ := k
    refine ⟨a, cap, e, hl, ho.mono h, r.imp id ?_⟩
    rintro ⟨b, off, s, ea, r⟩
    exact ⟨b, off, s, ea, RepRow.mono h b s off es r⟩
  | .ptr _ _, _, k => by
    simp only [Rep] at k ⊢
    obtain ⟨b, e, ha⟩ := k
    exact ⟨b, h.loc _ _ e, ha⟩
  | .rptr cs, _, k => by
    simp only [Rep] at k ⊢
    obtain ⟨b, off, e, r⟩ := k
    exact ⟨b, off, e, RepCells.mono h b off cs r⟩
  | .fn _ first cap, _, k => by
    simp only [Rep] at k ⊢
    obtain ⟨us, vs, e, r, q⟩ := k
    exact ⟨us, vs, e, RepL.mono h first us r, RepL.mono h cap vs q⟩
  | .iface _ v, _, k => by
    simp only [Rep] at k ⊢
    obtain ⟨x, e, r⟩ := k
    exact ⟨x, e, Rep.mono h v x r⟩
  | .val _, _, k => by simpa [Rep] using k
  | .sl _ _ _ _, _, k => by
    simp only [Rep] at k ⊢
    obtain ⟨b, cap, e1, e2, e3, e4⟩ := k
    exact ⟨b, cap, h.loc _ _ e1, h.own _ _ _ e2, e3, e4⟩
  | .map _, _, k => by
    simp only [Rep] at k ⊢
    obtain ⟨b, e1, e2⟩ := k
    exact ⟨b, h.loc _ _ e1, e2⟩
theorem RepL.mono {σ σ' : St} (h : σ.le σ') : ∀ (cs : List AV) (us : List Value), RepL σ cs us → RepL σ' cs us
  | [], _, k => by simpa [RepL] using k
  | c :: cs, _, k => by
    simp only [RepL] at k ⊢
    obtain ⟨u, us', e, r, q⟩ := k
    exact ⟨u, us', e, Rep.mono h c u r, RepL.mono h cs us' q⟩
theorem RepCells.mono {σ σ' : St} (h : σ.le σ') (b : Nat) : ∀ (off : Nat) (cs : List AV), RepCells σ b off cs → RepCells σ' b off cs
  | _, [], _ => by simp [RepCells]
  | off, c :: cs, k => by
    simp only [RepCells] at k ⊢
    obtain ⟨⟨u, e, r⟩, q⟩ := k
    exact ⟨⟨u, h.cells _ _ _ e, Rep.mono h c u r⟩, RepCells.mono h b (off + 1) cs q⟩
theorem RepRow.mono {σ σ' : St} (h : σ.le σ') (b s : Nat) : ∀ (off : Nat) (es : List AV), RepRow σ b s off es → RepRow σ' b s off es
  | _, [], _ => by simp [RepRow]
  | off, e :: es, k => by
    simp only [RepRow] at k ⊢
    obtain ⟨⟨u, r, hs, hc⟩, q⟩ := k
    exact ⟨⟨u, Rep.mono h e u r, hs, fun j v hj => h.cells _ _ _ (hc j v hj)⟩, RepRow.mono h b s (off + s) es q⟩
end

/-! ### Lists of cells -/

theorem RepL.nil_iff {σ : St} {us : List Value} : RepL σ [] us ↔ us = [] := by simp [RepL]
theorem RepL.cons_iff {σ : St} {c : AV} {cs : List AV} {us : List Value} : RepL σ (c :: cs) us ↔ ∃ u us', us = u :: us' ∧ Rep σ c u ∧ RepL σ cs us' := by simp [RepL]

theorem RepL.length {σ : St} : ∀ {cs : List AV} {us : List Value}, RepL σ cs us → us.length = cs.length
  | [], _, h => by rw [RepL.nil_iff] at h; subst h; rfl
  | c :: cs, _, h => by
    rw [RepL.cons_iff] at h
    obtain ⟨u, us', rfl, _, q⟩ := h
    simp [RepL.length q]

theorem RepL.get {σ : St} : ∀ {cs : List AV} {us : List Value} {i : Nat} {c : AV}, RepL σ cs us → cs[i]? = some c → ∃ u, us[i]? = some u ∧ Rep σ c u
  | [], _, _, _, _, e => by simp at e
  | c :: cs, us, i, d, h, e => by
    rw [RepL.cons_iff] at h
    obtain ⟨u, us', rfl, r, q⟩ := h
    cases i with
    | zero => simp at e; subst e; exact ⟨u, by simp, r⟩
    | succ i => simp at e ⊢; exact RepL.get q e

theorem RepL.drop {σ : St} : ∀ {cs : List AV} {us : List Value} (n : Nat), RepL σ cs us → RepL σ (cs.drop n) (us.drop n)
  | [], us, n, h => by rw [RepL.nil_iff] at h; subst h; simp [RepL]
  | c :: cs, us, n, h => by
    cases n with
    | zero => simpa using h
    | succ n =>
      rw [RepL.cons_iff] at h
      obtain ⟨u, us', rfl, _, q⟩ := h
      simpa using RepL.drop n q

theorem RepL.take {σ : St} : ∀ {cs : List AV} {us : List Value} (n : Nat), RepL σ cs us → RepL σ (cs.take n) (us.take n)
  | [], us, n, h => by rw [RepL.nil_iff] at h; subst h; simp [RepL]
  | c :: cs, us, n, h => by
    cases n with
    | zero => simp [RepL]
    | succ n =>
      rw [RepL.cons_iff] at h
      obtain ⟨u, us', rfl, r, q⟩ := h
      simp only [List.take_succ_cons]
      exact RepL.cons_iff.2 ⟨u, _, rfl, r, RepL.take n q⟩

theorem RepL.append {σ : St} : ∀ {cs ds : List AV} {us vs : List Value}, RepL σ cs us → RepL σ ds vs → RepL σ (cs ++ ds) (us ++ vs)
  | [], _, _, _, h, k => by rw [RepL.nil_iff] at h; subst h; simpa using k
  | c :: cs, _, _, _, h, k => by
    rw [RepL.cons_iff] at h
    obtain ⟨u, us', rfl, r, q⟩ := h
    simp only [List.cons_append]
    exact RepL.cons_iff.2 ⟨u, _, rfl, r, RepL.append q k⟩

theorem RepL.map {σ : St} {α : Type} (f : α → AV) (g : α → Value) : ∀ (l : List α), (∀ x ∈ l, Rep σ (f x) (g x)) → RepL σ (l.map f) (l.map g)
  | [], _ => by simp [RepL]
  | x :: l, h => by
    simp only [List.map_cons]
    exact RepL.cons_iff.2 ⟨_, _, rfl, h x (by simp), RepL.map f g l fun y hy => h y (by simp [hy])⟩

theorem Rep.cells {σ : St} : ∀ {a : AV} {u : Value}, Rep σ a u → a.width ≠ none → RepL σ a.cells u.cells.toList
  | .junk, _, _, hw => absurd rfl hw
  | .agg cs, u, h, _ => by
    simp only [Rep] at h
    obtain ⟨us, rfl, r⟩ := h
    simpa [AV.cells, Value.cells] using r
  | .any, u, h, _ => by
    have h1 : u.oneCell' = true := by simpa [Rep] using h
    have : u.cells = #[u] := by cases u <;> simp [Value.oneCell'] at h1 <;> rfl
    rw [this]
    exact RepL.cons_iff.2 ⟨u, [], rfl, h, by simp [RepL]⟩
  | .int _ _, u, h, _ => by simp only [Rep] at h; subst h; simp [AV.cells, Value.cells, RepL, Rep]
  | .bool _, u, h, _ => by simp only [Rep] at h; subst h; simp [AV.cells, Value.cells, RepL, Rep]
  | .str _, u, h, _ => by simp only [Rep] at h; subst h; simp [AV.cells, Value.cells, RepL, Rep]
  | .tup _, _, _, hw => absurd rfl hw
  | .vec o es, u, h, _ => by
    have h' := h
    simp only [Rep] at h'
    obtain ⟨a, cap, rfl, _⟩ := h'
    exact RepL.cons_iff.2 ⟨_, [], rfl, h, by simp [RepL]⟩
  | .ptr _ _, u, h, _ => by
    have h' := h
    simp only [Rep] at h'
    obtain ⟨b, _, rfl⟩ := h'
    exact RepL.cons_iff.2 ⟨_, [], rfl, h, by simp [RepL]⟩
  | .rptr cs, u, h, _ => by
    have h' := h
    simp only [Rep] at h'
    obtain ⟨b, off, rfl, _⟩ := h'
    exact RepL.cons_iff.2 ⟨_, [], rfl, h, by simp [RepL]⟩
  | .fn _ _ _, u, h, _ => by
    have h' := h
    simp only [Rep] at h'
    obtain ⟨us, vs, rfl, _⟩ := h'
    exact RepL.cons_iff.2 ⟨_, [], rfl, h, by simp [RepL]⟩
  | .iface _ _, u, h, _ => by
    have h' := h
    simp only [Rep] at h'
    obtain ⟨x, rfl, _⟩ := h'
    exact RepL.cons_iff.2 ⟨_, [], rfl, h, by simp [RepL]⟩
  | .sl _ _ _ _, u, h, _ => by
    have h' := h
    simp only [Rep] at h'
    obtain ⟨b, cap, _, _, rfl, _⟩ := h'
    exact RepL.cons_iff.2 ⟨_, [], rfl, h, by simp [RepL]⟩
  | .map _, u, h, _ => by
    have h' := h
    simp only [Rep] at h'
    obtain ⟨b, _, rfl⟩ := h'
    exact RepL.cons_iff.2 ⟨_, [], rfl, h, by simp [RepL]⟩
  | .val v, u, h, hw => by
    simp only [Rep] at h
    subst h
    have h1 : u.oneCell' = true := by
      by_cases h1 : u.oneCell' = true
      · exact h1
      · simp [AV.width, h1] at hw
    have : u.cells = #[u] := by cases u <;> simp [Value.oneCell'] at h1 <;> rfl
    rw [this]
    exact RepL.cons_iff.2 ⟨u, [], rfl, by simp [Rep], by simp [RepL]⟩

end Go.Ab
