/- PART OF THE PROOF OF KindBudget's CARD. Abstract values and heaps, what worlds they stand for, and the primitive changes of a heap. -/
import Derived.Calls
import Derived.Laws.World
import Derived.Laws.Sem
set_option linter.unusedSimpArgs false
set_option linter.unusedVariables false

/-! Ev: an evaluator over abstract heaps. Base: tries. -/
namespace Go.Ev
open Go

/-- A trie over numbers. -/
inductive T (α : Type) where
  | lf : T α
  | nd (v : Option α) (l r : T α) : T α

def T.get {α : Type} : T α → Nat → Option α
  | .lf, _ => none
  | .nd v l r, n => bif Nat.beq n 0 then v else bif Nat.beq (n % 2) 1 then l.get (n / 2) else r.get (n / 2 - 1)

def T.single {α : Type} (x : α) : Nat → Nat → T α
  | 0, _ => .nd (some x) .lf .lf
  | f + 1, n => bif Nat.beq n 0 then .nd (some x) .lf .lf else bif Nat.beq (n % 2) 1 then .nd none (T.single x f (n / 2)) .lf else .nd none .lf (T.single x f (n / 2 - 1))

def T.set {α : Type} (x : α) : T α → Nat → T α
  | .lf, n => T.single x n n
  | .nd v l r, n => bif Nat.beq n 0 then .nd (some x) l r else bif Nat.beq (n % 2) 1 then .nd v (T.set x l (n / 2)) r else .nd v l (T.set x r (n / 2 - 1))

def T.del {α : Type} : T α → Nat → T α
  | .lf, _ => .lf
  | .nd v l r, n => bif Nat.beq n 0 then .nd none l r else bif Nat.beq (n % 2) 1 then .nd v (l.del (n / 2)) r else .nd v l (r.del (n / 2 - 1))

theorem beqT {n m : Nat} : Nat.beq n m = true ↔ n = m := by rw [Nat.beq_eq]
theorem beqF {n m : Nat} : Nat.beq n m = false ↔ n ≠ m := by
  rw [← Bool.not_eq_true, beqT]

/-- The three places of a number in a node. -/
theorem three (n : Nat) : n = 0 ∨ (Nat.beq n 0 = false ∧ Nat.beq (n % 2) 1 = true ∧ n = 2 * (n / 2) + 1) ∨ (Nat.beq n 0 = false ∧ Nat.beq (n % 2) 1 = false ∧ n = 2 * (n / 2 - 1) + 2) := by
  by_cases h : n = 0
  · exact .inl h
  · by_cases h1 : n % 2 = 1
    · exact .inr (.inl ⟨beqF.2 h, beqT.2 h1, by omega⟩)
    · exact .inr (.inr ⟨beqF.2 h, beqF.2 h1, by omega⟩)

theorem T.get_nd {α : Type} (v : Option α) (l r : T α) (m : Nat) :
    (m = 0 ∧ (T.nd v l r).get m = v) ∨ (∃ k, m = 2 * k + 1 ∧ (T.nd v l r).get m = l.get k) ∨ (∃ k, m = 2 * k + 2 ∧ (T.nd v l r).get m = r.get k) := by
  rcases three m with h | ⟨h0, h1, h2⟩ | ⟨h0, h1, h2⟩
  · subst h; exact .inl ⟨rfl, rfl⟩
  · exact .inr (.inl ⟨m / 2, h2, by simp [T.get, h0, h1]⟩)
  · exact .inr (.inr ⟨m / 2 - 1, h2, by simp [T.get, h0, h1]⟩)

theorem T.nd0 {α : Type} (v : Option α) (l r : T α) : (T.nd v l r).get 0 = v := rfl
theorem T.nd1 {α : Type} (v : Option α) (l r : T α) (k : Nat) : (T.nd v l r).get (2 * k + 1) = l.get k := by
  rcases T.get_nd v l r (2 * k + 1) with ⟨h, _⟩ | ⟨k', h, e⟩ | ⟨k', h, e⟩
  · omega
  · rw [e, show k' = k by omega]
  · omega
theorem T.nd2 {α : Type} (v : Option α) (l r : T α) (k : Nat) : (T.nd v l r).get (2 * k + 2) = r.get k := by
  rcases T.get_nd v l r (2 * k + 2) with ⟨h, _⟩ | ⟨k', h, e⟩ | ⟨k', h, e⟩
  · omega
  · omega
  · rw [e, show k' = k by omega]
@[simp] theorem T.get_lf {α : Type} (m : Nat) : (T.lf : T α).get m = none := rfl

theorem T.get_single {α : Type} (x : α) : ∀ (f n m : Nat), n ≤ f → (T.single x f n).get m = if m = n then some x else none := by
  intro f
  induction f with
  | zero =>
    intro n m h
    obtain rfl : n = 0 := by omega
    unfold T.single
    rcases T.get_nd (some x) .lf .lf m with ⟨h, e⟩ | ⟨k, h, e⟩ | ⟨k, h, e⟩ <;> rw [e] <;> simp [h]
  | succ f ih =>
    intro n m hn
    unfold T.single
    rcases three n with h | ⟨h0, h1, h2⟩ | ⟨h0, h1, h2⟩
    · subst h
      simp only [Nat.beq_refl, cond_true]
      rcases T.get_nd (some x) .lf .lf m with ⟨h, e⟩ | ⟨k, h, e⟩ | ⟨k, h, e⟩ <;> rw [e] <;> simp [h]
    · simp only [h0, h1, cond_true, cond_false]
      rcases T.get_nd none (T.single x f (n / 2)) .lf m with ⟨h, e⟩ | ⟨k, h, e⟩ | ⟨k, h, e⟩ <;> rw [e]
      · rw [if_neg (by omega)]
      · rw [ih _ _ (by omega)]
        by_cases hk : k = n / 2
        · rw [if_pos hk, if_pos (by omega)]
        · rw [if_neg hk, if_neg (by omega)]
      · rw [if_neg (by omega)]; rfl
    · simp only [h0, h1, cond_false]
      rcases T.get_nd none .lf (T.single x f (n / 2 - 1)) m with ⟨h, e⟩ | ⟨k, h, e⟩ | ⟨k, h, e⟩ <;> rw [e]
      · rw [if_neg (by omega)]
      · rw [if_neg (by omega)]; rfl
      · rw [ih _ _ (by omega)]
        by_cases hk : k = n / 2 - 1
        · rw [if_pos hk, if_pos (by omega)]
        · rw [if_neg hk, if_neg (by omega)]

theorem T.get_set {α : Type} (x : α) (t : T α) : ∀ (n m : Nat), (T.set x t n).get m = if m = n then some x else t.get m := by
  induction t with
  | lf => intro n m; unfold T.set; rw [T.get_single x n n m (Nat.le_refl _)]; rfl
  | nd v l r ihl ihr =>
    intro n m
    unfold T.set
    rcases three n with h | ⟨h0, h1, h2⟩ | ⟨h0, h1, h2⟩
    · subst h
      simp only [Nat.beq_refl, cond_true]
      by_cases hm : m = 0
      · subst hm; rfl
      · rw [if_neg hm]
        rcases T.get_nd v l r m with ⟨h, e⟩ | ⟨k, h, e⟩ | ⟨k, h, e⟩
        · omega
        · rw [e, h, T.nd1]
        · rw [e, h, T.nd2]
    · simp only [h0, h1, cond_true, cond_false]
      rcases T.get_nd v l r m with ⟨h, e⟩ | ⟨k, h, e⟩ | ⟨k, h, e⟩ <;> rw [e]
      · subst h; rw [if_neg (by omega)]; rfl
      · subst h; rw [T.nd1, ihl]
        by_cases hk : k = n / 2
        · rw [if_pos hk, if_pos (by omega)]
        · rw [if_neg hk, if_neg (by omega)]
      · subst h; rw [T.nd2, if_neg (by omega)]
    · simp only [h0, h1, cond_false]
      rcases T.get_nd v l r m with ⟨h, e⟩ | ⟨k, h, e⟩ | ⟨k, h, e⟩ <;> rw [e]
      · subst h; rw [if_neg (by omega)]; rfl
      · subst h; rw [T.nd1, if_neg (by omega)]
      · subst h; rw [T.nd2, ihr]
        by_cases hk : k = n / 2 - 1
        · rw [if_pos hk, if_pos (by omega)]
        · rw [if_neg hk, if_neg (by omega)]

theorem T.get_del {α : Type} (t : T α) : ∀ (n m : Nat), (t.del n).get m = if m = n then none else t.get m := by
  induction t with
  | lf => intro n m; unfold T.del; simp
  | nd v l r ihl ihr =>
    intro n m
    unfold T.del
    rcases three n with h | ⟨h0, h1, h2⟩ | ⟨h0, h1, h2⟩
    · subst h
      simp only [Nat.beq_refl, cond_true]
      by_cases hm : m = 0
      · subst hm; rfl
      · rw [if_neg hm]
        rcases T.get_nd v l r m with ⟨h, e⟩ | ⟨k, h, e⟩ | ⟨k, h, e⟩
        · omega
        · rw [e, h, T.nd1]
        · rw [e, h, T.nd2]
    · simp only [h0, h1, cond_true, cond_false]
      rcases T.get_nd v l r m with ⟨h, e⟩ | ⟨k, h, e⟩ | ⟨k, h, e⟩ <;> rw [e]
      · subst h; rw [if_neg (by omega)]; rfl
      · subst h; rw [T.nd1, ihl]
        by_cases hk : k = n / 2
        · rw [if_pos hk, if_pos (by omega)]
        · rw [if_neg hk, if_neg (by omega)]
      · subst h; rw [T.nd2, if_neg (by omega)]
    · simp only [h0, h1, cond_false]
      rcases T.get_nd v l r m with ⟨h, e⟩ | ⟨k, h, e⟩ | ⟨k, h, e⟩ <;> rw [e]
      · subst h; rw [if_neg (by omega)]; rfl
      · subst h; rw [T.nd1, if_neg (by omega)]
      · subst h; rw [T.nd2, ihr]
        by_cases hk : k = n / 2 - 1
        · rw [if_pos hk, if_pos (by omega)]
        · rw [if_neg hk, if_neg (by omega)]

end Go.Ev

/-! Ev: abstract values, objects, and what they stand for. -/
namespace Go.Ev
open Go

/-- Abstract values. A pointer names an object and a cell in it; a slice an object, its first ELEMENT in it, its length; its capacity, if that is known (none: what is left of the object's own room). -/
inductive AV where
  | bool (b : Bool)
  | int (k : IntKind) (n : Int)
  | str (s : List Nat)
  | nilPtr
  | ptr (id off : Nat)
  | nilSlice
  | slice (id off len : Nat) (cap : Option Nat) (sz : Nat)
  | nilMap
  | map (id : Nat)
  | func (f : Nat) (first caps : List AV)
  | yield (l : Nat)
  | nilFunc
  | iface (t : Nat) (v : AV)
  | nilIface
  | agg (cs : List AV)
  | tuple (vs : List AV)

/-- Where an object lies: its block, its first cell there, how many elements it has room for, how many cells an element has. -/
structure Place where
  blk : Nat
  base : Nat
  cap : Nat
  sz : Nat

abbrev Inj := Nat → Option Place

/-- The text of a list of bytes. -/
def bytesOf (s : List Nat) : ByteArray := ⟨(s.map UInt8.ofNat).toArray⟩

mutual
def VRel (ι : Inj) : AV → Value → Prop
  | .bool b, v => v = .bool b
  | .int k n, v => v = .int k n
  | .str s, v => v = .string (bytesOf s) ∧ ∀ x ∈ s, x < 256
  | .nilPtr, v => v = .pointer none
  | .ptr id off, v => ∃ p, ι id = some p ∧ v = .pointer (some ⟨p.blk, p.base + off, none⟩)
  | .nilSlice, v => v = .slice none 0 0
  | .slice id off len cap sz, v => ∃ p a c, ι id = some p ∧ v = .slice (some a) len c ∧ p.sz = sz ∧ len ≤ c ∧ off + c ≤ p.cap ∧
      (match cap with | some k => c = k | none => off + c = p.cap) ∧ (c = 0 ∨ a = ⟨p.blk, p.base + off * sz, none⟩)
  | .nilMap, v => v = .map none
  | .map id, v => ∃ p, ι id = some p ∧ v = .map (some p.blk)
  | .func f first caps, v => ∃ xs ys, v = .func (.func f) xs ys ∧ VRels ι first xs.toList ∧ VRels ι caps ys.toList
  | .yield l, v => ∃ p, ι l = some p ∧ v = .func (.yield p.blk) #[] #[]
  | .nilFunc, v => v = .nilFunc
  | .iface t x, v => ∃ y, v = .iface t y ∧ VRel ι x y
  | .nilIface, v => v = .nilIface
  | .agg cs, v => ∃ xs, v = .agg xs ∧ VRels ι cs xs.toList
  | .tuple cs, v => ∃ xs, v = .tuple xs ∧ VRels ι cs xs.toList
def VRels (ι : Inj) : List AV → List Value → Prop
  | [], vs => vs = []
  | x :: xs, vs => ∃ v ws, vs = v :: ws ∧ VRel ι x v ∧ VRels ι xs ws
end

/-- One that says no less. -/
def Ext (ι ι' : Inj) : Prop := ∀ id p, ι id = some p → ι' id = some p

theorem Ext.refl (ι : Inj) : Ext ι ι := fun _ _ h => h
theorem Ext.trans {a b c : Inj} (h : Ext a b) (k : Ext b c) : Ext a c := fun i p e => k i p (h i p e)

mutual
theorem VRel.ext {ι ι' : Inj} (h : Ext ι ι') : ∀ (x : AV) (v : Value), VRel ι x v → VRel ι' x v
  | .bool b, v, e => by simpa [VRel] using e
  | .int k n, v, e => by simpa [VRel] using e
  | .str s, v, e => by simpa [VRel] using e
  | .nilPtr, v, e => by simpa [VRel] using e
  | .ptr id off, v, e => by
    simp only [VRel] at e ⊢
    obtain ⟨p, hp, e⟩ := e
    exact ⟨p, h _ _ hp, e⟩
  | .nilSlice, v, e => by simpa [VRel] using e
  | .slice id off len cap sz, v, e => by
    simp only [VRel] at e ⊢
    obtain ⟨p, a, c, hp, e⟩ := e
    exact ⟨p, a, c, h _ _ hp, e⟩
  | .nilMap, v, e => by simpa [VRel] using e
  | .map id, v, e => by
    simp only [VRel] at e ⊢
    obtain ⟨p, hp, e⟩ := e
    exact ⟨p, h _ _ hp, e⟩
  | .func f first caps, v, e => by
    simp only [VRel] at e ⊢
    obtain ⟨xs, ys, e, h1, h2⟩ := e
    exact ⟨xs, ys, e, VRels.ext h _ _ h1, VRels.ext h _ _ h2⟩
  | .yield l, v, e => by
    simp only [VRel] at e ⊢
    obtain ⟨p, hp, e⟩ := e
    exact ⟨p, h _ _ hp, e⟩
  | .nilFunc, v, e => by simpa [VRel] using e
  | .iface t x, v, e => by
    simp only [VRel] at e ⊢
    obtain ⟨y, e, h1⟩ := e
    exact ⟨y, e, VRel.ext h _ _ h1⟩
  | .nilIface, v, e => by simpa [VRel] using e
  | .agg cs, v, e => by
    simp only [VRel] at e ⊢
    obtain ⟨xs, e, h1⟩ := e
    exact ⟨xs, e, VRels.ext h _ _ h1⟩
  | .tuple cs, v, e => by
    simp only [VRel] at e ⊢
    obtain ⟨xs, e, h1⟩ := e
    exact ⟨xs, e, VRels.ext h _ _ h1⟩
theorem VRels.ext {ι ι' : Inj} (h : Ext ι ι') : ∀ (xs : List AV) (vs : List Value), VRels ι xs vs → VRels ι' xs vs
  | [], vs, e => by simpa [VRels] using e
  | x :: xs, vs, e => by
    simp only [VRels] at e ⊢
    obtain ⟨v, ws, e, h1, h2⟩ := e
    exact ⟨v, ws, e, VRel.ext h _ _ h1, VRels.ext h _ _ h2⟩
end

/-- A value of one cell. -/
def AV.one : AV → Bool
  | .agg _ => false
  | .tuple _ => false
  | _ => true

def Value.one : Value → Bool
  | .agg _ => false
  | .tuple _ => false
  | _ => true

theorem VRel.one {ι : Inj} {x : AV} {v : Value} (h : VRel ι x v) : Value.one v = x.one := by
  cases x <;> simp only [VRel] at h <;> (try (first | subst h | (obtain ⟨h, _⟩ := h; subst h))) <;> (try rfl)
  case ptr => obtain ⟨p, _, rfl⟩ := h; rfl
  case slice => obtain ⟨p, a, c, _, rfl, _⟩ := h; rfl
  case map => obtain ⟨p, _, rfl⟩ := h; rfl
  case func => obtain ⟨xs, ys, rfl, _⟩ := h; rfl
  case yield => obtain ⟨p, _, rfl⟩ := h; rfl
  case iface => obtain ⟨y, rfl, _⟩ := h; rfl
  case agg => obtain ⟨y, rfl, _⟩ := h; rfl
  case tuple => obtain ⟨y, rfl, _⟩ := h; rfl

theorem VRels.length {ι : Inj} : ∀ {xs : List AV} {vs : List Value}, VRels ι xs vs → vs.length = xs.length
  | [], vs, h => by simp only [VRels] at h; simp [h]
  | x :: xs, vs, h => by
    simp only [VRels] at h
    obtain ⟨v, ws, rfl, _, h2⟩ := h
    simp [VRels.length h2]

theorem VRels.get {ι : Inj} : ∀ {xs : List AV} {vs : List Value}, VRels ι xs vs → ∀ {i : Nat} {x : AV}, xs[i]? = some x → ∃ v, vs[i]? = some v ∧ VRel ι x v
  | [], vs, _, i, x, hx => by simp at hx
  | x :: xs, vs, h, i, y, hx => by
    simp only [VRels] at h
    obtain ⟨v, ws, rfl, h1, h2⟩ := h
    cases i with
    | zero => simp at hx; subst hx; exact ⟨v, by simp, h1⟩
    | succ i => simp at hx ⊢; exact VRels.get h2 hx

theorem VRels.append {ι : Inj} : ∀ {xs ys : List AV} {vs ws : List Value}, VRels ι xs vs → VRels ι ys ws → VRels ι (xs ++ ys) (vs ++ ws)
  | [], ys, vs, ws, h, k => by simp only [VRels] at h; subst h; simpa using k
  | x :: xs, ys, vs, ws, h, k => by
    simp only [VRels] at h
    obtain ⟨v, us, rfl, h1, h2⟩ := h
    simp only [List.cons_append, VRels]
    exact ⟨v, us ++ ws, rfl, h1, VRels.append h2 k⟩

theorem VRels.of_get {ι : Inj} : ∀ {xs : List AV} {vs : List Value}, vs.length = xs.length → (∀ (i : Nat) (x : AV), xs[i]? = some x → ∃ v, vs[i]? = some v ∧ VRel ι x v) → VRels ι xs vs
  | [], vs, h, _ => by simp only [VRels]; exact List.length_eq_zero_iff.1 h
  | x :: xs, [], h, _ => by simp at h
  | x :: xs, v :: vs, h, k => by
    simp only [VRels]
    refine ⟨v, vs, rfl, ?_, VRels.of_get (by simpa using h) fun i y hy => ?_⟩
    · obtain ⟨u, hu, hr⟩ := k 0 x (by simp)
      simp at hu; subst hu; exact hr
    · simpa using k (i + 1) y (by simpa using hy)

theorem VRels.drop {ι : Inj} {xs : List AV} {vs : List Value} (h : VRels ι xs vs) (k : Nat) : VRels ι (xs.drop k) (vs.drop k) := by
  refine VRels.of_get (by simp [h.length]) fun i x hx => ?_
  rw [List.getElem?_drop] at hx ⊢
  exact h.get hx

theorem VRels.take {ι : Inj} {xs : List AV} {vs : List Value} (h : VRels ι xs vs) (k : Nat) : VRels ι (xs.take k) (vs.take k) := by
  refine VRels.of_get (by simp [h.length]) fun i x hx => ?_
  rw [List.getElem?_take] at hx ⊢
  split at hx
  · rename_i hi; rw [if_pos hi]; exact h.get hx
  · simp at hx

theorem VRels.set {ι : Inj} {xs : List AV} {vs : List Value} (h : VRels ι xs vs) (k : Nat) {x : AV} {v : Value} (hx : VRel ι x v) : VRels ι (xs.set k x) (vs.set k v) := by
  refine VRels.of_get (by simp [h.length]) fun i y hy => ?_
  rw [List.getElem?_set] at hy ⊢
  by_cases hk : k = i
  · subst hk
    simp only [if_true] at hy ⊢
    split at hy
    · rename_i hl
      simp at hy; subst hy
      rw [if_pos (by rw [h.length]; exact hl)]
      exact ⟨v, rfl, hx⟩
    · simp at hy
  · rw [if_neg hk] at hy ⊢
    exact h.get hy

end Go.Ev

/-! Ev: abstract heaps, and the worlds that they stand for. -/
namespace Go.Ev
open Go

/-- Abstract objects: cells (sz an element), a map (its entries with their stamps), an iterator over a map. -/
inductive AObj where
  | cells (sz : Nat) (data : List AV)
  | map (es : List (AV × AV × Nat)) (clock : Nat)
  | mapIter (m : Option Nat) (since : Nat) (seen : List Nat) (stepped : Nat)
  | loop (st : LoopState) (pend : Option Code) (nt : Nat) (tm : T AV) (params : List Nat) (assign body : Code) (d : Nat)
  | deferred (there : Bool)
  | ro (sz : Nat) (data : List AV)

/-- Whether an object may be written. -/
def AObj.rw : AObj → Bool
  | .ro _ _ => false
  | _ => true

abbrev AHeap := Nat → Option AObj

def ERel (ι : Inj) (e : AV × AV × Nat) (m : MapEntry) : Prop := VRel ι e.1 m.key ∧ VRel ι e.2.1 m.val ∧ m.born = e.2.2

/-- The temporaries of a frame. -/
def TRel (ι : Inj) (nt : Nat) (tm : T AV) (a : Array Value) : Prop :=
  a.size = nt ∧ ∀ (t : Nat) (x : AV), tm.get t = some x → VRel ι x (a.getD t undef)

def ORel (ι : Inj) (p : Place) (w : World) : AObj → Prop
  | .cells sz data => ∃ c el, w.heap[p.blk]? = some (.cells c el (0, 0)) ∧ p.sz = sz ∧ p.base + p.cap * sz ≤ c.size ∧ data.length ≤ p.cap * sz ∧
      ∀ (i : Nat) (x : AV), data[i]? = some x → x.one = true ∧ ∃ v, c[p.base + i]? = some v ∧ VRel ι x v
  | .map es clock => ∃ ms, w.heap[p.blk]? = some (.map ms clock) ∧ ms.size = es.length ∧ ∀ (i : Nat) e, es[i]? = some e → ∃ m, ms[i]? = some m ∧ ERel ι e m
  | .mapIter m since seen stepped => ∃ r, w.heap[p.blk]? = some (.mapIter r since seen.toArray stepped) ∧
      (match m with | none => r = none | some i => ∃ q, ι i = some q ∧ r = some q.blk)
  | .loop st pend nt tm params assign body d => ∃ l q, w.heap[p.blk]? = some (.loop l) ∧ ι d = some q ∧ l.state = st ∧ l.pending = pend ∧ TRel ι nt tm l.tmps ∧
      l.params = params.toArray ∧ l.assign = assign ∧ l.body = body ∧ l.defers = q.blk
  | .deferred there => w.heap[p.blk]? = some (.deferred (if there then some [] else none))
  | .ro sz data => ∃ c el fr, w.heap[p.blk]? = some (.cells c el fr) ∧ p.sz = sz ∧ data.length ≤ p.cap * sz ∧
      ∀ (i : Nat) (x : AV), data[i]? = some x → x.one = true ∧ ∃ v, c[p.base + i]? = some v ∧ VRel ι x v

structure HRel (h : AHeap) (ι : Inj) (w : World) : Prop where
  obj : ∀ id o, h id = some o → ∃ p, ι id = some p ∧ ORel ι p w o
  apart : ∀ i j oi oj p q, h i = some oi → h j = some oj → ι i = some p → ι j = some q → i ≠ j → (oi.rw || oj.rw) = true → p.blk ≠ q.blk

theorem TRel.ext {ι ι' : Inj} (h : Ext ι ι') {nt : Nat} {tm : T AV} {a : Array Value} (k : TRel ι nt tm a) : TRel ι' nt tm a :=
  ⟨k.1, fun t x hx => VRel.ext h _ _ (k.2 t x hx)⟩

theorem ORel.ext {ι ι' : Inj} (h : Ext ι ι') {p : Place} {w w' : World} (hw : w'.heap[p.blk]? = w.heap[p.blk]?) {o : AObj} (k : ORel ι p w o) : ORel ι' p w' o := by
  cases o with
  | cells sz data =>
    obtain ⟨c, el, h1, h2, h3, h4, h5⟩ := k
    exact ⟨c, el, by rw [hw]; exact h1, h2, h3, h4, fun i x hx => let ⟨a, v, b, e⟩ := h5 i x hx; ⟨a, v, b, VRel.ext h _ _ e⟩⟩
  | map es clock =>
    obtain ⟨ms, h1, h2, h3⟩ := k
    exact ⟨ms, by rw [hw]; exact h1, h2, fun i e he => let ⟨m, a, b, c, d⟩ := h3 i e he; ⟨m, a, VRel.ext h _ _ b, VRel.ext h _ _ c, d⟩⟩
  | mapIter m since seen stepped =>
    obtain ⟨r, h1, h2⟩ := k
    refine ⟨r, by rw [hw]; exact h1, ?_⟩
    cases m with
    | none => exact h2
    | some i => obtain ⟨q, a, b⟩ := h2; exact ⟨q, h _ _ a, b⟩
  | loop st pend nt tm params assign body d =>
    obtain ⟨l, q, h1, h2, h3, h4, h6, h7, h8, h9, h10⟩ := k
    exact ⟨l, q, by rw [hw]; exact h1, h _ _ h2, h3, h4, h6.ext h, h7, h8, h9, h10⟩
  | deferred there => unfold ORel at k ⊢; rw [hw]; exact k
  | ro sz data =>
    obtain ⟨c, el, fr, h1, h2, h4, h5⟩ := k
    exact ⟨c, el, fr, by rw [hw]; exact h1, h2, h4, fun i x hx => let ⟨a, v, b, e⟩ := h5 i x hx; ⟨a, v, b, VRel.ext h _ _ e⟩⟩

/-- A block that is there. -/
theorem ORel.there {ι : Inj} {p : Place} {w : World} {o : AObj} (k : ORel ι p w o) : p.blk < w.heap.size := by
  have : ∃ x, w.heap[p.blk]? = some x := by
    cases o with
    | cells sz data => obtain ⟨c, el, h1, _⟩ := k; exact ⟨_, h1⟩
    | map es clock => obtain ⟨ms, h1, _⟩ := k; exact ⟨_, h1⟩
    | mapIter m since seen stepped => obtain ⟨r, h1, _⟩ := k; exact ⟨_, h1⟩
    | loop st pend nt tm params assign body d => obtain ⟨l, q, h1, _⟩ := k; exact ⟨_, h1⟩
    | deferred there => exact ⟨_, k⟩
    | ro sz data => obtain ⟨c, el, fr, h1, _⟩ := k; exact ⟨_, h1⟩
  obtain ⟨x, hx⟩ := this
  exact (Array.getElem?_eq_some_iff.1 hx).1

/-- What a run leaves: h' of h, new objects numbered from n to n'. -/
structure Post (h h' : AHeap) (n n' : Nat) (ι ι' : Inj) (w w' : World) : Prop where
  le : n ≤ n'
  ext : Ext ι ι'
  new : ∀ id, ¬ (n ≤ id ∧ id < n') → ι' id = ι id
  rel : HRel h' ι' w'
  size : w.heap.size ≤ w'.heap.size
  frame : ∀ b, b < w.heap.size → (∀ id o p, h id = some o → o.rw = true → ι id = some p → p.blk ≠ b) → w'.heap[b]? = w.heap[b]?
  blk : ∀ id o p, h' id = some o → ι' id = some p → w.heap.size ≤ p.blk ∨ ∃ id0 o0 p0, h id0 = some o0 ∧ (o.rw = true → o0.rw = true) ∧ ι id0 = some p0 ∧ p0.blk = p.blk
  os : w'.os = w.os
  out : w'.output = w.output

theorem Post.refl {h : AHeap} {ι : Inj} {w : World} (k : HRel h ι w) (n : Nat) : Post h h n n ι ι w w :=
  ⟨Nat.le_refl _, Ext.refl _, fun _ _ => rfl, k, Nat.le_refl _, fun _ _ _ => rfl, fun id o p ho hp => .inr ⟨id, o, p, ho, fun e => e, hp, rfl⟩, rfl, rfl⟩

theorem Post.trans {h h1 h2 : AHeap} {n n1 n2 : Nat} {ι ι1 ι2 : Inj} {w w1 w2 : World} (a : Post h h1 n n1 ι ι1 w w1) (b : Post h1 h2 n1 n2 ι1 ι2 w1 w2) : Post h h2 n n2 ι ι2 w w2 where
  le := Nat.le_trans a.le b.le
  ext := a.ext.trans b.ext
  new id hid := by
    rw [b.new id (fun ⟨x, y⟩ => hid ⟨Nat.le_trans a.le x, y⟩), a.new id (fun ⟨x, y⟩ => hid ⟨x, Nat.lt_of_lt_of_le y b.le⟩)]
  rel := b.rel
  size := Nat.le_trans a.size b.size
  frame k hk hno := by
    rw [b.frame k (Nat.lt_of_lt_of_le hk a.size) fun id o p ho hrw hp heq => ?_, a.frame k hk hno]
    rcases a.blk id o p ho hp with hlt | ⟨id0, o0, p0, h0, hr0, hp0, he⟩
    · omega
    · exact hno id0 o0 p0 h0 (hr0 hrw) hp0 (by omega)
  blk id o p ho hp := by
    rcases b.blk id o p ho hp with hlt | ⟨id0, o0, p0, h0, hr0, hp0, he⟩
    · exact .inl (Nat.le_trans a.size hlt)
    · rcases a.blk id0 o0 p0 h0 hp0 with hlt | ⟨id1, o1, p1, h1, hr1, hp1, he1⟩
      · exact .inl (by omega)
      · exact .inr ⟨id1, o1, p1, h1, fun e => hr1 (hr0 e), hp1, by omega⟩
  os := b.os.trans a.os
  out := b.out.trans a.out

/-- A smaller heap. -/
theorem HRel.sub {h g : AHeap} {ι : Inj} {w : World} (k : HRel h ι w) (hg : ∀ id o, g id = some o → h id = some o) : HRel g ι w :=
  ⟨fun id o ho => k.obj id o (hg id o ho), fun i j oi oj p q hi hj => k.apart i j oi oj p q (hg i oi hi) (hg j oj hj)⟩

/-- THE FRAME: what is beside a run's heap stays. 'g': all; 'h' within it is what the run knows. -/
theorem Post.frame_rule {h h' g : AHeap} {n n' : Nat} {ι ι' : Inj} {w w' : World} (a : Post h h' n n' ι ι' w w') (hg : HRel g ι w) (hsub : ∀ id o, h id = some o → g id = some o)
    (g' : AHeap) (hg' : ∀ id o, g' id = some o → h' id = some o ∨ (h id = none ∧ g id = some o)) : Post g g' n n' ι ι' w w' where
  le := a.le
  ext := a.ext
  new := a.new
  size := a.size
  rel := by
    have key : ∀ id o, h id = none → g id = some o → ∃ p, ι id = some p ∧ ι' id = some p ∧ ORel ι p w o ∧ ORel ι' p w' o := by
      intro id o hn ho
      obtain ⟨p, hp, hr⟩ := hg.obj id o ho
      refine ⟨p, hp, a.ext id p hp, hr, hr.ext a.ext ?_⟩
      refine a.frame p.blk hr.there fun id0 o0 p0 h0 hr0 hp0 heq => ?_
      have hne : id0 ≠ id := fun e => by subst e; rw [hn] at h0; cases h0
      exact hg.apart id0 id o0 o p0 p (hsub id0 o0 h0) ho hp0 hp hne (by simp [hr0]) heq
    refine ⟨fun id o ho => ?_, fun i j oi oj p q hi hj hp hq hne hrw heq => ?_⟩
    · rcases hg' id o ho with h1 | ⟨hn, h1⟩
      · exact a.rel.obj id o h1
      · obtain ⟨p, _, hp, _, hr⟩ := key id o hn h1; exact ⟨p, hp, hr⟩
    · rcases hg' i oi hi with hi | ⟨hin, hi⟩ <;> rcases hg' j oj hj with hj | ⟨hjn, hj⟩
      · exact a.rel.apart i j oi oj p q hi hj hp hq hne hrw heq
      · obtain ⟨q', hq1, hq2, hr, _⟩ := key j oj hjn hj
        obtain rfl : q' = q := by rw [hq2] at hq; exact Option.some.inj hq
        rcases a.blk i oi p hi hp with hlt | ⟨id0, o0, p0, h0, hr0, hp0, he⟩
        · have := hr.there; omega
        · have hne0 : id0 ≠ j := fun e => by subst e; rw [hjn] at h0; cases h0
          exact hg.apart id0 j o0 oj p0 q' (hsub _ _ h0) hj hp0 hq1 hne0 (by revert hr0 hrw; cases oi.rw <;> cases o0.rw <;> cases oj.rw <;> simp) (by omega)
      · obtain ⟨q', hq1, hq2, hr, _⟩ := key i oi hin hi
        obtain rfl : q' = p := by rw [hq2] at hp; exact Option.some.inj hp
        rcases a.blk j oj q hj hq with hlt | ⟨id0, o0, p0, h0, hr0, hp0, he⟩
        · have := hr.there; omega
        · have hne0 : id0 ≠ i := fun e => by subst e; rw [hin] at h0; cases h0
          exact hg.apart id0 i o0 oi p0 q' (hsub _ _ h0) hi hp0 hq1 hne0 (by revert hr0 hrw; cases oi.rw <;> cases o0.rw <;> cases oj.rw <;> simp) (by omega)
      · obtain ⟨p', hp1, hp2, _, _⟩ := key i oi hin hi
        obtain ⟨q', hq1, hq2, _, _⟩ := key j oj hjn hj
        obtain rfl : p' = p := by rw [hp2] at hp; exact Option.some.inj hp
        obtain rfl : q' = q := by rw [hq2] at hq; exact Option.some.inj hq
        exact hg.apart i j oi oj p' q' hi hj hp1 hq1 hne hrw heq
  frame b hb hno := a.frame b hb fun id o p ho hr hp => hno id o p (hsub id o ho) hr hp
  blk id o p ho hp := by
    rcases hg' id o ho with h1 | ⟨hn, h1⟩
    · rcases a.blk id o p h1 hp with hlt | ⟨id0, o0, p0, h0, hr0, hp0, he⟩
      · exact .inl hlt
      · exact .inr ⟨id0, o0, p0, hsub _ _ h0, hr0, hp0, he⟩
    · obtain ⟨q, hq, _⟩ := hg.obj id o h1
      have := a.ext id q hq
      rw [hp] at this; cases this
      exact .inr ⟨id, o, p, h1, fun e => e, hq, rfl⟩
  os := a.os
  out := a.out

end Go.Ev

/-! Ev: the primitive changes of a heap. -/
namespace Go.Ev
open Go

def upd {α : Type} (h : Nat → Option α) (id : Nat) (o : Option α) : Nat → Option α := fun i => if i = id then o else h i

theorem upd_same {α : Type} (h : Nat → Option α) (id : Nat) (o : Option α) : upd h id o id = o := by simp [upd]
theorem upd_ne {α : Type} {h : Nat → Option α} {id i : Nat} {o : Option α} (k : i ≠ id) : upd h id o i = h i := by simp [upd, k]

theorem HRel.none {h : AHeap} {ι : Inj} {w : World} (k : HRel h ι w) {n : Nat} (hn : ι n = none) : h n = none := by
  cases e : h n with
  | none => rfl
  | some o => obtain ⟨p, hp, _⟩ := k.obj n o e; rw [hn] at hp; cases hp

theorem ext_upd {ι : Inj} {n : Nat} (hn : ι n = none) (p : Place) : Ext ι (upd ι n (some p)) := fun id q hq => by
  have : id ≠ n := fun e => by subst e; rw [hn] at hq; cases hq
  rw [upd_ne this]; exact hq

/-- One new object in a new block. -/
theorem Post.newObj {h : AHeap} {ι : Inj} {w : World} (k : HRel h ι w) {n : Nat} (hn : ι n = none) (o : AObj) (O : Obj) (p : Place) (hp : p.blk = w.heap.size)
    (hrel : ORel (upd ι n (some p)) p (w.alloc O) o) : Post h (upd h n (some o)) n (n + 1) ι (upd ι n (some p)) w (w.alloc O) where
  le := Nat.le_succ n
  ext := ext_upd hn p
  new id hid := upd_ne (fun e => hid (by omega))
  size := by simp
  rel := by
    have keep : ∀ id o q, h id = some o → ι id = some q → id ≠ n ∧ q.blk < w.heap.size ∧ ORel (upd ι n (some p)) q (w.alloc O) o := by
      intro id o q ho hq
      obtain ⟨q', hq', hr⟩ := k.obj id o ho
      obtain rfl : q' = q := by rw [hq] at hq'; exact (Option.some.inj hq').symm
      have hlt := hr.there
      refine ⟨(fun e => by subst e; rw [hn] at hq; cases hq), hlt, hr.ext (ext_upd hn p) ?_⟩
      simp only [World.alloc, Array.getElem?_push]
      rw [if_neg (by omega)]
    refine ⟨fun id o' ho => ?_, fun i j oi oj pi pj hi hj hpi hpj hne hrw => ?_⟩
    · by_cases e : id = n
      · subst e; rw [upd_same] at ho; cases ho; exact ⟨p, upd_same _ _ _, hrel⟩
      · rw [upd_ne e] at ho
        obtain ⟨q, hq, _⟩ := k.obj id o' ho
        exact ⟨q, by rw [upd_ne e]; exact hq, (keep id o' q ho hq).2.2⟩
    · by_cases ei : i = n <;> by_cases ej : j = n
      · omega
      · subst ei; rw [upd_same] at hpi; cases hpi
        rw [upd_ne ej] at hj hpj
        have := (keep j oj pj hj hpj).2.1; omega
      · subst ej; rw [upd_same] at hpj; cases hpj
        rw [upd_ne ei] at hi hpi
        have := (keep i oi pi hi hpi).2.1; omega
      · rw [upd_ne ei] at hi hpi; rw [upd_ne ej] at hj hpj
        exact k.apart i j oi oj pi pj hi hj hpi hpj hne hrw
  frame b hb _ := by simp only [World.alloc, Array.getElem?_push]; rw [if_neg (by omega)]
  os := rfl
  out := rfl
  blk id o' q ho hq := by
    by_cases e : id = n
    · subst e; rw [upd_same] at hq; cases hq; exact .inl (by omega)
    · rw [upd_ne e] at ho hq; exact .inr ⟨id, o', q, ho, fun e => e, hq, rfl⟩

/-- An object becomes another, in its own block. -/
theorem Post.setObj {h : AHeap} {ι : Inj} {w w' : World} (k : HRel h ι w) (n : Nat) {id : Nat} {o0 : AObj} {p : Place} (h0 : h id = some o0) (hp : ι id = some p) (hrw0 : o0.rw = true)
    (o : AObj) (hos : w'.os = w.os) (hout : w'.output = w.output) (hsize : w'.heap.size = w.heap.size) (hkeep : ∀ b, b ≠ p.blk → w'.heap[b]? = w.heap[b]?) (hrel : ORel ι p w' o) : Post h (upd h id (some o)) n n ι ι w w' where
  le := Nat.le_refl _
  ext := Ext.refl _
  new _ _ := rfl
  size := by omega
  rel := by
    refine ⟨fun i oi hi => ?_, fun i j oi oj pi pj hi hj hpi hpj hne hrw => ?_⟩
    · by_cases e : i = id
      · subst e; rw [upd_same] at hi; cases hi; exact ⟨p, hp, hrel⟩
      · rw [upd_ne e] at hi
        obtain ⟨q, hq, hr⟩ := k.obj i oi hi
        exact ⟨q, hq, hr.ext (Ext.refl _) (hkeep _ (k.apart i id oi o0 q p hi h0 hq hp e (by simp [hrw0])))⟩
    · have hi' : ∃ o, h i = some o ∧ (oi.rw = true → o.rw = true) := by
        by_cases e : i = id
        · exact ⟨o0, e ▸ h0, fun _ => hrw0⟩
        · rw [upd_ne e] at hi; exact ⟨_, hi, fun e => e⟩
      have hj' : ∃ o, h j = some o ∧ (oj.rw = true → o.rw = true) := by
        by_cases e : j = id
        · exact ⟨o0, e ▸ h0, fun _ => hrw0⟩
        · rw [upd_ne e] at hj; exact ⟨_, hj, fun e => e⟩
      obtain ⟨a, ha, ra⟩ := hi'
      obtain ⟨b, hb, rb⟩ := hj'
      exact k.apart i j a b pi pj ha hb hpi hpj hne (by revert ra rb hrw; cases oi.rw <;> cases oj.rw <;> cases a.rw <;> cases b.rw <;> simp)
  frame b _ hno := hkeep b (Ne.symm (hno id o0 p h0 hrw0 hp))
  os := hos
  out := hout
  blk i oi q hi hq := by
    by_cases e : i = id
    · subst e; rw [hp] at hq; cases hq; exact .inr ⟨i, o0, p, h0, fun _ => hrw0, hp, rfl⟩
    · rw [upd_ne e] at hi; exact .inr ⟨i, oi, q, hi, fun e => e, hq, rfl⟩

/-- An object gives way to a new one in the same block (an append in place). -/
theorem Post.moveObj {h : AHeap} {ι : Inj} {w w' : World} (k : HRel h ι w) {n : Nat} (hn : ι n = none) {id : Nat} {o0 : AObj} {p q : Place} (h0 : h id = some o0) (hp : ι id = some p) (hrw0 : o0.rw = true)
    (o : AObj) (hos : w'.os = w.os) (hout : w'.output = w.output) (hq : q.blk = p.blk) (hsize : w'.heap.size = w.heap.size) (hkeep : ∀ b, b ≠ p.blk → w'.heap[b]? = w.heap[b]?) (hrel : ORel (upd ι n (some q)) q w' o) :
    Post h (upd (upd h id none) n (some o)) n (n + 1) ι (upd ι n (some q)) w w' := by
  have hidn : id ≠ n := fun e => by subst e; rw [hn] at hp; cases hp
  have keep : ∀ i oi, upd (upd h id none) n (some o) i = some oi → i ≠ n → i ≠ id ∧ h i = some oi := by
    intro i oi hi e
    rw [upd_ne e] at hi
    by_cases e' : i = id
    · subst e'; rw [upd_same] at hi; cases hi
    · rw [upd_ne e'] at hi; exact ⟨e', hi⟩
  refine ⟨Nat.le_succ n, ext_upd hn q, fun i hi => upd_ne (fun e => hi (by omega)), ⟨fun i oi hi => ?_, fun i j oi oj pi pj hi hj hpi hpj hne hrw => ?_⟩, by omega, fun b _ hno => hkeep b (Ne.symm (hno id o0 p h0 hrw0 hp)), fun i oi r hi hr => ?_, hos, hout⟩
  · by_cases e : i = n
    · subst e; rw [upd_same] at hi; cases hi; exact ⟨q, upd_same _ _ _, hrel⟩
    · obtain ⟨e', hi⟩ := keep i oi hi e
      obtain ⟨r, hr, ho⟩ := k.obj i oi hi
      exact ⟨r, by rw [upd_ne e]; exact hr, ho.ext (ext_upd hn q) (hkeep _ (k.apart i id oi o0 r p hi h0 hr hp e' (by simp [hrw0])))⟩
  · by_cases ei : i = n <;> by_cases ej : j = n
    · omega
    · subst ei; rw [upd_same] at hpi; cases hpi
      obtain ⟨e', hj⟩ := keep j oj hj ej
      rw [upd_ne ej] at hpj
      have := k.apart j id oj o0 pj p hj h0 hpj hp e' (by simp [hrw0]); omega
    · subst ej; rw [upd_same] at hpj; cases hpj
      obtain ⟨e', hi⟩ := keep i oi hi ei
      rw [upd_ne ei] at hpi
      have := k.apart i id oi o0 pi p hi h0 hpi hp e' (by simp [hrw0]); omega
    · obtain ⟨_, hi⟩ := keep i oi hi ei
      obtain ⟨_, hj⟩ := keep j oj hj ej
      rw [upd_ne ei] at hpi; rw [upd_ne ej] at hpj
      exact k.apart i j oi oj pi pj hi hj hpi hpj hne hrw
  · by_cases e : i = n
    · subst e; rw [upd_same] at hr; cases hr; exact .inr ⟨id, o0, p, h0, fun _ => hrw0, hp, by omega⟩
    · obtain ⟨_, hi⟩ := keep i oi hi e
      rw [upd_ne e] at hr; exact .inr ⟨i, oi, r, hi, fun e => e, hr, rfl⟩

/-- An object is dropped. -/
theorem Post.drop {h : AHeap} {n n' : Nat} {ι ι' : Inj} {w w' : World} {h' : AHeap} (k : Post h h' n n' ι ι' w w') (g : AHeap) (hg : ∀ id o, g id = some o → h' id = some o) : Post h g n n' ι ι' w w' :=
  ⟨k.le, k.ext, k.new, k.rel.sub hg, k.size, k.frame, fun id o p ho hp => k.blk id o p (hg id o ho) hp, k.os, k.out⟩

end Go.Ev
