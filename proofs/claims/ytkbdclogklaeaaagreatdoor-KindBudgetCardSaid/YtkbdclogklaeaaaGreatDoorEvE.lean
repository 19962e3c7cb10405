/- PART OF THE PROOF OF KindBudget's CARD. An evaluated function is a contract of the model's function, for every order and every capacity. -/
import Derived.Test.YtkbdclogklaeaaaGreatDoorEvD
import Derived.LoopNIn
import Derived.RangeFuncNested
set_option linter.unusedSimpArgs false
set_option linter.unusedVariables false

/-! Ev: the evaluator of a region that draws its order. -/
namespace Go.Ev
open Go

def memN (x : Nat) : List Nat → Bool
  | [] => false
  | y :: ys => bif Nat.beq x y then true else memN x ys

theorem memN_iff {x : Nat} : ∀ {l : List Nat}, memN x l = true ↔ x ∈ l
  | [] => by simp [memN]
  | y :: ys => by
    simp only [memN, List.mem_cons]
    cases h : Nat.beq x y with
    | true => rw [beqT] at h; simp [h]
    | false => rw [beqF] at h; simp [h, memN_iff]

theorem memN_not {x : Nat} {l : List Nat} : memN x l = false ↔ x ∉ l := by rw [← Bool.not_eq_true, memN_iff]

def disj : List Nat → List Nat → Bool
  | [], _ => true
  | x :: xs, l => bif memN x l then false else disj xs l

theorem disj_spec : ∀ {a b : List Nat}, disj a b = true → ∀ x ∈ a, x ∉ b
  | [], _, _, x, hx => by simp at hx
  | y :: ys, b, h, x, hx => by
    simp only [disj] at h
    cases hm : memN y b with
    | true => rw [hm] at h; cases h
    | false =>
      rw [hm] at h
      rcases List.mem_cons.1 hx with rfl | hx
      · exact memN_not.1 hm
      · exact disj_spec h x hx

mutual
def AV.same : AV → AV → Bool
  | .bool a, .bool b => a == b
  | .int k a, .int j b => decide (k = j) && decide (a = b)
  | .str a, .str b => strEq a b
  | .nilPtr, .nilPtr => true
  | .ptr a b, .ptr c d => Nat.beq a c && Nat.beq b d
  | .nilSlice, .nilSlice => true
  | .slice a b c o s, .slice a' b' c' o' s' => Nat.beq a a' && Nat.beq b b' && Nat.beq c c' && Nat.beq s s' && (match o, o' with | none, none => true | some x, some y => Nat.beq x y | _, _ => false)
  | .nilMap, .nilMap => true
  | .map a, .map b => Nat.beq a b
  | .func f a b, .func g c d => Nat.beq f g && AV.sames a c && AV.sames b d
  | .nilFunc, .nilFunc => true
  | .iface t x, .iface u y => Nat.beq t u && AV.same x y
  | .nilIface, .nilIface => true
  | .agg a, .agg b => AV.sames a b
  | .tuple a, .tuple b => AV.sames a b
  | _, _ => false
def AV.sames : List AV → List AV → Bool
  | [], [] => true
  | x :: xs, y :: ys => bif AV.same x y then AV.sames xs ys else false
  | _, _ => false
end

mutual
theorem AV.same_eq : ∀ (x y : AV), AV.same x y = true → x = y
  | .bool a, y, h => by
    cases y <;> simp only [AV.same, Bool.false_eq_true] at h
    rw [beq_iff_eq] at h; rw [h]
  | .int k a, y, h => by
    cases y <;> simp only [AV.same, Bool.false_eq_true] at h
    simp only [Bool.and_eq_true, decide_eq_true_eq] at h; rw [h.1, h.2]
  | .str a, y, h => by
    cases y <;> simp only [AV.same, Bool.false_eq_true] at h
    rw [(strEq_iff _ _).1 h]
  | .nilPtr, y, h => by cases y <;> simp only [AV.same, Bool.false_eq_true] at h; rfl
  | .ptr a b, y, h => by
    cases y <;> simp only [AV.same, Bool.false_eq_true] at h
    simp only [Bool.and_eq_true, beqT] at h; rw [h.1, h.2]
  | .nilSlice, y, h => by cases y <;> simp only [AV.same, Bool.false_eq_true] at h; rfl
  | .slice a b c o s, y, h => by
    cases y <;> simp only [AV.same, Bool.false_eq_true] at h
    rename_i a' b' c' o' s'
    simp only [Bool.and_eq_true, beqT] at h
    obtain ⟨⟨⟨⟨rfl, rfl⟩, rfl⟩, rfl⟩, h⟩ := h
    cases o <;> cases o' <;> simp only [Bool.false_eq_true] at h
    · rfl
    · rw [beqT] at h; rw [h]
  | .nilMap, y, h => by cases y <;> simp only [AV.same, Bool.false_eq_true] at h; rfl
  | .map a, y, h => by
    cases y <;> simp only [AV.same, Bool.false_eq_true] at h
    rw [beqT] at h; rw [h]
  | .func f a b, y, h => by
    cases y <;> simp only [AV.same, Bool.false_eq_true] at h
    simp only [Bool.and_eq_true, beqT] at h
    rw [h.1.1, AV.sames_eq _ _ h.1.2, AV.sames_eq _ _ h.2]
  | .yield l, y, h => by cases y <;> simp only [AV.same, Bool.false_eq_true] at h
  | .nilFunc, y, h => by cases y <;> simp only [AV.same, Bool.false_eq_true] at h; rfl
  | .iface t x, y, h => by
    cases y <;> simp only [AV.same, Bool.false_eq_true] at h
    simp only [Bool.and_eq_true, beqT] at h
    rw [h.1, AV.same_eq _ _ h.2]
  | .nilIface, y, h => by cases y <;> simp only [AV.same, Bool.false_eq_true] at h; rfl
  | .agg a, y, h => by
    cases y <;> simp only [AV.same, Bool.false_eq_true] at h
    rw [AV.sames_eq _ _ h]
  | .tuple a, y, h => by
    cases y <;> simp only [AV.same, Bool.false_eq_true] at h
    rw [AV.sames_eq _ _ h]
theorem AV.sames_eq : ∀ (x y : List AV), AV.sames x y = true → x = y
  | [], [], _ => rfl
  | [], _ :: _, h => by simp [AV.sames] at h
  | _ :: _, [], h => by simp [AV.sames] at h
  | x :: xs, y :: ys, h => by
    simp only [AV.sames] at h
    cases hx : AV.same x y with
    | false => rw [hx] at h; cases h
    | true => rw [hx] at h; rw [AV.same_eq x y hx, AV.sames_eq xs ys h]
end

def sameEs : List (AV × AV × Nat) → List (AV × AV × Nat) → Bool
  | [], [] => true
  | x :: xs, y :: ys => bif AV.same x.1 y.1 && AV.same x.2.1 y.2.1 && Nat.beq x.2.2 y.2.2 then sameEs xs ys else false
  | _, _ => false

theorem sameEs_eq : ∀ (x y : List (AV × AV × Nat)), sameEs x y = true → x = y
  | [], [], _ => rfl
  | [], _ :: _, h => by simp [sameEs] at h
  | _ :: _, [], h => by simp [sameEs] at h
  | (a, b, c) :: xs, (a', b', c') :: ys, h => by
    simp only [sameEs] at h
    cases hx : (AV.same a a' && AV.same b b' && Nat.beq c c') with
    | false => rw [hx] at h; cases h
    | true =>
      rw [hx] at h
      simp only [Bool.and_eq_true, beqT] at hx
      rw [AV.same_eq _ _ hx.1.1, AV.same_eq _ _ hx.1.2, hx.2, sameEs_eq xs ys h]

def sameO : Option AObj → Option AObj → Bool
  | none, none => true
  | some (.cells s a), some (.cells t b) => bif Nat.beq s t then AV.sames a b else false
  | some (.map a m), some (.map b n) => bif Nat.beq m n then sameEs a b else false
  | some (.ro s a), some (.ro t b) => bif Nat.beq s t then AV.sames a b else false
  | _, _ => false

theorem sameO_eq {a b : Option AObj} (h : sameO a b = true) : a = b := by
  unfold sameO at h
  split at h
  · rfl
  · rename_i s x t y
    cases hs : Nat.beq s t with
    | false => rw [hs] at h; cases h
    | true => rw [hs] at h; rw [beqT] at hs; rw [hs, AV.sames_eq _ _ h]
  · rename_i s x t y
    cases hs : Nat.beq x y with
    | false => rw [hs] at h; cases h
    | true => rw [hs] at h; rw [beqT] at hs; rw [hs, sameEs_eq _ _ h]
  · rename_i s x t y
    cases hs : Nat.beq s t with
    | false => rw [hs] at h; cases h
    | true => rw [hs] at h; rw [beqT] at hs; rw [hs, AV.sames_eq _ _ h]
  · cases h

def restrict (tm : T AV) : List Nat → T AV
  | [] => .lf
  | t :: ts => match tm.get t with | some x => T.set x (restrict tm ts) t | none => restrict tm ts

theorem restrict_get {tm : T AV} : ∀ {ts : List Nat} {t : Nat} {x : AV}, (restrict tm ts).get t = some x → tm.get t = some x
  | [], t, x, h => by simp [restrict] at h
  | s :: ss, t, x, h => by
    simp only [restrict] at h
    split at h
    · rename_i y hy
      rw [T.get_set] at h
      split at h
      · rename_i e; subst e; rw [hy]; exact h
      · exact restrict_get h
    · exact restrict_get h

def idsOf (tm : T AV) : List Nat → List Nat
  | [] => []
  | t :: ts =>
    match tm.get t with
    | some (.ptr id _) => id :: idsOf tm ts
    | some (.slice id _ _ _ _) => id :: idsOf tm ts
    | some (.map id) => id :: idsOf tm ts
    | some (.iface _ (.ptr id _)) => id :: idsOf tm ts
    | _ => idsOf tm ts

def tmpsOf : List Operand → List Nat
  | [] => []
  | .tmp t :: xs => t :: tmpsOf xs
  | _ :: xs => tmpsOf xs

/-- The temporaries whose objects an operation looks into. -/
def addrOf : Op → List Nat
  | .load _ a => tmpsOf [a]
  | .store _ a _ => tmpsOf [a]
  | .lookup _ x _ _ => tmpsOf [x]
  | .mapUpdate _ m _ _ => tmpsOf [m]
  | .insert _ m _ _ => tmpsOf [m]
  | .mapEntry _ m _ => tmpsOf [m]
  | .entryStore _ m _ _ => tmpsOf [m]
  | .call c => match c.callee with | .builtin _ => tmpsOf c.args.toList | .invoke r _ => tmpsOf [r] | _ => []
  | _ => []

def preOf (g : T AObj) (f : List Nat) : AHeap := fun id => bif memN id f then g.get id else none

def wOf (e : Eff) (n : Nat) : List Nat :=
  match e with
  | .none => []
  | .new _ => [n]
  | .wr id _ => [id]
  | .mv id _ => [id, n]

structure DR where
  i : Nat
  dst : Option Nat
  tr : T AV
  call : Bool
  f : List Nat
  w : List Nat

def tmpsApart (x : DR) (dst : Option Nat) (tr : T AV) : Bool :=
  (match x.dst with | some d => (tr.get d).isNone && (match dst with | some d' => !Nat.beq d d' | none => true) | none => true) &&
  (match dst with | some d => (x.tr.get d).isNone | none => true)

def okSimple (bs : Nat) (dst : Option Nat) (tr : T AV) (f w : List Nat) : List DR → Bool
  | [] => true
  | x :: xs => bif Nat.testBit bs x.i then okSimple bs dst tr f w xs else
    bif x.call then false else bif disj x.w f && disj w x.f && tmpsApart x dst tr then okSimple bs dst tr f w xs else false

/-- What a call must not see, and what it must leave as it is. -/
structure Hid where
  w : List Nat
  f : List Nat

def hides (bs : Nat) (dst : Option Nat) (tr : T AV) : List DR → Option Hid
  | [] => some ⟨[], []⟩
  | x :: xs => bif Nat.testBit bs x.i then hides bs dst tr xs else
    bif x.call then none else bif tmpsApart x dst tr then (match hides bs dst tr xs with | some l => some ⟨x.w ++ l.w, x.f ++ l.f⟩ | none => none) else none

def delAll (g : T AObj) : List Nat → T AObj
  | [] => g
  | i :: is => (delAll g is).del i

def putBack (g gp : T AObj) : List Nat → T AObj
  | [] => gp
  | i :: is => match g.get i with | some o => T.set o (putBack g gp is) i | none => putBack g gp is

def stayed (g gp : T AObj) : List Nat → Bool
  | [] => true
  | i :: is => bif sameO (gp.get i) (g.get i) then stayed g gp is else false

structure DSt where
  tm : T AV
  g : T AObj
  n : Nat
  done : List DR

def fitsT (dst : Option Nat) (nt : Nat) : Bool := match dst with | some d => Nat.blt d nt | none => true

def evDrawOp (P : Program) (call : CallT) (ops : Array Oper) (i bs : Nat) (o : Oper) (tr : T AV) (f : List Nat) (s : DSt) : Option DSt :=
  match evPre P ops tr (preOf s.g f) s.n o with
  | some (.val x e) =>
    bif okSimple bs o.dst tr (f ++ wOf e s.n) (wOf e s.n) s.done then some ⟨putT s.tm o.dst x, effT e s.g s.n, s.n + 1, ⟨i, o.dst, tr, false, f ++ wOf e s.n, wOf e s.n⟩ :: s.done⟩ else none
  | some (.skip e) =>
    bif okSimple bs o.dst tr (f ++ wOf e s.n) (wOf e s.n) s.done then some ⟨putT s.tm o.dst (.tuple []), effT e s.g s.n, s.n + 1, ⟨i, o.dst, tr, false, f ++ wOf e s.n, wOf e s.n⟩ :: s.done⟩ else none
  | some (.call _ _) =>
    match hides bs o.dst tr s.done with
    | some hide =>
     match evPre P ops tr (delAll s.g hide.w).get s.n o with
     | some (.call fn args) =>
      match call fn args (delAll s.g hide.w) s.n with
      | some (x, gp, n') => bif stayed (delAll s.g hide.w) gp hide.w && stayed (delAll s.g hide.w) gp hide.f then some ⟨putT s.tm o.dst x, putBack s.g gp hide.w, n' + 1, ⟨i, o.dst, tr, true, [], []⟩ :: s.done⟩ else none
      | none => none
     | _ => none
    | none => none
  | none => none

def evDrawGo (P : Program) (call : CallT) (ops : Array Oper) (nt : Nat) (bs : List Nat) : List Nat → DSt → Option DSt
  | [], s => some s
  | i :: is, s =>
    match ops[i]? with
    | some o =>
      bif fitsT o.dst nt then
        match evDrawOp P call ops i (bs.getD i 0) o (restrict s.tm (o.looksAt ops)) (idsOf s.tm (addrOf o.op)) s with
        | some s' => evDrawGo P call ops nt bs is s'
        | none => none
      else none
    | none => none

/-! ### What it shows -/
/-- A part of a run. -/
structure Part (P : Program) (ops : Array Oper) (Q : QT) (nt : Nat) (B : Nat → Nat → Bool) (tm0 : T AV) (G0 : AHeap) (n m : Nat) (L : List Rec) : Prop where
  ok : ∀ r ∈ L, r.Ok P ops Q nt
  pair : ∀ L1 r L2, L = L1 ++ r :: L2 → ∀ x ∈ L1, B x.i r.i = true ∨ Apart x r
  ids : ∀ L1 r L2, L = L1 ++ r :: L2 → ∀ x ∈ L1, x.n1 ≤ r.n0
  preH : ∀ L1 r L2, L = L1 ++ r :: L2 → ∀ id o, r.pre id = some o → lay all (fun x => x.wrH id) L1 (G0 id) = some o
  preT : ∀ L1 r L2, L = L1 ++ r :: L2 → ∀ t x, r.tr.get t = some x → lay all (fun x => x.wrT t) L1 (tm0.get t) = some x
  low : ∀ r ∈ L, n ≤ r.n0
  high : ∀ r ∈ L, r.n1 ≤ m
  le : n ≤ m

theorem split_snoc {L L1 L2 : List Rec} {r x : Rec} (h : L ++ [r] = L1 ++ x :: L2) : (L1 = L ∧ x = r) ∨ ∃ L3, L = L1 ++ x :: L3 := by
  rcases List.eq_nil_or_concat L2 with rfl | ⟨L3, y, rfl⟩
  · have := List.append_inj' h rfl
    simp only [List.cons.injEq, and_true] at this
    exact .inl ⟨this.1.symm, this.2.symm⟩
  · right
    refine ⟨L3, ?_⟩
    have h' : L ++ [r] = (L1 ++ x :: L3) ++ [y] := by rw [h]; simp
    exact (List.append_inj' h' rfl).1

theorem Part.snoc {P : Program} {ops : Array Oper} {Q : QT} {nt : Nat} {B : Nat → Nat → Bool} {tm0 : T AV} {G0 : AHeap} {n m : Nat} {L : List Rec} (p : Part P ops Q nt B tm0 G0 n m L) (r : Rec)
    (h1 : r.Ok P ops Q nt) (h2 : ∀ x ∈ L, B x.i r.i = true ∨ Apart x r) (h3 : r.n0 = m) (h4 : ∀ id o, r.pre id = some o → lay all (fun x => x.wrH id) L (G0 id) = some o)
    (h5 : ∀ t x, r.tr.get t = some x → lay all (fun x => x.wrT t) L (tm0.get t) = some x) : Part P ops Q nt B tm0 G0 n r.n1 (L ++ [r]) where
  ok x hx := by
    rcases List.mem_append.1 hx with h | h
    · exact p.ok x h
    · simp at h; subst h; exact h1
  pair L1 x L2 h y hy := by
    rcases split_snoc h with ⟨rfl, rfl⟩ | ⟨L3, e⟩
    · exact h2 y hy
    · exact p.pair L1 x L3 e y hy
  ids L1 x L2 h y hy := by
    rcases split_snoc h with ⟨rfl, rfl⟩ | ⟨L3, e⟩
    · rw [h3]; exact p.high y hy
    · exact p.ids L1 x L3 e y hy
  preH L1 x L2 h := by
    rcases split_snoc h with ⟨rfl, rfl⟩ | ⟨L3, e⟩
    · exact h4
    · exact p.preH L1 x L3 e
  preT L1 x L2 h := by
    rcases split_snoc h with ⟨rfl, rfl⟩ | ⟨L3, e⟩
    · exact h5
    · exact p.preT L1 x L3 e
  low x hx := by
    rcases List.mem_append.1 hx with h | h
    · exact p.low x h
    · simp at h; subst h; rw [h3]; exact p.le
  high x hx := by
    have := h1.le
    rcases List.mem_append.1 hx with h | h
    · have := p.high x h; omega
    · simp at h; subst h; exact Nat.le_refl _
  le := by have := h1.le; have := p.le; omega

/-- A record of the evaluator's, and what it stands for. -/
structure DRel (d : DR) (r : Rec) : Prop where
  i : d.i = r.i
  dst : d.dst = r.dst
  tr : d.tr = r.tr
  f : d.call = false → ∀ id, r.pre id ≠ none → id ∈ d.f
  wf : d.call = false → ∀ id, r.W id = true → id ∈ d.f
  w : d.call = false → ∀ id, r.W id = true → id ∈ d.w

structure DInv (P : Program) (ops : Array Oper) (Q : QT) (nt : Nat) (B : Nat → Nat → Bool) (tm0 : T AV) (G0 : AHeap) (n : Nat) (s : DSt) (L : List Rec) : Prop where
  part : Part P ops Q nt B tm0 G0 n s.n L
  heap : ∀ id, s.g.get id = lay all (fun x => x.wrH id) L (G0 id)
  tmps : ∀ t, s.tm.get t = lay all (fun x => x.wrT t) L (tm0.get t)
  done : ∀ r ∈ L, ∃ d ∈ s.done, DRel d r

theorem isNone_iff {α : Type} {o : Option α} : o.isNone = true ↔ o = none := by cases o <;> simp

theorem tmpsApart_spec {x : DR} {dst : Option Nat} {tr : T AV} (h : tmpsApart x dst tr = true) :
    (∀ d, x.dst = some d → tr.get d = none ∧ dst ≠ some d) ∧ (∀ d, dst = some d → x.tr.get d = none ∧ x.dst ≠ some d) := by
  unfold tmpsApart at h
  simp only [Bool.and_eq_true] at h
  obtain ⟨h1, h2⟩ := h
  refine ⟨fun d hd => ?_, fun d hd => ?_⟩
  · rw [hd] at h1
    simp only [Bool.and_eq_true, isNone_iff] at h1
    refine ⟨h1.1, fun e => ?_⟩
    rw [e] at h1
    simp at h1
  · rw [hd] at h2
    simp only [isNone_iff] at h2
    refine ⟨h2, fun e => ?_⟩
    rw [e] at h1
    rw [hd] at h1
    simp at h1

theorem okSimple_spec {bs : Nat} {dst : Option Nat} {tr : T AV} {f w : List Nat} : ∀ {l : List DR}, okSimple bs dst tr f w l = true → ∀ x ∈ l, Nat.testBit bs x.i = true ∨ (x.call = false ∧ (∀ y ∈ x.w, y ∉ f) ∧ (∀ y ∈ w, y ∉ x.f) ∧ tmpsApart x dst tr = true)
  | [], _, x, hx => by simp at hx
  | y :: ys, h, x, hx => by
    simp only [okSimple] at h
    cases hb : Nat.testBit bs y.i with
    | true =>
      rw [hb] at h
      rcases List.mem_cons.1 hx with rfl | hx
      · exact .inl hb
      · exact okSimple_spec h x hx
    | false =>
      rw [hb] at h
      simp only [cond_false] at h
      cases hc : y.call with
      | true => rw [hc] at h; cases h
      | false =>
        rw [hc] at h
        simp only [cond_false] at h
        cases ha : (disj y.w f && disj w y.f && tmpsApart y dst tr) with
        | false => rw [ha] at h; cases h
        | true =>
          rw [ha] at h
          rcases List.mem_cons.1 hx with rfl | hx
          · simp only [Bool.and_eq_true] at ha
            exact .inr ⟨hc, disj_spec ha.1.1, disj_spec ha.1.2, ha.2⟩
          · exact okSimple_spec h x hx

theorem hides_spec {bs : Nat} {dst : Option Nat} {tr : T AV} : ∀ {l : List DR} {hide : Hid}, hides bs dst tr l = some hide → ∀ x ∈ l, Nat.testBit bs x.i = true ∨ (x.call = false ∧ (∀ y ∈ x.w, y ∈ hide.w) ∧ (∀ y ∈ x.f, y ∈ hide.f) ∧ tmpsApart x dst tr = true)
  | [], _, _, x, hx => by simp at hx
  | y :: ys, hide, h, x, hx => by
    simp only [hides] at h
    cases hb : Nat.testBit bs y.i with
    | true =>
      rw [hb] at h
      rcases List.mem_cons.1 hx with rfl | hx
      · exact .inl hb
      · exact hides_spec h x hx
    | false =>
      rw [hb] at h
      simp only [cond_false] at h
      cases hc : y.call with
      | true => rw [hc] at h; cases h
      | false =>
        rw [hc] at h
        simp only [cond_false] at h
        cases ha : tmpsApart y dst tr with
        | false => rw [ha] at h; cases h
        | true =>
          rw [ha] at h
          simp only [cond_true] at h
          split at h
          rotate_left
          · cases h
          rename_i l hl
          simp only [Option.some.injEq] at h
          subst h
          rcases List.mem_cons.1 hx with rfl | hx
          · exact .inr ⟨hc, fun z hz => by simp [hz], fun z hz => by simp [hz], ha⟩
          · rcases hides_spec hl x hx with h1 | ⟨h1, h2, h3, h4⟩
            · exact .inl h1
            · exact .inr ⟨h1, fun z hz => by simp [h2 z hz], fun z hz => by simp [h3 z hz], h4⟩

theorem delAll_get (g : T AObj) : ∀ (l : List Nat) (id : Nat), (delAll g l).get id = if id ∈ l then none else g.get id
  | [], id => by simp [delAll]
  | i :: is, id => by
    simp only [delAll, T.get_del, delAll_get g is, List.mem_cons]
    by_cases h : id = i
    · simp [h]
    · simp [h]

theorem putBack_get (g gp : T AObj) : ∀ (l : List Nat) (id : Nat), (∀ i ∈ l, gp.get i = none) → (putBack g gp l).get id = if id ∈ l then g.get id else gp.get id
  | [], id, _ => by simp [putBack]
  | i :: is, id, h => by
    have ih := putBack_get g gp is id fun j hj => h j (by simp [hj])
    simp only [putBack]
    split
    · rename_i o ho
      rw [T.get_set, ih]
      by_cases e : id = i
      · subst e; simp [ho]
      · simp [e]
    · rename_i ho
      rw [ih]
      by_cases e : id = i
      · subst e
        by_cases h' : id ∈ is
        · simp [h']
        · rw [if_neg h', if_pos (by simp), ho, h id (by simp)]
      · simp [e]

theorem stayed_spec {g gp : T AObj} : ∀ {l : List Nat}, stayed g gp l = true → ∀ i ∈ l, gp.get i = g.get i
  | [], _, i, hi => by simp at hi
  | j :: js, h, i, hi => by
    simp only [stayed] at h
    cases hj : sameO (gp.get j) (g.get j) with
    | false => rw [hj] at h; cases h
    | true =>
      rw [hj] at h
      rcases List.mem_cons.1 hi with rfl | hi
      · exact sameO_eq hj
      · exact stayed_spec h i hi

theorem preOf_get {g : T AObj} {f : List Nat} {id : Nat} {o : AObj} (h : preOf g f id = some o) : g.get id = some o ∧ id ∈ f := by
  unfold preOf at h
  cases hm : memN id f with
  | false => rw [hm] at h; cases h
  | true => rw [hm] at h; exact ⟨h, memN_iff.1 hm⟩

theorem apply_other {e : Eff} {g : AHeap} {n id : Nat} (h : id ∉ wOf e n) : e.apply g n id = g id := by
  cases e with
  | none => rfl
  | new o => simp only [wOf, List.mem_singleton] at h; exact upd_ne h
  | wr i o => simp only [wOf, List.mem_singleton] at h; exact upd_ne h
  | mv i o =>
    simp only [wOf, List.mem_cons, List.not_mem_nil, or_false, not_or] at h
    simp only [Eff.apply]
    rw [upd_ne h.2, upd_ne h.1]

theorem apply_same {e : Eff} {g g' : AHeap} {n id : Nat} (h : id ∈ wOf e n) : e.apply g n id = e.apply g' n id := by
  cases e with
  | none => simp [wOf] at h
  | new o => simp only [wOf, List.mem_singleton] at h; subst h; simp only [Eff.apply]; rw [upd_same, upd_same]
  | wr i o => simp only [wOf, List.mem_singleton] at h; subst h; simp only [Eff.apply]; rw [upd_same, upd_same]
  | mv i o =>
    simp only [wOf, List.mem_cons, List.not_mem_nil, or_false] at h
    simp only [Eff.apply]
    by_cases h2 : id = n
    · subst h2; rw [upd_same, upd_same]
    · rw [upd_ne h2, upd_ne h2]
      rcases h with rfl | h
      · rw [upd_same, upd_same]
      · exact absurd h h2

theorem lay_snoc {α : Type} {wr : Rec → Option α} (D : Nat → Bool) (L : List Rec) (r : Rec) (c : α) : lay D wr (L ++ [r]) c = if D r.i then (wr r).getD (lay D wr L c) else lay D wr L c := by
  rw [lay_append]; rfl

theorem lay_one {α : Type} {wr : Rec → Option α} (L : List Rec) (r : Rec) (c : α) {o : Option α} (h : wr r = o) : lay all wr (L ++ [r]) c = o.getD (lay all wr L c) := by
  rw [lay_append, ← h]; rfl

theorem fitsT_spec {dst : Option Nat} {nt : Nat} (h : fitsT dst nt = true) : ∀ d, dst = some d → d < nt := by
  intro d hd
  rw [hd] at h
  exact Nat.le_of_ble_eq_true h

theorem Does.widen {P : Program} {ops : Array Oper} {Q : QT} {i : Nat} {dst : Option Tmp} {a : Act} {g g' : AHeap} {n n' m : Nat} {x : AV} {ι : Inj} {w : World} (h : Does P ops Q i dst a g g' n n' x ι w) (hm : n' ≤ m) : Does P ops Q i dst a g g' n m x ι w :=
  fun K hK => h K fun v w' ι' hv hp => hK v w' ι' hv (hp.widen (Nat.le_refl _) hm)

theorem Eff.next_le (e : Eff) (n : Nat) : e.next n ≤ n + 1 := by cases e <;> simp [Eff.next]

section
variable {P : Program} {call : CallT} {ops : Array Oper} {Q : QT} {nt : Nat} {tm0 : T AV} {G0 : AHeap} {n : Nat}

theorem draw_simple {B : Nat → Nat → Bool} {i bs : Nat} (hB : ∀ x, Nat.testBit bs x = true → B x i = true) {o : Oper} (ho : ops[i]? = some o) (hfit : fitsT o.dst nt = true) {s : DSt} {L : List Rec} (inv : DInv P ops Q nt B tm0 G0 n s L)
    {tr : T AV} (htr : ∀ t x, tr.get t = some x → s.tm.get t = some x) {f : List Nat} {x : AV} {e : Eff}
    (h : evPre P ops tr (preOf s.g f) s.n o = some (.val x e) ∨ (evPre P ops tr (preOf s.g f) s.n o = some (.skip e) ∧ x = .tuple []))
    (hok : okSimple bs o.dst tr (f ++ wOf e s.n) (wOf e s.n) s.done = true) :
    ∃ L', DInv P ops Q nt B tm0 G0 n ⟨putT s.tm o.dst x, effT e s.g s.n, s.n + 1, ⟨i, o.dst, tr, false, f ++ wOf e s.n, wOf e s.n⟩ :: s.done⟩ L' ∧ L'.map (·.i) = L.map (·.i) ++ [i] := by
  let r : Rec := ⟨i, tr, o.dst, x, preOf s.g f, e.apply (preOf s.g f) s.n, s.n, s.n + 1, fun id => memN id (wOf e s.n)⟩
  have hr : r.Ok P ops Q nt := by
    refine ⟨⟨o, ho, rfl⟩, fun id hid => apply_other (memN_not.1 hid), fitsT_spec hfit, Nat.le_succ _, fun a ι w ht hh hf => ?_⟩
    exact (step_val ho h hh (hf _ (Nat.le_refl _) (Nat.lt_succ_self _)) ht).widen (Eff.next_le e _)
  have hpair : ∀ y ∈ L, B y.i r.i = true ∨ Apart y r := by
    intro y hy
    obtain ⟨d, hd, hrel⟩ := inv.done y hy
    rcases okSimple_spec hok d hd with hb | ⟨hc, h1, h2, h3⟩
    · exact .inl (hB _ (hrel.i ▸ hb))
    · right
      obtain ⟨t1, t2⟩ := tmpsApart_spec h3
      refine ⟨fun id hid => ?_, fun id hid => ?_, fun d' hd' => ?_, fun d' hd' => ?_, .inl (inv.part.high y hy)⟩
      · have := h1 id (hrel.w hc id hid)
        simp only [List.mem_append, not_or] at this
        refine ⟨?_, memN_not.2 this.2⟩
        show preOf s.g f id = none
        unfold preOf
        rw [memN_not.2 this.1]; rfl
      · have := h2 id (memN_iff.1 hid)
        refine ⟨?_, ?_⟩
        · cases hp : y.pre id with
          | none => rfl
          | some _ => exact absurd (hrel.f hc id (by simp [hp])) this
        · cases hw : y.W id with
          | false => rfl
          | true => exact absurd (hrel.wf hc id hw) this
      · exact t1 d' (hrel.dst ▸ hd')
      · have := t2 d' hd'
        rw [hrel.tr, hrel.dst] at this
        exact this
  refine ⟨L ++ [r], ⟨?_, fun id => ?_, fun t => ?_, fun y hy => ?_⟩, by simp [r]⟩
  · exact inv.part.snoc r hr hpair rfl (fun id o' ho' => by rw [← inv.heap]; exact (preOf_get ho').1) fun t y hy => by rw [← inv.tmps]; exact htr t y hy
  · rw [effT_get]
    cases hm : memN id (wOf e s.n) with
    | true =>
      rw [lay_one (o := some (e.apply (preOf s.g f) s.n id)) L r _ (by simp [Rec.wrH, r, hm])]
      exact apply_same (memN_iff.1 hm)
    | false =>
      rw [lay_one (o := none) L r _ (by simp [Rec.wrH, r, hm]), apply_other (memN_not.1 hm), inv.heap]
      rfl
  · cases hd : o.dst with
    | none =>
      rw [lay_one (o := none) L r _ (by simp [Rec.wrT, r, hd])]
      exact inv.tmps t
    | some d =>
      simp only [putT, T.get_set]
      by_cases e' : t = d
      · rw [lay_one (o := some (some x)) L r _ (by simp [Rec.wrT, r, hd, e']), if_pos e']; rfl
      · rw [lay_one (o := none) L r _ (by simp [Rec.wrT, r, hd, Ne.symm e']), if_neg e', inv.tmps]; rfl
  · rcases List.mem_append.1 hy with h' | h'
    · obtain ⟨d, hd, hrel⟩ := inv.done y h'
      exact ⟨d, List.mem_cons_of_mem _ hd, hrel⟩
    · simp only [List.mem_singleton] at h'
      subst h'
      refine ⟨_, List.mem_cons_self, ⟨rfl, rfl, rfl, fun _ id hid => ?_, fun _ id hid => ?_, fun _ id hid => memN_iff.1 hid⟩⟩
      · cases hp : preOf s.g f id with
        | none => exact absurd hp hid
        | some o' => exact List.mem_append_left _ (preOf_get hp).2
      · exact List.mem_append_right _ (memN_iff.1 hid)

theorem draw_call (hcall : CallOk P call) {B : Nat → Nat → Bool} {i bs : Nat} (hB : ∀ x, Nat.testBit bs x = true → B x i = true) {o : Oper} (ho : ops[i]? = some o) (hfit : fitsT o.dst nt = true) {s : DSt} {L : List Rec} (inv : DInv P ops Q nt B tm0 G0 n s L)
    {tr : T AV} (htr : ∀ t x, tr.get t = some x → s.tm.get t = some x) {fn : Tgt} {args : List AV} {hide : Hid} (hpre : evPre P ops tr (delAll s.g hide.w).get s.n o = some (.call fn args)) (hh : hides bs o.dst tr s.done = some hide)
    {x : AV} {gp : T AObj} {n' : Nat} (hc : call fn args (delAll s.g hide.w) s.n = some (x, gp, n')) (hsw : stayed (delAll s.g hide.w) gp hide.w = true) (hsf : stayed (delAll s.g hide.w) gp hide.f = true) (hle : s.n ≤ n') :
    ∃ L', DInv P ops Q nt B tm0 G0 n ⟨putT s.tm o.dst x, putBack s.g gp hide.w, n' + 1, ⟨i, o.dst, tr, true, [], []⟩ :: s.done⟩ L' ∧ L'.map (·.i) = L.map (·.i) ++ [i] := by
  let r : Rec := ⟨i, tr, o.dst, x, (delAll s.g hide.w).get, gp.get, s.n, n' + 1, fun id => !(memN id hide.w || memN id hide.f)⟩
  have hgw : ∀ id ∈ hide.w, gp.get id = none := fun id hid => by rw [stayed_spec hsw id hid, delAll_get, if_pos hid]
  have hWf : ∀ id, r.W id = false ↔ id ∈ hide.w ∨ id ∈ hide.f := by
    intro id
    show (!(memN id hide.w || memN id hide.f)) = false ↔ _
    rw [Bool.not_eq_false', Bool.or_eq_true, memN_iff, memN_iff]
  have hr : r.Ok P ops Q nt := by
    refine ⟨⟨o, ho, rfl⟩, fun id hid => ?_, fitsT_spec hfit, by show s.n ≤ n' + 1; omega, fun a ι w ht hh' hf => ?_⟩
    · show gp.get id = (delAll s.g hide.w).get id
      rcases (hWf id).1 hid with hm | hm
      · exact stayed_spec hsw id hm
      · exact stayed_spec hsf id hm
    · exact (step_call hcall ho hpre hc hh' (hf _ (Nat.le_refl _) (by show s.n < n' + 1; omega)) (fun id h1 h2 => hf id h1 (Nat.lt_succ_of_le h2)) ht).widen (Nat.le_succ _)
  have hpair : ∀ y ∈ L, B y.i r.i = true ∨ Apart y r := by
    intro y hy
    obtain ⟨d, hd, hrel⟩ := inv.done y hy
    rcases hides_spec hh d hd with hb | ⟨hc', h1, h2, h3⟩
    · exact .inl (hB _ (hrel.i ▸ hb))
    · right
      obtain ⟨t1, t2⟩ := tmpsApart_spec h3
      refine ⟨fun id hid => ?_, fun id hid => ?_, fun d' hd' => ?_, fun d' hd' => ?_, .inl (inv.part.high y hy)⟩
      · have hm := h1 id (hrel.w hc' id hid)
        refine ⟨?_, (hWf id).2 (.inl hm)⟩
        show (delAll s.g hide.w).get id = none
        rw [delAll_get, if_pos hm]
      · have hm : id ∉ hide.f := fun e => by
          have := (hWf id).2 (.inr e)
          rw [hid] at this; cases this
        refine ⟨?_, ?_⟩
        · cases hp : y.pre id with
          | none => rfl
          | some _ => exact absurd (h2 id (hrel.f hc' id (by simp [hp]))) hm
        · cases hw : y.W id with
          | false => rfl
          | true => exact absurd (h2 id (hrel.wf hc' id hw)) hm
      · exact t1 d' (hrel.dst ▸ hd')
      · have := t2 d' hd'
        rw [hrel.tr, hrel.dst] at this
        exact this
  have hprei : ∀ id o', (delAll s.g hide.w).get id = some o' → s.g.get id = some o' := fun id o' ho' => by
    rw [delAll_get] at ho'
    split at ho'
    · cases ho'
    · exact ho'
  refine ⟨L ++ [r], ⟨?_, fun id => ?_, fun t => ?_, fun y hy => ?_⟩, by simp [r]⟩
  · exact inv.part.snoc r hr hpair rfl (fun id o' ho' => by rw [← inv.heap]; exact hprei id o' ho') fun t y hy => by rw [← inv.tmps]; exact htr t y hy
  · rw [putBack_get _ _ _ _ hgw]
    cases hW : r.W id with
    | false =>
      rw [lay_one (o := none) L r _ (by simp [Rec.wrH, hW])]
      by_cases hm : id ∈ hide.w
      · rw [if_pos hm]; exact inv.heap id
      · rw [if_neg hm]
        have hf := ((hWf id).1 hW).resolve_left hm
        rw [stayed_spec hsf id hf, delAll_get, if_neg hm]
        exact inv.heap id
    | true =>
      rw [lay_one (o := some (gp.get id)) L r _ (by simp [Rec.wrH, hW]; rfl)]
      have hm : id ∉ hide.w := fun e => by
        have := (hWf id).2 (.inl e)
        rw [hW] at this; cases this
      rw [if_neg hm]; rfl
  · cases hd : o.dst with
    | none =>
      rw [lay_one (o := none) L r _ (by simp [Rec.wrT, r, hd])]
      exact inv.tmps t
    | some d =>
      simp only [putT, T.get_set]
      by_cases e' : t = d
      · rw [lay_one (o := some (some x)) L r _ (by simp [Rec.wrT, r, hd, e']), if_pos e']; rfl
      · rw [lay_one (o := none) L r _ (by simp [Rec.wrT, r, hd, Ne.symm e']), if_neg e', inv.tmps]; rfl
  · rcases List.mem_append.1 hy with h' | h'
    · obtain ⟨d, hd, hrel⟩ := inv.done y h'
      exact ⟨d, List.mem_cons_of_mem _ hd, hrel⟩
    · simp only [List.mem_singleton] at h'
      subst h'
      exact ⟨_, List.mem_cons_self, ⟨rfl, rfl, rfl, fun e => Bool.noConfusion e, fun e => Bool.noConfusion e, fun e => Bool.noConfusion e⟩⟩
end

end Go.Ev

/-! Ev: a whole region that draws its order. -/
namespace Go.Ev
open Go

def maskOf (acc : List Nat) : List Edge → Nat
  | [] => 0
  | e :: es => bif bound e then Nat.lor (Nat.lor (maskOf acc es) (2 ^ e.on)) (acc.getD e.on 0) else maskOf acc es

def masksGo : List Oper → List Nat → List Nat
  | [], acc => acc
  | o :: os, acc => masksGo os (acc ++ [maskOf acc o.after.toList])

def edgesB : List Oper → Nat → Bool
  | [], _ => true
  | o :: os, i => bif o.after.toList.all (fun e => bif bound e then Nat.blt e.on i else true) then edgesB os (i + 1) else false

def nodupB : List Nat → Bool
  | [] => true
  | x :: xs => bif memN x xs then false else nodupB xs

def coverB (l : List Nat) : Nat → Bool
  | 0 => true
  | k + 1 => bif memN k l then coverB l k else false

def isCall (o : Oper) : Bool :=
  match o.op with
  | .call c => match c.callee with | .builtin _ => false | _ => true
  | _ => false

def firstReady (calls : Bool) (mask : Nat) : List Oper → List Nat → Nat → Option Nat
  | o :: os, b :: bs, i => bif !(Nat.testBit mask i) && Nat.beq (Nat.land b mask) b && (calls || !isCall o) then some i else firstReady calls mask os bs (i + 1)
  | _, _, _ => none

def planGo (ops : List Oper) (bs : List Nat) : Nat → Nat → List Nat
  | 0, _ => []
  | k + 1, mask =>
    match firstReady false mask ops bs 0 with
    | some i => i :: planGo ops bs k (Nat.lor mask (2 ^ i))
    | none => match firstReady true mask ops bs 0 with
      | some i => i :: planGo ops bs k (Nat.lor mask (2 ^ i))
      | none => []

structure St where
  tm : T AV
  g : T AObj
  n : Nat
  mks : List Nat

structure Plan where
  bs : List Nat
  perm : List Nat

/-- An order for a region, and who comes before whom. -/
def planOf (ops : Array Oper) : Option Plan :=
  let bs := masksGo ops.toList []
  let perm := planGo ops.toList bs ops.size 0
  bif nodupB perm && coverB perm ops.size && edgesB ops.toList 0 then some ⟨bs, perm⟩ else none

def evDraw (P : Program) (call : CallT) (nt : Nat) (ops : Array Oper) (s : St) : Option St :=
  match planOf ops with
  | some p =>
    match evDrawGo P call ops nt p.bs p.perm ⟨s.tm, s.g, s.n, []⟩ with
    | some d => some ⟨d.tm, d.g, d.n, s.mks⟩
    | none => none
  | none => none

theorem nodupB_spec : ∀ {l : List Nat}, nodupB l = true → l.Nodup
  | [], _ => List.nodup_nil
  | x :: xs, h => by
    simp only [nodupB] at h
    cases hm : memN x xs with
    | true => rw [hm] at h; cases h
    | false => rw [hm] at h; exact List.nodup_cons.2 ⟨memN_not.1 hm, nodupB_spec h⟩

theorem coverB_spec {l : List Nat} : ∀ {k : Nat}, coverB l k = true → ∀ i, i < k → i ∈ l
  | 0, _, i, hi => by omega
  | k + 1, h, i, hi => by
    simp only [coverB] at h
    cases hm : memN k l with
    | false => rw [hm] at h; cases h
    | true =>
      rw [hm] at h
      by_cases e : i = k
      · subst e; exact memN_iff.1 hm
      · exact coverB_spec h i (by omega)

theorem edgesB_spec : ∀ {l : List Oper} {k : Nat}, edgesB l k = true → ∀ (i : Nat) o, l[i]? = some o → ∀ e ∈ o.after, bound e = true → e.on < k + i
  | [], _, _, i, o, ho => by simp at ho
  | x :: xs, k, h, i, o, ho => by
    simp only [edgesB] at h
    cases hc : x.after.toList.all (fun e => bif bound e then Nat.blt e.on k else true) with
    | false => rw [hc] at h; cases h
    | true =>
      rw [hc] at h
      cases i with
      | zero =>
        simp only [List.getElem?_cons_zero, Option.some.injEq] at ho
        subst ho
        intro e he hb
        have := List.all_eq_true.1 hc e (by simpa using he)
        rw [hb] at this
        exact Nat.le_of_ble_eq_true this
      | succ i =>
        simp only [List.getElem?_cons_succ] at ho
        intro e he hb
        have := edgesB_spec h i o ho e he hb
        omega

theorem maskOf_bit {acc : List Nat} {i : Nat} : ∀ {es : List Edge}, Nat.testBit (maskOf acc es) i = true → ∃ e ∈ es, bound e = true ∧ (e.on = i ∨ Nat.testBit (acc.getD e.on 0) i = true)
  | [], h => by simp [maskOf] at h
  | e :: es, h => by
    simp only [maskOf] at h
    cases hb : bound e with
    | false =>
      rw [hb] at h
      obtain ⟨e', h1, h2⟩ := maskOf_bit h
      exact ⟨e', by simp [h1], h2⟩
    | true =>
      rw [hb] at h
      simp only [cond_true] at h
      change Nat.testBit (maskOf acc es ||| 2 ^ e.on ||| acc.getD e.on 0) i = true at h
      rw [Nat.testBit_or, Nat.testBit_or, Nat.testBit_two_pow] at h
      simp only [Bool.or_eq_true, decide_eq_true_eq] at h
      rcases h with (h | h) | h
      · obtain ⟨e', h1, h2⟩ := maskOf_bit h
        exact ⟨e', by simp [h1], h2⟩
      · exact ⟨e, by simp, hb, .inl h⟩
      · exact ⟨e, by simp, hb, .inr h⟩

def MaskOk (l : List Oper) (bs : List Nat) : Prop :=
  bs.length = l.length ∧ ∀ j i, Nat.testBit (bs.getD j 0) i = true → ∃ o, l[j]? = some o ∧ ∃ e ∈ o.after, bound e = true ∧ (e.on = i ∨ (e.on < bs.length ∧ Nat.testBit (bs.getD e.on 0) i = true))

theorem getD_bit {l : List Nat} {j i : Nat} (h : Nat.testBit (l.getD j 0) i = true) : j < l.length := by
  rcases Nat.lt_or_ge j l.length with h' | h'
  · exact h'
  · rw [List.getD_eq_getElem?_getD, List.getElem?_eq_none h'] at h; simp at h

theorem masksGo_ok : ∀ (os : List Oper) (acc : List Nat) (pre : List Oper), MaskOk pre acc → MaskOk (pre ++ os) (masksGo os acc)
  | [], acc, pre, h => by simpa [masksGo] using h
  | o :: os, acc, pre, h => by
    have : pre ++ o :: os = (pre ++ [o]) ++ os := by simp
    rw [this]
    simp only [masksGo]
    refine masksGo_ok os _ _ ⟨by simp [h.1], fun j i hb => ?_⟩
    have hl := getD_bit hb
    simp only [List.length_append, List.length_cons, List.length_nil, Nat.zero_add] at hl
    by_cases hj : j < acc.length
    · have e1 : (acc ++ [maskOf acc o.after.toList]).getD j 0 = acc.getD j 0 := by
        rw [List.getD_eq_getElem?_getD, List.getElem?_append_left hj, ← List.getD_eq_getElem?_getD]
      rw [e1] at hb
      obtain ⟨o', ho', e, he, hbd, hor⟩ := h.2 j i hb
      refine ⟨o', by rw [List.getElem?_append_left (by rw [← h.1]; exact hj)]; exact ho', e, he, hbd, ?_⟩
      rcases hor with hor | ⟨h1, h2⟩
      · exact .inl hor
      · refine .inr ⟨by simp; omega, ?_⟩
        rw [List.getD_eq_getElem?_getD, List.getElem?_append_left h1, ← List.getD_eq_getElem?_getD]
        exact h2
    · have hj' : j = acc.length := by omega
      subst hj'
      have e1 : (acc ++ [maskOf acc o.after.toList]).getD acc.length 0 = maskOf acc o.after.toList := by
        rw [List.getD_eq_getElem?_getD, List.getElem?_append_right (Nat.le_refl _)]; simp
      rw [e1] at hb
      obtain ⟨e, he, hbd, hor⟩ := maskOf_bit hb
      refine ⟨o, by rw [h.1, List.getElem?_append_right (Nat.le_refl _)]; simp, e, by simpa using he, hbd, ?_⟩
      rcases hor with hor | hor
      · exact .inl hor
      · have h1 := getD_bit hor
        refine .inr ⟨by simp; omega, ?_⟩
        rw [List.getD_eq_getElem?_getD, List.getElem?_append_left h1, ← List.getD_eq_getElem?_getD]
        exact hor

theorem masks_before {ops : Array Oper} (hed : ∀ (i : Nat) o, ops[i]? = some o → ∀ e ∈ o.after, bound e = true → e.on < i) {D : Nat → Bool} (hD : Closed ops D) :
    ∀ j, Edges ops D j → ∀ i, Nat.testBit ((masksGo ops.toList []).getD j 0) i = true → D i = true := by
  have hm : MaskOk ops.toList (masksGo ops.toList []) := by
    have := masksGo_ok ops.toList [] [] ⟨rfl, fun j i h => by simp at h⟩
    simpa using this
  intro j
  induction j using Nat.strongRecOn with
  | _ j ih =>
    intro he i hb
    obtain ⟨o, ho, e, hea, hbd, hor⟩ := hm.2 j i hb
    have ho' : ops[j]? = some o := by simpa using ho
    have h1 := he o ho' e hea hbd
    rcases hor with hor | ⟨_, h2⟩
    · rw [← hor]; exact h1
    · exact ih e.on (hed j o ho' e hea hbd) (fun o'' ho'' => hD e.on o'' ho'' h1) i h2

section
variable {P : Program} {call : CallT} {ops : Array Oper} {Q : QT} {nt : Nat} {tm0 : T AV} {G0 : AHeap} {n : Nat}

def CallLe (call : CallT) : Prop := ∀ f args g n x g' n', call f args g n = some (x, g', n') → n ≤ n'

theorem drawGo_inv (hle : CallLe call) (hcall : CallOk P call) {bs : List Nat} : ∀ (l : List Nat) (s s' : DSt) (L : List Rec), DInv P ops Q nt (fun i j => Nat.testBit (bs.getD j 0) i) tm0 G0 n s L →
    evDrawGo P call ops nt bs l s = some s' → ∃ L', DInv P ops Q nt (fun i j => Nat.testBit (bs.getD j 0) i) tm0 G0 n s' L' ∧ L'.map (·.i) = L.map (·.i) ++ l
  | [], s, s', L, inv, h => by simp only [evDrawGo, Option.some.injEq] at h; subst h; exact ⟨L, inv, by simp⟩
  | i :: is, s, s', L, inv, h => by
    simp only [evDrawGo] at h
    split at h
    rotate_left
    · cases h
    rename_i o ho
    cases hfit : fitsT o.dst nt with
    | false => rw [hfit] at h; cases h
    | true =>
      rw [hfit] at h
      simp only [cond_true] at h
      split at h
      rotate_left
      · cases h
      rename_i s1 hs1
      have key : ∃ L1, DInv P ops Q nt (fun i j => Nat.testBit (bs.getD j 0) i) tm0 G0 n s1 L1 ∧ L1.map (·.i) = L.map (·.i) ++ [i] := by
        unfold evDrawOp at hs1
        have htr : ∀ t x, (restrict s.tm (o.looksAt ops)).get t = some x → s.tm.get t = some x := fun t x hx => restrict_get hx
        split at hs1
        · rename_i x e hp
          cases hok : okSimple (bs.getD i 0) o.dst (restrict s.tm (o.looksAt ops)) (idsOf s.tm (addrOf o.op) ++ wOf e s.n) (wOf e s.n) s.done with
          | false => rw [hok] at hs1; cases hs1
          | true =>
            rw [hok] at hs1
            simp only [cond_true, Option.some.injEq] at hs1
            subst hs1
            exact draw_simple (B := fun i j => Nat.testBit (bs.getD j 0) i) (i := i) (fun x hx => hx) ho hfit inv htr (.inl hp) hok
        · rename_i e hp
          cases hok : okSimple (bs.getD i 0) o.dst (restrict s.tm (o.looksAt ops)) (idsOf s.tm (addrOf o.op) ++ wOf e s.n) (wOf e s.n) s.done with
          | false => rw [hok] at hs1; cases hs1
          | true =>
            rw [hok] at hs1
            simp only [cond_true, Option.some.injEq] at hs1
            subst hs1
            exact draw_simple (B := fun i j => Nat.testBit (bs.getD j 0) i) (i := i) (fun x hx => hx) ho hfit inv htr (.inr ⟨hp, rfl⟩) hok
        · split at hs1
          rotate_left
          · cases hs1
          rename_i hide hh
          split at hs1
          rotate_left
          · cases hs1
          rename_i fn args hp
          split at hs1
          rotate_left
          · cases hs1
          rename_i x gp n' hc
          cases hno : (stayed (delAll s.g hide.w) gp hide.w && stayed (delAll s.g hide.w) gp hide.f) with
          | false => rw [hno] at hs1; cases hs1
          | true =>
            rw [hno] at hs1
            simp only [cond_true, Option.some.injEq] at hs1
            subst hs1
            simp only [Bool.and_eq_true] at hno
            exact draw_call hcall (B := fun i j => Nat.testBit (bs.getD j 0) i) (i := i) (fun x hx => hx) ho hfit inv htr hp hh hc hno.1 hno.2 (hle _ _ _ _ _ _ _ hc)
        · cases hs1
      obtain ⟨L1, inv1, hm1⟩ := key
      obtain ⟨L2, inv2, hm2⟩ := drawGo_inv hle hcall is s1 s' L1 inv1 h
      exact ⟨L2, inv2, by rw [hm2, hm1]; simp⟩

theorem planOf_spec {p : Plan} (h : planOf ops = some p) : p.bs = masksGo ops.toList [] ∧ p.perm.Nodup ∧ (∀ i, i < ops.size → i ∈ p.perm) ∧ ∀ (i : Nat) o, ops[i]? = some o → ∀ e ∈ o.after, bound e = true → e.on < i := by
  unfold planOf at h
  simp only [] at h
  cases hb : (nodupB (planGo ops.toList (masksGo ops.toList []) ops.size 0) && coverB (planGo ops.toList (masksGo ops.toList []) ops.size 0) ops.size && edgesB ops.toList 0) with
  | false => rw [hb] at h; cases h
  | true =>
    rw [hb] at h
    simp only [cond_true, Option.some.injEq] at h
    subst h
    simp only [Bool.and_eq_true] at hb
    exact ⟨rfl, nodupB_spec hb.1.1, coverB_spec hb.1.2, fun i o ho e he hbd => by have := edgesB_spec hb.2 i o (by simpa using ho) e he hbd; omega⟩

theorem evDraw_le (hle : CallLe call) (hcall : CallOk P call) {s s' : St} (h : evDraw P call nt ops s = some s') : s.n ≤ s'.n := by
  unfold evDraw at h
  split at h
  rotate_left
  · cases h
  rename_i p hp
  split at h
  rotate_left
  · cases h
  rename_i d hd
  simp only [Option.some.injEq] at h
  subst h
  obtain ⟨L, inv, _⟩ := drawGo_inv (Q := ⟨none, fun _ _ _ => True⟩) (tm0 := s.tm) (G0 := s.g.get) (n := s.n) hle hcall p.perm _ _ [] ⟨⟨by simp, by simp, by simp, by simp, by simp, by simp, by simp, Nat.le_refl _⟩, fun id => rfl, fun t => rfl, by simp⟩ hd
  exact inv.part.le

theorem evDraw_sound (hm : P.follows .mixedOrders = true) (hle : CallLe call) (hcall : CallOk P call) {s s' : St} (h : evDraw P call nt ops s = some s') {id : Nat} {a : Act} {w : World} {ι : Inj}
    (ht : TRel ι nt s.tm a.tmps) (hh : HRel s.g.get ι w) (hf : ∀ id, s.n ≤ id → id ≤ s'.n → ι id = none)
    (hQ : ∀ a' w' ι', Post s.g.get s'.g.get s.n s'.n ι ι' w w' → TRel ι' nt s'.tm a'.tmps → a'.defers = a.defers → Q.Q .normal a' w') : (Code.region id ops true).wpIn (FF Q.rd) 0 P Q.Q a w := by
  have hle' := evDraw_le hle hcall h
  unfold evDraw at h
  split at h
  rotate_left
  · cases h
  rename_i p hp
  split at h
  rotate_left
  · cases h
  rename_i d hd
  simp only [Option.some.injEq] at h
  subst h
  obtain ⟨p1, p2, p3, p4⟩ := planOf_spec hp
  obtain ⟨L, inv, hL⟩ := drawGo_inv (Q := Q) (tm0 := s.tm) (G0 := s.g.get) (n := s.n) hle hcall p.perm _ _ [] ⟨⟨by simp, by simp, by simp, by simp, by simp, by simp, by simp, Nat.le_refl _⟩, fun id => rfl, fun t => rfl, by simp⟩ hd
  simp only [List.map_nil, List.nil_append] at hL
  have R : Run P ops Q nt (fun i j => Nat.testBit (p.bs.getD j 0) i) s.tm s.g.get s.n d.n L :=
    ⟨inv.part.ok, by rw [hL]; exact p2, fun i hi => by have := p3 i hi; rw [← hL] at this; obtain ⟨r, h1, h2⟩ := List.mem_map.1 this; exact ⟨r, h1, h2⟩,
      inv.part.pair, inv.part.ids, inv.part.preH, inv.part.preT, inv.part.low, inv.part.high, p4, fun D hD j he i hb => masks_before p4 hD j he i (by rw [← p1]; exact hb)⟩
  refine wpIn_region_any hm ?_
  have hh' : HRel s.g.get ι { w with drawn := w.drawn + 1 } := ⟨fun id o ho => let ⟨p, a, b⟩ := hh.obj id o ho; ⟨p, a, b.ext (Ext.refl _) rfl⟩, hh.apart⟩
  refine R.start hle' (tmE := d.tm) (gE := d.g.get) (fun id o ho => by rw [← inv.heap]; exact ho) (fun t x hx => by rw [← inv.tmps]; exact hx) hh' ht (fun id h1 h2 => hf id h1 (Nat.le_of_lt h2)) fun a' w' ι' hp ht' hdf => hQ a' w' ι' ⟨hp.le, hp.ext, hp.new, hp.rel, hp.size, hp.frame, hp.blk, hp.os, hp.out⟩ ht' hdf
end

end Go.Ev

/-! Ev: code and functions. -/
namespace Go.Ev
open Go

inductive Ex where
  | normal
  | ret
  | exit (id : Nat)

def Ex.to : Ex → Exit
  | .normal => .normal
  | .ret => .ret
  | .exit id => .exit id

def evOps (P : Program) (call : CallT) (nt : Nat) (ops : Array Oper) : List Oper → St → Option St
  | [], s => some s
  | o :: os, s =>
    bif fitsT o.dst nt then
      match evPre P ops s.tm s.g.get s.n o with
      | some (.val x e) => evOps P call nt ops os ⟨putT s.tm o.dst x, effT e s.g s.n, e.next s.n, s.mks⟩
      | some (.skip e) => evOps P call nt ops os ⟨putT s.tm o.dst (.tuple []), effT e s.g s.n, e.next s.n, s.mks⟩
      | some (.call f args) =>
        match call f args s.g s.n with
        | some (x, g', n') => evOps P call nt ops os ⟨putT s.tm o.dst x, g', n', s.mks⟩
        | none => none
      | none => none
    else none

def evLoop (body : St → Option (Ex × St)) : Nat → St → Option (Ex × St)
  | 0, _ => none
  | k + 1, s =>
    match body s with
    | some (.normal, s1) => evLoop body k s1
    | r => r

/-- The record of a loop over a function that is entered: the heap, the next number, the block for deferred calls, the marks. -/
def enterL (rd : Option Nat) (s : St) : Option (T AObj × Nat × Nat × List Nat) :=
  match rd with
  | none => some (T.set (.deferred true) s.g s.n, s.n + 1, s.n, s.n :: s.mks)
  | some l => match s.g.get l with | some (.loop _ _ _ _ _ _ _ d) => some (s.g, s.n, d, s.mks) | _ => none

def evRange (P : Program) (call : CallT) (nt : Nat) (rd : Option Nat) (x : Operand) (ps : Array Tmp) (assign body : Code) (s : St) : Option (Ex × St) :=
  match evOpd s.tm x with
  | some (.func f first caps) =>
    bif callOk P f then
      match enterL rd s with
      | some (g1, n1, d, mks) =>
        match call (.fn f) (first ++ [.yield n1] ++ caps) (T.set (.loop .ready none nt s.tm ps.toList assign body d) g1 n1) (n1 + 1) with
        | some (_, g3, n3) =>
          match g3.get n1 with
          | some (.loop .busy _ _ _ _ _ _ _) => none
          | some (.loop _ pend nt' tm' ps' as' bd' d') =>
            match pend with
            | none => some (.normal, ⟨s.tm, T.set (.loop .exhausted pend nt' tm' ps' as' bd' d') g3 n1, n3, mks⟩)
            | some .ret => some (.ret, ⟨s.tm, T.set (.loop .exhausted pend nt' tm' ps' as' bd' d') g3 n1, n3, mks⟩)
            | some (.exit id) => some (.exit id, ⟨s.tm, T.set (.loop .exhausted pend nt' tm' ps' as' bd' d') g3 n1, n3, mks⟩)
            | _ => none
          | _ => none
        | none => none
      | none => none
    else none
  | _ => none

def evCode (P : Program) (call : CallT) (nt fuel : Nat) (rd : Option Nat) : Code → St → Option (Ex × St)
  | .skip, s => some (.normal, s)
  | .label _, s => some (.normal, s)
  | .ret, s => some (.ret, s)
  | .exit id, s => some (.exit id, s)
  | .seq a b, s =>
    match evCode P call nt fuel rd a s with
    | some (.normal, s1) => evCode P call nt fuel rd b s1
    | r => r
  | .cond c a b, s =>
    match evOpd s.tm c with
    | some (.bool true) => evCode P call nt fuel rd a s
    | some (.bool false) => evCode P call nt fuel rd b s
    | _ => none
  | .block id b, s =>
    match evCode P call nt fuel rd b s with
    | some (.exit i, s1) => bif Nat.beq i id then some (.normal, s1) else some (.exit i, s1)
    | r => r
  | .loop b, s => evLoop (evCode P call nt fuel rd b) fuel s
  | .region _ ops d, s =>
    match (bif d then evDraw P call nt ops s else evOps P call nt ops ops.toList s) with
    | some s1 => some (.normal, s1)
    | none => none
  | .rangeFunc x ps assign body, s => evRange P call nt rd x ps assign body s
  | _, _ => none

theorem Eff.le_next (e : Eff) (n : Nat) : n ≤ e.next n := by cases e <;> simp [Eff.next]

/-! ### Loops over functions: the record -/
theorem new_deferred {g : AHeap} {n : Nat} {ι : Inj} {w : World} (k : HRel g ι w) (hn : ι n = none) :
    Post g (upd g n (some (.deferred true))) n (n + 1) ι (upd ι n (some ⟨w.heap.size, 0, 0, 0⟩)) w (w.alloc (.deferred (some []))) :=
  Post.newObj k hn _ _ _ rfl (heap_alloc_new w _)

theorem new_loop {g : AHeap} {n : Nat} {ι : Inj} {w : World} (k : HRel g ι w) (hn : ι n = none) {nt : Nat} {tm : T AV} {tmps : Array Value} (ht : TRel ι nt tm tmps) (ps : Array Tmp) (assign body : Code) {d : Nat} {q : Place} (hd : ι d = some q) (fn : Nat) :
    Post g (upd g n (some (.loop .ready none nt tm ps.toList assign body d))) n (n + 1) ι (upd ι n (some ⟨w.heap.size, 0, 0, 0⟩)) w
      (w.alloc (.loop { state := .ready, pending := none, fn, tmps, params := ps, assign, body, defers := q.blk })) :=
  Post.newObj k hn _ _ _ rfl ⟨_, q, heap_alloc_new w _, ext_upd hn _ _ _ hd, rfl, rfl, ht.ext (ext_upd hn _), rfl, rfl, rfl, rfl⟩

theorem loopAt {g : AHeap} {ι : Inj} {w : World} (k : HRel g ι w) {id : Nat} {st : LoopState} {pend : Option Code} {nt : Nat} {tm : T AV} {ps : List Nat} {assign body : Code} {d : Nat} (h : g id = some (.loop st pend nt tm ps assign body d)) :
    ∃ p q l, ι id = some p ∧ ι d = some q ∧ w.heap[p.blk]? = some (.loop l) ∧ l.state = st ∧ l.pending = pend ∧ TRel ι nt tm l.tmps ∧ l.params = ps.toArray ∧ l.assign = assign ∧ l.body = body ∧ l.defers = q.blk ∧
      ∀ (n : Nat) (st' : LoopState) (pend' : Option Code), Post g (upd g id (some (.loop st' pend' nt tm ps assign body d))) n n ι ι w (w.putObj p.blk (.loop { l with state := st', pending := pend' })) := by
  obtain ⟨p, hp, l, q, h1, h2, h3, h4, h5, h6, h7, h8, h9⟩ := k.obj id _ h
  exact ⟨p, q, l, hp, h2, h1, h3, h4, h5, h6, h7, h8, h9, fun n st' pend' => setBlock k n h hp rfl _ fun w' hw' => ⟨_, q, hw', h2, rfl, rfl, h5, h6, h7, h8, h9⟩⟩

theorem deferredAt {g : AHeap} {ι : Inj} {w : World} (k : HRel g ι w) {id : Nat} (h : g id = some (.deferred true)) :
    ∃ p, ι id = some p ∧ w.heap[p.blk]? = some (.deferred (some [])) ∧ ∀ n, Post g (upd g id (some (.deferred false))) n n ι ι w (w.putObj p.blk (.deferred none)) := by
  obtain ⟨p, hp, h1⟩ := k.obj id _ h
  exact ⟨p, hp, h1, fun n => setBlock k n h hp rfl _ fun w' hw' => hw'⟩

/-- The marks among the deferred calls. -/
def MRel (ι : Inj) : List Nat → List Deferred → Prop
  | [], ds => ds = []
  | i :: is, ds => ∃ p ds', ι i = some p ∧ ds = { target := .collected p.blk, args := #[] } :: ds' ∧ MRel ι is ds'

theorem MRel.ext {ι ι' : Inj} (h : Ext ι ι') : ∀ {is : List Nat} {ds : List Deferred}, MRel ι is ds → MRel ι' is ds
  | [], _, k => k
  | _ :: _, _, ⟨p, ds', h1, h2, h3⟩ => ⟨p, ds', h _ _ h1, h2, MRel.ext h h3⟩

/-- The round in which code runs. -/
def RdRel (ι : Inj) (rd rdc : Option Nat) : Prop := match rd with | none => rdc = none | some l => ∃ p, ι l = some p ∧ rdc = some p.blk

theorem RdRel.ext {ι ι' : Inj} (h : Ext ι ι') {rd rdc : Option Nat} (k : RdRel ι rd rdc) : RdRel ι' rd rdc := by
  cases rd with
  | none => exact k
  | some l => obtain ⟨p, h1, h2⟩ := k; exact ⟨p, h _ _ h1, h2⟩

section
variable {P : Program} {call : CallT} {nt fuel : Nat} {rd : Option Nat}

theorem evOps_le (hle : CallLe call) {ops : Array Oper} : ∀ (l : List Oper) (s s' : St), evOps P call nt ops l s = some s' → s.n ≤ s'.n ∧ s'.mks = s.mks
  | [], s, s', h => by simp only [evOps, Option.some.injEq] at h; subst h; exact ⟨Nat.le_refl _, rfl⟩
  | o :: os, s, s', h => by
    simp only [evOps] at h
    cases hf : fitsT o.dst nt with
    | false => rw [hf] at h; cases h
    | true =>
      rw [hf] at h
      simp only [cond_true] at h
      split at h
      · rename_i x e _
        obtain ⟨h1, h2⟩ := evOps_le hle os _ s' h
        exact ⟨Nat.le_trans (Eff.le_next e s.n) h1, h2⟩
      · rename_i e _
        obtain ⟨h1, h2⟩ := evOps_le hle os _ s' h
        exact ⟨Nat.le_trans (Eff.le_next e s.n) h1, h2⟩
      · split at h
        · rename_i x g' n' hc
          obtain ⟨h1, h2⟩ := evOps_le hle os _ s' h
          exact ⟨Nat.le_trans (hle _ _ _ _ _ _ _ hc) h1, h2⟩
        · cases h
      · cases h

/-- What is free stays so. -/
theorem fresh_next {g g1 : AHeap} {n n1 n2 : Nat} {ι ι1 : Inj} {w w1 : World} (p : Post g g1 n n1 ι ι1 w w1) (hf : ∀ id, n ≤ id → id ≤ n2 → ι id = none) : ∀ id, n1 ≤ id → id ≤ n2 → ι1 id = none := by
  intro id h1 h2
  rw [p.new id (fun e => by omega)]
  exact hf id (Nat.le_trans p.le h1) h2

theorem put_defers (a : Act) (d : Option Tmp) (v : Value) : (a.put d v).defers = a.defers := by cases d <;> rfl

theorem evOps_sound (hle : CallLe call) (hcall : CallOk P call) {Q : QT} {ops : Array Oper} : ∀ (l : List Oper) (k : Nat) (s s' : St), (∀ j, l[j]? = ops[k + j]?) → evOps P call nt ops l s = some s' → ∀ (a : Act) (ι : Inj) (w : World),
    TRel ι nt s.tm a.tmps → HRel s.g.get ι w → (∀ id, s.n ≤ id → id ≤ s'.n → ι id = none) →
    (∀ a' w' ι', Post s.g.get s'.g.get s.n s'.n ι ι' w w' → TRel ι' nt s'.tm a'.tmps → a'.defers = a.defers → Q.Q .normal a' w') → wpOpsIn (FF Q.rd) 0 P ops Q.Q (List.range' k l.length) a w
  | [], k, s, s', _, h, a, ι, w, ht, hh, _, hQ => by
    simp only [evOps, Option.some.injEq] at h
    subst h
    simp only [List.length_nil, List.range'_zero, wpOpsIn]
    exact hQ a w ι (Post.refl hh _) ht rfl
  | o :: os, k, s, s', hl, h, a, ι, w, ht, hh, hf, hQ => by
    have hle' := (evOps_le hle _ s s' h).1
    have ho : ops[k]? = some o := by have := hl 0; simpa using this.symm
    have hl' : ∀ j, os[j]? = ops[k + 1 + j]? := fun j => by
      have := hl (j + 1)
      simp only [List.getElem?_cons_succ] at this
      rw [this]; congr 1; omega
    simp only [List.length_cons, List.range'_succ]
    rw [wpOpsIn_cons]
    simp only [evOps] at h
    cases hfit : fitsT o.dst nt with
    | false => rw [hfit] at h; cases h
    | true =>
      rw [hfit] at h
      simp only [cond_true] at h
      have hfs := fitsT_spec hfit
      have hn : ι s.n = none := hf _ (Nat.le_refl _) hle'
      have go : ∀ (x : AV) (g1 : AHeap) (s1 : St), g1 = s1.g.get → s1.tm = putT s.tm o.dst x → s1.n ≤ s'.n → evOps P call nt ops os s1 = some s' → Does P ops Q k o.dst a s.g.get g1 s.n s1.n x ι w → wpOpIn (FF Q.rd) 0 P ops Q.Q k (wpOpsIn (FF Q.rd) 0 P ops Q.Q (List.range' (k + 1) os.length)) a w := by
        intro x g1 s1 hg1 htm hle1 h1 hd
        refine hd _ fun v w' ι' hv hp => ?_
        subst hg1
        refine evOps_sound hle hcall os (k + 1) s1 s' hl' h1 _ ι' w' (by rw [htm]; exact putT_rel (ht.ext hp.ext) hv _ hfs) hp.rel (fresh_next hp hf) fun a' w'' ι'' hp' ht' hdf => ?_
        exact hQ a' w'' ι'' (hp.trans hp') ht' (by rw [hdf, put_defers])
      split at h
      · rename_i x e hp
        exact go x _ _ (effT_get e s.g s.n).symm rfl (evOps_le hle _ _ s' h).1 h (step_val ho (.inl hp) hh hn ht)
      · rename_i e hp
        exact go (.tuple []) _ _ (effT_get e s.g s.n).symm rfl (evOps_le hle _ _ s' h).1 h (step_val ho (.inr ⟨hp, rfl⟩) hh hn ht)
      · rename_i f args hp
        split at h
        · rename_i x g' n' hc
          have h3 := (evOps_le hle _ _ s' h).1
          exact go x _ _ rfl rfl h3 h (step_call hcall ho hp hc hh hn (fun id h1 h2 => hf id h1 (Nat.le_trans h2 h3)) ht)
        · cases h
      · cases h

theorem evLoop_le {body : St → Option (Ex × St)} (hb : ∀ s ex s', body s = some (ex, s') → s.n ≤ s'.n) : ∀ (k : Nat) (s s' : St) (ex : Ex), evLoop body k s = some (ex, s') → s.n ≤ s'.n
  | 0, s, s', ex, h => by simp [evLoop] at h
  | k + 1, s, s', ex, h => by
    simp only [evLoop] at h
    split at h
    · rename_i s1 h1
      exact Nat.le_trans (hb _ _ _ h1) (evLoop_le hb k s1 s' ex h)
    · exact hb _ _ _ h

/-- What a range over a function comes to. -/
theorem evRange_eq {x : Operand} {ps : Array Tmp} {assign body : Code} {s s' : St} {ex : Ex} (h : evRange P call nt rd x ps assign body s = some (ex, s')) :
    ∃ f first caps g1 n1 d mks y g3 n3 st pend nt' tm' ps' as' bd' d', evOpd s.tm x = some (.func f first caps) ∧ callOk P f = true ∧ enterL rd s = some (g1, n1, d, mks) ∧
      call (.fn f) (first ++ [.yield n1] ++ caps) (T.set (.loop .ready none nt s.tm ps.toList assign body d) g1 n1) (n1 + 1) = some (y, g3, n3) ∧ g3.get n1 = some (.loop st pend nt' tm' ps' as' bd' d') ∧ st ≠ .busy ∧
      s' = ⟨s.tm, T.set (.loop .exhausted pend nt' tm' ps' as' bd' d') g3 n1, n3, mks⟩ ∧ ((pend = none ∧ ex = .normal) ∨ (pend = some .ret ∧ ex = .ret) ∨ ∃ id, pend = some (.exit id) ∧ ex = .exit id) := by
  unfold evRange at h
  split at h
  rotate_left
  · cases h
  rename_i f first caps hx
  cases hok : callOk P f with
  | false => rw [hok] at h; cases h
  | true =>
    rw [hok] at h
    simp only [cond_true] at h
    split at h
    rotate_left
    · cases h
    rename_i g1 n1 d mks he
    split at h
    rotate_left
    · cases h
    rename_i y g3 n3 hc
    split at h
    · cases h
    · rename_i st pend nt' tm' ps' as' bd' d' hb hg
      refine ⟨f, first, caps, g1, n1, d, mks, y, g3, n3, st, pend, nt', tm', ps', as', bd', d', hx, hok, he, hc, hg, hb, ?_⟩
      split at h
      · simp only [Option.some.injEq, Prod.mk.injEq] at h; exact ⟨h.2.symm, .inl ⟨rfl, h.1.symm⟩⟩
      · simp only [Option.some.injEq, Prod.mk.injEq] at h; exact ⟨h.2.symm, .inr (.inl ⟨rfl, h.1.symm⟩)⟩
      · rename_i id; simp only [Option.some.injEq, Prod.mk.injEq] at h; exact ⟨h.2.symm, .inr (.inr ⟨id, rfl, h.1.symm⟩)⟩
      · cases h
    · cases h

theorem enterL_le {s : St} {g1 : T AObj} {n1 d : Nat} {mks : List Nat} (h : enterL rd s = some (g1, n1, d, mks)) : s.n ≤ n1 := by
  unfold enterL at h
  split at h
  · simp only [Option.some.injEq, Prod.mk.injEq] at h; omega
  · split at h
    · simp only [Option.some.injEq, Prod.mk.injEq] at h; omega
    · cases h

theorem evCode_le (hle : CallLe call) (hcall : CallOk P call) : ∀ (c : Code) (s s' : St) (ex : Ex), evCode P call nt fuel rd c s = some (ex, s') → s.n ≤ s'.n := by
  intro c
  induction c with
  | skip => intro s s' ex h; simp only [evCode, Option.some.injEq, Prod.mk.injEq] at h; rw [← h.2]; exact Nat.le_refl _
  | label l => intro s s' ex h; simp only [evCode, Option.some.injEq, Prod.mk.injEq] at h; rw [← h.2]; exact Nat.le_refl _
  | ret => intro s s' ex h; simp only [evCode, Option.some.injEq, Prod.mk.injEq] at h; rw [← h.2]; exact Nat.le_refl _
  | exit id => intro s s' ex h; simp only [evCode, Option.some.injEq, Prod.mk.injEq] at h; rw [← h.2]; exact Nat.le_refl _
  | seq a b iha ihb =>
    intro s s' ex h
    simp only [evCode] at h
    split at h
    · rename_i s1 h1
      exact Nat.le_trans (iha _ _ _ h1) (ihb _ _ _ h)
    · exact iha _ _ _ h
  | cond c a b iha ihb =>
    intro s s' ex h
    simp only [evCode] at h
    split at h
    · exact iha _ _ _ h
    · exact ihb _ _ _ h
    · cases h
  | block id b ih =>
    intro s s' ex h
    simp only [evCode] at h
    split at h
    · rename_i i s1 h1
      have := ih _ _ _ h1
      cases hb : Nat.beq i id <;> rw [hb] at h <;> simp only [cond_true, cond_false, Option.some.injEq, Prod.mk.injEq] at h <;> rw [← h.2] <;> exact this
    · exact ih _ _ _ h
  | loop b ih => intro s s' ex h; simp only [evCode] at h; exact evLoop_le (fun s ex s' h => ih s s' ex h) fuel s s' ex h
  | region id ops d =>
    intro s s' ex h
    simp only [evCode] at h
    split at h
    · rename_i s1 h1
      simp only [Option.some.injEq, Prod.mk.injEq] at h
      rw [← h.2]
      cases d with
      | false => exact (evOps_le hle _ _ _ h1).1
      | true => exact evDraw_le hle hcall h1
    · cases h
  | rangeFunc x ps assign body =>
    intro s s' ex h
    simp only [evCode] at h
    obtain ⟨f, first, caps, g1, n1, d, mks, y, g3, n3, st, pend, nt', tm', ps', as', bd', d', _, _, he, hc, _, _, rfl, _⟩ := evRange_eq h
    have h1 := enterL_le he
    have h2 := hle _ _ _ _ _ _ _ hc
    show s.n ≤ n3
    omega
  | scope => intro s s' ex h; simp [evCode] at h
  | goto => intro s s' ex h; simp [evCode] at h
  | refuse => intro s s' ex h; simp [evCode] at h

/-- What a run of code shows. -/
def Shows (P : Program) (nt : Nat) (rd : Option Nat) (c : Code) (s s' : St) (ex : Ex) : Prop :=
  ∀ (Q : Exit → Act → World → Prop) (rdc : Option Nat) (a : Act) (ι : Inj) (w : World), RdRel ι rd rdc → MRel ι s.mks a.defers → TRel ι nt s.tm a.tmps → HRel s.g.get ι w → (∀ id, s.n ≤ id → id ≤ s'.n → ι id = none) →
    (∀ a' w' ι', Post s.g.get s'.g.get s.n s'.n ι ι' w w' → TRel ι' nt s'.tm a'.tmps → MRel ι' s'.mks a'.defers → Q ex.to a' w') → c.wpIn (FF rdc) 0 P Q a w

theorem evLoop_sound {c : Code} {body : St → Option (Ex × St)} (hb : ∀ s ex s', body s = some (ex, s') → s.n ≤ s'.n) (hs : ∀ s s' ex, body s = some (ex, s') → Shows P nt rd c s s' ex) :
    ∀ (k : Nat) (s s' : St) (ex : Ex), evLoop body k s = some (ex, s') → ∀ (Q : Exit → Act → World → Prop) (rdc : Option Nat) (a : Act) (ι : Inj) (w : World), RdRel ι rd rdc → MRel ι s.mks a.defers → TRel ι nt s.tm a.tmps → HRel s.g.get ι w → (∀ id, s.n ≤ id → id ≤ s'.n → ι id = none) →
    (∀ a' w' ι', Post s.g.get s'.g.get s.n s'.n ι ι' w w' → TRel ι' nt s'.tm a'.tmps → MRel ι' s'.mks a'.defers → Q ex.to a' w') → Code.roundsIn (FF rdc) 0 P c Q k a w
  | 0, s, s', ex, h => by simp [evLoop] at h
  | k + 1, s, s', ex, h => by
    intro Q rdc a ι w hrd hm ht hh hf hQ
    simp only [evLoop] at h
    rw [roundsIn_succ]
    split at h
    · rename_i s1 h1
      have hle1 := evLoop_le hb k s1 s' ex h
      refine hs s s1 _ h1 _ rdc a ι w hrd hm ht hh (fun id x y => hf id x (Nat.le_trans y hle1)) fun a' w' ι' hp ht' hm' => ?_
      show Exit.then _ Q .normal a' w'
      simp only [Exit.then]
      exact evLoop_sound hb hs k s1 s' ex h Q rdc a' ι' w' (hrd.ext hp.ext) hm' ht' hp.rel (fresh_next hp hf) fun a'' w'' ι'' hp' ht'' hm'' => hQ a'' w'' ι'' (hp.trans hp') ht'' hm''
    · rename_i hne
      refine hs s s' ex h _ rdc a ι w hrd hm ht hh hf fun a' w' ι' hp ht' hm' => ?_
      have := hQ a' w' ι' hp ht' hm'
      cases ex with
      | normal => exact absurd h (hne s')
      | ret => exact this
      | exit id => exact this

theorem set_get {g : T AObj} {o : AObj} {id : Nat} : (T.set o g id).get = upd g.get id (some o) := by
  funext i; simp only [T.get_set, upd]

/-- Entering a loop over a function. -/
theorem enterL_run {s : St} {g1 : T AObj} {n1 d : Nat} {mks : List Nat} (h : enterL rd s = some (g1, n1, d, mks)) {ι : Inj} {w : World} {rdc : Option Nat} {ds : List Deferred} (hrd : RdRel ι rd rdc) (hm : MRel ι s.mks ds) (hh : HRel s.g.get ι w)
    (hf : ∀ id, s.n ≤ id → id ≤ n1 → ι id = none) {tmps : Array Value} {tm : T AV} (ht : TRel ι nt tm tmps) (ps : Array Tmp) (assign body : Code) (fn : Nat) :
    ∃ l mark w1 ι1 p, (Instr.enterLoop fn tmps ps assign body rdc).run P w = .ok (l, mark) w1 ∧ ι1 n1 = some p ∧ p.blk = l ∧ MRel ι1 mks (mark ++ ds) ∧
      Post s.g.get (T.set (.loop .ready none nt tm ps.toList assign body d) g1 n1).get s.n (n1 + 1) ι ι1 w w1 := by
  unfold enterL at h
  split at h
  · simp only [Option.some.injEq, Prod.mk.injEq] at h
    obtain ⟨rfl, rfl, rfl, rfl⟩ := h
    have hrd' : rdc = none := hrd
    subst hrd'
    have p1 := new_deferred hh (hf _ (Nat.le_refl _) (Nat.le_succ _))
    have p2 := new_loop (n := s.n + 1) p1.rel (by rw [upd_ne (Nat.succ_ne_self _)]; exact hf _ (Nat.le_succ _) (Nat.le_refl _)) (ht.ext p1.ext) ps assign body (upd_same _ _ _) fn
    refine ⟨_, _, _, upd (upd ι s.n (some ⟨w.heap.size, 0, 0, 0⟩)) (s.n + 1) (some ⟨(w.alloc (.deferred (some []))).heap.size, 0, 0, 0⟩), ⟨(w.alloc (.deferred (some []))).heap.size, 0, 0, 0⟩, run_enterLoop_outer fn tmps ps assign body, upd_same _ _ _, World.size_alloc .., ?_, ?_⟩
    · refine ⟨⟨w.heap.size, 0, 0, 0⟩, ds, ?_, rfl, hm.ext (p1.ext.trans p2.ext)⟩
      rw [upd_ne (Ne.symm (Nat.succ_ne_self _)), upd_same]
    · rw [set_get, set_get]; exact p1.trans p2
  · rename_i l
    split at h
    rotate_left
    · cases h
    rename_i st pend nt' tm' ps' as' bd' d' hg
    simp only [Option.some.injEq, Prod.mk.injEq] at h
    obtain ⟨rfl, rfl, rfl, rfl⟩ := h
    obtain ⟨p, hp, rfl⟩ := hrd
    obtain ⟨p', q, r, hp', hq, hb, _, _, _, _, _, _, hd, _⟩ := loopAt hh hg
    obtain rfl : p' = p := by rw [hp] at hp'; exact (Option.some.inj hp').symm
    have p2 := new_loop hh (hf _ (Nat.le_refl _) (Nat.le_refl _)) ht ps assign body hq fn
    refine ⟨_, _, _, _, _, run_enterLoop_inner hb fn tmps ps assign body, upd_same _ _ _, rfl, by simpa using hm.ext p2.ext, ?_⟩
    rw [set_get, hd]; exact p2

theorem evRange_sound (hle : CallLe call) (hcall : CallOk P call) {x : Operand} {ps : Array Tmp} {assign body : Code} {s s' : St} {ex : Ex} (h : evRange P call nt rd x ps assign body s = some (ex, s')) :
    Shows P nt rd (.rangeFunc x ps assign body) s s' ex := by
  intro Q rdc a ι w hrd hm ht hh hf hQ
  obtain ⟨f, first, caps, g1, n1, d, mks, y, g3, n3, st, pend, nt', tm', ps', as', bd', d', hx, hok, he, hc, hg, hst, rfl, hend⟩ := evRange_eq h
  have hle2 := hle _ _ _ _ _ _ _ hc
  have hv := evOpd_rel ht hx
  simp only [VRel] at hv
  obtain ⟨xs, ys, ev, h1, h2⟩ := hv
  have hf' : ∀ id, s.n ≤ id → id ≤ n3 → ι id = none := hf
  refine wpIn_rangeFunc fun fn _ => ?_
  obtain ⟨l, mark, w1, ι1, p, r1, r2, r3, r4, r5⟩ := enterL_run (P := P) he hrd hm hh (fun id x y => hf' id x (by omega)) ht ps assign body fn
  subst r3
  have hargs : VRels ι1 (first ++ [.yield n1] ++ caps) (xs ++ #[Value.func (.yield p.blk) #[] #[]] ++ ys).toList := by
    have ha : VRels ι1 [AV.yield n1] [Value.func (.yield p.blk) #[] #[]] := by simp only [VRels, VRel]; exact ⟨_, _, rfl, ⟨p, r2, rfl⟩, rfl⟩
    have := ((VRels.ext r5.ext _ _ h1).append ha).append (VRels.ext r5.ext _ _ h2)
    simpa using this
  have hcl : CallsIn Fence.wide 0 P f _ w1 _ := hcall (.fn f) _ _ _ _ _ _ hc ι1 w1 _ r5.rel (fresh_next r5 hf') hargs
  refine ⟨p.blk, mark, w1, { target := .fn (.func f) ys, args := xs ++ #[Value.func (.yield p.blk) #[] #[]] }, w1, f, xs ++ #[Value.func (.yield p.blk) #[] #[]] ++ ys, w1, r1, ?_, fun _ _ => trivial, ?_, fun e => Bool.noConfusion e, ?_⟩
  · show (Deferred.ofValue (a.eval x) (#[Operand.const (.func (.yield p.blk) #[] #[])].map a.eval)).run P w1 = _
    rw [ev]
    simp [Deferred.ofValue, Act.eval]
  · simp [invoke, callOk_run hok]
  · have hcl' : CallsIn (FF rdc) (0 - 1) P f _ w1 _ := hcl
    refine CallsIn.mono hcl' fun e w3 hq => ?_
    obtain ⟨v, ι3, rfl, _, hp3⟩ := hq
    obtain ⟨p', q, r, hp', hq', hb, hst', hpe, _, _, _, _, _, hset⟩ := loopAt hp3.rel hg
    have hpp : p' = p := by have := hp3.ext _ _ r2; rw [hp'] at this; exact Option.some.inj this
    subst hpp
    have hpost := hset n3 .exhausted pend
    have hall : Post s.g.get (T.set (.loop .exhausted pend nt' tm' ps' as' bd' d') g3 n1).get s.n n3 ι ι3 w (w3.putObj p'.blk (.loop { r with state := .exhausted, pending := pend })) := by
      rw [set_get]; exact (r5.trans hp3).trans hpost
    have hQ' := hQ { a with defers := mark ++ a.defers } _ ι3 hall (ht.ext (r5.ext.trans hp3.ext)) (r4.ext hp3.ext)
    have hrun := run_endLoop (P := P) hb (by rw [hst']; exact hst)
    have hr' : ({ r with state := .exhausted } : Loop) = { r with state := .exhausted, pending := pend } := by rw [← hpe]
    rw [hr', hpe] at hrun
    refine ⟨pend, _, hrun, ?_⟩
    rcases hend with ⟨rfl, rfl⟩ | ⟨rfl, rfl⟩ | ⟨id, rfl, rfl⟩
    · exact hQ'
    · exact wpIn_ret hQ'
    · exact wpIn_exit hQ'

theorem evCode_sound (hm : P.follows .mixedOrders = true) (hle : CallLe call) (hcall : CallOk P call) : ∀ (c : Code) (s s' : St) (ex : Ex), evCode P call nt fuel rd c s = some (ex, s') → Shows P nt rd c s s' ex := by
  intro c
  induction c with
  | skip =>
    intro s s' ex h Q rdc a ι w _ hmk ht hh _ hQ
    simp only [evCode, Option.some.injEq, Prod.mk.injEq] at h
    obtain ⟨rfl, rfl⟩ := h
    exact wpIn_skip (hQ a w ι (Post.refl hh _) ht hmk)
  | label l =>
    intro s s' ex h Q rdc a ι w _ hmk ht hh _ hQ
    simp only [evCode, Option.some.injEq, Prod.mk.injEq] at h
    obtain ⟨rfl, rfl⟩ := h
    exact wpIn_label (hQ a w ι (Post.refl hh _) ht hmk)
  | ret =>
    intro s s' ex h Q rdc a ι w _ hmk ht hh _ hQ
    simp only [evCode, Option.some.injEq, Prod.mk.injEq] at h
    obtain ⟨rfl, rfl⟩ := h
    exact wpIn_ret (hQ a w ι (Post.refl hh _) ht hmk)
  | exit id =>
    intro s s' ex h Q rdc a ι w _ hmk ht hh _ hQ
    simp only [evCode, Option.some.injEq, Prod.mk.injEq] at h
    obtain ⟨rfl, rfl⟩ := h
    exact wpIn_exit (hQ a w ι (Post.refl hh _) ht hmk)
  | seq x y ihx ihy =>
    intro s s' ex h Q rdc a ι w hrd hmk ht hh hf hQ
    simp only [evCode] at h
    refine wpIn_seq ?_
    split at h
    · rename_i s1 h1
      have hl := evCode_le hle hcall y s1 s' ex h
      refine ihx s s1 .normal h1 _ rdc a ι w hrd hmk ht hh (fun id x1 y1 => hf id x1 (Nat.le_trans y1 hl)) fun a' w' ι' hp ht' hm' => ?_
      exact ihy s1 s' ex h Q rdc a' ι' w' (hrd.ext hp.ext) hm' ht' hp.rel (fresh_next hp hf) fun a'' w'' ι'' hp' ht'' hm'' => hQ a'' w'' ι'' (hp.trans hp') ht'' hm''
    · rename_i hne
      refine ihx s s' ex h _ rdc a ι w hrd hmk ht hh hf fun a' w' ι' hp ht' hm' => ?_
      have := hQ a' w' ι' hp ht' hm'
      cases ex with
      | normal => exact absurd h (hne s')
      | ret => exact this
      | exit id => exact this
  | cond c x y ihx ihy =>
    intro s s' ex h Q rdc a ι w hrd hmk ht hh hf hQ
    simp only [evCode] at h
    split at h
    · rename_i hc
      have := evOpd_rel ht hc
      simp only [VRel] at this
      exact wpIn_cond_true this (ihx s s' ex h Q rdc a ι w hrd hmk ht hh hf hQ)
    · rename_i hc
      have := evOpd_rel ht hc
      simp only [VRel] at this
      exact wpIn_cond_false this (ihy s s' ex h Q rdc a ι w hrd hmk ht hh hf hQ)
    · cases h
  | block id b ih =>
    intro s s' ex h Q rdc a ι w hrd hmk ht hh hf hQ
    simp only [evCode] at h
    refine wpIn_block ?_
    split at h
    · rename_i i s1 h1
      cases hb : Nat.beq i id with
      | true =>
        rw [hb] at h
        simp only [cond_true, Option.some.injEq, Prod.mk.injEq] at h
        obtain ⟨rfl, rfl⟩ := h
        refine ih s s1 _ h1 _ rdc a ι w hrd hmk ht hh hf fun a' w' ι' hp ht' hm' => ?_
        rw [beqT] at hb
        show Exit.inBlock id Q (.exit i) a' w'
        simp only [Exit.inBlock, hb, if_true]
        exact hQ a' w' ι' hp ht' hm'
      | false =>
        rw [hb] at h
        simp only [cond_false, Option.some.injEq, Prod.mk.injEq] at h
        obtain ⟨rfl, rfl⟩ := h
        refine ih s s1 _ h1 _ rdc a ι w hrd hmk ht hh hf fun a' w' ι' hp ht' hm' => ?_
        rw [beqF] at hb
        show Exit.inBlock id Q (.exit i) a' w'
        simp only [Exit.inBlock, hb, if_false]
        exact hQ a' w' ι' hp ht' hm'
    · rename_i hne
      refine ih s s' ex h _ rdc a ι w hrd hmk ht hh hf fun a' w' ι' hp ht' hm' => ?_
      have := hQ a' w' ι' hp ht' hm'
      cases ex with
      | normal => exact this
      | ret => exact this
      | exit i => exact absurd h (hne i s')
  | loop b ih =>
    intro s s' ex h Q rdc a ι w hrd hmk ht hh hf hQ
    simp only [evCode] at h
    exact wpIn_loop_rounds fuel (evLoop_sound (fun s ex s' h => evCode_le hle hcall b s s' ex h) (fun s s' ex h => ih s s' ex h) fuel s s' ex h Q rdc a ι w hrd hmk ht hh hf hQ)
  | region id ops d =>
    intro s s' ex h Q rdc a ι w hrd hmk ht hh hf hQ
    simp only [evCode] at h
    split at h
    · rename_i s1 h1
      simp only [Option.some.injEq, Prod.mk.injEq] at h
      obtain ⟨rfl, rfl⟩ := h
      cases d with
      | false =>
        refine wpIn_region ?_
        rw [List.range_eq_range']
        have hmks := (evOps_le hle _ _ _ h1).2
        have := evOps_sound (Q := ⟨rdc, Q⟩) hle hcall ops.toList 0 s s1 (fun j => by simp) h1 a ι w ht hh hf fun a' w' ι' hp ht' hdf => hQ a' w' ι' hp ht' (by rw [hmks, hdf]; exact hmk.ext hp.ext)
        simpa using this
      | true =>
        have hmks : s1.mks = s.mks := by
          simp only [cond_true, evDraw] at h1
          split at h1
          · split at h1
            · simp only [Option.some.injEq] at h1; rw [← h1]
            · cases h1
          · cases h1
        exact evDraw_sound (Q := ⟨rdc, Q⟩) hm hle hcall h1 ht hh hf fun a' w' ι' hp ht' hdf => hQ a' w' ι' hp ht' (by rw [hmks, hdf]; exact hmk.ext hp.ext)
    · cases h
  | rangeFunc x ps assign body =>
    intro s s' ex h
    simp only [evCode] at h
    exact evRange_sound hle hcall h
  | scope => intro s s' ex h; simp [evCode] at h
  | goto => intro s s' ex h; simp [evCode] at h
  | refuse => intro s s' ex h; simp [evCode] at h
end

end Go.Ev

/-! Ev: functions and rounds. -/
namespace Go.Ev
open Go

def fillT : List AV → Nat → T AV
  | [], _ => .lf
  | x :: xs, i => T.set x (fillT xs (i + 1)) i

def evResults (P : Program) (s : St) : List ResultVar → Option (List AV)
  | [] => some []
  | .tmp t :: rs => match s.tm.get t with | some x => (match evResults P s rs with | some xs => some (x :: xs) | none => none) | none => none
  | .cell a t :: rs => match s.tm.get a with
    | some y => match evLoad P s.g.get t y with
      | some x => match evResults P s rs with | some xs => some (x :: xs) | none => none
      | none => none
    | none => none

def tup : List AV → AV
  | [x] => x
  | xs => .tuple xs

def endMarks : List Nat → T AObj → Option (T AObj)
  | [], g => some g
  | i :: is, g => match g.get i with | some (.deferred true) => endMarks is (T.set (.deferred false) g i) | _ => none

def fillR (nt : Nat) : T AV → List Nat → List AV → Option (T AV)
  | tm, [], [] => some tm
  | tm, t :: ts, x :: xs => bif Nat.blt t nt then fillR nt (T.set x tm t) ts xs else none
  | _, _, _ => none

def Ex.jump : Ex → Option Code
  | .normal => none
  | .ret => some .ret
  | .exit id => some (.exit id)

def evBody (P : Program) (call : CallT) (fuel : Nat) (f : Nat) (args : List AV) (g : T AObj) (n : Nat) : Option (AV × T AObj × Nat) :=
  match P.funcs[f]? with
  | some fn =>
    match fn.body with
    | some c =>
      match evCode P call (args.length + (fn.ntmps - args.length)) fuel none c ⟨fillT args 0, g, n, []⟩ with
      | some (ex, s) =>
        match ex with
        | .exit _ => none
        | _ =>
          match endMarks s.mks s.g with
          | some g' =>
            match evResults P ⟨s.tm, g', s.n, []⟩ fn.results.toList with
            | some xs => some (tup xs, g', s.n)
            | none => none
          | none => none
      | none => none
    | none => none
  | none => none

def evRound (P : Program) (call : CallT) (fuel : Nat) (l : Nat) (args : List AV) (g : T AObj) (n : Nat) : Option (AV × T AObj × Nat) :=
  match g.get l with
  | some (.loop _ _ nt tm ps as bd _) =>
    match fillR nt tm ps args with
    | some tm1 =>
      match evCode P call nt fuel (some l) as ⟨tm1, g, n, []⟩ with
      | some (.normal, s1) =>
        match s1.g.get l with
        | some (.loop .ready pd1 nt1 tm1' ps1 as1 bd1 d1) =>
          match evCode P call nt fuel (some l) bd ⟨s1.tm, T.set (.loop .busy pd1 nt1 tm1' ps1 as1 bd1 d1) s1.g l, s1.n, s1.mks⟩ with
          | some (ex, s2) =>
            match s2.g.get l with
            | some (.loop _ _ nt2 tm2 ps2 as2 bd2 d2) => some (.bool ex.jump.isNone, T.set (.loop (if ex.jump.isNone then .ready else .done) ex.jump nt2 tm2 ps2 as2 bd2 d2) s2.g l, s2.n)
            | _ => none
          | none => none
        | _ => none
      | _ => none
    | none => none
  | _ => none

def evFn (P : Program) (fuel : Nat) : Nat → CallT
  | 0, _, _, _, _ => none
  | d + 1, t, args, g, n =>
    match t with
    | .fn f => evBody P (evFn P fuel d) fuel f args g n
    | .yield l => evRound P (evFn P fuel d) fuel l args g n

theorem fillT_get : ∀ (xs : List AV) (k t : Nat) (x : AV), (fillT xs k).get t = some x → k ≤ t ∧ xs[t - k]? = some x
  | [], k, t, x, h => by simp [fillT] at h
  | y :: ys, k, t, x, h => by
    simp only [fillT, T.get_set] at h
    split at h
    · rename_i e; subst e; exact ⟨Nat.le_refl _, by simpa using h⟩
    · obtain ⟨h1, h2⟩ := fillT_get ys (k + 1) t x h
      refine ⟨by omega, ?_⟩
      rw [show t - k = (t - (k + 1)) + 1 by omega]
      simpa using h2

theorem enter_rel {ι : Inj} {args : List AV} {vs : Array Value} (h : VRels ι args vs.toList) (m : Nat) :
    TRel ι (args.length + (m - args.length)) (fillT args 0) (vs ++ Array.replicate (m - vs.size) undef) := by
  have hl : vs.size = args.length := by have := h.length; simpa using this
  refine ⟨by simp [hl], fun t x hx => ?_⟩
  obtain ⟨_, h2⟩ := fillT_get args 0 t x hx
  obtain ⟨v, hv, hr⟩ := h.get h2
  simp only [Nat.sub_zero] at hv
  have hlt : t < vs.size := by have := (List.getElem?_eq_some_iff.1 hv).1; simpa using this
  have : (vs ++ Array.replicate (m - vs.size) undef).getD t undef = v := by
    rw [Array.getD_eq_getD_getElem?, Array.getElem?_append_left hlt]
    have : vs[t]? = some v := by simpa using hv
    rw [this]; rfl
  rw [this]; exact hr

def resOne (tmps : Array Value) : ResultVar → Sem Value
  | .tmp t => pure (tmps.getD t undef)
  | .cell a t => do loadVar t (← asAddr (tmps.getD a undef))

theorem results_eq (fn : Func) (tmps : Array Value) : results fn tmps = (do let vs ← fn.results.mapM (resOne tmps); pure (if h : vs.size = 1 then vs[0] else .tuple vs)) := by
  have : (fun x : ResultVar => match x with | .tmp t => pure (tmps.getD t undef) | .cell a t => do loadVar t (← asAddr (tmps.getD a undef)) : ResultVar → Sem Value) = resOne tmps := by
    funext x; cases x <;> rfl
  rw [← this]
  rfl

theorem evResults_run {P : Program} {s : St} {ι : Inj} {w : World} {nt : Nat} {tmps : Array Value} (ht : TRel ι nt s.tm tmps) (hh : HRel s.g.get ι w) : ∀ (rs : List ResultVar) (xs : List AV), evResults P s rs = some xs →
    ∃ vs : List Value, (rs.mapM (resOne tmps)).run P w = .ok vs w ∧ VRels ι xs vs
  | [], xs, h => by
    simp only [evResults, Option.some.injEq] at h
    subst h
    exact ⟨[], rfl, by simp [VRels]⟩
  | .tmp t :: rs, xs, h => by
    simp only [evResults] at h
    split at h
    rotate_left
    · cases h
    rename_i x hx
    split at h
    rotate_left
    · cases h
    rename_i xs' hxs
    simp only [Option.some.injEq] at h
    subst h
    obtain ⟨vs, h1, h2⟩ := evResults_run ht hh rs xs' hxs
    refine ⟨tmps.getD t undef :: vs, ?_, by simp only [VRels]; exact ⟨_, _, rfl, ht.2 t x hx, h2⟩⟩
    rw [List.mapM_cons]
    simp only [Sem.run_bind, resOne, Sem.run_pure, Result.andThen_ok, h1]
  | .cell a t :: rs, xs, h => by
    simp only [evResults] at h
    split at h
    rotate_left
    · cases h
    rename_i y hy
    split at h
    rotate_left
    · cases h
    rename_i x hx
    split at h
    rotate_left
    · cases h
    rename_i xs' hxs
    simp only [Option.some.injEq] at h
    subst h
    obtain ⟨vs, h1, h2⟩ := evResults_run ht hh rs xs' hxs
    have hv := ht.2 a y hy
    obtain ⟨v, r1, r2⟩ := evLoad_run hx hh hv
    have hp : ∃ ad, tmps.getD a undef = .pointer (some ad) := by
      unfold evLoad at hx
      split at hx
      · simp only [VRel] at hv
        obtain ⟨p, _, e⟩ := hv
        exact ⟨_, e⟩
      · cases hx
    obtain ⟨ad, hp⟩ := hp
    rw [hp] at r1
    have r3 : (loadVar t ad).run P w = .ok v w := by simpa [Instr.loadAt, Instr.sureAddr] using r1
    refine ⟨v :: vs, ?_, by simp only [VRels]; exact ⟨_, _, rfl, r2, h2⟩⟩
    rw [List.mapM_cons]
    simp only [Sem.run_bind, resOne, hp, asAddr, Sem.run_pure, Result.andThen_ok, r3, h1]

theorem tup_rel {ι : Inj} {xs : List AV} {vs : List Value} (h : VRels ι xs vs) : VRel ι (tup xs) (if h : vs.toArray.size = 1 then vs.toArray[0] else .tuple vs.toArray) := by
  cases xs with
  | nil =>
    simp only [VRels] at h
    subst h
    simp [tup, VRel, VRels]
  | cons x xs =>
    cases xs with
    | nil =>
      simp only [VRels] at h
      obtain ⟨v, ws, rfl, h1, h2⟩ := h
      subst h2
      simpa [tup] using h1
    | cons y ys =>
      have hl := h.length
      have : ¬ vs.toArray.size = 1 := by simp at hl ⊢; omega
      rw [dif_neg this]
      simp only [tup, VRel]
      exact ⟨_, rfl, h⟩

theorem endMarks_run {P : Program} {fn : Func} {tmps : Array Value} {R : Ending → World → Prop} {ι : Inj} (n : Nat) : ∀ (mks : List Nat) (ds : List Deferred) (w : World) (g g' : T AObj), MRel ι mks ds → HRel g.get ι w → endMarks mks g = some g' →
    (∀ w', Post g.get g'.get n n ι ι w w' → ∃ v, (results fn tmps).run P w' = .ok v w' ∧ R (.returned v) w') → LeavesInM Fence.wide 0 P fn tmps R ds .returning w
  | [], ds, w, g, g', hm, hh, h, hQ => by
    simp only [endMarks, Option.some.injEq] at h
    subst h
    have hd : ds = [] := hm
    subst hd
    exact hQ w (Post.refl hh n)
  | i :: is, ds, w, g, g', hm, hh, h, hQ => by
    obtain ⟨p, ds', hp, rfl, hm'⟩ := hm
    simp only [endMarks] at h
    split at h
    · rename_i hg
      obtain ⟨p', hp', hb, hset⟩ := deferredAt hh hg
      obtain rfl : p' = p := by rw [hp] at hp'; exact (Option.some.inj hp').symm
      have h1 := hset n
      rw [← set_get] at h1
      refine ⟨(fun e => by cases e), .inl ⟨p'.blk, _, rfl, run_takeDeferred hb, ?_⟩⟩
      exact endMarks_run n is ds' _ _ g' hm' h1.rel h fun w' hp => hQ w' (h1.trans hp)
    · cases h

theorem fillR_rel {ι : Inj} {nt : Nat} : ∀ (ps : List Nat) (xs : List AV) (tm tm1 : T AV) (vs : List Value) (a : Array Value), TRel ι nt tm a → VRels ι xs vs → fillR nt tm ps xs = some tm1 →
    TRel ι nt tm1 ((ps.zip vs).foldl (fun (a : Array Value) (q : Nat × Value) => a.setIfInBounds q.1 q.2) a) ∧ vs.length = ps.length
  | [], [], tm, tm1, vs, a, ht, hv, h => by
    simp only [fillR, Option.some.injEq] at h
    subst h
    simp only [VRels] at hv
    subst hv
    exact ⟨ht, rfl⟩
  | [], _ :: _, tm, tm1, vs, a, _, _, h => by simp [fillR] at h
  | _ :: _, [], tm, tm1, vs, a, _, _, h => by simp [fillR] at h
  | t :: ts, x :: xs, tm, tm1, vs, a, ht, hv, h => by
    simp only [VRels] at hv
    obtain ⟨v, ws, rfl, h1, h2⟩ := hv
    simp only [fillR] at h
    cases hb : Nat.blt t nt with
    | false => rw [hb] at h; cases h
    | true =>
      rw [hb] at h
      simp only [cond_true] at h
      have hlt : t < nt := Nat.le_of_ble_eq_true hb
      have hp := putT_rel (a := { tmps := a, defers := [] }) ht h1 (some t) (fun d hd => by cases hd; exact hlt)
      obtain ⟨k1, k2⟩ := fillR_rel ts xs (T.set x tm t) tm1 ws (a.setIfInBounds t v) hp h2 h
      exact ⟨by simpa using k1, by simp [k2]⟩

theorem evBody_eq {P : Program} {call : CallT} {fuel f : Nat} {args : List AV} {g : T AObj} {n : Nat} {x : AV} {g' : T AObj} {n' : Nat} (h : evBody P call fuel f args g n = some (x, g', n')) :
    ∃ fn c ex s xs, P.funcs[f]? = some fn ∧ fn.body = some c ∧ evCode P call (args.length + (fn.ntmps - args.length)) fuel none c ⟨fillT args 0, g, n, []⟩ = some (ex, s) ∧ (ex = .normal ∨ ex = .ret) ∧ endMarks s.mks s.g = some g' ∧
      evResults P ⟨s.tm, g', s.n, []⟩ fn.results.toList = some xs ∧ x = tup xs ∧ n' = s.n := by
  unfold evBody at h
  split at h
  rotate_left
  · cases h
  rename_i fn hf
  split at h
  rotate_left
  · cases h
  rename_i c hb
  split at h
  rotate_left
  · cases h
  rename_i ex s hc
  have key : ∀ ex', ex' = ex → (match endMarks s.mks s.g with
          | some g' => match evResults P ⟨s.tm, g', s.n, []⟩ fn.results.toList with | some xs => some (tup xs, g', s.n) | none => none
          | none => none) = some (x, g', n') → (ex = .normal ∨ ex = .ret) → ∃ fn c ex s xs, P.funcs[f]? = some fn ∧ fn.body = some c ∧ evCode P call (args.length + (fn.ntmps - args.length)) fuel none c ⟨fillT args 0, g, n, []⟩ = some (ex, s) ∧ (ex = .normal ∨ ex = .ret) ∧ endMarks s.mks s.g = some g' ∧
      evResults P ⟨s.tm, g', s.n, []⟩ fn.results.toList = some xs ∧ x = tup xs ∧ n' = s.n := by
    intro ex' _ h hex
    split at h
    rotate_left
    · cases h
    rename_i g1 hm
    split at h
    rotate_left
    · cases h
    rename_i xs hxs
    simp only [Option.some.injEq, Prod.mk.injEq] at h
    obtain ⟨rfl, rfl, rfl⟩ := h
    exact ⟨fn, c, ex, s, xs, hf, hb, hc, hex, hm, hxs, rfl, rfl⟩
  cases ex with
  | exit id => cases h
  | normal => exact key _ rfl h (.inl rfl)
  | ret => exact key _ rfl h (.inr rfl)

theorem evRound_eq {P : Program} {call : CallT} {fuel l : Nat} {args : List AV} {g : T AObj} {n : Nat} {x : AV} {g' : T AObj} {n' : Nat} (h : evRound P call fuel l args g n = some (x, g', n')) :
    ∃ st pd nt tm ps as bd d tm1 s1 pd1 nt1 tm1' ps1 as1 bd1 d1 ex s2 st2 pd2 nt2 tm2 ps2 as2 bd2 d2, g.get l = some (.loop st pd nt tm ps as bd d) ∧ fillR nt tm ps args = some tm1 ∧ evCode P call nt fuel (some l) as ⟨tm1, g, n, []⟩ = some (.normal, s1) ∧
      s1.g.get l = some (.loop .ready pd1 nt1 tm1' ps1 as1 bd1 d1) ∧ evCode P call nt fuel (some l) bd ⟨s1.tm, T.set (.loop .busy pd1 nt1 tm1' ps1 as1 bd1 d1) s1.g l, s1.n, s1.mks⟩ = some (ex, s2) ∧
      s2.g.get l = some (.loop st2 pd2 nt2 tm2 ps2 as2 bd2 d2) ∧ x = .bool ex.jump.isNone ∧ g' = T.set (.loop (if ex.jump.isNone then .ready else .done) ex.jump nt2 tm2 ps2 as2 bd2 d2) s2.g l ∧ n' = s2.n := by
  unfold evRound at h
  split at h
  rotate_left
  · cases h
  rename_i st pd nt tm ps as bd d hg
  split at h
  rotate_left
  · cases h
  rename_i tm1 hf
  split at h
  rotate_left
  · cases h
  rename_i s1 h1
  split at h
  rotate_left
  · cases h
  rename_i pd1 nt1 tm1' ps1 as1 bd1 d1 hg1
  split at h
  rotate_left
  · cases h
  rename_i ex s2 h2
  split at h
  rotate_left
  · cases h
  rename_i st2 pd2 nt2 tm2 ps2 as2 bd2 d2 hg2
  simp only [Option.some.injEq, Prod.mk.injEq] at h
  exact ⟨st, pd, nt, tm, ps, as, bd, d, tm1, s1, pd1, nt1, tm1', ps1, as1, bd1, d1, ex, s2, st2, pd2, nt2, tm2, ps2, as2, bd2, d2, hg, hf, h1, hg1, h2, hg2, h.1.symm, h.2.1.symm, h.2.2.symm⟩

theorem evFn_both {P : Program} (hm : P.follows .mixedOrders = true) (fuel : Nat) : ∀ d, CallLe (evFn P fuel d) ∧ CallOk P (evFn P fuel d) := by
  intro d
  induction d with
  | zero => exact ⟨fun f args g n x g' n' h => by simp [evFn] at h, fun f args g n x g' n' h => by simp [evFn] at h⟩
  | succ d ih =>
    obtain ⟨ihl, ihc⟩ := ih
    refine ⟨fun t args g n x g' n' h => ?_, fun t args g n x g' n' h ι w vs hh hf hv => ?_⟩
    · cases t with
      | fn f =>
        obtain ⟨fn, c, ex, s, xs, _, _, hc, _, _, _, _, rfl⟩ := evBody_eq h
        exact evCode_le ihl ihc c _ _ _ hc
      | yield l =>
        obtain ⟨_, _, _, _, _, _, _, _, _, s1, _, _, _, _, _, _, _, _, s2, _, _, _, _, _, _, _, _, _, _, h1, _, h2, _, _, _, rfl⟩ := evRound_eq h
        have k1 := evCode_le ihl ihc _ _ _ _ h1
        have k2 := evCode_le ihl ihc _ _ _ _ h2
        exact Nat.le_trans k1 k2
    · cases t with
      | fn f =>
        obtain ⟨fn, c, ex, s, xs, hfn, hb, hc, hex, hmk, hxs, rfl, rfl⟩ := evBody_eq h
        refine callsIn_of_wp_marks hfn hb trivial ?_
        refine evCode_sound hm ihl ihc c _ _ _ hc _ none _ ι w rfl rfl (enter_rel hv fn.ntmps) hh hf fun a' w' ι' hp ht' hm' => ?_
        have hfin : LeavesInM Fence.wide 0 P fn a'.tmps (fun e w' => ∃ v ι', e = .returned v ∧ VRel ι' (tup xs) v ∧ Post g.get g'.get n s.n ι ι' w w') a'.defers .returning w' := by
          refine endMarks_run s.n s.mks a'.defers w' s.g g' hm' hp.rel hmk fun w'' hp' => ?_
          obtain ⟨us, h1, h2⟩ := evResults_run (s := ⟨s.tm, g', s.n, []⟩) ht' hp'.rel fn.results.toList xs hxs
          refine ⟨_, ?_, _, ι', rfl, tup_rel h2, hp.trans hp'⟩
          simp only [results_eq, Array.mapM_eq_mapM_toList, Sem.run_bind, Sem.run_map, h1, Result.andThen_ok, Sem.run_pure]
        rcases hex with rfl | rfl
        · exact hfin
        · exact hfin
      | yield l =>
        obtain ⟨st, pd, nt, tm, ps, as, bd, d0, tm1, s1, pd1, nt1, tm1', ps1, as1, bd1, d1, ex, s2, st2, pd2, nt2, tm2, ps2, as2, bd2, d2, hg, hfill, h1, hg1, h2, hg2, rfl, rfl, rfl⟩ := evRound_eq h
        intro p hp
        obtain ⟨p', q, r, hp', _, hb, _, _, hrt, hrp, hra, hrb, _, _⟩ := loopAt hh hg
        obtain rfl : p' = p := by rw [hp] at hp'; exact (Option.some.inj hp').symm
        obtain ⟨k1, k2⟩ := fillR_rel ps args tm tm1 vs.toList r.tmps hrt hv hfill
        have hsz : vs.size = r.params.size := by rw [hrp]; simpa using k2
        have htm : (r.params.zip vs).foldl (fun tmps (t, a) => tmps.setIfInBounds t a) r.tmps = (ps.zip vs.toList).foldl (fun (a : Array Value) (q : Nat × Value) => a.setIfInBounds q.1 q.2) r.tmps := by
          rw [← Array.foldl_toList, Array.toList_zip, hrp]
        refine ⟨r.fn, _, r.assign, r.body, run_yield hb hsz, ?_⟩
        refine roundIn_of_wpIn trivial ?_
        have hle2 := evCode_le ihl ihc _ _ _ _ h2
        have hrd : RdRel ι (some l) (some p'.blk) := ⟨p', hp, rfl⟩
        rw [htm, hra, hrb]
        refine evCode_sound hm ihl ihc as _ _ _ h1 _ (some p'.blk) _ ι w hrd rfl k1 hh (fun id x y => hf id x (Nat.le_trans y hle2)) fun a1 w1 ι1 hp1 ht1 hm1 => ?_
        show Exit.then _ _ .normal a1 w1
        simp only [Exit.then]
        obtain ⟨p1, q1, r1, hpp1, _, hb1, hst1, hpe1, _, _, _, _, _, hset1⟩ := loopAt hp1.rel hg1
        obtain rfl : p1 = p' := by have := hp1.ext _ _ hp; rw [hpp1] at this; exact Option.some.inj this
        refine ⟨_, run_beginRound hb1 hst1, ?_⟩
        have hs1 := hset1 s1.n .busy pd1
        rw [← set_get] at hs1
        have hr1 : ({ r1 with state := .busy } : Loop) = { r1 with state := .busy, pending := pd1 } := by rw [← hpe1]
        rw [hr1]
        have hpost1 := hp1.trans hs1
        refine evCode_sound hm ihl ihc bd _ _ _ h2 _ (some p1.blk) _ ι1 _ (hrd.ext hp1.ext) hm1 ht1 hs1.rel (fresh_next hp1 hf) fun a2 w2 ι2 hp2 ht2 hm2 => ?_
        obtain ⟨p2, q2, r2, hpp2, _, hb2, hst2, hpe2, _, _, _, _, _, hset2⟩ := loopAt hp2.rel hg2
        obtain rfl : p2 = p1 := by have := hp2.ext _ _ hpp1; rw [hpp2] at this; exact Option.some.inj this
        have hs2 := hset2 s2.n (if ex.jump.isNone then .ready else .done) ex.jump
        rw [← set_get] at hs2
        have hall := (hpost1.trans hp2).trans hs2
        cases ex with
        | normal => exact ⟨_, _, run_endRound none hb2, _, ι2, rfl, by simp [VRel, Ex.jump], hall⟩
        | ret => exact ⟨_, _, run_endRound (some .ret) hb2, _, ι2, rfl, by simp [VRel, Ex.jump], hall⟩
        | exit id => exact ⟨_, _, run_endRound (some (.exit id)) hb2, _, ι2, rfl, by simp [VRel, Ex.jump], hall⟩

end Go.Ev

/-! Ev: what a run from the empty heap shows. -/
namespace Go.Ev
open Go

def isTrue (r : Option (AV × T AObj × Nat)) : Bool := match r with | some (.bool true, _, _) => true | _ => false

theorem run_calls {P : Program} (hm : P.follows .mixedOrders = true) {fuel d f : Nat} {args : List AV} {x : AV} {g : T AObj} {n : Nat} (h : evFn P fuel d (.fn f) args .lf 0 = some (x, g, n)) {vs : Array Value} (hv : VRels (fun _ => none) args vs.toList) (w : World) :
    Calls P f vs w (fun e w' => ∃ v ι, e = .returned v ∧ VRel ι x v ∧ HRel g.get ι w' ∧ w.heap.size ≤ w'.heap.size ∧ ∀ b, b < w.heap.size → w'.heap[b]? = w.heap[b]?) := by
  have hh : HRel (T.lf : T AObj).get (fun _ => none) w := ⟨fun id o ho => by simp at ho, fun i j oi oj p q hi => by simp at hi⟩
  have hc : CallsIn Fence.wide 0 P f vs w _ := (evFn_both hm fuel d).2 (.fn f) args .lf 0 x g n h (fun _ => none) w vs hh (fun _ _ _ => rfl) hv
  refine Calls.mono (callsIn_wide.1 hc) fun e w' he => ?_
  obtain ⟨v, ι', rfl, hx, hp⟩ := he
  exact ⟨v, ι', rfl, hx, hp.rel, hp.size, fun b hb => hp.frame b hb fun id o p ho => by simp at ho⟩

/-- A function of no arguments that answers true. -/
theorem true_calls {P : Program} (hm : P.follows .mixedOrders = true) {fuel d f : Nat} (h : isTrue (evFn P fuel d (.fn f) [] .lf 0) = true) (w : World) :
    Calls P f #[] w (fun e w' => e = .returned (.bool true) ∧ w.heap.size ≤ w'.heap.size ∧ ∀ b, b < w.heap.size → w'.heap[b]? = w.heap[b]?) := by
  unfold isTrue at h
  split at h
  · rename_i g n he
    refine Calls.mono (run_calls hm he (vs := #[]) (by simp [VRels]) w) fun e w' hq => ?_
    obtain ⟨v, ι, rfl, hx, _, h1, h2⟩ := hq
    simp only [VRel] at hx
    exact ⟨by rw [hx], h1, h2⟩
  · cases h

end Go.Ev
