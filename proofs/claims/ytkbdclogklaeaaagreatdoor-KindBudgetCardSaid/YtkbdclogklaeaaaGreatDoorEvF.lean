/- PART OF THE PROOF OF KindBudget's CARD. Rules by which a function is evaluated for all data. -/
import Derived.Test.YtkbdclogklaeaaaGreatDoorEvE
set_option linter.unusedSimpArgs false
set_option linter.unusedVariables false

/-! Ev: rules for runs whose arguments are not known: what an evaluation comes to, said by a predicate. -/
namespace Go.Ev
open Go

/-- Code, evaluated from s, comes to an end that Q takes. -/
def Ends (P : Program) (call : CallT) (nt fuel : Nat) (rd : Option Nat) (c : Code) (s : St) (Q : Ex → St → Prop) : Prop :=
  ∃ ex s', evCode P call nt fuel rd c s = some (ex, s') ∧ Q ex s'

/-- Operations, one after the other. -/
def Steps' (P : Program) (call : CallT) (nt : Nat) (ops : Array Oper) (l : List Oper) (s : St) (Q : St → Prop) : Prop :=
  ∃ s', evOps P call nt ops l s = some s' ∧ Q s'

/-- A function, called. -/
def Gives (P : Program) (fuel d f : Nat) (args : List AV) (g : T AObj) (n : Nat) (R : AV → T AObj → Nat → Prop) : Prop :=
  ∃ x g' n', evFn P fuel d (.fn f) args g n = some (x, g', n') ∧ R x g' n'

section
variable {P : Program} {call : CallT} {nt fuel : Nat} {rd : Option Nat} {s : St} {Q : Ex → St → Prop}

theorem Ends.mono {c : Code} {Q' : Ex → St → Prop} (h : Ends P call nt fuel rd c s Q) (hq : ∀ ex s', Q ex s' → Q' ex s') : Ends P call nt fuel rd c s Q' :=
  let ⟨ex, s', e, q⟩ := h; ⟨ex, s', e, hq _ _ q⟩

theorem ends_skip (h : Q .normal s) : Ends P call nt fuel rd .skip s Q := ⟨_, _, rfl, h⟩
theorem ends_ret (h : Q .ret s) : Ends P call nt fuel rd .ret s Q := ⟨_, _, rfl, h⟩
theorem ends_exit {id : Nat} (h : Q (.exit id) s) : Ends P call nt fuel rd (.exit id) s Q := ⟨_, _, rfl, h⟩

def thenQ (k : St → Prop) (Q : Ex → St → Prop) : Ex → St → Prop
  | .normal, s => k s
  | ex, s => Q ex s

theorem ends_seq {a b : Code} (h : Ends P call nt fuel rd a s (thenQ (fun s1 => Ends P call nt fuel rd b s1 Q) Q)) : Ends P call nt fuel rd (.seq a b) s Q := by
  obtain ⟨ex, s1, e, q⟩ := h
  cases ex with
  | normal =>
    obtain ⟨ex2, s2, e2, q2⟩ := q
    exact ⟨ex2, s2, by simp only [evCode, e, e2], q2⟩
  | ret => exact ⟨_, _, by simp only [evCode, e], q⟩
  | exit id => exact ⟨_, _, by simp only [evCode, e], q⟩

theorem ends_cond {c : Operand} {a b : Code} {t : Bool} (hc : evOpd s.tm c = some (.bool t)) (ht : t = true → Ends P call nt fuel rd a s Q) (hf : t = false → Ends P call nt fuel rd b s Q) : Ends P call nt fuel rd (.cond c a b) s Q := by
  cases t with
  | true => obtain ⟨ex, s', e, q⟩ := ht rfl; exact ⟨ex, s', by simp only [evCode, hc, e], q⟩
  | false => obtain ⟨ex, s', e, q⟩ := hf rfl; exact ⟨ex, s', by simp only [evCode, hc, e], q⟩

def blockQ (id : Nat) (Q : Ex → St → Prop) : Ex → St → Prop
  | .exit i, s => if i = id then Q .normal s else Q (.exit i) s
  | ex, s => Q ex s

theorem ends_block {id : Nat} {b : Code} (h : Ends P call nt fuel rd b s (blockQ id Q)) : Ends P call nt fuel rd (.block id b) s Q := by
  obtain ⟨ex, s1, e, q⟩ := h
  cases ex with
  | normal => exact ⟨_, _, by simp only [evCode, e], q⟩
  | ret => exact ⟨_, _, by simp only [evCode, e], q⟩
  | exit i =>
    simp only [blockQ] at q
    split at q
    · rename_i hi
      exact ⟨.normal, s1, by simp only [evCode, e, beqT.2 hi, cond_true], q⟩
    · rename_i hi
      exact ⟨.exit i, s1, by simp only [evCode, e, beqF.2 hi, cond_false], q⟩

/-- A loop: I k holds when at most k rounds are to come; the last one leaves. -/
theorem ends_loop {b : Code} (I : Nat → St → Prop) (round : ∀ k s, I k s → Ends P call nt fuel rd b s (thenQ (fun s1 => ∃ j, j < k ∧ I j s1) Q)) {k : Nat} (hk : k < fuel) (h : I k s) : Ends P call nt fuel rd (.loop b) s Q := by
  have key : ∀ (m k : Nat) (s : St), k < m → I k s → ∃ ex s', evLoop (evCode P call nt fuel rd b) m s = some (ex, s') ∧ Q ex s' := by
    intro m
    induction m with
    | zero => intro k s hk; omega
    | succ m ih =>
      intro k s hk hI
      obtain ⟨ex, s1, e, q⟩ := round k s hI
      cases ex with
      | normal =>
        obtain ⟨j, hj, hI'⟩ := q
        obtain ⟨ex2, s2, e2, q2⟩ := ih j s1 (by omega) hI'
        exact ⟨ex2, s2, by simp only [evLoop, e, e2], q2⟩
      | ret => exact ⟨_, _, by simp only [evLoop, e], q⟩
      | exit id => exact ⟨_, _, by simp only [evLoop, e], q⟩
  obtain ⟨ex, s', e, q⟩ := key fuel k s hk h
  exact ⟨ex, s', by simp only [evCode, e], q⟩

theorem ends_region {id : Nat} {ops : Array Oper} (h : Steps' P call nt ops ops.toList s (Q .normal)) : Ends P call nt fuel rd (.region id ops false) s Q := by
  obtain ⟨s', e, q⟩ := h
  exact ⟨.normal, s', by simp only [evCode, cond_false, e], q⟩

theorem ends_draw {id : Nat} {ops : Array Oper} {s' : St} (h : evDraw P call nt ops s = some s') (q : Q .normal s') : Ends P call nt fuel rd (.region id ops true) s Q :=
  ⟨.normal, s', by simp only [evCode, cond_true, h], q⟩

theorem steps_nil {ops : Array Oper} {R : St → Prop} (h : R s) : Steps' P call nt ops [] s R := ⟨s, rfl, h⟩

theorem steps_val {ops : Array Oper} {R : St → Prop} {o : Oper} {os : List Oper} {x : AV} {e : Eff} (hf : fitsT o.dst nt = true) (h : evPre P ops s.tm s.g.get s.n o = some (.val x e))
    (k : Steps' P call nt ops os ⟨putT s.tm o.dst x, effT e s.g s.n, e.next s.n, s.mks⟩ R) : Steps' P call nt ops (o :: os) s R := by
  obtain ⟨s', e', q⟩ := k
  exact ⟨s', by simp only [evOps, hf, cond_true, h, e'], q⟩

theorem steps_skip {ops : Array Oper} {R : St → Prop} {o : Oper} {os : List Oper} {e : Eff} (hf : fitsT o.dst nt = true) (h : evPre P ops s.tm s.g.get s.n o = some (.skip e))
    (k : Steps' P call nt ops os ⟨putT s.tm o.dst (.tuple []), effT e s.g s.n, e.next s.n, s.mks⟩ R) : Steps' P call nt ops (o :: os) s R := by
  obtain ⟨s', e', q⟩ := k
  exact ⟨s', by simp only [evOps, hf, cond_true, h, e'], q⟩

theorem steps_call {ops : Array Oper} {R : St → Prop} {o : Oper} {os : List Oper} {f : Tgt} {args : List AV} {x : AV} {g' : T AObj} {n' : Nat} (hf : fitsT o.dst nt = true) (h : evPre P ops s.tm s.g.get s.n o = some (.call f args))
    (hc : call f args s.g s.n = some (x, g', n')) (k : Steps' P call nt ops os ⟨putT s.tm o.dst x, g', n', s.mks⟩ R) : Steps' P call nt ops (o :: os) s R := by
  obtain ⟨s', e', q⟩ := k
  exact ⟨s', by simp only [evOps, hf, cond_true, h, hc, e'], q⟩
end

/-- What follows an operation, by its outcome. -/
def After (P : Program) (call : CallT) (nt : Nat) (ops : Array Oper) (dst : Option Tmp) (os : List Oper) (s : St) (R : St → Prop) : Option Out → Prop
  | some (.val x e) => Steps' P call nt ops os ⟨putT s.tm dst x, effT e s.g s.n, e.next s.n, s.mks⟩ R
  | some (.skip e) => Steps' P call nt ops os ⟨putT s.tm dst (.tuple []), effT e s.g s.n, e.next s.n, s.mks⟩ R
  | some (.call f args) => ∃ x g' n', call f args s.g s.n = some (x, g', n') ∧ Steps' P call nt ops os ⟨putT s.tm dst x, g', n', s.mks⟩ R
  | none => False

theorem steps_cons {P : Program} {call : CallT} {nt : Nat} {ops : Array Oper} {s : St} {R : St → Prop} {o : Oper} {os : List Oper} :
    Steps' P call nt ops (o :: os) s R ↔ fitsT o.dst nt = true ∧ After P call nt ops o.dst os s R (evPre P ops s.tm s.g.get s.n o) := by
  constructor
  · rintro ⟨s', e, q⟩
    simp only [evOps] at e
    cases hf : fitsT o.dst nt with
    | false => rw [hf] at e; cases e
    | true =>
      rw [hf] at e
      simp only [cond_true] at e
      refine ⟨rfl, ?_⟩
      split at e
      · rename_i x ef h; rw [h]; exact ⟨s', e, q⟩
      · rename_i ef h; rw [h]; exact ⟨s', e, q⟩
      · rename_i f args h
        rw [h]
        split at e
        · rename_i x g' n' hc; exact ⟨x, g', n', hc, s', e, q⟩
        · cases e
      · cases e
  · rintro ⟨hf, h⟩
    unfold After at h
    split at h
    · rename_i x e he; exact steps_val hf he h
    · rename_i e he; exact steps_skip hf he h
    · rename_i f args he; obtain ⟨x, g', n', hc, k⟩ := h; exact steps_call hf he hc k
    · exact h.elim

theorem steps_done {P : Program} {call : CallT} {nt : Nat} {ops : Array Oper} {s : St} {R : St → Prop} : Steps' P call nt ops [] s R ↔ R s :=
  ⟨fun ⟨s', e, q⟩ => by simp only [evOps, Option.some.injEq] at e; subst e; exact q, fun h => ⟨s, rfl, h⟩⟩

theorem after_val {P : Program} {call : CallT} {nt : Nat} {ops : Array Oper} {dst : Option Tmp} {os : List Oper} {s : St} {R : St → Prop} {x : AV} {e : Eff} :
    After P call nt ops dst os s R (some (.val x e)) = Steps' P call nt ops os ⟨putT s.tm dst x, effT e s.g s.n, e.next s.n, s.mks⟩ R := rfl
theorem after_skip {P : Program} {call : CallT} {nt : Nat} {ops : Array Oper} {dst : Option Tmp} {os : List Oper} {s : St} {R : St → Prop} {e : Eff} :
    After P call nt ops dst os s R (some (.skip e)) = Steps' P call nt ops os ⟨putT s.tm dst (.tuple []), effT e s.g s.n, e.next s.n, s.mks⟩ R := rfl

theorem fits_some (d nt : Nat) : fitsT (some d) nt = Nat.blt d nt := rfl
theorem blt_lt {d nt : Nat} : (Nat.blt d nt = true) = (d < nt) := by rw [eq_iff_iff]; exact ⟨Nat.le_of_ble_eq_true, Nat.ble_eq_true_of_le⟩
theorem putT_some (tm : T AV) (d : Nat) (x : AV) : putT tm (some d) x = T.set x tm d := rfl
theorem putT_none (tm : T AV) (x : AV) : putT tm none x = tm := rfl
theorem pre_plain {P : Program} {ops : Array Oper} {tm : T AV} {g : AHeap} {n : Nat} {d : Option Tmp} {op : Op} {ty : TypeId} {pos : String} {af : Array Edge} :
    evPre P ops tm g n { dst := d, op := op, type := ty, pos := pos, after := af, guard := none } = evOp P tm g n op := rfl
theorem ov_some (y : AV) : ov (some y) = some (.val y .none) := rfl
theorem ove_some (y : AV) (e : Eff) : ove (some (y, e)) = some (.val y e) := rfl
theorem oe_some (e : Eff) : oe (some e) = some (.skip e) := rfl
theorem ose_some (i : Nat) (e : Eff) : ose (some (i, e)) = some (.skip e) := rfl
theorem opd_tmp (tm : T AV) (t : Nat) : evOpd tm (.tmp t) = tm.get t := rfl
theorem opd_int (tm : T AV) (k : IntKind) (i : Int) : evOpd tm (.const (.int k i)) = some (.int k i) := rfl
theorem opd_bool (tm : T AV) (b : Bool) : evOpd tm (.const (.bool b)) = some (.bool b) := rfl
theorem effT_none (g : T AObj) (n : Nat) : effT .none g n = g := rfl
theorem next_none (n : Nat) : Eff.next .none n = n := rfl
theorem bin_lss (P : Program) (t : TypeId) (a b : Int) : evBin P .lss t (.int .i64 a) (.int .i64 b) = some (.bool (decide (a < b))) := rfl
theorem bin_add (P : Program) (t : TypeId) (a b : Int) (h : -4611686018427387904 ≤ a + b ∧ a + b < 4611686018427387904) : evBin P .add t (.int .i64 a) (.int .i64 b) = some (.int .i64 (a + b)) := by
  have : IntKind.i64.wrap (a + b) = a + b := IntWalk.i64_in _ (by omega)
  show some (AV.int .i64 (IntKind.i64.wrap (a + b))) = _
  rw [this]

/-- What a body's end must give. -/
def endQ (P : Program) (fn : Func) (R : AV → T AObj → Nat → Prop) : Ex → St → Prop
  | .exit _, _ => False
  | _, s => ∃ g' xs, endMarks s.mks s.g = some g' ∧ evResults P ⟨s.tm, g', s.n, []⟩ fn.results.toList = some xs ∧ R (tup xs) g' s.n

/-- A function's contract out of its body. -/
theorem gives_of_ends {P : Program} {fuel d f : Nat} {args : List AV} {g : T AObj} {n : Nat} {R : AV → T AObj → Nat → Prop} {fn : Func} {c : Code} (hf : P.funcs[f]? = some fn) (hb : fn.body = some c)
    (h : Ends P (evFn P fuel d) (args.length + (fn.ntmps - args.length)) fuel none c ⟨fillT args 0, g, n, []⟩ (endQ P fn R)) : Gives P fuel (d + 1) f args g n R := by
  obtain ⟨ex, s, e, q⟩ := h
  cases ex with
  | exit id => exact q.elim
  | normal =>
    obtain ⟨g', xs, h1, h2, h3⟩ := q
    exact ⟨tup xs, g', s.n, by simp only [evFn, evBody, hf, hb, e, h1, h2], h3⟩
  | ret =>
    obtain ⟨g', xs, h1, h2, h3⟩ := q
    exact ⟨tup xs, g', s.n, by simp only [evFn, evBody, hf, hb, e, h1, h2], h3⟩

end Go.Ev

/-! Ev: rules by which one 'simp only' runs through straight code. -/
namespace Go.Ev
open Go

section
variable {P : Program} {call : CallT} {nt fuel : Nat} {rd : Option Nat} {s s' : St} {Q : Ex → St → Prop}


theorem e_skip : Ends P call nt fuel rd .skip s Q ↔ Q .normal s :=
  ⟨fun ⟨ex, s', e, q⟩ => by simp only [evCode, Option.some.injEq, Prod.mk.injEq] at e; obtain ⟨rfl, rfl⟩ := e; exact q, ends_skip⟩
theorem e_ret : Ends P call nt fuel rd .ret s Q ↔ Q .ret s :=
  ⟨fun ⟨ex, s', e, q⟩ => by simp only [evCode, Option.some.injEq, Prod.mk.injEq] at e; obtain ⟨rfl, rfl⟩ := e; exact q, ends_ret⟩
theorem e_exit {id : Nat} : Ends P call nt fuel rd (.exit id) s Q ↔ Q (.exit id) s :=
  ⟨fun ⟨ex, s', e, q⟩ => by simp only [evCode, Option.some.injEq, Prod.mk.injEq] at e; obtain ⟨rfl, rfl⟩ := e; exact q, ends_exit⟩
/-- What follows. -/
def seqK (P : Program) (call : CallT) (nt fuel : Nat) (rd : Option Nat) (b : Code) (Q : Ex → St → Prop) : Ex → St → Prop := thenQ (fun s1 => Ends P call nt fuel rd b s1 Q) Q
theorem e_seq {a b : Code} : Ends P call nt fuel rd (.seq a b) s Q ↔ Ends P call nt fuel rd a s (seqK P call nt fuel rd b Q) := by
  unfold seqK
  constructor
  · rintro ⟨ex, s', e, q⟩
    simp only [evCode] at e
    cases ha : evCode P call nt fuel rd a s with
    | none => rw [ha] at e; cases e
    | some r =>
      obtain ⟨ex1, s1⟩ := r
      rw [ha] at e
      refine ⟨ex1, s1, ha, ?_⟩
      cases ex1 with
      | normal => exact ⟨ex, s', e, q⟩
      | ret => simp only [Option.some.injEq, Prod.mk.injEq] at e; obtain ⟨rfl, rfl⟩ := e; exact q
      | exit id => simp only [Option.some.injEq, Prod.mk.injEq] at e; obtain ⟨rfl, rfl⟩ := e; exact q
  · exact ends_seq
theorem e_block {id : Nat} {b : Code} : Ends P call nt fuel rd (.block id b) s Q ↔ Ends P call nt fuel rd b s (blockQ id Q) := by
  constructor
  · rintro ⟨ex, s', e, q⟩
    simp only [evCode] at e
    cases ha : evCode P call nt fuel rd b s with
    | none => rw [ha] at e; cases e
    | some r =>
      obtain ⟨ex1, s1⟩ := r
      rw [ha] at e
      refine ⟨ex1, s1, ha, ?_⟩
      cases ex1 with
      | normal => simp only [Option.some.injEq, Prod.mk.injEq] at e; obtain ⟨rfl, rfl⟩ := e; exact q
      | ret => simp only [Option.some.injEq, Prod.mk.injEq] at e; obtain ⟨rfl, rfl⟩ := e; exact q
      | exit i =>
        simp only [blockQ]
        split
        · rename_i hi
          simp only [beqT.2 hi, cond_true, Option.some.injEq, Prod.mk.injEq] at e
          obtain ⟨rfl, rfl⟩ := e
          exact q
        · rename_i hi
          simp only [beqF.2 hi, cond_false, Option.some.injEq, Prod.mk.injEq] at e
          obtain ⟨rfl, rfl⟩ := e
          exact q
  · exact ends_block
theorem e_region {id : Nat} {ops : Array Oper} : Ends P call nt fuel rd (.region id ops false) s Q ↔ Steps' P call nt ops ops.toList s (Q .normal) := by
  constructor
  · rintro ⟨ex, s', e, q⟩
    simp only [evCode, cond_false] at e
    split at e
    · rename_i s1 h
      simp only [Option.some.injEq, Prod.mk.injEq] at e
      obtain ⟨rfl, rfl⟩ := e
      exact ⟨s1, h, q⟩
    · cases e
  · exact ends_region

/-- A test, decided or not. -/
def CondQ : Option AV → Prop → Prop → Prop
  | some (.bool true), p, _ => p
  | some (.bool false), _, q => q
  | _, _, _ => False

theorem e_cond {c : Operand} {a b : Code} : Ends P call nt fuel rd (.cond c a b) s Q ↔ CondQ (evOpd s.tm c) (Ends P call nt fuel rd a s Q) (Ends P call nt fuel rd b s Q) := by
  constructor
  · rintro ⟨ex, s', e, q⟩
    simp only [evCode] at e
    split at e
    · rename_i h; rw [h]; exact ⟨ex, s', e, q⟩
    · rename_i h; rw [h]; exact ⟨ex, s', e, q⟩
    · cases e
  · intro h
    unfold CondQ at h
    split at h
    · rename_i hc; obtain ⟨ex, s', e, q⟩ := h; exact ⟨ex, s', by simp only [evCode, hc, e], q⟩
    · rename_i hc; obtain ⟨ex, s', e, q⟩ := h; exact ⟨ex, s', by simp only [evCode, hc, e], q⟩
    · exact h.elim

theorem condQ_true {p q : Prop} : CondQ (some (.bool true)) p q = p := rfl
theorem condQ_false {p q : Prop} : CondQ (some (.bool false)) p q = q := rfl
theorem condQ_open {t : Bool} {p q : Prop} (h1 : t = true → p) (h2 : t = false → q) : CondQ (some (.bool t)) p q := by
  cases t
  · exact h2 rfl
  · exact h1 rfl

theorem seqK_normal {b : Code} : seqK P call nt fuel rd b Q .normal s = Ends P call nt fuel rd b s Q := rfl
theorem seqK_ret {b : Code} : seqK P call nt fuel rd b Q .ret s = Q .ret s := rfl
theorem seqK_exit {b : Code} {i : Nat} : seqK P call nt fuel rd b Q (.exit i) s = Q (.exit i) s := rfl
/-- The end of a round. -/
def loopK (I : Nat → St → Prop) (k : Nat) (Q : Ex → St → Prop) : Ex → St → Prop := thenQ (fun s1 => ∃ j, j < k ∧ I j s1) Q
theorem loopK_normal {I : Nat → St → Prop} {k : Nat} : loopK I k Q .normal s = ∃ j, j < k ∧ I j s := rfl
theorem loopK_ret {I : Nat → St → Prop} {k : Nat} : loopK I k Q .ret s = Q .ret s := rfl
theorem loopK_exit {I : Nat → St → Prop} {k i : Nat} : loopK I k Q (.exit i) s = Q (.exit i) s := rfl
theorem e_loop {b : Code} (I : Nat → St → Prop) (k : Nat) (hk : k < fuel) (h : I k s) (round : ∀ k s, I k s → Ends P call nt fuel rd b s (loopK I k Q)) : Ends P call nt fuel rd (.loop b) s Q :=
  ends_loop I round hk h
theorem thenQ_normal {k : St → Prop} : thenQ k Q .normal s = k s := rfl
theorem thenQ_ret {k : St → Prop} : thenQ k Q .ret s = Q .ret s := rfl
theorem thenQ_exit {k : St → Prop} {i : Nat} : thenQ k Q (.exit i) s = Q (.exit i) s := rfl
theorem blockQ_normal {id : Nat} : blockQ id Q .normal s = Q .normal s := rfl
theorem blockQ_ret {id : Nat} : blockQ id Q .ret s = Q .ret s := rfl
theorem blockQ_same {id : Nat} : blockQ id Q (.exit id) s = Q .normal s := by simp [blockQ]
theorem blockQ_other {id i : Nat} (h : (i == id) = false) : blockQ id Q (.exit i) s = Q (.exit i) s := by
  have : i ≠ id := by simpa using h
  simp [blockQ, this]
end

/-- A drawn region, step by step. -/
def Draws (P : Program) (call : CallT) (ops : Array Oper) (nt : Nat) (bs l : List Nat) (d : DSt) (R : DSt → Prop) : Prop :=
  ∃ d', evDrawGo P call ops nt bs l d = some d' ∧ R d'

def AfterD (P : Program) (call : CallT) (ops : Array Oper) (nt : Nat) (bs l : List Nat) (R : DSt → Prop) : Option DSt → Prop
  | some d => Draws P call ops nt bs l d R
  | none => False

def DrawAt (P : Program) (call : CallT) (ops : Array Oper) (nt : Nat) (bs l : List Nat) (R : DSt → Prop) (b i : Nat) (d : DSt) : Option Oper → Prop
  | some o => fitsT o.dst nt = true ∧ AfterD P call ops nt bs l R (evDrawOp P call ops i b o (restrict d.tm (o.looksAt ops)) (idsOf d.tm (addrOf o.op)) d)
  | none => False

section
variable {P : Program} {call : CallT} {nt fuel : Nat} {rd : Option Nat} {s : St} {Q : Ex → St → Prop} {ops : Array Oper} {bs l : List Nat} {R : DSt → Prop}


theorem d_nil {d : DSt} : Draws P call ops nt bs [] d R ↔ R d :=
  ⟨fun ⟨d', e, q⟩ => by simp only [evDrawGo, Option.some.injEq] at e; subst e; exact q, fun h => ⟨d, rfl, h⟩⟩

theorem d_cons {i : Nat} {d : DSt} : Draws P call ops nt bs (i :: l) d R ↔
    ∃ o, ops[i]? = some o ∧ fitsT o.dst nt = true ∧ AfterD P call ops nt bs l R (evDrawOp P call ops i (bs.getD i 0) o (restrict d.tm (o.looksAt ops)) (idsOf d.tm (addrOf o.op)) d) := by
  constructor
  · rintro ⟨d', e, q⟩
    simp only [evDrawGo] at e
    split at e
    · rename_i o ho
      cases hf : fitsT o.dst nt with
      | false => rw [hf] at e; cases e
      | true =>
        rw [hf] at e
        simp only [cond_true] at e
        refine ⟨o, ho, hf, ?_⟩
        split at e
        · rename_i d1 h1; rw [h1]; exact ⟨d', e, q⟩
        · cases e
    · cases e
  · rintro ⟨o, ho, hf, h⟩
    unfold AfterD at h
    split at h
    · rename_i d1 h1; obtain ⟨d', e, q⟩ := h; exact ⟨d', by simp only [evDrawGo, ho, hf, cond_true, h1, e], q⟩
    · exact h.elim

def guardTmps (ops : Array Oper) : Option (Nat × Bool) → List Nat
  | some (g, _) => ((ops[g]?).bind (·.dst)).toList
  | none => []
theorem looks_eq {o : Oper} : o.looksAt ops = tmpsOf o.op.operands.toList ++ guardTmps ops o.guard := by
  have key : ∀ l : List Operand, (l.filterMap fun | .tmp t => some t | _ => none) = tmpsOf l := by
    intro l
    induction l with
    | nil => rfl
    | cons x xs ih => cases x <;> simp [tmpsOf, ih]
  exact congrArg (fun x => x ++ guardTmps ops o.guard) (key o.op.operands.toList)
theorem looks_plain {d : Option Tmp} {op : Op} {ty : TypeId} {pos : String} {af : Array Edge} : Oper.looksAt ops { dst := d, op := op, type := ty, pos := pos, after := af, guard := none } = tmpsOf op.operands.toList := by
  rw [looks_eq]; simp [guardTmps]
theorem looks_guard {d : Option Tmp} {op : Op} {ty : TypeId} {pos : String} {af : Array Edge} {j : Nat} {want : Bool} : Oper.looksAt ops { dst := d, op := op, type := ty, pos := pos, after := af, guard := some (j, want) } = tmpsOf op.operands.toList ++ ((ops[j]?).bind (·.dst)).toList := by
  rw [looks_eq]; simp [guardTmps]
theorem beq_selfN (n : Nat) : Nat.beq n n = true := Nat.beq_refl n
theorem beqD (a b : Nat) : Nat.beq a b = decide (a = b) := by
  rw [Bool.eq_iff_iff, beqT]; simp

/-- What follows a drawn region. -/
def drawK (mks : List Nat) (Q : Ex → St → Prop) (d : DSt) : Prop := Q .normal ⟨d.tm, d.g, d.n, mks⟩
theorem drawK_eq {mks : List Nat} {tm : T AV} {g : T AObj} {n : Nat} {done : List DR} : drawK mks Q ⟨tm, g, n, done⟩ = Q .normal ⟨tm, g, n, mks⟩ := rfl

theorem drawAt_eq {b i : Nat} {d : DSt} {o : Oper} : DrawAt P call ops nt bs l R b i d (some o) = (fitsT o.dst nt = true ∧ AfterD P call ops nt bs l R (evDrawOp P call ops i b o (restrict d.tm (o.looksAt ops)) (idsOf d.tm (addrOf o.op)) d)) := rfl
theorem d_step {i : Nat} {d : DSt} : Draws P call ops nt bs (i :: l) d R = DrawAt P call ops nt bs l R (bs.getD i 0) i d ops[i]? := by
  rw [d_cons]
  apply propext
  constructor
  · rintro ⟨o, ho, hf, h⟩
    rw [ho, drawAt_eq]
    exact ⟨hf, h⟩
  · intro h
    cases ho : ops[i]? with
    | none => rw [ho] at h; exact h.elim
    | some o => rw [ho, drawAt_eq] at h; exact ⟨o, rfl, h⟩
theorem afterD_some {d : DSt} : AfterD P call ops nt bs l R (some d) = Draws P call ops nt bs l d R := rfl

def planIs (ops : Array Oper) (bs perm : List Nat) : Bool := match planOf ops with | some p => p.bs == bs && p.perm == perm | none => false
theorem planIs_eq {ops : Array Oper} {bs perm : List Nat} (h : planIs ops bs perm = true) : planOf ops = some ⟨bs, perm⟩ := by
  unfold planIs at h
  split at h
  · rename_i p hp
    simp only [Bool.and_eq_true, beq_iff_eq] at h
    rw [hp, ← h.1, ← h.2]
  · cases h

theorem e_draw {id : Nat} {perm : List Nat} (hp : planOf ops = some ⟨bs, perm⟩) :
    Ends P call nt fuel rd (.region id ops true) s Q ↔ Draws P call ops nt bs perm ⟨s.tm, s.g, s.n, []⟩ (drawK s.mks Q) := by
  unfold drawK
  constructor
  · rintro ⟨ex, s', e, q⟩
    simp only [evCode, cond_true, evDraw, hp] at e
    split at e
    · rename_i s1 h
      simp only [Option.some.injEq, Prod.mk.injEq] at e
      obtain ⟨rfl, rfl⟩ := e
      split at h
      · rename_i d hd
        simp only [Option.some.injEq] at h
        subst h
        exact ⟨d, hd, q⟩
      · cases h
    · cases e
  · rintro ⟨d, e, q⟩
    exact ends_draw (s' := ⟨d.tm, d.g, d.n, s.mks⟩) (by simp only [evDraw, hp, e]) q
end

/-- A guard, by the value that it looks at. -/
def guardV : Option Oper → T AV → Option AV
  | some o, tm => (match o.dst with | some d => tm.get d | none => none)
  | none, _ => none
def guardQ : Option AV → Bool → Option Out → Option Out
  | some (.bool b), want, r => if b = want then r else some (.skip .none)
  | some (.tuple []), _, _ => some (.skip .none)
  | _, _, _ => none
theorem pre_guardQ {P : Program} {ops : Array Oper} {tm : T AV} {g : AHeap} {n : Nat} {d : Option Tmp} {op : Op} {ty : TypeId} {pos : String} {af : Array Edge} {j : Nat} {want : Bool} :
    evPre P ops tm g n { dst := d, op := op, type := ty, pos := pos, after := af, guard := some (j, want) } = guardQ (guardV ops[j]? tm) want (evOp P tm g n op) := by
  unfold evPre wantedT guardV
  simp only []
  cases ops[j]? with
  | none => rfl
  | some o' =>
    simp only []
    cases o'.dst with
    | none => rfl
    | some d =>
      simp only []
      cases hx : tm.get d with
      | none => rfl
      | some x =>
        cases x <;> (try rfl)
        case bool b => cases b <;> cases want <;> rfl
        case tuple l => cases l <;> rfl
theorem fits_none (nt : Nat) : fitsT none nt = true := rfl
theorem guardV_some {d : Tmp} {op : Op} {ty : TypeId} {pos : String} {af : Array Edge} {gd : Option (Nat × Bool)} {tm : T AV} : guardV (some { dst := some d, op := op, type := ty, pos := pos, after := af, guard := gd }) tm = tm.get d := rfl
theorem guardQ_tt {r : Option Out} : guardQ (some (.bool true)) true r = r := rfl
theorem guardQ_ff {r : Option Out} : guardQ (some (.bool false)) false r = r := rfl
theorem guardQ_tf {r : Option Out} : guardQ (some (.bool true)) false r = some (.skip .none) := rfl
theorem guardQ_ft {r : Option Out} : guardQ (some (.bool false)) true r = some (.skip .none) := rfl
theorem guardQ_skip {r : Option Out} {w : Bool} : guardQ (some (.tuple [])) w r = some (.skip .none) := rfl

/-- A call's outcome, and what is asked of it. -/
def CallQ (K : AV → T AObj → Nat → Prop) : Option (AV × T AObj × Nat) → Prop
  | some (x, g, n) => K x g n
  | none => False
def stepK (P : Program) (call : CallT) (nt : Nat) (ops : Array Oper) (dst : Option Tmp) (os : List Oper) (tm : T AV) (mks : List Nat) (R : St → Prop) (x : AV) (g : T AObj) (n : Nat) : Prop := Steps' P call nt ops os ⟨putT tm dst x, g, n, mks⟩ R
theorem callQ_some {K : AV → T AObj → Nat → Prop} {x : AV} {g : T AObj} {n : Nat} : CallQ K (some (x, g, n)) = K x g n := rfl
theorem stepK_eq {P : Program} {call : CallT} {nt : Nat} {ops : Array Oper} {dst : Option Tmp} {os : List Oper} {tm : T AV} {mks : List Nat} {R : St → Prop} {x : AV} {g : T AObj} {n : Nat} :
    stepK P call nt ops dst os tm mks R x g n = Steps' P call nt ops os ⟨putT tm dst x, g, n, mks⟩ R := rfl
theorem after_call {P : Program} {call : CallT} {nt : Nat} {ops : Array Oper} {dst : Option Tmp} {os : List Oper} {s : St} {R : St → Prop} {f : Tgt} {args : List AV} :
    After P call nt ops dst os s R (some (.call f args)) = CallQ (stepK P call nt ops dst os s.tm s.mks R) (call f args s.g s.n) := by
  apply propext
  constructor
  · rintro ⟨x, g', n', e, h⟩
    rw [e]; exact h
  · intro h
    cases e : call f args s.g s.n with
    | none => rw [e] at h; exact h.elim
    | some r => obtain ⟨x, g', n'⟩ := r; rw [e] at h; exact ⟨x, g', n', e, h⟩
theorem callQ_gives {P : Program} {fuel d f : Nat} {args : List AV} {g : T AObj} {n : Nat} {R : AV → T AObj → Nat → Prop} (h : Gives P fuel d f args g n R) {K : AV → T AObj → Nat → Prop} (hk : ∀ x g' n', R x g' n' → K x g' n') : CallQ K (evFn P fuel d (.fn f) args g n) := by
  obtain ⟨x, g', n', e, r⟩ := h
  rw [e]; exact hk _ _ _ r
theorem opd_func (tm : T AV) (f : Nat) : evOpd tm (.func f) = some (.func f [] []) := rfl

/-- The call of a drawn region. -/
def callD (P : Program) (call : CallT) (ops : Array Oper) (nt : Nat) (bs l : List Nat) (R : DSt → Prop) (tm : T AV) (dst : Option Tmp) (g : T AObj) (done : List DR) (i : Nat) (tr : T AV) (hide : Hid) (x : AV) (gp : T AObj) (n' : Nat) : Prop :=
  (stayed (delAll g hide.w) gp hide.w && stayed (delAll g hide.w) gp hide.f) = true ∧ Draws P call ops nt bs l ⟨putT tm dst x, putBack g gp hide.w, n' + 1, ⟨i, dst, tr, true, [], []⟩ :: done⟩ R
theorem callD_eq {P : Program} {call : CallT} {ops : Array Oper} {nt : Nat} {bs l : List Nat} {R : DSt → Prop} {tm : T AV} {dst : Option Tmp} {g : T AObj} {done : List DR} {i : Nat} {tr : T AV} {hide : Hid} {x : AV} {gp : T AObj} {n' : Nat} :
    callD P call ops nt bs l R tm dst g done i tr hide x gp n' = ((stayed (delAll g hide.w) gp hide.w && stayed (delAll g hide.w) gp hide.f) = true ∧ Draws P call ops nt bs l ⟨putT tm dst x, putBack g gp hide.w, n' + 1, ⟨i, dst, tr, true, [], []⟩ :: done⟩ R) := rfl

/-- An operation's outcome in a drawn region. -/
def drawOut (P : Program) (call : CallT) (ops : Array Oper) (nt : Nat) (bs l : List Nat) (R : DSt → Prop) (i b : Nat) (o : Oper) (tr : T AV) (f : List Nat) (s : DSt) : Option Out → Prop
  | some (.val x e) => okSimple b o.dst tr (f ++ wOf e s.n) (wOf e s.n) s.done = true ∧ Draws P call ops nt bs l ⟨putT s.tm o.dst x, effT e s.g s.n, s.n + 1, ⟨i, o.dst, tr, false, f ++ wOf e s.n, wOf e s.n⟩ :: s.done⟩ R
  | some (.skip e) => okSimple b o.dst tr (f ++ wOf e s.n) (wOf e s.n) s.done = true ∧ Draws P call ops nt bs l ⟨putT s.tm o.dst (.tuple []), effT e s.g s.n, s.n + 1, ⟨i, o.dst, tr, false, f ++ wOf e s.n, wOf e s.n⟩ :: s.done⟩ R
  | some (.call _ _) => ∃ hide fn args, hides b o.dst tr s.done = some hide ∧ evPre P ops tr (delAll s.g hide.w).get s.n o = some (.call fn args) ∧ CallQ (callD P call ops nt bs l R s.tm o.dst s.g s.done i tr hide) (call fn args (delAll s.g hide.w) s.n)
  | none => False
theorem drawOut_eq {P : Program} {call : CallT} {ops : Array Oper} {nt : Nat} {bs l : List Nat} {R : DSt → Prop} {i b : Nat} {o : Oper} {tr : T AV} {f : List Nat} {s : DSt} :
    AfterD P call ops nt bs l R (evDrawOp P call ops i b o tr f s) = drawOut P call ops nt bs l R i b o tr f s (evPre P ops tr (preOf s.g f) s.n o) := by
  apply propext
  cases he : evPre P ops tr (preOf s.g f) s.n o with
  | none =>
    have : evDrawOp P call ops i b o tr f s = none := by simp only [evDrawOp, he]
    rw [this]; exact Iff.rfl
  | some out =>
    cases out with
    | val x e =>
      simp only [drawOut]
      cases hok : okSimple b o.dst tr (f ++ wOf e s.n) (wOf e s.n) s.done with
      | false =>
        have : evDrawOp P call ops i b o tr f s = none := by simp only [evDrawOp, he, hok, cond_false]
        rw [this]; exact ⟨fun h => h.elim, fun h => by cases h.1⟩
      | true =>
        have : evDrawOp P call ops i b o tr f s = some ⟨putT s.tm o.dst x, effT e s.g s.n, s.n + 1, ⟨i, o.dst, tr, false, f ++ wOf e s.n, wOf e s.n⟩ :: s.done⟩ := by simp only [evDrawOp, he, hok, cond_true]
        rw [this]; exact ⟨fun h => ⟨rfl, h⟩, fun h => h.2⟩
    | skip e =>
      simp only [drawOut]
      cases hok : okSimple b o.dst tr (f ++ wOf e s.n) (wOf e s.n) s.done with
      | false =>
        have : evDrawOp P call ops i b o tr f s = none := by simp only [evDrawOp, he, hok, cond_false]
        rw [this]; exact ⟨fun h => h.elim, fun h => by cases h.1⟩
      | true =>
        have : evDrawOp P call ops i b o tr f s = some ⟨putT s.tm o.dst (.tuple []), effT e s.g s.n, s.n + 1, ⟨i, o.dst, tr, false, f ++ wOf e s.n, wOf e s.n⟩ :: s.done⟩ := by simp only [evDrawOp, he, hok, cond_true]
        rw [this]; exact ⟨fun h => ⟨rfl, h⟩, fun h => h.2⟩
    | call fn0 args0 =>
      simp only [drawOut]
      constructor
      · intro h
        unfold evDrawOp at h
        simp only [he] at h
        cases hh : hides b o.dst tr s.done with
        | none => rw [hh] at h; exact h.elim
        | some hide =>
          simp only [hh] at h
          split at h
          rotate_left
          · exact h.elim
          rename_i fn args hp
          refine ⟨hide, fn, args, rfl, hp, ?_⟩
          cases hc : call fn args (delAll s.g hide.w) s.n with
          | none => simp only [hc] at h; exact h.elim
          | some r =>
            obtain ⟨x, gp, n'⟩ := r
            simp only [hc] at h
            cases h4 : (stayed (delAll s.g hide.w) gp hide.w && stayed (delAll s.g hide.w) gp hide.f) with
            | false => rw [h4] at h; exact h.elim
            | true => rw [h4] at h; exact ⟨h4, h⟩
      · rintro ⟨hide, fn, args, h1, h2, h3⟩
        unfold evDrawOp
        simp only [he, h1, h2]
        cases hc : call fn args (delAll s.g hide.w) s.n with
        | none => rw [hc] at h3; exact h3.elim
        | some r =>
          obtain ⟨x, gp, n'⟩ := r
          rw [hc] at h3
          obtain ⟨h4, h5⟩ := h3
          simp only [h4, cond_true]
          exact h5

/-- A call, with what is hidden from it. -/
def drawCall (P : Program) (call : CallT) (ops : Array Oper) (nt : Nat) (bs l : List Nat) (R : DSt → Prop) (i : Nat) (o : Oper) (tr : T AV) (s : DSt) : Option Hid → Prop
  | some hide => drawCall2 P call ops nt bs l R i o tr s hide (evPre P ops tr (delAll s.g hide.w).get s.n o)
  | none => False
where drawCall2 (P : Program) (call : CallT) (ops : Array Oper) (nt : Nat) (bs l : List Nat) (R : DSt → Prop) (i : Nat) (o : Oper) (tr : T AV) (s : DSt) (hide : Hid) : Option Out → Prop
  | some (.call fn args) => CallQ (callD P call ops nt bs l R s.tm o.dst s.g s.done i tr hide) (call fn args (delAll s.g hide.w) s.n)
  | _ => False
theorem drawOut_call {P : Program} {call : CallT} {ops : Array Oper} {nt : Nat} {bs l : List Nat} {R : DSt → Prop} {i b : Nat} {o : Oper} {tr : T AV} {f : List Nat} {s : DSt} {fn0 : Tgt} {args0 : List AV} :
    drawOut P call ops nt bs l R i b o tr f s (some (.call fn0 args0)) = drawCall P call ops nt bs l R i o tr s (hides b o.dst tr s.done) := by
  apply propext
  simp only [drawOut]
  constructor
  · rintro ⟨hide, fn, args, h1, h2, h3⟩
    rw [h1]
    simp only [drawCall, drawCall.drawCall2, h2]
    exact h3
  · intro h
    cases hh : hides b o.dst tr s.done with
    | none => rw [hh] at h; exact h.elim
    | some hide =>
      rw [hh] at h
      simp only [drawCall] at h
      cases hp : evPre P ops tr (delAll s.g hide.w).get s.n o with
      | none => rw [hp] at h; exact h.elim
      | some out =>
        rw [hp] at h
        cases out with
        | val x e => exact h.elim
        | skip e => exact h.elim
        | call fn args => exact ⟨hide, fn, args, rfl, hp, h⟩
theorem drawOut_val {P : Program} {call : CallT} {ops : Array Oper} {nt : Nat} {bs l : List Nat} {R : DSt → Prop} {i b : Nat} {o : Oper} {tr : T AV} {f : List Nat} {s : DSt} {x : AV} {e : Eff} :
    drawOut P call ops nt bs l R i b o tr f s (some (.val x e)) = (okSimple b o.dst tr (f ++ wOf e s.n) (wOf e s.n) s.done = true ∧ Draws P call ops nt bs l ⟨putT s.tm o.dst x, effT e s.g s.n, s.n + 1, ⟨i, o.dst, tr, false, f ++ wOf e s.n, wOf e s.n⟩ :: s.done⟩ R) := rfl
theorem drawOut_skip {P : Program} {call : CallT} {ops : Array Oper} {nt : Nat} {bs l : List Nat} {R : DSt → Prop} {i b : Nat} {o : Oper} {tr : T AV} {f : List Nat} {s : DSt} {e : Eff} :
    drawOut P call ops nt bs l R i b o tr f s (some (.skip e)) = (okSimple b o.dst tr (f ++ wOf e s.n) (wOf e s.n) s.done = true ∧ Draws P call ops nt bs l ⟨putT s.tm o.dst (.tuple []), effT e s.g s.n, s.n + 1, ⟨i, o.dst, tr, false, f ++ wOf e s.n, wOf e s.n⟩ :: s.done⟩ R) := rfl
theorem drawCall_some {P : Program} {call : CallT} {ops : Array Oper} {nt : Nat} {bs l : List Nat} {R : DSt → Prop} {i : Nat} {o : Oper} {tr : T AV} {s : DSt} {hide : Hid} :
    drawCall P call ops nt bs l R i o tr s (some hide) = drawCall.drawCall2 P call ops nt bs l R i o tr s hide (evPre P ops tr (delAll s.g hide.w).get s.n o) := rfl
theorem drawCall2_call {P : Program} {call : CallT} {ops : Array Oper} {nt : Nat} {bs l : List Nat} {R : DSt → Prop} {i : Nat} {o : Oper} {tr : T AV} {s : DSt} {hide : Hid} {fn : Tgt} {args : List AV} :
    drawCall.drawCall2 P call ops nt bs l R i o tr s hide (some (.call fn args)) = CallQ (callD P call ops nt bs l R s.tm o.dst s.g s.done i tr hide) (call fn args (delAll s.g hide.w) s.n) := rfl

theorem effT_new (o : AObj) (g : T AObj) (n : Nat) : effT (.new o) g n = T.set o g n := rfl
theorem effT_wr (i : Nat) (o : AObj) (g : T AObj) (n : Nat) : effT (.wr i o) g n = T.set o g i := rfl
theorem effT_mv (i : Nat) (o : AObj) (g : T AObj) (n : Nat) : effT (.mv i o) g n = T.set o (g.del i) n := rfl
theorem next_new (o : AObj) (n : Nat) : Eff.next (.new o) n = n + 1 := rfl
theorem next_wr (i : Nat) (o : AObj) (n : Nat) : Eff.next (.wr i o) n = n := rfl
theorem next_mv (i : Nat) (o : AObj) (n : Nat) : Eff.next (.mv i o) n = n + 1 := rfl
theorem opd_nil (tm : T AV) : evOpd tm (.const (.slice none 0 0)) = some .nilSlice := rfl
theorem asn_parts_nil (tm : T AV) : evParts tm [] = some [] := rfl

/-- A function's results, and what is asked of them. -/
def ResQ (R : AV → T AObj → Nat → Prop) (g : T AObj) (n : Nat) : Option (List AV) → Prop
  | some xs => R (tup xs) g n
  | none => False
theorem resQ_some {R : AV → T AObj → Nat → Prop} {g : T AObj} {n : Nat} {xs : List AV} : ResQ R g n (some xs) = R (tup xs) g n := rfl
theorem endQ_ret {P : Program} {fn : Func} {R : AV → T AObj → Nat → Prop} {tm : T AV} {g : T AObj} {n : Nat} :
    endQ P fn R .ret ⟨tm, g, n, []⟩ = ResQ R g n (evResults P ⟨tm, g, n, []⟩ fn.results.toList) := by
  simp only [endQ, endMarks]
  cases h : evResults P ⟨tm, g, n, []⟩ fn.results.toList with
  | none => simp [ResQ, h]
  | some xs => simp [ResQ, h]
theorem endQ_normal {P : Program} {fn : Func} {R : AV → T AObj → Nat → Prop} {tm : T AV} {g : T AObj} {n : Nat} :
    endQ P fn R .normal ⟨tm, g, n, []⟩ = ResQ R g n (evResults P ⟨tm, g, n, []⟩ fn.results.toList) := by
  simp only [endQ, endMarks]
  cases h : evResults P ⟨tm, g, n, []⟩ fn.results.toList with
  | none => simp [ResQ, h]
  | some xs => simp [ResQ, h]
/-- The same with the results' list at hand. -/
def endR (P : Program) (rs : List ResultVar) (R : AV → T AObj → Nat → Prop) : Ex → St → Prop
  | .exit _, _ => False
  | _, s => ∃ g' xs, endMarks s.mks s.g = some g' ∧ evResults P ⟨s.tm, g', s.n, []⟩ rs = some xs ∧ R (tup xs) g' s.n
theorem gives_ends {P : Program} {fuel d f : Nat} {args : List AV} {g : T AObj} {n : Nat} {R : AV → T AObj → Nat → Prop} {fn : Func} {c : Code} (nt : Nat) (rs : List ResultVar) (hf : P.funcs[f]? = some fn) (hb : fn.body = some c)
    (hnt : args.length + (fn.ntmps - args.length) = nt) (hrs : fn.results.toList = rs)
    (h : Ends P (evFn P fuel d) nt fuel none c ⟨fillT args 0, g, n, []⟩ (endR P rs R)) : Gives P fuel (d + 1) f args g n R := by
  subst hnt hrs
  refine gives_of_ends hf hb ?_
  obtain ⟨ex, s, e, q⟩ := h
  refine ⟨ex, s, e, ?_⟩
  cases ex with
  | exit id => exact q
  | normal => exact q
  | ret => exact q
theorem endR_ret {P : Program} {rs : List ResultVar} {R : AV → T AObj → Nat → Prop} {tm : T AV} {g : T AObj} {n : Nat} :
    endR P rs R .ret ⟨tm, g, n, []⟩ = ResQ R g n (evResults P ⟨tm, g, n, []⟩ rs) := by
  simp only [endR, endMarks]
  cases h : evResults P ⟨tm, g, n, []⟩ rs with
  | none => simp [ResQ, h]
  | some xs => simp [ResQ, h]
theorem tup_one (x : AV) : tup [x] = x := rfl
theorem tup_two (x y : AV) : tup [x, y] = .tuple [x, y] := rfl
theorem tup_three (x y z : AV) : tup [x, y, z] = .tuple [x, y, z] := rfl

/-- A call, by its contract. -/
theorem call_gives {P : Program} {fuel d f : Nat} {args : List AV} {g : T AObj} {n : Nat} {R : AV → T AObj → Nat → Prop} (h : Gives P fuel d f args g n R) {K : AV → T AObj → Nat → Prop} (hk : ∀ x g' n', R x g' n' → K x g' n') :
    ∃ x g' n', evFn P fuel d (.fn f) args g n = some (x, g', n') ∧ K x g' n' :=
  let ⟨x, g', n', e, r⟩ := h; ⟨x, g', n', e, hk _ _ _ r⟩

/-- Loads through a place that may be read. -/
theorem evLoad_rd {P : Program} {g : AHeap} {t : TypeId} {id o sz : Nat} {data : List AV} (h : Rd (g id) sz data) (ha : aggT P t = some false) : evLoad P g t (.ptr id o) = data[o]? := by
  rcases h with h | h <;> simp only [evLoad, h, ha]
theorem evLoad_rd_agg {P : Program} {g : AHeap} {t : TypeId} {id o s sz : Nat} {data : List AV} (h : Rd (g id) sz data) (ha : aggT P t = some true) (hs : sizeT P t = some s) :
    evLoad P g t (.ptr id o) = bif Nat.ble (o + s) data.length then some (.agg ((data.drop o).take s)) else none := by
  rcases h with h | h <;> simp only [evLoad, h, ha, hs]
theorem evNews_rd {g : AHeap} {id off len s sz sz' : Nat} {cap : Option Nat} {data : List AV} (h : Rd (g id) sz' data) :
    evNews g sz (.slice id off len cap s) = bif Nat.beq s sz && Nat.ble ((off + len) * sz) data.length then some ((data.drop (off * sz)).take (len * sz), len, [id]) else none := by
  rcases h with h | h <;> simp only [evNews, h]
theorem Rd.cells {sz : Nat} {data : List AV} : Rd (some (.cells sz data)) sz data := .inl rfl

end Go.Ev

/-! Ev: a function whose calls are answered by summaries. -/
namespace Go.Ev
open Go

section
variable {P : Program} {call : CallT} {fuel f : Nat} {args : List AV} {g g' : T AObj} {n n' : Nat} {x : AV}

theorem body_le (ihl : CallLe call) (ihc : CallOk P call) (h : evBody P call fuel f args g n = some (x, g', n')) : n ≤ n' := by
  obtain ⟨fn, c, ex, s, xs, _, _, hc, _, _, _, _, rfl⟩ := evBody_eq h
  exact evCode_le ihl ihc c _ _ _ hc

theorem body_sound (hm : P.follows .mixedOrders = true) (ihl : CallLe call) (ihc : CallOk P call) (h : evBody P call fuel f args g n = some (x, g', n')) {ι : Inj} {w : World} {vs : Array Value} (hh : HRel g.get ι w) (hf : ∀ id, n ≤ id → id ≤ n' → ι id = none) (hv : VRels ι args vs.toList) :
    CallsIn Fence.wide 0 P f vs w (fun e w' => ∃ v ι', e = .returned v ∧ VRel ι' x v ∧ Post g.get g'.get n n' ι ι' w w') := by
  obtain ⟨fn, c, ex, s, xs, hfn, hb, hc, hex, hmk, hxs, rfl, rfl⟩ := evBody_eq h
  refine callsIn_of_wp_marks hfn hb trivial ?_
  refine evCode_sound hm ihl ihc c _ _ _ hc _ none _ ι w rfl rfl (enter_rel hv fn.ntmps) hh hf fun a' w' ι' hp ht' hm' => ?_
  have hfin : LeavesInM Fence.wide 0 P fn a'.tmps (fun e w' => ∃ v ι', e = .returned v ∧ VRel ι' (tup xs) v ∧ Post g.get g'.get n s.n ι ι' w w') a'.defers .returning w' := by
    refine endMarks_run s.n s.mks a'.defers w' s.g g' hm' hp.rel hmk fun w'' hp' => ?_
    obtain ⟨us, h1, h2⟩ := evResults_run (s := ⟨s.tm, g', s.n, []⟩) ht' hp'.rel fn.results.toList xs hxs
    refine ⟨_, ?_, _, ι', rfl, tup_rel h2, hp.trans hp'⟩
    simp only [results_eq, Array.mapM_eq_mapM_toList, Sem.run_bind, Sem.run_map, h1, Result.andThen_ok, Sem.run_pure]
  rcases hex with rfl | rfl
  · exact hfin
  · exact hfin

/-- Calls of function a without arguments answer true; all others as the evaluator says. -/
def callA (P : Program) (a fuel d : Nat) : CallT := fun t args g n =>
  match t with
  | .fn f => bif Nat.beq f a then (match args with | [] => some (.bool true, g, n) | _ => none) else evFn P fuel d (.fn f) args g n
  | .yield l => evFn P fuel d (.yield l) args g n

theorem callA_le (hm : P.follows .mixedOrders = true) (a fuel d : Nat) : CallLe (callA P a fuel d) := by
  intro t args g n x g' n' h
  cases t with
  | fn f =>
    simp only [callA] at h
    cases hb : Nat.beq f a with
    | true =>
      rw [hb] at h
      cases args with
      | nil => simp only [cond_true, Option.some.injEq, Prod.mk.injEq] at h; omega
      | cons _ _ => cases h
    | false => rw [hb] at h; exact (evFn_both hm fuel d).1 _ _ _ _ _ _ _ h
  | yield l => exact (evFn_both hm fuel d).1 _ _ _ _ _ _ _ h

theorem callA_ok (hm : P.follows .mixedOrders = true) {a fuelA dA : Nat} (ha : isTrue (evFn P fuelA dA (.fn a) [] .lf 0) = true) (fuel d : Nat) : CallOk P (callA P a fuel d) := by
  intro t args g n x g' n' h ι w vs hh hf hv
  cases t with
  | yield l => exact (evFn_both hm fuel d).2 _ _ _ _ _ _ _ h ι w vs hh hf hv
  | fn f =>
    simp only [callA] at h
    cases hb : Nat.beq f a with
    | false => rw [hb] at h; exact (evFn_both hm fuel d).2 _ _ _ _ _ _ _ h ι w vs hh hf hv
    | true =>
      rw [hb] at h
      cases args with
      | cons _ _ => cases h
      | nil =>
        simp only [cond_true, Option.some.injEq, Prod.mk.injEq] at h
        obtain ⟨rfl, rfl, rfl⟩ := h
        have hfa : f = a := beqT.1 hb
        subst hfa
        unfold isTrue at ha
        split at ha
        rotate_left
        · cases ha
        rename_i gA nA he
        have hh0 : HRel (T.lf : T AObj).get (fun _ => none) w := ⟨fun id o ho => by simp at ho, fun i j oi oj p q hi => by simp at hi⟩
        have hv0 : vs.toList = [] := by simpa [VRels] using hv
        have hc : CallsIn Fence.wide 0 P f vs w _ := (evFn_both hm fuelA dA).2 (.fn f) [] .lf 0 _ gA nA he (fun _ => none) w vs hh0 (fun _ _ _ => rfl) (by rw [hv0]; simp [VRels])
        refine CallsIn.mono hc fun e w' hq => ?_
        obtain ⟨v, ι', rfl, hx, hp⟩ := hq
        have keep : ∀ b, b < w.heap.size → w'.heap[b]? = w.heap[b]? := fun b hb => hp.frame b hb fun id o p ho => by simp at ho
        refine ⟨v, ι, rfl, by simpa [VRel] using hx, Nat.le_refl _, Ext.refl _, fun _ _ => rfl, ⟨fun id o ho => ?_, hh.apart⟩, hp.size, fun b hb _ => keep b hb, fun id o p ho hp => .inr ⟨id, o, p, ho, fun e => e, hp, rfl⟩, hp.os, hp.out⟩
        obtain ⟨p, h1, h2⟩ := hh.obj id o ho
        exact ⟨p, h1, h2.ext (Ext.refl _) (keep _ h2.there)⟩

/-- A function's contract out of its body, its calls answered so. -/
theorem body_ends {P : Program} {call : CallT} {fuel f : Nat} {args : List AV} {g : T AObj} {n : Nat} {R : AV → T AObj → Nat → Prop} {fn : Func} {c : Code} (nt : Nat) (rs : List ResultVar) (hf : P.funcs[f]? = some fn) (hb : fn.body = some c)
    (hnt : args.length + (fn.ntmps - args.length) = nt) (hrs : fn.results.toList = rs)
    (h : Ends P call nt fuel none c ⟨fillT args 0, g, n, []⟩ (endR P rs R)) : ∃ x g' n', evBody P call fuel f args g n = some (x, g', n') ∧ R x g' n' := by
  subst hnt hrs
  obtain ⟨ex, s, e, q⟩ := h
  cases ex with
  | exit id => exact q.elim
  | normal =>
    obtain ⟨g', xs, h1, h2, h3⟩ := q
    exact ⟨tup xs, g', s.n, by simp only [evBody, hf, hb, e, h1, h2], h3⟩
  | ret =>
    obtain ⟨g', xs, h1, h2, h3⟩ := q
    exact ⟨tup xs, g', s.n, by simp only [evBody, hf, hb, e, h1, h2], h3⟩
end

end Go.Ev
