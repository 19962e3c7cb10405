/- PART OF THE PROOF OF KindBudget's CARD. An evaluated operation does what the model's does, and regions that draw their order end alike in every order. -/
import Derived.Test.YtkbdclogklaeaaaGreatDoorEvC
import Derived.OrdersIn
import Derived.RangeFuncLeaves
set_option linter.unusedSimpArgs false
set_option linter.unusedVariables false

/-! Ev: one operation, all kinds. -/
namespace Go.Ev
open Go

def evUn (P : Program) (op : UnOp) (x : AV) : Option AV :=
  match x with
  | .bool b => match op with | .not => some (.bool (!b)) | _ => none
  | .int k a => evPure P (Op.unary op (.int k a))
  | _ => none

theorem evUn_sim {P : Program} {op : UnOp} {x z : AV} (h : evUn P op x = some z) {g : AHeap} {n : Nat} {ι : Inj} {w : World} (k : HRel g ι w) {v : Value} (hx : VRel ι x v) : Sim P (Op.unary op v) g n z .none ι w := by
  unfold evUn at h
  split at h
  · rename_i b
    split at h
    · simp only [Option.some.injEq] at h
      subst h
      simp only [VRel] at hx
      subst hx
      exact Sim.pure k (.bool (!b)) (by simp [Op.unary]) (by simp [VRel])
    · cases h
  · simp only [VRel] at hx
    subst hx
    exact evPure_sim h k
  · cases h

def evConvert (P : Program) (s d : TypeId) (x : AV) : Option AV :=
  match x with
  | .int k a => evPure P (convert s d (.int k a))
  | _ => none

theorem evConvert_sim {P : Program} {s d : TypeId} {x z : AV} (h : evConvert P s d x = some z) {g : AHeap} {n : Nat} {ι : Inj} {w : World} (k : HRel g ι w) {v : Value} (hx : VRel ι x v) : Sim P (convert s d v) g n z .none ι w := by
  unfold evConvert at h
  split at h
  · simp only [VRel] at hx
    subst hx
    exact evPure_sim h k
  · cases h

def evIface (P : Program) (t : TypeId) (x : AV) : Option AV :=
  match P.underlying t with
  | some (.interface _) => none
  | some _ => some (.iface t x)
  | none => none

theorem evIface_sim {P : Program} {t : TypeId} {x z : AV} (h : evIface P t x = some z) {g : AHeap} {n : Nat} {ι : Inj} {w : World} (k : HRel g ι w) {v : Value} (hx : VRel ι x v) : Sim P (Instr.makeInterface t v) g n z .none ι w := by
  unfold evIface at h
  split at h
  · cases h
  · rename_i d hne hu
    simp only [Option.some.injEq] at h
    subst h
    refine Sim.pure k (.iface t v) ?_ (by simp only [VRel]; exact ⟨v, rfl, hx⟩)
    cases d <;> (try exact absurd rfl (hne _)) <;> simp [Instr.makeInterface, run_underlying hu]
  · cases h

def evAssert (P : Program) (x : AV) (t : TypeId) (ok : Bool) : Option AV :=
  match P.underlying t with
  | some (.interface _) => none
  | some _ =>
    match x with
    | .iface d y =>
      bif Nat.beq d t then some (bif ok then .tuple [y, .bool true] else y)
      else bif ok then (match zeroT P t with | some z => some (.tuple [z, .bool false]) | none => none) else none
    | .nilIface => bif ok then (match zeroT P t with | some z => some (.tuple [z, .bool false]) | none => none) else none
    | _ => none
  | none => none

theorem pair_rel {ι : Inj} {x y : AV} {v u : Value} (hx : VRel ι x v) (hy : VRel ι y u) : VRel ι (.tuple [x, y]) (.tuple #[v, u]) := by
  simp only [VRel]
  exact ⟨_, rfl, by simp only [VRels]; exact ⟨_, _, rfl, hx, _, _, rfl, hy, rfl⟩⟩

theorem evAssert_sim {P : Program} {x z : AV} {s t : TypeId} {ok : Bool} (h : evAssert P x t ok = some z) {g : AHeap} {n : Nat} {ι : Inj} {w : World} (k : HRel g ι w) {v : Value} (hx : VRel ι x v) : Sim P (Instr.typeAssert v s t ok) g n z .none ι w := by
  unfold evAssert at h
  split at h
  · cases h
  · rename_i d hne hu
    split at h
    · rename_i dt y
      simp only [VRel] at hx
      obtain ⟨u, rfl, hy⟩ := hx
      cases hb : Nat.beq dt t with
      | true =>
        rw [hb] at h
        rw [beqT] at hb
        subst hb
        simp only [cond_true, Option.some.injEq] at h
        subst h
        cases ok with
        | true =>
          refine Sim.pure k (.tuple #[u, .bool true]) ?_ (pair_rel hy (by simp [VRel]))
          cases d <;> (try exact absurd rfl (hne _)) <;> simp [Instr.typeAssert, run_underlying hu]
        | false =>
          refine Sim.pure k u ?_ hy
          cases d <;> (try exact absurd rfl (hne _)) <;> simp [Instr.typeAssert, run_underlying hu]
      | false =>
        rw [hb] at h
        rw [beqF] at hb
        simp only [cond_false] at h
        cases ok with
        | false => cases h
        | true =>
          simp only [cond_true] at h
          split at h
          rotate_left
          · cases h
          rename_i zz hz
          simp only [Option.some.injEq] at h
          subst h
          obtain ⟨zv, z1, z2⟩ := zeroT_run hz ι w
          refine Sim.pure k (.tuple #[zv, .bool false]) ?_ (pair_rel z2 (by simp [VRel]))
          cases d <;> (try exact absurd rfl (hne _)) <;> simp [Instr.typeAssert, run_underlying hu, hb, z1]
    · simp only [VRel] at hx
      subst hx
      cases ok with
      | false => cases h
      | true =>
        simp only [cond_true] at h
        split at h
        rotate_left
        · cases h
        rename_i zz hz
        simp only [Option.some.injEq] at h
        subst h
        obtain ⟨zv, z1, z2⟩ := zeroT_run hz ι w
        refine Sim.pure k (.tuple #[zv, .bool false]) ?_ (pair_rel z2 (by simp [VRel]))
        cases d <;> (try exact absurd rfl (hne _)) <;> simp [Instr.typeAssert, run_underlying hu, z1]
    · cases h
  · cases h

def evExtract (x : AV) (i : Nat) : Option AV :=
  match x with
  | .tuple vs => vs[i]?
  | _ => none

theorem evExtract_sim {P : Program} {x z : AV} {i : Nat} (h : evExtract x i = some z) {g : AHeap} {n : Nat} {ι : Inj} {w : World} (k : HRel g ι w) {v : Value} (hx : VRel ι x v) : Sim P (Instr.extract v i) g n z .none ι w := by
  unfold evExtract at h
  split at h
  · simp only [VRel] at hx
    obtain ⟨xs, rfl, hr⟩ := hx
    obtain ⟨u, hu, hz⟩ := hr.get h
    refine Sim.pure k u ?_ hz
    have : xs[i]? = some u := by simpa using hu
    simp [Instr.extract, this]
  · cases h

def evNilCheck (x : AV) : Option AV :=
  match x with
  | .ptr a b => some (.ptr a b)
  | .func f a b => some (.func f a b)
  | .yield l => some (.yield l)
  | _ => none

/-! ### Built-in functions -/
def evLen (P : Program) (g : AHeap) (t : TypeId) (x : AV) : Option AV :=
  match P.underlying t, x with
  | some .string, .str s => some (.int .i64 (s.length : Int))
  | some (.array n _), _ => some (.int .i64 (n : Int))
  | some (.slice _), .slice _ _ len _ _ => some (.int .i64 (len : Int))
  | some (.slice _), .nilSlice => some (.int .i64 ((0 : Nat) : Int))
  | some (.map _ _), .nilMap => some (.int .i64 ((0 : Nat) : Int))
  | some (.map _ _), .map id => match g id with | some (.map es _) => some (.int .i64 (es.length : Int)) | _ => none
  | _, _ => none

theorem evLen_sim {P : Program} {g : AHeap} {t ty : TypeId} {x z : AV} (h : evLen P g t x = some z) {n : Nat} {ι : Inj} {w : World} (k : HRel g ι w) {v : Value} (hx : VRel ι x v) (ts : Array TypeId) (ht : ts[0]? = some t) : Sim P (Builtin.len_ ts ty #[v]) g n z .none ι w := by
  unfold evLen at h
  split at h
  · rename_i s hu
    simp only [Option.some.injEq] at h; subst h
    simp only [VRel] at hx
    rw [hx.1]
    exact Sim.pure k (goInt (bytesOf s).size) (by simp [Builtin.len_, ht, run_underlying hu]) (by simp [VRel, goInt, bytesOf_size])
  · rename_i m e hu
    simp only [Option.some.injEq] at h; subst h
    exact Sim.pure k (goInt m) (by simp [Builtin.len_, ht, run_underlying hu]) (by simp [VRel, goInt])
  · rename_i e id off len cap sz hu
    simp only [Option.some.injEq] at h; subst h
    simp only [VRel] at hx
    obtain ⟨p, a, c, _, rfl, _⟩ := hx
    exact Sim.pure k (goInt len) (by simp [Builtin.len_, ht, run_underlying hu]) (by simp [VRel, goInt])
  · rename_i e hu
    simp only [Option.some.injEq] at h; subst h
    simp only [VRel] at hx
    subst hx
    exact Sim.pure k (goInt (0 : Nat)) (by simp [Builtin.len_, ht, run_underlying hu]) (by simp [VRel, goInt])
  · rename_i a b hu
    simp only [Option.some.injEq] at h; subst h
    simp only [VRel] at hx
    subst hx
    exact Sim.pure k (goInt 0) (by simp [Builtin.len_, ht, run_underlying hu]) (by simp [VRel, goInt])
  · rename_i a b id hu
    split at h
    · rename_i es clock hg
      simp only [Option.some.injEq] at h; subst h
      obtain ⟨p, ms, hp, hb, hl, hr⟩ := mapAt k hg
      simp only [VRel] at hx
      obtain ⟨q, hq, rfl⟩ := hx
      obtain rfl : q = p := by rw [hp] at hq; exact (Option.some.inj hq).symm
      exact Sim.pure k (goInt ms.size) (by simp [Builtin.len_, ht, run_underlying hu, Go.MapKept.run_getObj_map hb]) (by simp only [VRel, goInt]; rw [show ms.size = es.length by simpa using hl])
    · cases h
  · cases h

/-- Values of no memory, all. -/
def toValues : List AV → Option (List Value)
  | [] => some []
  | x :: xs => match toValue x with | some v => (match toValues xs with | some vs => some (v :: vs) | none => none) | none => none

theorem toValues_rel {ι : Inj} : ∀ (xs : List AV) (us vs : List Value), VRels ι xs vs → toValues xs = some us → vs = us
  | [], us, vs, h, k => by simp only [toValues, Option.some.injEq] at k; subst k; simpa [VRels] using h
  | x :: xs, us, vs, h, k => by
    simp only [VRels] at h
    obtain ⟨v, ws, rfl, h1, h2⟩ := h
    simp only [toValues] at k
    split at k
    rotate_left
    · cases k
    rename_i u hu
    split at k
    rotate_left
    · cases k
    rename_i us' hus
    simp only [Option.some.injEq] at k
    subst k
    rw [toValue_rel h1 hu, toValues_rel xs us' ws h2 hus]

/-- What is called: a function, or the round of a loop over a function. -/
inductive Tgt where
  | fn (f : Nat)
  | yield (l : Nat)

inductive Out where
  | val (x : AV) (e : Eff)
  | skip (e : Eff)
  | call (f : Tgt) (args : List AV)

def evMin (P : Program) (mx : Bool) (args : List AV) : Option AV :=
  match toValues args with
  | some vs => bif mx then evPure P (Builtin.max_ #[] 0 vs.toArray) else evPure P (Builtin.min_ #[] 0 vs.toArray)
  | none => none

def evBuiltin (P : Program) (g : AHeap) (n : Nat) (b : Builtin) (ts : List TypeId) (args : List AV) : Option Out :=
  match b with
  | .append => match ts, args with
    | [t, t2], [s, x] => match evApp P g n t t2 s x with | some (y, _, e) => some (.val y e) | none => none
    | _, _ => none
  | .delete => match ts, args with
    | [t, _], [m, i] => match evDelete P g t m i with | some e => some (.val (.tuple []) e) | none => none
    | _, _ => none
  | .len => match ts, args with
    | t :: _, [x] => match evLen P g t x with | some y => some (.val y .none) | none => none
    | _, _ => none
  | .min => match evMin P false args with | some y => some (.val y .none) | none => none
  | .max => match evMin P true args with | some y => some (.val y .none) | none => none
  | _ => none

/-- What an operation's outcome says of its run. -/
def OutSim (P : Program) (s : Sem Next) (g : AHeap) (n : Nat) (ι : Inj) (w : World) : Out → Prop
  | .val x e => ∃ v w' ι', s.run P w = .ok (.value v) w' ∧ VRel ι' x v ∧ Post g (e.apply g n) n (e.next n) ι ι' w w'
  | .skip e => ∃ w' ι', s.run P w = .ok .skip w' ∧ Post g (e.apply g n) n (e.next n) ι ι' w w'
  | .call (.fn f) args => ∃ vs, s.run P w = .ok (.enter f vs) w ∧ VRels ι args vs.toList
  | .call (.yield l) args => ∃ vs p, ι l = some p ∧ s.run P w = (Instr.yield p.blk vs).run P w ∧ VRels ι args vs.toList

theorem OutSim.val {P : Program} {s : Sem Value} {g : AHeap} {n : Nat} {ι : Inj} {w : World} {x : AV} {e : Eff} (h : Sim P s g n x e ι w) : OutSim P (do pure (.value (← s))) g n ι w (.val x e) := by
  obtain ⟨v, w', ι', r, q⟩ := h
  exact ⟨v, w', ι', by simp [r], q⟩

theorem OutSim.skip {P : Program} {s : Sem Unit} {g : AHeap} {n : Nat} {ι : Inj} {w : World} {e : Eff} (h : SimU P s g n e ι w) : OutSim P (do s; pure .skip) g n ι w (.skip e) := by
  obtain ⟨w', ι', r, q⟩ := h
  exact ⟨w', ι', by simp [r], q⟩

theorem two {ι : Inj} {x y : AV} {vs : Array Value} (h : VRels ι [x, y] vs.toList) : ∃ v u, vs = #[v, u] ∧ VRel ι x v ∧ VRel ι y u := by
  simp only [VRels] at h
  obtain ⟨v, ws, h1, h2, u, us, h3, h4, h5⟩ := h
  subst h5; subst h3
  exact ⟨v, u, by apply Array.toList_inj.1; rw [h1], h2, h4⟩

theorem one {ι : Inj} {x : AV} {vs : Array Value} (h : VRels ι [x] vs.toList) : ∃ v, vs = #[v] ∧ VRel ι x v := by
  simp only [VRels] at h
  obtain ⟨v, ws, h1, h2, h5⟩ := h
  subst h5
  exact ⟨v, by apply Array.toList_inj.1; rw [h1], h2⟩

theorem evMin_sim {P : Program} {mx : Bool} {args : List AV} {z : AV} (h : evMin P mx args = some z) {g : AHeap} {n : Nat} {ι : Inj} {w : World} (k : HRel g ι w) {vs : Array Value} (hv : VRels ι args vs.toList) (ts : Array TypeId) (ty : TypeId) :
    Sim P (if mx then Builtin.max_ ts ty vs else Builtin.min_ ts ty vs) g n z .none ι w := by
  unfold evMin at h
  split at h
  rotate_left
  · cases h
  rename_i us hus
  have := toValues_rel args us _ hv hus
  have e : vs = us.toArray := by rw [← this]
  subst e
  cases mx
  · exact evPure_sim h k
  · exact evPure_sim h k

theorem evBuiltin_sim {P : Program} {g : AHeap} {n : Nat} {b : Builtin} {ts : Array TypeId} {args : List AV} {o : Out} (h : evBuiltin P g n b ts.toList args = some o) {ι : Inj} {w : World} (k : HRel g ι w) (hn : ι n = none)
    {vs : Array Value} (hv : VRels ι args vs.toList) (ty : TypeId) (cs : Array Bool) : OutSim P (builtin b ts ty cs vs) g n ι w o := by
  unfold evBuiltin at h
  split at h
  · split at h
    rotate_left
    · cases h
    rename_i t t2 s x hts
    split at h
    rotate_left
    · cases h
    rename_i y rd e he
    simp only [Option.some.injEq] at h
    subst h
    obtain ⟨v, u, rfl, h1, h2⟩ := two hv
    have hts' : ts = #[t, t2] := by apply Array.toList_inj.1; rw [hts]
    subst hts'
    exact OutSim.val (evApp_sim he k hn h1 h2)
  · split at h
    rotate_left
    · cases h
    rename_i t t2 s x hts
    split at h
    rotate_left
    · cases h
    rename_i e he
    simp only [Option.some.injEq] at h
    subst h
    obtain ⟨v, u, rfl, h1, h2⟩ := two hv
    have hts' : ts = #[t, t2] := by apply Array.toList_inj.1; rw [hts]
    subst hts'
    exact OutSim.val (evDelete_sim he k h1 h2)
  · split at h
    rotate_left
    · cases h
    rename_i t tl x hts
    split at h
    rotate_left
    · cases h
    rename_i y he
    simp only [Option.some.injEq] at h
    subst h
    obtain ⟨v, rfl, h1⟩ := one hv
    exact OutSim.val (evLen_sim he k h1 ts (by rw [← Array.getElem?_toList, hts]; rfl))
  · split at h
    rotate_left
    · cases h
    rename_i y he
    simp only [Option.some.injEq] at h
    subst h
    exact OutSim.val (evMin_sim he k hv ts ty)
  · split at h
    rotate_left
    · cases h
    rename_i y he
    simp only [Option.some.injEq] at h
    subst h
    exact OutSim.val (evMin_sim he k hv ts ty)
  · cases h

/-! ### Calls -/
/-- A function of the program's own, with a body. -/
def callOk (P : Program) (f : Nat) : Bool :=
  match P.funcs[f]? with
  | some fn => bif fn.name == "runtime.NumGoroutine" then false else fn.body.isSome
  | none => false

theorem callOk_run {P : Program} {f : Nat} (h : callOk P f = true) (args : Array Value) (w : World) : (callFunc f args).run P w = .ok (.enter f args) w := by
  unfold callOk at h
  split at h
  · rename_i fn hf
    cases hn : fn.name == "runtime.NumGoroutine" with
    | true => rw [hn] at h; cases h
    | false =>
      rw [hn] at h
      simp only [cond_false] at h
      have hb : fn.body.isNone = false := by cases hb : fn.body <;> simp_all
      simp only [callFunc, Sem.run_bind, run_program, Result.andThen_ok, hf, hn, hb, Bool.false_eq_true, if_false]
      rfl
  · cases h

/-- The method that an interface value names, and its receiver. -/
def evMethod (P : Program) (g : AHeap) (t : TypeId) (v : AV) (name : String) : Option (Nat × AV) :=
  match P.info? t with
  | some ti =>
    match ti.methods.find? (fun m => m.name == name) with
    | some m =>
      bif m.path.isEmpty then
        match m.func with
        | some (f, pr) =>
          match P.underlying t with
          | some (.pointer el) => bif pr then some (f, v) else (match evLoad P g el v with | some x => some (f, x) | none => none)
          | some _ => bif pr then none else some (f, v)
          | none => none
        | none => none
      else none
    | none => none
  | none => none

theorem evMethod_run {P : Program} {g : AHeap} {t : TypeId} {x y : AV} {name : String} {f : Nat} (h : evMethod P g t x name = some (f, y)) {ι : Inj} {w : World} (k : HRel g ι w) {v : Value} (hx : VRel ι x v) (fuel : Nat) :
    ∃ u, (method (fuel + 1) t v name).run P w = .ok (f, u) w ∧ VRel ι y u := by
  unfold evMethod at h
  split at h
  rotate_left
  · cases h
  rename_i ti hti
  split at h
  rotate_left
  · cases h
  rename_i m hm
  cases hp : m.path.isEmpty with
  | false => rw [hp] at h; cases h
  | true =>
    rw [hp] at h
    simp only [cond_true] at h
    have hpath : m.path.toList = [] := by simpa using hp
    split at h
    rotate_left
    · cases h
    rename_i f' pr hf
    have hinfo : (typeInfo t).run P w = .ok ti w := by simp [typeInfo, hti]
    have hstart : ∀ u, (receiverAt t (.val v) pr (some ((name.splitOn ".").getLastD name))).run P w = .ok u w → (method (fuel + 1) t v name).run P w = .ok (f', u) w := by
      intro u hu
      unfold method
      simp only [Sem.run_bind, hinfo, Result.andThen_ok, hm, hpath, follow, Sem.run_pure, hf, hp, if_true, hu]
    split at h
    · rename_i el hu
      cases pr with
      | true =>
        simp only [cond_true, Option.some.injEq, Prod.mk.injEq] at h
        obtain ⟨rfl, rfl⟩ := h
        exact ⟨v, hstart v (by simp [receiverAt, run_underlying hu, Place.get]), hx⟩
      | false =>
        simp only [cond_false] at h
        split at h
        rotate_left
        · cases h
        rename_i z hz
        simp only [Option.some.injEq, Prod.mk.injEq] at h
        obtain ⟨rfl, rfl⟩ := h
        obtain ⟨u, r1, r2⟩ := evLoad_run hz k hx
        refine ⟨u, hstart u ?_, r2⟩
        have hptr : ∃ ad, v = .pointer (some ad) := by
          unfold evLoad at hz
          split at hz
          · simp only [VRel] at hx
            obtain ⟨p, _, e⟩ := hx
            exact ⟨_, e⟩
          · cases hz
        obtain ⟨ad, rfl⟩ := hptr
        have r3 : (loadVar el ad).run P w = .ok u w := by simpa [Instr.loadAt, Instr.sureAddr] using r1
        have hs : ∀ nm, Builtin.ssaWrapNilChk_ #[t] t #[.pointer (some ad), strVal "", strVal nm] = pure (.pointer (some ad)) := fun _ => rfl
        simp [receiverAt, run_underlying hu, Go.Place.get, hs, asAddr, r3]
    · rename_i d hne hu
      cases pr with
      | true => cases h
      | false =>
        simp only [cond_false, Option.some.injEq, Prod.mk.injEq] at h
        obtain ⟨rfl, rfl⟩ := h
        refine ⟨v, hstart v ?_, hx⟩
        cases d <;> (try exact absurd rfl (hne _)) <;> simp [receiverAt, run_underlying hu, Go.Place.get]
    · cases h

def evCall (P : Program) (tm : T AV) (g : AHeap) (n : Nat) (c : Call) : Option Out :=
  match evOpds tm c.args.toList with
  | none => none
  | some args =>
    match c.callee with
    | .value x =>
      match evOpd tm x with
      | some (.func f first caps) => bif callOk P f then some (.call (.fn f) (first ++ args ++ caps)) else none
      | some (.yield l) => some (.call (.yield l) args)
      | _ => none
    | .builtin b => evBuiltin P g n b c.argTypes.toList args
    | .invoke x name =>
      match evOpd tm x with
      | some (.iface t v) =>
        match evMethod P g t v name with
        | some (f, y) => bif callOk P f then some (.call (.fn f) (y :: args)) else none
        | none => none
      | _ => none

theorem evCall_sim {P : Program} {nt : Nat} {tm : T AV} {g : AHeap} {n : Nat} {c : Call} {o : Out} (h : evCall P tm g n c = some o) {ι : Inj} {w : World} (k : HRel g ι w) (hn : ι n = none) {a : Act} (ht : TRel ι nt tm a.tmps) (ty : TypeId) :
    OutSim P (do let d ← resolve a.eval c ty; invoke d.target d.args) g n ι w o := by
  unfold evCall at h
  split at h
  · cases h
  rename_i args hargs
  have hr := evOpds_rel ht _ _ hargs
  have hr' : VRels ι args (c.args.map a.eval).toList := by simpa using hr
  split at h
  · rename_i x hc
    split at h
    · rename_i f first caps hx
      have hv := evOpd_rel ht hx
      simp only [VRel] at hv
      obtain ⟨xs, ys, e, h1, h2⟩ := hv
      cases hok : callOk P f with
      | false => rw [hok] at h; cases h
      | true =>
        rw [hok] at h
        simp only [cond_true, Option.some.injEq] at h
        subst h
        refine ⟨xs ++ c.args.map a.eval ++ ys, ?_, ?_⟩
        · simp [resolve, hc, e, Deferred.ofValue, invoke, callOk_run hok]
        · have := (h1.append hr').append h2
          simpa using this
    · rename_i l hx
      have hv := evOpd_rel ht hx
      simp only [VRel] at hv
      obtain ⟨p, hp, e⟩ := hv
      simp only [Option.some.injEq] at h
      subst h
      exact ⟨c.args.map a.eval, p, hp, by simp [resolve, hc, e, Deferred.ofValue, invoke], hr'⟩
    · cases h
  · rename_i b hc
    have := evBuiltin_sim h k hn hr' ty (c.args.map fun | .const _ => true | _ => false)
    have e : (do let d ← resolve a.eval c ty; invoke d.target d.args : Sem Next).run P w = (builtin b c.argTypes ty (c.args.map fun | .const _ => true | _ => false) (c.args.map a.eval)).run P w := by
      simp [resolve, hc, invoke]
      rfl
    cases o with
    | val x e' => obtain ⟨v, w', ι', r, q⟩ := this; exact ⟨v, w', ι', by rw [e]; exact r, q⟩
    | skip e' => obtain ⟨w', ι', r, q⟩ := this; exact ⟨w', ι', by rw [e]; exact r, q⟩
    | call f args =>
      cases f with
      | fn f => obtain ⟨vs, r, q⟩ := this; exact ⟨vs, by rw [e]; exact r, q⟩
      | yield l => obtain ⟨vs, p, hp, r, q⟩ := this; exact ⟨vs, p, hp, by rw [e]; exact r, q⟩
  · rename_i x name hc
    split at h
    rotate_left
    · cases h
    rename_i t v hx
    split at h
    rotate_left
    · cases h
    rename_i f y hm
    cases hok : callOk P f with
    | false => rw [hok] at h; cases h
    | true =>
      rw [hok] at h
      simp only [cond_true, Option.some.injEq] at h
      subst h
      have hv := evOpd_rel ht hx
      simp only [VRel] at hv
      obtain ⟨u, e, hu⟩ := hv
      obtain ⟨fuel, hfuel⟩ : ∃ k, P.types.size + Made.depth = k + 1 := ⟨P.types.size + Made.depth - 1, by have : 0 < Made.depth := by decide
                                                                                                          omega⟩
      obtain ⟨z, r1, r2⟩ := evMethod_run hm k hu fuel
      refine ⟨#[z] ++ c.args.map a.eval, ?_, ?_⟩
      · have hex : (#[a.eval x] ++ c.args.map a.eval).extract 1 (#[a.eval x] ++ c.args.map a.eval).size = c.args.map a.eval := by
          apply Array.toList_inj.1
          simp only [Array.toList_extract, Array.toList_append, List.extract_eq_take_drop, Array.size_append, Array.size_map]
          simp [List.take_of_length_le]
        have h0 : (#[a.eval x] ++ c.args.map a.eval : Array Value)[0]? = some (a.eval x) := by
          rw [Array.getElem?_append_left (by simp)]
          rfl
        have h1 : resolve a.eval c ty = pure { target := .fn (.method name) #[], args := #[a.eval x] ++ c.args.map a.eval } := by simp only [resolve, hc]
        rw [Sem.run_bind, h1, Sem.run_pure, Result.andThen_ok]
        have h2 : invoke (.fn (.method name) #[]) (#[a.eval x] ++ c.args.map a.eval) = callMethod (a.eval x) name (c.args.map a.eval) := by
          unfold invoke
          simp only [h0, hex]
        show (invoke (.fn (.method name) #[]) (#[a.eval x] ++ c.args.map a.eval)).run P w = _
        rw [h2, e]
        simp only [callMethod, Sem.run_bind, run_program, Result.andThen_ok, hfuel, r1, callOk_run hok]
      · have : VRels ι (y :: args) (z :: (c.args.map a.eval).toList) := by simp only [VRels]; exact ⟨_, _, rfl, r2, hr'⟩
        simpa using this

end Go.Ev

/-! Ev: the operation of a region. -/
namespace Go.Ev
open Go

def ov (x : Option AV) : Option Out := match x with | some y => some (.val y .none) | none => none
def ove (x : Option (AV × Eff)) : Option Out := match x with | some (y, e) => some (.val y e) | none => none
def oe (x : Option Eff) : Option Out := match x with | some e => some (.skip e) | none => none
def ose (x : Option (Nat × Eff)) : Option Out := match x with | some (_, e) => some (.skip e) | none => none

def evOp (P : Program) (tm : T AV) (g : AHeap) (n : Nat) (op : Op) : Option Out :=
  match op with
  | .move x => ov (evOpd tm x)
  | .assign x => ov (evOpd tm x)
  | .pick c a b => match evOpd tm c with
    | some (.bool true) => ov (evOpd tm a)
    | some (.bool false) => ov (evOpd tm b)
    | _ => none
  | .alloc e => ove (evAlloc P n e)
  | .box _ x => match evOpd tm x with | some y => ove (evBox n y.cells) | none => none
  | .build t ps => match evParts tm ps.toList with | some qs => ov (evBuild P t qs) | none => none
  | .buildSlice t len ps => match evParts tm ps.toList with | some qs => ove (evBuildSlice P n t len qs) | none => none
  | .load t a => match evOpd tm a with | some y => ov (evLoad P g t y) | none => none
  | .store t a x => match evOpd tm a, evOpd tm x with | some y, some z => ose (evStore P g t y z) | _, _ => none
  | .nilCheck x => match evOpd tm x with | some y => ov (evNilCheck y) | none => none
  | .binOp op t x y _ => match evOpd tm x, evOpd tm y with | some a, some b => ov (evBin P op t a b) | _, _ => none
  | .unOp op _ x => match evOpd tm x with | some y => ov (evUn P op y) | none => none
  | .convert s d x => match evOpd tm x with | some y => ov (evConvert P s d y) | none => none
  | .makeInterface t x => match evOpd tm x with | some y => ov (evIface P t y) | none => none
  | .makeFunc fn first caps => match fn with
    | .func f => match evOpds tm first.toList, evOpds tm caps.toList with | some a, some b => some (.val (.func f a b) .none) | _, _ => none
    | _ => none
  | .makeMap _ none => some (.val (evMakeMap n).1 (evMakeMap n).2)
  | .makeSlice t l c => match evOpd tm l, evOpd tm c with | some a, some b => ove (evMakeSlice P n t a b) | _, _ => none
  | .slice t x l h m => match evOpd tm x, evOpdO tm l, evOpdO tm h, evOpdO tm m with | some y, some a, some b, some c => ov (evSlice P t y a b c) | _, _, _, _ => none
  | .fieldAddr t x f => match evOpd tm x with | some y => ov (evFieldAddr P t y f) | none => none
  | .field t x f => match evOpd tm x with | some y => ov (evField P t y f) | none => none
  | .indexAddr t x i => match evOpd tm x, evOpd tm i with | some a, some b => ov (evIndexAddr P t a b) | _, _ => none
  | .index t x i => match evOpd tm x, evOpd tm i with | some a, some b => ov (evIndex P t a b) | _, _ => none
  | .lookup t x i ok => match evOpd tm x, evOpd tm i with | some a, some b => ov (evLookup P g t a b ok) | _, _ => none
  | .mapUpdate t m k x => match evOpd tm m, evOpd tm k, evOpd tm x with | some a, some b, some c => oe (evMapUpdate P g t a b c) | _, _, _ => none
  | .insert t m k x => match evOpd tm m, evOpd tm k, evOpd tm x with | some a, some b, some c => oe (evMapUpdate P g t a b c) | _, _, _ => none
  | .mapEntry t m k => match evOpd tm m, evOpd tm k with | some a, some b => ove (evMapEntry P g t a b) | _, _ => none
  | .entryStore _ m s x => match evOpd tm m, evOpd tm s, evOpd tm x with | some a, some b, some c => oe (evEntryStore g a b c) | _, _, _ => none
  | .typeAssert x _ t ok => match evOpd tm x with | some y => ov (evAssert P y t ok) | none => none
  | .extract x i => match evOpd tm x with | some y => ov (evExtract y i) | none => none
  | .call c => evCall P tm g n c
  | _ => none

theorem ov_sim {P : Program} {s : Sem Value} {x : Option AV} {o : Out} (h : ov x = some o) {g : AHeap} {n : Nat} {ι : Inj} {w : World} (hs : ∀ y, x = some y → Sim P s g n y .none ι w) : OutSim P (do pure (.value (← s))) g n ι w o := by
  unfold ov at h
  split at h
  · rename_i y
    simp only [Option.some.injEq] at h
    subst h
    exact OutSim.val (hs y rfl)
  · cases h

theorem ove_sim {P : Program} {s : Sem Value} {x : Option (AV × Eff)} {o : Out} (h : ove x = some o) {g : AHeap} {n : Nat} {ι : Inj} {w : World} (hs : ∀ y e, x = some (y, e) → Sim P s g n y e ι w) : OutSim P (do pure (.value (← s))) g n ι w o := by
  unfold ove at h
  split at h
  · rename_i y e
    simp only [Option.some.injEq] at h
    subst h
    exact OutSim.val (hs y e rfl)
  · cases h

theorem oe_sim {P : Program} {s : Sem Unit} {x : Option Eff} {o : Out} (h : oe x = some o) {g : AHeap} {n : Nat} {ι : Inj} {w : World} (hs : ∀ e, x = some e → SimU P s g n e ι w) : OutSim P (do s; pure .skip) g n ι w o := by
  unfold oe at h
  split at h
  · rename_i e
    simp only [Option.some.injEq] at h
    subst h
    exact OutSim.skip (hs e rfl)
  · cases h

theorem ose_sim {P : Program} {s : Sem Unit} {x : Option (Nat × Eff)} {o : Out} (h : ose x = some o) {g : AHeap} {n : Nat} {ι : Inj} {w : World} (hs : ∀ i e, x = some (i, e) → SimU P s g n e ι w) : OutSim P (do s; pure .skip) g n ι w o := by
  unfold ose at h
  split at h
  · rename_i i e
    simp only [Option.some.injEq] at h
    subst h
    exact OutSim.skip (hs i e rfl)
  · cases h

theorem OutSim.plain {P : Program} {s : Sem Next} {x : Option AV} {o : Out} (h : ov x = some o) {g : AHeap} {n : Nat} {ι : Inj} {w : World} (k : HRel g ι w) {v : Value} (hs : ∀ y, x = some y → VRel ι y v) (hr : s.run P w = .ok (.value v) w) : OutSim P s g n ι w o := by
  unfold ov at h
  split at h
  · rename_i y
    simp only [Option.some.injEq] at h
    subst h
    exact ⟨v, w, ι, hr, hs y rfl, Post.refl k n⟩
  · cases h

theorem evNilCheck_run {x y : AV} (h : evNilCheck x = some y) {ι : Inj} {v : Value} (hx : VRel ι x v) : VRel ι y v ∧ ((∃ a, v = .pointer (some a)) ∨ (∃ f a b, v = .func (.func f) a b) ∨ ∃ l, v = .func (.yield l) #[] #[]) := by
  unfold evNilCheck at h
  split at h <;> (try (cases h; done)) <;> simp only [Option.some.injEq] at h <;> subst h <;> refine ⟨hx, ?_⟩ <;> simp only [VRel] at hx
  · obtain ⟨p, _, rfl⟩ := hx; exact .inl ⟨_, rfl⟩
  · obtain ⟨xs, ys, rfl, _⟩ := hx; exact .inr (.inl ⟨_, _, _, rfl⟩)
  · obtain ⟨p, _, rfl⟩ := hx; exact .inr (.inr ⟨_, rfl⟩)

theorem evOp_sim {P : Program} {nt : Nat} {tm : T AV} {g : AHeap} {n : Nat} {op : Oper} {o : Out} (h : evOp P tm g n op.op = some o) {ι : Inj} {w : World} (k : HRel g ι w) (hn : ι n = none) {a : Act} (ht : TRel ι nt tm a.tmps) :
    OutSim P (execOp a.eval op) g n ι w o := by
  unfold evOp at h
  unfold execOp
  split at h <;> rename_i hop <;> simp only [hop] <;> (try (cases h; done))
  · exact OutSim.plain h k (fun y hy => evOpd_rel ht hy) rfl
  · exact OutSim.plain h k (fun y hy => evOpd_rel ht hy) rfl
  · split at h
    · rename_i hc
      have := evOpd_rel ht hc
      simp only [VRel] at this
      exact OutSim.plain h k (fun y hy => evOpd_rel ht hy) (by simp [this, asBool])
    · rename_i hc
      have := evOpd_rel ht hc
      simp only [VRel] at this
      exact OutSim.plain h k (fun y hy => evOpd_rel ht hy) (by simp [this, asBool])
    · cases h
  · exact ove_sim h fun y e he => evAlloc_sim he k hn
  · split at h
    · rename_i y hy
      exact ove_sim h fun z e he => evBox_sim he k hn (evOpd_rel ht hy) _
    · cases h
  · split at h
    · rename_i qs hq
      exact ov_sim h fun z hz => evBuild_sim hz k (by simpa using evParts_rel ht _ _ hq)
    · cases h
  · split at h
    · rename_i qs hq
      exact ove_sim h fun z e hz => evBuildSlice_sim hz k hn (by simpa using evParts_rel ht _ _ hq)
    · cases h
  · split at h
    · rename_i y hy
      exact ov_sim h fun z hz => evLoad_sim hz k (evOpd_rel ht hy)
    · cases h
  · split at h
    · rename_i y z hy hz
      exact ose_sim h fun i e he => evStore_sim he k (evOpd_rel ht hy) (evOpd_rel ht hz)
    · cases h
  · split at h
    · rename_i y hy
      have hv := evOpd_rel ht hy
      unfold ov at h
      split at h
      rotate_left
      · cases h
      rename_i z hz
      simp only [Option.some.injEq] at h
      subst h
      obtain ⟨h1, h2⟩ := evNilCheck_run hz hv
      refine ⟨_, w, ι, ?_, h1, Post.refl k n⟩
      rcases h2 with ⟨b, e⟩ | ⟨f, b, c, e⟩ | ⟨l, e⟩ <;> rw [e] <;> rfl
    · cases h
  · split at h
    · rename_i a b ha hb
      exact ov_sim h fun z hz => evBin_sim hz k (evOpd_rel ht ha) (evOpd_rel ht hb) _ _
    · cases h
  · split at h
    · rename_i y hy
      exact ov_sim h fun z hz => evUn_sim hz k (evOpd_rel ht hy)
    · cases h
  · split at h
    · rename_i y hy
      exact ov_sim h fun z hz => evConvert_sim hz k (evOpd_rel ht hy)
    · cases h
  · split at h
    · rename_i y hy
      exact ov_sim h fun z hz => evIface_sim hz k (evOpd_rel ht hy)
    · cases h
  · split at h
    · split at h
      · rename_i a b ha hb
        simp only [Option.some.injEq] at h
        subst h
        refine ⟨_, w, ι, rfl, ?_, Post.refl k n⟩
        simp only [VRel]
        exact ⟨_, _, rfl, by simpa using evOpds_rel ht _ _ ha, by simpa using evOpds_rel ht _ _ hb⟩
      · cases h
    · cases h
  · simp only [Option.some.injEq] at h
    subst h
    exact OutSim.val (evMakeMap_sim rfl k hn)
  · split at h
    · rename_i a b ha hb
      exact ove_sim h fun z e hz => evMakeSlice_sim hz k hn (evOpd_rel ht ha) (evOpd_rel ht hb)
    · cases h
  · split at h
    · rename_i y a b c hy ha hb hc
      exact ov_sim h fun z hz => evSlice_sim hz k (evOpd_rel ht hy) (evOpdO_rel ht ha) (evOpdO_rel ht hb) (evOpdO_rel ht hc)
    · cases h
  · split at h
    · rename_i y hy
      exact ov_sim h fun z hz => evFieldAddr_sim hz k (evOpd_rel ht hy)
    · cases h
  · split at h
    · rename_i y hy
      exact ov_sim h fun z hz => evField_sim hz k (evOpd_rel ht hy)
    · cases h
  · split at h
    · rename_i a b ha hb
      exact ov_sim h fun z hz => evIndexAddr_sim hz k (evOpd_rel ht ha) (evOpd_rel ht hb)
    · cases h
  · split at h
    · rename_i a b ha hb
      exact ov_sim h fun z hz => evIndex_sim hz k (evOpd_rel ht ha) (evOpd_rel ht hb)
    · cases h
  · split at h
    · rename_i a b ha hb
      exact ov_sim h fun z hz => evLookup_sim hz k (evOpd_rel ht ha) (evOpd_rel ht hb)
    · cases h
  · split at h
    · rename_i a b c ha hb hc
      exact oe_sim h fun e he => evMapUpdate_sim he k (evOpd_rel ht ha) (evOpd_rel ht hb) (evOpd_rel ht hc)
    · cases h
  · split at h
    · rename_i a b c ha hb hc
      exact oe_sim h fun e he => evMapUpdate_sim he k (evOpd_rel ht ha) (evOpd_rel ht hb) (evOpd_rel ht hc)
    · cases h
  · split at h
    · rename_i a b ha hb
      exact ove_sim h fun z e hz => evMapEntry_sim hz k (evOpd_rel ht ha) (evOpd_rel ht hb)
    · cases h
  · split at h
    · rename_i a b c ha hb hc
      exact oe_sim h fun e he => evEntryStore_sim he k (evOpd_rel ht ha) (evOpd_rel ht hb) (evOpd_rel ht hc)
    · cases h
  · split at h
    · rename_i y hy
      exact ov_sim h fun z hz => evAssert_sim hz k (evOpd_rel ht hy)
    · cases h
  · split at h
    · rename_i y hy
      exact ov_sim h fun z hz => evExtract_sim hz k (evOpd_rel ht hy)
    · cases h
  · exact evCall_sim h k hn ht _

end Go.Ev

/-! Ev: one operation of a region, in the machine. -/
namespace Go.Ev
open Go

def putT (tm : T AV) (dst : Option Tmp) (x : AV) : T AV := match dst with | some d => T.set x tm d | none => tm

def effT (e : Eff) (g : T AObj) (n : Nat) : T AObj :=
  match e with
  | .none => g
  | .new o => T.set o g n
  | .wr id o => T.set o g id
  | .mv id o => T.set o (g.del id) n

theorem effT_get (e : Eff) (g : T AObj) (n : Nat) : (effT e g n).get = e.apply g.get n := by
  funext id
  cases e with
  | none => rfl
  | new o => simp only [effT, T.get_set, Eff.apply, upd]
  | wr i o => simp only [effT, T.get_set, Eff.apply, upd]
  | mv i o => simp only [effT, T.get_set, T.get_del, Eff.apply, upd]

theorem getD_set (a : Array Value) (d t : Nat) (v : Value) : (a.setIfInBounds d v).getD t undef = if t = d ∧ d < a.size then v else a.getD t undef := by
  simp only [Array.getD_eq_getD_getElem?, Array.getElem?_setIfInBounds]
  by_cases h : d = t
  · subst h
    by_cases h' : d < a.size
    · simp [h']
    · simp [h']
  · rw [if_neg h, if_neg (fun e => h e.1.symm)]

theorem putT_rel {ι : Inj} {nt : Nat} {tm : T AV} {a : Act} (ht : TRel ι nt tm a.tmps) {x : AV} {v : Value} (hx : VRel ι x v) (dst : Option Tmp) (hd : ∀ d, dst = some d → d < nt) : TRel ι nt (putT tm dst x) (a.put dst v).tmps := by
  cases dst with
  | none => exact ht
  | some d =>
    refine ⟨by simp [Act.put, ht.1], fun t y hy => ?_⟩
    simp only [putT, T.get_set] at hy
    simp only [Act.put, getD_set]
    by_cases h : t = d
    · subst h
      rw [if_pos rfl] at hy
      simp only [Option.some.injEq] at hy
      subst hy
      rw [if_pos ⟨rfl, by rw [ht.1]; exact hd _ rfl⟩]
      exact hx
    · rw [if_neg h] at hy
      rw [if_neg (fun e => h e.1)]
      exact ht.2 t y hy

/-- Is an operation wanted? -/
def wantedT (ops : Array Oper) (tm : T AV) (o : Oper) : Option Bool :=
  match o.guard with
  | none => some true
  | some (j, want) =>
    match ops[j]? with
    | some o' =>
      match o'.dst with
      | some d =>
        match tm.get d with
        | some (.bool b) => some (b == want)
        | some (.tuple []) => some false
        | _ => none
      | none => none
    | none => none

theorem undef_ne_bool {v : Value} {b : Bool} (h : v = .bool b) : v ≠ undef := by rw [h]; simp [undef]

theorem wantedT_run {ι : Inj} {nt : Nat} {ops : Array Oper} {tm : T AV} {a : Act} {o : Oper} {b : Bool} (h : wantedT ops tm o = some b)
    (ht : TRel ι nt tm a.tmps) : Region.wanted o (yielded ops a.tmps) = b := by
  unfold wantedT at h
  unfold Region.wanted
  split at h
  · rename_i hg
    simp only [Option.some.injEq] at h
    rw [hg, h]
  · rename_i j want hg
    simp only [hg]
    split at h
    rotate_left
    · cases h
    rename_i o' ho
    split at h
    rotate_left
    · cases h
    rename_i d hd
    have hy : yielded ops a.tmps j = match a.tmps[d]? with | some (.bool b) => some b | _ => none := by
      simp only [yielded, ho, hd, Option.bind_some]
      rfl
    rw [hy]
    clear hy
    split at h
    · rename_i c hc
      simp only [Option.some.injEq] at h
      have hr := ht.2 d _ hc
      simp only [VRel] at hr
      have hlt : d < a.tmps.size := by
        rcases Nat.lt_or_ge d a.tmps.size with h' | h'
        · exact h'
        · exfalso
          rw [Array.getD_eq_getD_getElem?, Array.getElem?_eq_none h'] at hr
          simp [undef] at hr
      have : a.tmps[d]? = some (.bool c) := by
        rw [Array.getD_eq_getD_getElem?, Array.getElem?_eq_getElem hlt] at hr
        rw [Array.getElem?_eq_getElem hlt]
        simpa using hr
      rw [this, ← h]
      cases c <;> cases want <;> rfl
    · rename_i hc
      simp only [Option.some.injEq] at h
      have hr := ht.2 d _ hc
      simp only [VRel, VRels] at hr
      obtain ⟨xs, hx, hl⟩ := hr
      have : ∀ b, a.tmps[d]? ≠ some (.bool b) := by
        intro b hb
        rw [Array.getD_eq_getD_getElem?, hb] at hx
        cases hx
      rw [← h]
      split
      · rename_i b hb; exact absurd hb (this b)
      · simp
    · cases h

/-- What comes of an operation: its value, its deed; or a call. -/
def evPre (P : Program) (ops : Array Oper) (tm : T AV) (g : AHeap) (n : Nat) (o : Oper) : Option Out :=
  match wantedT ops tm o with
  | some true => evOp P tm g n o.op
  | some false => some (.skip .none)
  | none => none

/-- The fence that lets all in, in a round or not. -/
abbrev FF (rd : Option Nat) : Fence := { Fence.wide with round := rd }

/-- What is asked at the end, and in which round. -/
structure QT where
  rd : Option Nat
  Q : Exit → Act → World → Prop

/-- What an operation does, in all worlds that fit. -/
def Does (P : Program) (ops : Array Oper) (Q : QT) (i : Nat) (dst : Option Tmp) (a : Act) (g g' : AHeap) (n n' : Nat) (x : AV) (ι : Inj) (w : World) : Prop :=
  ∀ K : Act → World → Prop, (∀ v w' ι', VRel ι' x v → Post g g' n n' ι ι' w w' → K (a.put dst v) w') → wpOpIn (FF Q.rd) 0 P ops Q.Q i K a w

abbrev CallT := Tgt → List AV → T AObj → Nat → Option (AV × T AObj × Nat)

/-- A call, or a round. -/
def Goes (P : Program) (t : Tgt) (ι : Inj) (vs : Array Value) (w : World) (R : Ending → World → Prop) : Prop :=
  match t with
  | .fn f => CallsIn Fence.wide 0 P f vs w R
  | .yield l => ∀ p, ι l = some p → ∃ f tmps assign body, (Instr.yield p.blk vs).run P w = .ok (.round p.blk f tmps assign body) w ∧ RoundIn Fence.wide 0 P p.blk f tmps assign body w R

def CallOk (P : Program) (call : CallT) : Prop :=
  ∀ t args g n x g' n', call t args g n = some (x, g', n') → ∀ ι w vs, HRel g.get ι w → (∀ id, n ≤ id → id ≤ n' → ι id = none) → VRels ι args vs.toList →
    Goes P t ι vs w (fun e w' => ∃ v ι', e = .returned v ∧ VRel ι' x v ∧ Post g.get g'.get n n' ι ι' w w')

theorem Post.widen {h h' : AHeap} {n n' m m' : Nat} {ι ι' : Inj} {w w' : World} (a : Post h h' n n' ι ι' w w') (h1 : m ≤ n) (h2 : n' ≤ m') : Post h h' m m' ι ι' w w' :=
  ⟨Nat.le_trans h1 (Nat.le_trans a.le h2), a.ext, fun id hid => a.new id fun e => hid ⟨Nat.le_trans h1 e.1, Nat.lt_of_lt_of_le e.2 h2⟩, a.rel, a.size, a.frame, a.blk, a.os, a.out⟩

theorem evOp_defer {P : Program} {tm : T AV} {g : AHeap} {n : Nat} {op : Op} {o : Out} (h : evOp P tm g n op = some o) : ∀ c, op ≠ .defer c := by
  intro c e
  subst e
  simp [evOp] at h

theorem step_val {P : Program} {ops : Array Oper} {Q : QT} {i : Nat} {o : Oper} (ho : ops[i]? = some o) {nt : Nat} {tm : T AV} {g : AHeap} {n : Nat} {x : AV} {e : Eff}
    (h : evPre P ops tm g n o = some (.val x e) ∨ (evPre P ops tm g n o = some (.skip e) ∧ x = .tuple [])) {ι : Inj} {w : World} (k : HRel g ι w) (hn : ι n = none) {a : Act} (ht : TRel ι nt tm a.tmps) :
    Does P ops Q i o.dst a g (e.apply g n) n (e.next n) x ι w := by
  intro K hK
  unfold evPre at h
  unfold wpOpIn
  simp only [ho]
  cases hw : wantedT ops tm o with
  | none => rw [hw] at h; rcases h with h | ⟨h, _⟩ <;> cases h
  | some b =>
    have hwr := wantedT_run hw ht
    rw [hwr]
    cases b with
    | false =>
      rw [hw] at h
      rcases h with h | ⟨h, rfl⟩
      · cases h
      · simp only [Option.some.injEq, Out.skip.injEq] at h
        subst h
        simp only [Bool.false_eq_true, if_false]
        exact ⟨fun _ _ => trivial, hK undef w ι (by simp [VRel, VRels, undef]) (Post.refl k n)⟩
    | true =>
      rw [hw] at h
      simp only [if_true]
      refine ⟨fun _ _ => trivial, ?_⟩
      rcases h with h | ⟨h, rfl⟩
      · obtain ⟨v, w', ι', hr, hx, hp⟩ := evOp_sim h k hn ht
        rw [Oper.semAt_eq _ _ _ (evOp_defer h), hr, Oper.uponIn_value]
        exact hK v w' ι' hx hp
      · obtain ⟨w', ι', hr, hp⟩ := evOp_sim h k hn ht
        rw [Oper.semAt_eq _ _ _ (evOp_defer h), hr, Oper.uponIn_skip]
        exact hK undef w' ι' (by simp [VRel, VRels, undef]) hp

theorem step_call {P : Program} {call : CallT} (hcall : CallOk P call) {ops : Array Oper} {Q : QT} {i : Nat} {o : Oper} (ho : ops[i]? = some o) {nt : Nat} {tm : T AV} {g g' : T AObj} {n n' : Nat} {f : Tgt} {args : List AV} {x : AV}
    (h : evPre P ops tm g.get n o = some (.call f args)) (hc : call f args g n = some (x, g', n')) {ι : Inj} {w : World} (k : HRel g.get ι w) (hn : ι n = none) (hf : ∀ id, n ≤ id → id ≤ n' → ι id = none) {a : Act} (ht : TRel ι nt tm a.tmps) :
    Does P ops Q i o.dst a g.get g'.get n n' x ι w := by
  intro K hK
  unfold evPre at h
  unfold wpOpIn
  simp only [ho]
  cases hw : wantedT ops tm o with
  | none => rw [hw] at h; cases h
  | some b =>
    have hwr := wantedT_run hw ht
    rw [hwr]
    cases b with
    | false => rw [hw] at h; cases h
    | true =>
      rw [hw] at h
      simp only [if_true]
      refine ⟨fun _ _ => trivial, ?_⟩
      rw [Oper.semAt_eq _ _ _ (evOp_defer h)]
      have hs := evOp_sim h k hn ht
      cases f with
      | fn f =>
        obtain ⟨vs, hr, hv⟩ := hs
        rw [hr, Oper.uponIn_enter]
        have hg := hcall (.fn f) args g n x g' n' hc ι w vs k hf hv
        refine ⟨fun e => Bool.noConfusion e, ?_⟩
        have hg' : CallsIn (FF Q.rd) (0 - 1) P f vs w (fun e w' => ∃ v ι', e = .returned v ∧ VRel ι' x v ∧ Post g.get g'.get n n' ι ι' w w') := hg
        refine CallsIn.mono hg' fun e w' he => ?_
        obtain ⟨v, ι', rfl, hx, hp⟩ := he
        exact hK v w' ι' hx hp
      | yield l =>
        obtain ⟨vs, p, hp, hr, hv⟩ := hs
        obtain ⟨f, tmps, assign, body, hy, hround⟩ := hcall (.yield l) args g n x g' n' hc ι w vs k hf hv p hp
        rw [hr, hy, Oper.uponIn_round]
        refine ⟨fun e => Bool.noConfusion e, ?_⟩
        have hg' : RoundIn (FF Q.rd) (0 - 1) P p.blk f tmps assign body w (fun e w' => ∃ v ι', e = .returned v ∧ VRel ι' x v ∧ Post g.get g'.get n n' ι ι' w w') := hround
        refine RoundIn.mono hg' fun e w' he => ?_
        obtain ⟨v, ι', rfl, hx, hp⟩ := he
        exact hK v w' ι' hx hp

end Go.Ev

/-! Ev: regions that draw their order. -/
namespace Go.Ev
open Go

theorem Post.again {h h1 h2 : AHeap} {n m : Nat} {ι ι1 ι2 : Inj} {w w1 w2 : World} (a : Post h h1 n m ι ι1 w w1) (b : Post h1 h2 n m ι1 ι2 w1 w2) : Post h h2 n m ι ι2 w w2 where
  le := a.le
  ext := a.ext.trans b.ext
  new id hid := by rw [b.new id hid, a.new id hid]
  rel := b.rel
  size := Nat.le_trans a.size b.size
  frame k hk hno := by
    rw [b.frame k (Nat.lt_of_lt_of_le hk a.size) fun id o p ho hrw hp heq => ?_, a.frame k hk hno]
    rcases a.blk id o p ho hp with hlt | ⟨id0, o0, p0, h0, hr0, hp0, he⟩
    · omega
    · exact hno id0 o0 p0 h0 (hr0 hrw) hp0 (by omega)
  blk id o p ho hp := by
    rcases b.blk id o p ho hp with hlt | ⟨id0, o0, p0, h0, hr0, hp0, he⟩
    · exact .inl (Nat.le_trans a.size hlt)
    · rcases a.blk id0 o0 p0 h0 hp0 with hlt | ⟨id1, o1, p1, h1, hr1, hp1, he1⟩
      · exact .inl (by omega)
      · exact .inr ⟨id1, o1, p1, h1, fun e => hr1 (hr0 e), hp1, by omega⟩
  os := b.os.trans a.os
  out := b.out.trans a.out

/-- What is known of an operation of the region: the temporaries that it reads, the heap that it needs, and what it leaves. -/
structure Rec where
  i : Nat
  tr : T AV
  dst : Option Nat
  v : AV
  pre : AHeap
  post : AHeap
  n0 : Nat
  n1 : Nat
  W : Nat → Bool

def Rec.wrH (r : Rec) (id : Nat) : Option (Option AObj) := if r.W id then some (r.post id) else none
def Rec.wrT (r : Rec) (t : Nat) : Option (Option AV) := if r.dst = some t then some (some r.v) else none

/-- The last that is written at a place by those of D. -/
def lay {α : Type} (D : Nat → Bool) (wr : Rec → Option α) : List Rec → α → α
  | [], c => c
  | r :: rs, c => lay D wr rs (if D r.i then (wr r).getD c else c)

section
variable {α : Type} {wr : Rec → Option α}

theorem lay_append (D : Nat → Bool) : ∀ (l m : List Rec) (c : α), lay D wr (l ++ m) c = lay D wr m (lay D wr l c)
  | [], _, _ => rfl
  | r :: l, m, c => by simp only [List.cons_append, lay]; exact lay_append D l m _

theorem lay_congr {D E : Nat → Bool} : ∀ (l : List Rec) (c : α), (∀ x ∈ l, D x.i = E x.i ∨ wr x = none) → lay D wr l c = lay E wr l c
  | [], _, _ => rfl
  | r :: l, c, h => by
    simp only [lay]
    have : (if D r.i then (wr r).getD c else c) = (if E r.i then (wr r).getD c else c) := by
      rcases h r (by simp) with e | e
      · rw [e]
      · rw [e]; simp
    rw [this]
    exact lay_congr l _ fun x hx => h x (by simp [hx])

theorem lay_skip {D : Nat → Bool} : ∀ (l : List Rec) (c : α), (∀ x ∈ l, D x.i = false ∨ wr x = none) → lay D wr l c = c
  | [], _, _ => rfl
  | r :: l, c, h => by
    simp only [lay]
    have : (if D r.i then (wr r).getD c else c) = c := by
      rcases h r (by simp) with e | e
      · rw [e]; simp
      · rw [e]; simp
    rw [this]
    exact lay_skip l _ fun x hx => h x (by simp [hx])
end

/-- Two that may change places. -/
structure Apart (x r : Rec) : Prop where
  h1 : ∀ id, x.W id = true → r.pre id = none ∧ r.W id = false
  h2 : ∀ id, r.W id = true → x.pre id = none ∧ x.W id = false
  t1 : ∀ d, x.dst = some d → r.tr.get d = none ∧ r.dst ≠ some d
  t2 : ∀ d, r.dst = some d → x.tr.get d = none ∧ x.dst ≠ some d
  n : x.n1 ≤ r.n0 ∨ r.n1 ≤ x.n0

theorem Apart.symm {x r : Rec} (h : Apart x r) : Apart r x := ⟨h.h2, h.h1, h.t2, h.t1, h.n.symm⟩

def bound (e : Edge) : Bool := Region.binds .any e

/-- All that come before one of D are in D. -/
def Closed (ops : Array Oper) (D : Nat → Bool) : Prop := ∀ i o, ops[i]? = some o → D i = true → ∀ e ∈ o.after, bound e = true → D e.on = true
def Edges (ops : Array Oper) (D : Nat → Bool) (i : Nat) : Prop := ∀ o, ops[i]? = some o → ∀ e ∈ o.after, bound e = true → D e.on = true

def all : Nat → Bool := fun _ => true

structure Rec.Ok (P : Program) (ops : Array Oper) (Q : QT) (nt : Nat) (r : Rec) : Prop where
  op : ∃ o, ops[r.i]? = some o ∧ o.dst = r.dst
  keeps : ∀ id, r.W id = false → r.post id = r.pre id
  fits : ∀ d, r.dst = some d → d < nt
  le : r.n0 ≤ r.n1
  does : ∀ a ι w, TRel ι nt r.tr a.tmps → HRel r.pre ι w → (∀ id, r.n0 ≤ id → id < r.n1 → ι id = none) → Does P ops Q r.i r.dst a r.pre r.post r.n0 r.n1 r.v ι w

/-- A canonical run. -/
structure Run (P : Program) (ops : Array Oper) (Q : QT) (nt : Nat) (B : Nat → Nat → Bool) (tm0 : T AV) (G0 : AHeap) (n m : Nat) (L : List Rec) : Prop where
  ok : ∀ r ∈ L, r.Ok P ops Q nt
  nodup : (L.map (·.i)).Nodup
  whole : ∀ i, i < ops.size → ∃ r ∈ L, r.i = i
  pair : ∀ L1 r L2, L = L1 ++ r :: L2 → ∀ x ∈ L1, B x.i r.i = true ∨ Apart x r
  ids : ∀ L1 r L2, L = L1 ++ r :: L2 → ∀ x ∈ L1, x.n1 ≤ r.n0
  preH : ∀ L1 r L2, L = L1 ++ r :: L2 → ∀ id o, r.pre id = some o → lay all (fun x => x.wrH id) L1 (G0 id) = some o
  preT : ∀ L1 r L2, L = L1 ++ r :: L2 → ∀ t x, r.tr.get t = some x → lay all (fun x => x.wrT t) L1 (tm0.get t) = some x
  low : ∀ r ∈ L, n ≤ r.n0
  high : ∀ r ∈ L, r.n1 ≤ m
  edges : ∀ (i : Nat) o, ops[i]? = some o → ∀ e ∈ o.after, bound e = true → e.on < i
  before : ∀ D, Closed ops D → ∀ j, Edges ops D j → ∀ i, B i j = true → D i = true

def hS (D : Nat → Bool) (L : List Rec) (G0 : AHeap) : AHeap := fun id => lay D (fun x => x.wrH id) L (G0 id)
def tS (D : Nat → Bool) (L : List Rec) (tm0 : T AV) (t : Nat) : Option AV := lay D (fun x => x.wrT t) L (tm0.get t)

def add (D : Nat → Bool) (i : Nat) : Nat → Bool := fun j => if j = i then true else D j

section
variable {P : Program} {ops : Array Oper} {Q : QT} {nt : Nat} {B : Nat → Nat → Bool} {tm0 : T AV} {G0 : AHeap} {n m : Nat} {L : List Rec}

theorem Run.later (R : Run P ops Q nt B tm0 G0 n m L) {D : Nat → Bool} (hD : Closed ops D) {L1 L2 : List Rec} {r : Rec} (hL : L = L1 ++ r :: L2) (hr : D r.i = false) :
    ∀ x ∈ L2, D x.i = false ∨ Apart r x := by
  intro x hx
  obtain ⟨A, C, hAC⟩ := List.append_of_mem hx
  have h1 : L = (L1 ++ r :: A) ++ x :: C := by rw [hL, hAC]; simp
  rcases R.pair _ x _ h1 r (by simp) with h | h
  · cases hDx : D x.i with
    | false => exact .inl rfl
    | true =>
      have := R.before D hD x.i (fun o ho => hD x.i o ho hDx) r.i h
      rw [hr] at this; cases this
  · exact .inr h

theorem Run.earlier (R : Run P ops Q nt B tm0 G0 n m L) {D : Nat → Bool} (hD : Closed ops D) {L1 L2 : List Rec} {r : Rec} (hL : L = L1 ++ r :: L2) (he : Edges ops D r.i) :
    ∀ x ∈ L1, D x.i = true ∨ Apart x r := by
  intro x hx
  rcases R.pair _ r _ hL x hx with h | h
  · exact .inl (R.before D hD r.i he x.i h)
  · exact .inr h

/-- What an operation needs is there when its turn comes. -/
theorem Run.there (R : Run P ops Q nt B tm0 G0 n m L) {D : Nat → Bool} (hD : Closed ops D) {L1 L2 : List Rec} {r : Rec} (hL : L = L1 ++ r :: L2) (hr : D r.i = false) (he : Edges ops D r.i) :
    (∀ id o, r.pre id = some o → hS D L G0 id = some o) ∧ (∀ t x, r.tr.get t = some x → tS D L tm0 t = some x) := by
  refine ⟨fun id o ho => ?_, fun t x hx => ?_⟩
  · have h1 := R.preH _ r _ hL id o ho
    unfold hS
    rw [hL, lay_append, lay_congr (E := all) L1 _ ?_, h1]
    · simp only [lay, hr]
      rw [lay_skip L2 _ ?_]
      · simp
      · intro x hx
        rcases R.later hD hL hr x hx with h | h
        · exact .inl h
        · refine .inr ?_
          cases hw : x.W id with
          | false => simp [Rec.wrH, hw]
          | true => have := (h.h2 id hw).1; rw [ho] at this; cases this
    · intro x hx
      rcases R.earlier hD hL he x hx with h | h
      · exact .inl h
      · refine .inr ?_
        cases hw : x.W id with
        | false => simp [Rec.wrH, hw]
        | true => have := (h.h1 id hw).1; rw [ho] at this; cases this
  · have h1 := R.preT _ r _ hL t x hx
    unfold tS
    rw [hL, lay_append, lay_congr (E := all) L1 _ ?_, h1]
    · simp only [lay, hr]
      rw [lay_skip L2 _ ?_]
      · simp
      · intro y hy
        rcases R.later hD hL hr y hy with h | h
        · exact .inl h
        · refine .inr ?_
          simp only [Rec.wrT]
          split
          · rename_i hd; have := (h.t2 t hd).1; rw [hx] at this; cases this
          · rfl
    · intro y hy
      rcases R.earlier hD hL he y hy with h | h
      · exact .inl h
      · refine .inr ?_
        simp only [Rec.wrT]
        split
        · rename_i hd; have := (h.t1 t hd).1; rw [hx] at this; cases this
        · rfl

theorem Run.others (R : Run P ops Q nt B tm0 G0 n m L) {L1 L2 : List Rec} {r : Rec} (hL : L = L1 ++ r :: L2) : (∀ x ∈ L1, x.i ≠ r.i) ∧ (∀ x ∈ L2, x.i ≠ r.i) := by
  have := R.nodup
  rw [hL] at this
  simp only [List.map_append, List.map_cons, List.nodup_append, List.nodup_cons, List.mem_map, List.mem_cons] at this
  obtain ⟨_, ⟨h2, _⟩, h3⟩ := this
  exact ⟨fun x hx => h3 x.i ⟨x, hx, rfl⟩ r.i (.inl rfl), fun x hx e => h2 ⟨x, hx, e⟩⟩

theorem add_ne {D : Nat → Bool} {i j : Nat} (h : j ≠ i) : add D i j = D j := by simp [add, h]
theorem add_same (D : Nat → Bool) (i : Nat) : add D i i = true := by simp [add]

/-- What is there when it has run. -/
theorem Run.next (R : Run P ops Q nt B tm0 G0 n m L) {D : Nat → Bool} (hD : Closed ops D) {L1 L2 : List Rec} {r : Rec} (hL : L = L1 ++ r :: L2) (hr : D r.i = false) (he : Edges ops D r.i) :
    (∀ id o, hS (add D r.i) L G0 id = some o → r.post id = some o ∨ (r.pre id = none ∧ hS D L G0 id = some o)) ∧
    (∀ t x, tS (add D r.i) L tm0 t = some x → (r.dst = some t ∧ x = r.v) ∨ (r.dst ≠ some t ∧ tS D L tm0 t = some x)) := by
  obtain ⟨o1, o2⟩ := R.others hL
  have hrL : r ∈ L := by rw [hL]; simp
  refine ⟨fun id o ho => ?_, fun t x hx => ?_⟩
  · cases hw : r.W id with
    | true =>
      left
      unfold hS at ho
      rw [hL, lay_append] at ho
      simp only [lay, add_same, if_true] at ho
      rw [lay_skip L2 _ ?_] at ho
      · simpa [Rec.wrH, hw] using ho
      · intro x hx
        rw [add_ne (o2 x hx)]
        rcases R.later hD hL hr x hx with h | h
        · exact .inl h
        · refine .inr ?_
          have := (h.h1 id hw).2
          simp [Rec.wrH, this]
    | false =>
      have e : hS (add D r.i) L G0 id = hS D L G0 id := by
        unfold hS
        refine lay_congr L _ fun x hx => ?_
        by_cases hxi : x.i = r.i
        · have : x = r := by
            rw [hL] at hx
            rcases List.mem_append.1 hx with h | h
            · exact absurd hxi (o1 x h)
            · rcases List.mem_cons.1 h with h | h
              · exact h
              · exact absurd hxi (o2 x h)
          subst this
          right; simp [Rec.wrH, hw]
        · left; exact add_ne hxi
      rw [e] at ho
      cases hp : r.pre id with
      | none => exact .inr ⟨rfl, ho⟩
      | some o' =>
        left
        have := (R.there hD hL hr he).1 id o' hp
        rw [this] at ho
        rw [(R.ok r hrL).keeps id hw, hp, ho]
  · by_cases hd : r.dst = some t
    · left
      refine ⟨hd, ?_⟩
      unfold tS at hx
      rw [hL, lay_append] at hx
      simp only [lay, add_same, if_true] at hx
      rw [lay_skip L2 _ ?_] at hx
      · simp only [Rec.wrT, hd, if_true, Option.getD_some, Option.some.injEq] at hx
        exact hx.symm
      · intro y hy
        rw [add_ne (o2 y hy)]
        rcases R.later hD hL hr y hy with h | h
        · exact .inl h
        · refine .inr ?_
          have := (h.t1 t hd).2
          simp [Rec.wrT, this]
    · right
      refine ⟨hd, ?_⟩
      rw [← hx]
      unfold tS
      refine (lay_congr L _ fun y hy => ?_)
      by_cases hxi : y.i = r.i
      · have : y = r := by
          rw [hL] at hy
          rcases List.mem_append.1 hy with h | h
          · exact absurd hxi (o1 y h)
          · rcases List.mem_cons.1 h with h | h
            · exact h
            · exact absurd hxi (o2 y h)
        subst this
        right; simp [Rec.wrT, hd]
      · left; exact (add_ne hxi).symm

/-- The state when those of D have run. -/
structure At (G0 : AHeap) (tm0 : T AV) (nt n m : Nat) (L : List Rec) (ι0 : Inj) (w0 : World) (D : Nat → Bool) (a : Act) (ι : Inj) (w : World) : Prop where
  post : Post G0 (hS D L G0) n m ι0 ι w0 w
  size : a.tmps.size = nt
  tmps : ∀ t x, tS D L tm0 t = some x → VRel ι x (a.tmps.getD t undef)
  free : ∀ r ∈ L, D r.i = false → ∀ id, r.n0 ≤ id → id < r.n1 → ι id = none

theorem Run.step (R : Run P ops Q nt B tm0 G0 n m L) {ι0 : Inj} {w0 : World} {D : Nat → Bool} (hD : Closed ops D) {a : Act} {ι : Inj} {w : World} (hat : At G0 tm0 nt n m L ι0 w0 D a ι w)
    {r : Rec} (hrL : r ∈ L) (hr : D r.i = false) (he : Edges ops D r.i) {K : Act → World → Prop} (hK : ∀ v w' ι', At G0 tm0 nt n m L ι0 w0 (add D r.i) (a.put r.dst v) ι' w' → K (a.put r.dst v) w') : wpOpIn (FF Q.rd) 0 P ops Q.Q r.i K a w := by
  obtain ⟨L1, L2, hL⟩ := List.append_of_mem hrL
  obtain ⟨t1, t2⟩ := R.there hD hL hr he
  obtain ⟨s1, s2⟩ := R.next hD hL hr he
  have hok := R.ok r hrL
  refine hok.does a ι w ⟨hat.size, fun t x hx => hat.tmps t x (t2 t x hx)⟩ (hat.post.rel.sub t1) (hat.free r hrL hr) K fun v w' ι' hv hp => hK v w' ι' ?_
  have hfr := hp.frame_rule hat.post.rel t1 (hS (add D r.i) L G0) s1
  refine ⟨hat.post.again (hfr.widen (R.low r hrL) (R.high r hrL)), ?_, fun t x hx => ?_, fun x hx hxD id h1 h2 => ?_⟩
  · cases hd : r.dst with
    | none => simp [Act.put]; exact hat.size
    | some d => simp [Act.put]; exact hat.size
  · rcases s2 t x hx with ⟨hd, rfl⟩ | ⟨hd, hx'⟩
    · rw [hd]
      simp only [Act.put, getD_set]
      rw [if_pos ⟨trivial, by rw [hat.size]; exact hok.fits t hd⟩]
      exact hv
    · have := VRel.ext hp.ext _ _ (hat.tmps t x hx')
      cases hd' : r.dst with
      | none => simp only [Act.put]; exact this
      | some d =>
        simp only [Act.put, getD_set]
        rw [if_neg (fun e => hd (by rw [hd', e.1]))]
        exact this
  · have hxi : x.i ≠ r.i := fun e => by rw [e, add_same] at hxD; cases hxD
    rw [add_ne hxi] at hxD
    rw [hp.new id ?_]
    · exact hat.free x hx hxD id h1 h2
    · intro ⟨h3, h4⟩
      rw [hL] at hx
      rcases List.mem_append.1 hx with h | h
      · have := R.ids _ r _ hL x h; omega
      · rcases List.mem_cons.1 h with h | h
        · exact hxi (by rw [h])
        · obtain ⟨A, C, hAC⟩ := List.append_of_mem h
          have hL' : L = (L1 ++ r :: A) ++ x :: C := by rw [hL, hAC]; simp
          have := R.ids _ x _ hL' r (by simp); omega

/-- Which are listed. -/
def dOf (listed : Array Bool) : Nat → Bool := fun i => listed.getD i false

theorem dOf_set {listed : Array Bool} {i : Nat} (hi : i < listed.size) : dOf (listed.setIfInBounds i true) = add (dOf listed) i := by
  funext j
  simp only [dOf, add, Array.getD_eq_getD_getElem?, Array.getElem?_setIfInBounds]
  by_cases h : i = j
  · subst h; simp [hi]
  · rw [if_neg h, if_neg (fun e => h e.symm)]

theorem ready_iff {ops : Array Oper} {listed : Array Bool} {i : Nat} (h : i ∈ Region.ready .any ops listed) :
    i < ops.size ∧ listed.getD i true = false ∧ Edges ops (dOf listed) i := by
  simp only [Region.ready, List.mem_filter, List.mem_range, Bool.and_eq_true, Bool.not_eq_true'] at h
  obtain ⟨h1, h2, h3⟩ := h
  refine ⟨h1, h2, fun o ho e he hb => ?_⟩
  rw [ho] at h3
  simp only [Option.map_some, Option.getD_some, Array.all_eq_true'] at h3
  have := h3 e he
  simp only [bound] at hb
  simpa [hb, dOf] using this

theorem Run.least (R : Run P ops Q nt B tm0 G0 n m L) {listed : Array Bool} (hs : listed.size = ops.size) (h : Region.ready .any ops listed = []) : ∀ i, i < ops.size → listed.getD i true = true := by
  intro i
  induction i using Nat.strongRecOn with
  | _ i ih =>
    intro hi
    cases hl : listed.getD i true with
    | true => rfl
    | false =>
      exfalso
      have : i ∈ Region.ready .any ops listed := by
        simp only [Region.ready, List.mem_filter, List.mem_range, Bool.and_eq_true, Bool.not_eq_true']
        refine ⟨hi, hl, ?_⟩
        rw [Array.getElem?_eq_getElem hi]
        simp only [Option.map_some, Option.getD_some, Array.all_eq_true']
        intro e he
        cases hb : Region.binds .any e with
        | false => simp
        | true =>
          have h1 := R.edges i _ (Array.getElem?_eq_getElem hi) e he hb
          have h2 := ih e.on h1 (by omega)
          have h3 : e.on < listed.size := by omega
          simp only [Array.getD_eq_getD_getElem?, Array.getElem?_eq_getElem h3, Option.getD_some] at h2 ⊢
          simp [h2]
      rw [h] at this; cases this

/-- How many are still to run. -/
def left (listed : Array Bool) (k : Nat) : Nat := ((List.range k).filter fun i => !listed.getD i true).length

theorem Run.any (R : Run P ops Q nt B tm0 G0 n m L) {ι0 : Inj} {w0 : World} {tmE : T AV} {gE : AHeap}
    (hE : ∀ id o, gE id = some o → lay all (fun x => x.wrH id) L (G0 id) = some o) (tE : ∀ t x, tmE.get t = some x → lay all (fun x => x.wrT t) L (tm0.get t) = some x)
    (d0 : List Deferred)
    (hQ : ∀ a w ι, Post G0 gE n m ι0 ι w0 w → TRel ι nt tmE a.tmps → a.defers = d0 → Q.Q .normal a w) :
    ∀ (fuel : Nat) (listed : Array Bool) (a : Act) (w : World) (ι : Inj), listed.size = ops.size → left listed ops.size ≤ fuel → Closed ops (dOf listed) → At G0 tm0 nt n m L ι0 w0 (dOf listed) a ι w → a.defers = d0 →
      wpAnyIn (FF Q.rd) 0 P .any ops Q.Q fuel listed a w := by
  have fin : ∀ (listed : Array Bool) (a : Act) (w : World) (ι : Inj), listed.size = ops.size → Region.ready .any ops listed = [] → At G0 tm0 nt n m L ι0 w0 (dOf listed) a ι w → a.defers = d0 → Q.Q .normal a w := by
    intro listed a w ι hs hre hat hdf
    have hall := R.least hs hre
    have hD : ∀ x ∈ L, dOf listed x.i = all x.i := by
      intro x hx
      obtain ⟨o, ho, _⟩ := (R.ok x hx).op
      have hi : x.i < ops.size := (Array.getElem?_eq_some_iff.1 ho).1
      have h2 := hall x.i hi
      have h3 : x.i < listed.size := by omega
      simp only [Array.getD_eq_getD_getElem?, Array.getElem?_eq_getElem h3, Option.getD_some] at h2
      simp [dOf, all, h3, h2]
    refine hQ a w ι (hat.post.drop gE fun id o ho => ?_) ⟨hat.size, fun t x hx => hat.tmps t x ?_⟩ hdf
    · unfold hS
      rw [lay_congr (E := all) L _ fun x hx => .inl (hD x hx)]
      exact hE id o ho
    · unfold tS
      rw [lay_congr (E := all) L _ fun x hx => .inl (hD x hx)]
      exact tE t x hx
  intro fuel
  induction fuel with
  | zero =>
    intro listed a w ι hs hl hcl hat hdf
    have hre : Region.ready .any ops listed = [] := by
      cases hr : Region.ready .any ops listed with
      | nil => rfl
      | cons i is =>
        exfalso
        obtain ⟨h1, h2, _⟩ := ready_iff (ops := ops) (listed := listed) (i := i) (by rw [hr]; simp)
        have : i ∈ (List.range ops.size).filter fun i => !listed.getD i true := by simp [h1]; simpa using h2
        have := List.length_pos_of_mem this
        unfold left at hl
        omega
    exact ⟨hre, fin listed a w ι hs hre hat hdf⟩
  | succ fuel ih =>
    intro listed a w ι hs hl hcl hat hdf
    refine ⟨fun hre => fin listed a w ι hs hre hat hdf, fun i hi => ?_⟩
    obtain ⟨h1, h2, h3⟩ := ready_iff hi
    obtain ⟨r, hrL, rfl⟩ := R.whole i h1
    have hsz : r.i < listed.size := by omega
    have hDr : dOf listed r.i = false := by
      simp only [Array.getD_eq_getD_getElem?, Array.getElem?_eq_getElem hsz, Option.getD_some] at h2
      simp [dOf, hsz, h2]
    refine R.step hcl hat hrL hDr h3 fun v w' ι' hat' => ih _ _ _ ι' (by simpa using hs) ?_ ?_ (by rw [dOf_set hsz]; exact hat') (by cases hd : r.dst <;> simp [Act.put, hdf])
    · unfold left at hl ⊢
      have hlt : ((List.range ops.size).filter fun i => !(listed.setIfInBounds r.i true).getD i true).length < ((List.range ops.size).filter fun i => !listed.getD i true).length := by
        have hsub : ((List.range ops.size).filter fun i => !(listed.setIfInBounds r.i true).getD i true) = (((List.range ops.size).filter fun i => !listed.getD i true).filter fun i => decide (i ≠ r.i)) := by
          rw [List.filter_filter]
          refine List.filter_congr fun j _ => ?_
          simp only [Array.getD_eq_getD_getElem?, Array.getElem?_setIfInBounds]
          by_cases h : r.i = j
          · subst h; simp [hsz]
          · have h' : j ≠ r.i := fun e => h e.symm
            simp [h, h']
        rw [hsub]
        refine List.length_filter_lt_length_iff_exists.2 ⟨r.i, ?_, by simp⟩
        simp [h1]; simpa using h2
      omega
    · rw [dOf_set hsz]
      intro i o ho hi e he hb
      by_cases h : i = r.i
      · subst h
        have := h3 o ho e he hb
        by_cases h' : e.on = r.i
        · rw [h', add_same]
        · rw [add_ne h']; exact this
      · rw [add_ne h] at hi
        have := hcl i o ho hi e he hb
        by_cases h' : e.on = r.i
        · rw [h', add_same]
        · rw [add_ne h']; exact this

theorem Run.start (R : Run P ops Q nt B tm0 G0 n m L) {ι0 : Inj} {w0 : World} {tmE : T AV} {gE : AHeap} (hnm : n ≤ m)
    (hE : ∀ id o, gE id = some o → lay all (fun x => x.wrH id) L (G0 id) = some o) (tE : ∀ t x, tmE.get t = some x → lay all (fun x => x.wrT t) L (tm0.get t) = some x)
    {a : Act} (hG : HRel G0 ι0 w0) (ht : TRel ι0 nt tm0 a.tmps) (hf : ∀ id, n ≤ id → id < m → ι0 id = none)
    (hQ : ∀ a' w ι, Post G0 gE n m ι0 ι w0 w → TRel ι nt tmE a'.tmps → a'.defers = a.defers → Q.Q .normal a' w) :
    wpAnyIn (FF Q.rd) 0 P .any ops Q.Q ops.size (Array.replicate ops.size false) a w0 := by
  have hD : ∀ i, dOf (Array.replicate ops.size false) i = false := by
    intro i; simp [dOf, Array.getD_eq_getD_getElem?, Array.getElem?_replicate]; split <;> rfl
  refine R.any hE tE a.defers hQ ops.size _ a w0 ι0 (by simp) ?_ ?_ ⟨?_, ht.1, fun t x hx => ?_, ?_⟩ rfl
  · unfold left
    have := List.length_filter_le (fun i => !(Array.replicate ops.size false).getD i true) (List.range ops.size)
    simpa using this
  · intro i o _ hi; rw [hD] at hi; cases hi
  · have e : hS (dOf (Array.replicate ops.size false)) L G0 = G0 := by
      funext id; unfold hS; exact lay_skip L _ fun x _ => .inl (hD _)
    rw [e]
    exact (Post.refl hG n).widen (Nat.le_refl _) hnm
  · have e : tS (dOf (Array.replicate ops.size false)) L tm0 t = tm0.get t := by
      unfold tS; exact lay_skip L _ fun x _ => .inl (hD _)
    rw [e] at hx
    exact ht.2 t x hx
  · intro r hr _ id h1 h2
    exact hf id (Nat.le_trans (R.low r hr) h1) (Nat.lt_of_lt_of_le h2 (R.high r hr))
end

end Go.Ev
