/- PART OF THE PROOF OF KindBudget's CARD. The evaluator's operations over plain values, addresses, loads and stores do what the model's do. -/
import Derived.Test.YtkbdclogklaeaaaGreatDoorEvA
import Derived.Laws.Entries
import Derived.Laws.Cells
import Derived.Laws.CopyRow
import Derived.IntWalk
import Derived.Lib.Strings
import Derived.Laws.Build
import Derived.Laws.Tables
import Derived.Laws.StructEq
import Derived.Laws.Append
set_option linter.unusedSimpArgs false
set_option linter.unusedVariables false

/-! Ev: operations, the evaluator's side and what is common to all proofs. -/
namespace Go.Ev
open Go

mutual
def ofValue : Value → Option AV
  | .bool b => some (.bool b)
  | .int k n => some (.int k n)
  | .string s => some (.str (s.data.toList.map UInt8.toNat))
  | .pointer none => some .nilPtr
  | .slice none n c => bif Nat.beq n 0 && Nat.beq c 0 then some .nilSlice else none
  | .map none => some .nilMap
  | .nilFunc => some .nilFunc
  | .nilIface => some .nilIface
  | .iface t v => match ofValue v with | some x => some (.iface t x) | none => none
  | .agg ⟨l⟩ => match ofValues l with | some xs => some (.agg xs) | none => none
  | .tuple ⟨l⟩ => match ofValues l with | some xs => some (.tuple xs) | none => none
  | _ => none
def ofValues : List Value → Option (List AV)
  | [] => some []
  | v :: vs => match ofValue v, ofValues vs with | some x, some xs => some (x :: xs) | _, _ => none
end

theorem bytesOf_toNat (s : ByteArray) : bytesOf (s.data.toList.map UInt8.toNat) = s := by
  cases s with
  | mk d =>
    simp only [bytesOf, List.map_map]
    congr 1
    have : (UInt8.ofNat ∘ UInt8.toNat) = id := by funext x; simp
    rw [this, List.map_id]

mutual
theorem ofValue_rel (ι : Inj) : ∀ (v : Value) (x : AV), ofValue v = some x → VRel ι x v
  | .bool b, x, h => by simp only [ofValue, Option.some.injEq] at h; subst h; simp [VRel]
  | .int k n, x, h => by simp only [ofValue, Option.some.injEq] at h; subst h; simp [VRel]
  | .string s, x, h => by
    simp only [ofValue, Option.some.injEq] at h; subst h
    simp only [VRel, bytesOf_toNat, true_and]
    intro y hy
    obtain ⟨u, _, rfl⟩ := List.mem_map.1 hy
    exact u.toNat_lt
  | .pointer none, x, h => by simp only [ofValue, Option.some.injEq] at h; subst h; simp [VRel]
  | .pointer (some _), x, h => by simp [ofValue] at h
  | .slice none n c, x, h => by
    simp only [ofValue] at h
    cases hn : Nat.beq n 0 <;> cases hc : Nat.beq c 0 <;> simp [hn, hc] at h
    rw [beqT] at hn hc; subst hn; subst hc; subst h; simp [VRel]
  | .slice (some _) _ _, x, h => by simp [ofValue] at h
  | .map none, x, h => by simp only [ofValue, Option.some.injEq] at h; subst h; simp [VRel]
  | .map (some _), x, h => by simp [ofValue] at h
  | .nilFunc, x, h => by simp only [ofValue, Option.some.injEq] at h; subst h; simp [VRel]
  | .nilIface, x, h => by simp only [ofValue, Option.some.injEq] at h; subst h; simp [VRel]
  | .iface t v, x, h => by
    simp only [ofValue] at h
    cases hv : ofValue v with
    | none => simp [hv] at h
    | some y => simp [hv] at h; subst h; simp only [VRel]; exact ⟨v, rfl, ofValue_rel ι v y hv⟩
  | .agg ⟨l⟩, x, h => by
    simp only [ofValue] at h
    cases hv : ofValues l with
    | none => simp [hv] at h
    | some y => simp [hv] at h; subst h; simp only [VRel]; exact ⟨⟨l⟩, rfl, ofValues_rel ι l y hv⟩
  | .tuple ⟨l⟩, x, h => by
    simp only [ofValue] at h
    cases hv : ofValues l with
    | none => simp [hv] at h
    | some y => simp [hv] at h; subst h; simp only [VRel]; exact ⟨⟨l⟩, rfl, ofValues_rel ι l y hv⟩
  | .float _ _, x, h => by simp [ofValue] at h
  | .complex _ _ _, x, h => by simp [ofValue] at h
  | .chan _, x, h => by simp [ofValue] at h
  | .func _ _ _, x, h => by simp [ofValue] at h
theorem ofValues_rel (ι : Inj) : ∀ (vs : List Value) (xs : List AV), ofValues vs = some xs → VRels ι xs vs
  | [], xs, h => by simp only [ofValues, Option.some.injEq] at h; subst h; simp [VRels]
  | v :: vs, xs, h => by
    simp only [ofValues] at h
    cases hv : ofValue v with
    | none => simp [hv] at h
    | some y =>
      cases hvs : ofValues vs with
      | none => simp [hv, hvs] at h
      | some ys => simp [hv, hvs] at h; subst h; simp only [VRels]; exact ⟨v, vs, rfl, ofValue_rel ι v y hv, ofValues_rel ι vs ys hvs⟩
end

/-- The cells of a value. -/
def AV.cells : AV → List AV
  | .agg cs => cs
  | x => [x]

theorem VRel.cells {ι : Inj} {x : AV} {v : Value} (h : VRel ι x v) : VRels ι x.cells v.cells.toList := by
  cases x <;> simp only [AV.cells] <;> (try (have h' := h; simp only [VRel] at h'; (try (first | subst h' | (obtain ⟨h', _⟩ := h'; subst h'))); simp only [VRels, Value.cells]; exact ⟨_, _, rfl, h, rfl⟩))
  case ptr => have h' := h; simp only [VRel] at h'; obtain ⟨p, _, rfl⟩ := h'; simp only [VRels, Value.cells]; exact ⟨_, _, rfl, h, rfl⟩
  case slice => have h' := h; simp only [VRel] at h'; obtain ⟨p, a, c, _, rfl, _⟩ := h'; simp only [VRels, Value.cells]; exact ⟨_, _, rfl, h, rfl⟩
  case map => have h' := h; simp only [VRel] at h'; obtain ⟨p, _, rfl⟩ := h'; simp only [VRels, Value.cells]; exact ⟨_, _, rfl, h, rfl⟩
  case func => have h' := h; simp only [VRel] at h'; obtain ⟨xs, ys, rfl, _⟩ := h'; simp only [VRels, Value.cells]; exact ⟨_, _, rfl, h, rfl⟩
  case yield => have h' := h; simp only [VRel] at h'; obtain ⟨p, _, rfl⟩ := h'; simp only [VRels, Value.cells]; exact ⟨_, _, rfl, h, rfl⟩
  case iface => have h' := h; simp only [VRel] at h'; obtain ⟨y, rfl, _⟩ := h'; simp only [VRels, Value.cells]; exact ⟨_, _, rfl, h, rfl⟩
  case agg => simp only [VRel] at h; obtain ⟨y, rfl, h⟩ := h; exact h
  case tuple => have h' := h; simp only [VRel] at h'; obtain ⟨y, rfl, _⟩ := h'; simp only [VRels, Value.cells]; exact ⟨_, _, rfl, h, rfl⟩

/-- What an operation does to the heap. -/
inductive Eff where
  | none
  | new (o : AObj)
  | wr (id : Nat) (o : AObj)
  | mv (id : Nat) (o : AObj)

def Eff.apply (e : Eff) (g : AHeap) (n : Nat) : AHeap :=
  match e with
  | .none => g
  | .new o => upd g n (some o)
  | .wr id o => upd g id (some o)
  | .mv id o => upd (upd g id Option.none) n (some o)

def Eff.next (e : Eff) (n : Nat) : Nat :=
  match e with
  | .none => n
  | .new _ => n + 1
  | .wr _ _ => n
  | .mv _ _ => n + 1

/-- A value of the model's, got as said. -/
def Sim (P : Program) (s : Sem Value) (g : AHeap) (n : Nat) (x : AV) (e : Eff) (ι : Inj) (w : World) : Prop :=
  ∃ v w' ι', s.run P w = .ok v w' ∧ VRel ι' x v ∧ Post g (e.apply g n) n (e.next n) ι ι' w w'

/-- The same of a deed without a value. -/
def SimU (P : Program) (s : Sem Unit) (g : AHeap) (n : Nat) (e : Eff) (ι : Inj) (w : World) : Prop :=
  ∃ w' ι', s.run P w = .ok () w' ∧ Post g (e.apply g n) n (e.next n) ι ι' w w'

theorem Sim.pure {P : Program} {s : Sem Value} {g : AHeap} {n : Nat} {x : AV} {ι : Inj} {w : World} (k : HRel g ι w) (v : Value) (h : s.run P w = .ok v w) (hx : VRel ι x v) : Sim P s g n x .none ι w :=
  ⟨v, w, ι, h, hx, Post.refl k n⟩

end Go.Ev

/-! Ev: operations that look into no memory. -/
namespace Go.Ev
open Go

/-- A deed that asks nothing but the program. -/
def runPure {α : Type} (P : Program) : Sem α → Option α
  | .pure a => some a
  | .program k => runPure P (k P)
  | _ => none

theorem runPure_run {α : Type} {P : Program} : ∀ (s : Sem α) (a : α), runPure P s = some a → ∀ w, s.run P w = .ok a w := by
  intro s
  induction s with
  | pure a => intro b h w; simp only [runPure, Option.some.injEq] at h; subst h; rfl
  | program k ih => intro b h w; simp only [runPure] at h; simp only [Sem.run]; exact ih P b h w
  | _ => intro b h; simp [runPure] at h

/-- The value itself, where it names no memory. -/
def toValue : AV → Option Value
  | .bool b => some (.bool b)
  | .int k n => some (.int k n)
  | .nilPtr => some (.pointer none)
  | .nilSlice => some (.slice none 0 0)
  | .nilMap => some (.map none)
  | .nilFunc => some .nilFunc
  | .nilIface => some .nilIface
  | _ => none

theorem toValue_rel {ι : Inj} {x : AV} {v u : Value} (h : VRel ι x v) (k : toValue x = some u) : v = u := by
  cases x <;> simp [toValue] at k <;> simp only [VRel] at h <;> rw [h, k]

/-- Of values without memory: what the model's own deed yields. -/
def evPure (P : Program) (s : Sem Value) : Option AV := match runPure P s with | some v => ofValue v | none => none

theorem evPure_sim {P : Program} {s : Sem Value} {x : AV} (h : evPure P s = some x) {g : AHeap} {n : Nat} {ι : Inj} {w : World} (k : HRel g ι w) : Sim P s g n x .none ι w := by
  unfold evPure at h
  cases hr : runPure P s with
  | none => simp [hr] at h
  | some v => simp [hr] at h; exact Sim.pure k v (runPure_run s v hr w) (ofValue_rel ι v x h)

/-! ### Types -/
def aggT (P : Program) (t : TypeId) : Option Bool :=
  match P.underlying t with
  | some (.struct _) => some true
  | some (.array _ _) => some true
  | some _ => some false
  | none => none

theorem aggT_run {P : Program} {t : TypeId} {b : Bool} (h : aggT P t = some b) (w : World) : (isAgg t).run P w = .ok b w := by
  unfold aggT at h
  unfold isAgg
  cases hu : P.underlying t with
  | none => simp [hu] at h
  | some d => cases d <;> simp [hu] at h <;> subst h <;> simp [run_underlying hu]

def sizeT (P : Program) (t : TypeId) : Option Nat := (P.info? t).map (·.size)

theorem sizeT_run {P : Program} {t : TypeId} {k : Nat} (h : sizeT P t = some k) (w : World) : (sizeOf t).run P w = .ok k w := by
  unfold sizeT at h
  cases hi : P.info? t with
  | none => simp [hi] at h
  | some i => simp [hi] at h; subst h; simp [sizeOf, typeInfo, hi]

def zeroT (P : Program) (t : TypeId) : Option AV :=
  match P.info? t with
  | some i => match i.zero with | some z => ofValue z | none => none
  | none => none

theorem zeroT_run {P : Program} {t : TypeId} {x : AV} (h : zeroT P t = some x) (ι : Inj) (w : World) : ∃ v, (zeroValue t).run P w = .ok v w ∧ VRel ι x v := by
  unfold zeroT at h
  cases hi : P.info? t with
  | none => simp [hi] at h
  | some i =>
    cases hz : i.zero with
    | none => simp [hi, hz] at h
    | some z => simp [hi, hz] at h; exact ⟨z, by simp [zeroValue, typeInfo, hi, hz], ofValue_rel ι z x h⟩

/-- A part of an aggregate's cells. -/
def partAV (P : Program) (t : TypeId) (cs : List AV) (off : Nat) : Option AV :=
  match aggT P t with
  | some true => match sizeT P t with | some k => some (.agg ((cs.drop off).take k)) | none => none
  | some false => cs[off]?
  | none => none

theorem part_run {P : Program} {t : TypeId} {cs : List AV} {off : Nat} {x : AV} (h : partAV P t cs off = some x) {ι : Inj} {vs : Array Value} (hr : VRels ι cs vs.toList) (w : World) :
    ∃ v, (part t vs off).run P w = .ok v w ∧ VRel ι x v := by
  unfold partAV at h
  unfold part
  cases ha : aggT P t with
  | none => simp [ha] at h
  | some b =>
    cases b with
    | true =>
      cases hs : sizeT P t with
      | none => simp [ha, hs] at h
      | some k =>
        simp [ha, hs] at h
        subst h
        refine ⟨.agg (vs.extract off (off + k)), by simp [aggT_run ha, sizeT_run hs], ?_⟩
        simp only [VRel]
        refine ⟨_, rfl, ?_⟩
        rw [Array.toList_extract, List.extract_eq_take_drop]
        have : off + k - off = k := by omega
        rw [this]
        exact (hr.drop off).take k
    | false =>
      simp [ha] at h
      obtain ⟨v, hv, hx⟩ := hr.get h
      refine ⟨v, ?_, hx⟩
      rw [Array.getElem?_toList] at hv
      simp [aggT_run ha, hv]

def evField (P : Program) (t : TypeId) (x : AV) (f : Nat) : Option AV :=
  match P.underlying t, x with
  | some (.struct fs), .agg cs => match fs[f]? with | some fd => partAV P fd.type cs fd.offset | none => none
  | _, _ => none

theorem evField_sim {P : Program} {t : TypeId} {x y : AV} {f : Nat} (h : evField P t x f = some y) {g : AHeap} {n : Nat} {ι : Inj} {w : World} (k : HRel g ι w) {v : Value} (hx : VRel ι x v) :
    Sim P (Instr.field t v f) g n y .none ι w := by
  unfold evField at h
  cases hu : P.underlying t with
  | none => simp [hu] at h
  | some d =>
    cases d <;> simp only [hu] at h <;> (try (simp at h))
    rename_i fs
    cases x <;> simp only [] at h <;> (try (simp at h))
    rename_i cs
    cases hf : fs[f]? with
    | none => simp [hf] at h
    | some fd =>
      simp only [hf] at h
      simp only [VRel] at hx
      obtain ⟨vs, rfl, hr⟩ := hx
      obtain ⟨u, hu', hy⟩ := part_run h hr w
      exact Sim.pure k u (by simp [Instr.field, run_underlying hu, hf, asAgg, hu']) hy

def evFieldAddr (P : Program) (t : TypeId) (x : AV) (f : Nat) : Option AV :=
  match P.underlying t, x with
  | some (.struct fs), .ptr id off => match fs[f]? with
    | some fd => match sizeT P fd.type with
      | some k => bif Nat.beq k 0 then none else some (.ptr id (off + fd.offset))
      | none => none
    | none => none
  | _, _ => none

theorem evFieldAddr_sim {P : Program} {t : TypeId} {x y : AV} {f : Nat} (h : evFieldAddr P t x f = some y) {g : AHeap} {n : Nat} {ι : Inj} {w : World} (k : HRel g ι w) {v : Value} (hx : VRel ι x v) :
    Sim P (Instr.fieldAt t v f) g n y .none ι w := by
  unfold evFieldAddr at h
  cases hu : P.underlying t with
  | none => simp [hu] at h
  | some d =>
    cases d <;> simp only [hu] at h <;> (try (simp at h))
    rename_i fs
    cases x <;> simp only [] at h <;> (try (simp at h))
    rename_i id off
    cases hf : fs[f]? with
    | none => simp [hf] at h
    | some fd =>
      simp only [hf] at h
      cases hs : sizeT P fd.type with
      | none => simp [hs] at h
      | some s =>
        simp only [hs] at h
        cases hb : Nat.beq s 0 with
        | true => simp [hb] at h
        | false =>
          simp [hb] at h
          subst h
          rw [beqF] at hb
          simp only [VRel] at hx
          obtain ⟨p, hp, rfl⟩ := hx
          refine Sim.pure k (.pointer (some ⟨p.blk, p.base + (off + fd.offset), none⟩)) ?_ ?_
          · simp [Instr.fieldAt, run_underlying hu, hf, Instr.sureAddr, fieldPlace, sizeT_run hs, hb, Addr.add_lit, Nat.add_assoc]
          · simp only [VRel]; exact ⟨p, hp, rfl⟩

def evIndexAddr (P : Program) (t : TypeId) (x i : AV) : Option AV :=
  match i with
  | .int _ j =>
    match P.underlying t, x with
    | some (.slice e), .slice id off len _ sz =>
      match sizeT P e with
      | some s => bif Nat.beq s sz && decide (0 ≤ j) && decide (j < len) then some (.ptr id ((off + j.toNat) * sz)) else none
      | none => none
    | some (.array len e), .ptr id off =>
      match sizeT P e with
      | some s => bif decide (0 ≤ j) && decide (j < len) then some (.ptr id (off + j.toNat * s)) else none
      | none => none
    | _, _ => none
  | _ => none

theorem evIndexAddr_sim {P : Program} {t : TypeId} {x i y : AV} (h : evIndexAddr P t x i = some y) {g : AHeap} {n : Nat} {ι : Inj} {w : World} (k : HRel g ι w) {v u : Value} (hx : VRel ι x v) (hi : VRel ι i u) :
    Sim P (Instr.indexAt t v u) g n y .none ι w := by
  unfold evIndexAddr at h
  cases i <;> simp only [] at h <;> (try (simp at h))
  rename_i ik j
  simp only [VRel] at hi; subst hi
  cases hu : P.underlying t with
  | none => simp [hu] at h
  | some d =>
    cases d <;> simp only [hu] at h <;> (try (simp at h))
    case slice e =>
      cases x <;> simp only [] at h <;> (try (simp at h))
      rename_i id off len cap sz
      cases hs : sizeT P e with
      | none => simp [hs] at h
      | some s =>
        simp only [hs] at h
        cases hb : (Nat.beq s sz && decide (0 ≤ j) && decide (j < len)) with
        | false => rw [hb] at h; simp at h
        | true =>
          rw [hb] at h
          simp at h
          subst h
          simp only [Bool.and_eq_true, decide_eq_true_eq, beqT] at hb
          obtain ⟨⟨rfl, h0⟩, h1⟩ := hb
          simp only [VRel] at hx
          obtain ⟨p, a, c, hp, rfl, hsz, hlc, hroom, _, ha⟩ := hx
          have hc : c ≠ 0 := by omega
          have ha' := ha.resolve_left hc
          subst ha'
          refine Sim.pure k (.pointer (some ⟨p.blk, p.base + (off + j.toNat) * s, none⟩)) ?_ ?_
          · simp [Instr.indexAt, asIntOf, run_underlying hu, h0, h1, sizeT_run hs, Addr.add_lit, Nat.add_mul, Nat.add_assoc]
          · simp only [VRel]; exact ⟨p, hp, rfl⟩
    case array len e =>
      cases x <;> simp only [] at h <;> (try (simp at h))
      rename_i id off
      cases hs : sizeT P e with
      | none => simp [hs] at h
      | some s =>
        simp only [hs] at h
        cases hb : (decide (0 ≤ j) && decide (j < len)) with
        | false => rw [hb] at h; simp at h
        | true =>
          rw [hb] at h
          simp at h
          subst h
          simp only [Bool.and_eq_true, decide_eq_true_eq] at hb
          obtain ⟨h0, h1⟩ := hb
          simp only [VRel] at hx
          obtain ⟨p, hp, rfl⟩ := hx
          refine Sim.pure k (.pointer (some ⟨p.blk, p.base + (off + j.toNat * s), none⟩)) ?_ ?_
          · simp [Instr.indexAt, asIntOf, run_underlying hu, h0, h1, sizeT_run hs, Addr.add_lit, Instr.sureAddr, Nat.add_assoc]
          · simp only [VRel]; exact ⟨p, hp, rfl⟩

def evIndex (P : Program) (t : TypeId) (x i : AV) : Option AV :=
  match i with
  | .int _ j =>
    match P.underlying t, x with
    | some (.array len e), .agg cs =>
      match sizeT P e with
      | some s => bif decide (0 ≤ j) && decide (j < len) then partAV P e cs (j.toNat * s) else none
      | none => none
    | some .string, .str s => bif decide (0 ≤ j) then (match s[j.toNat]? with | some b => some (.int .u8 b) | none => none) else none
    | _, _ => none
  | _ => none

theorem bytesOf_get (s : List Nat) (i : Nat) : (bytesOf s)[i]? = (s[i]?).map UInt8.ofNat := by
  unfold bytesOf
  by_cases hi : i < s.length
  · have : i < (⟨(s.map UInt8.ofNat).toArray⟩ : ByteArray).size := by simpa [ByteArray.size] using hi
    rw [getElem?_pos _ i this]
    simp [List.getElem?_eq_getElem hi, ByteArray.getElem_eq_getElem_data]
  · have : ¬ i < (⟨(s.map UInt8.ofNat).toArray⟩ : ByteArray).size := by simpa [ByteArray.size] using hi
    rw [getElem?_neg _ i this]
    simp [List.getElem?_eq_none (Nat.le_of_not_lt hi)]

theorem bytesOf_size (s : List Nat) : (bytesOf s).size = s.length := by simp [bytesOf, ByteArray.size]

theorem evIndex_sim {P : Program} {t : TypeId} {x i y : AV} (h : evIndex P t x i = some y) {g : AHeap} {n : Nat} {ι : Inj} {w : World} (k : HRel g ι w) {v u : Value} (hx : VRel ι x v) (hi : VRel ι i u) :
    Sim P (Instr.index t v u) g n y .none ι w := by
  unfold evIndex at h
  cases i <;> simp only [] at h <;> (try (simp at h))
  rename_i ik j
  simp only [VRel] at hi; subst hi
  cases hu : P.underlying t with
  | none => simp [hu] at h
  | some d =>
    cases d <;> simp only [hu] at h <;> (try (simp at h))
    case string =>
      cases x <;> simp only [] at h <;> (try (simp at h))
      rename_i s
      cases h0 : decide (0 ≤ j) with
      | false => simp [h0] at h
      | true =>
        simp only [h0, cond_true] at h
        cases hb : s[j.toNat]? with
        | none => simp [hb] at h
        | some b =>
          simp [hb] at h
          subst h
          simp only [VRel] at hx
          obtain ⟨rfl, hall⟩ := hx
          have hlt := hall b (List.mem_of_getElem? hb)
          simp only [decide_eq_true_eq] at h0
          refine Sim.pure k (.int .u8 b) ?_ (by simp [VRel])
          have hg : (bytesOf s)[j.toNat]? = some (UInt8.ofNat b) := by rw [bytesOf_get, hb]; rfl
          simp [Instr.index, asIntOf, run_underlying hu, h0, hg, Nat.mod_eq_of_lt hlt]
    case array len e =>
      cases x <;> simp only [] at h <;> (try (simp at h))
      rename_i cs
      cases hs : sizeT P e with
      | none => simp [hs] at h
      | some s =>
        simp only [hs] at h
        cases hb : (decide (0 ≤ j) && decide (j < len)) with
        | false => rw [hb] at h; simp at h
        | true =>
          rw [hb] at h
          simp only [cond_true] at h
          simp only [Bool.and_eq_true, decide_eq_true_eq] at hb
          obtain ⟨h0, h1⟩ := hb
          simp only [VRel] at hx
          obtain ⟨vs, rfl, hr⟩ := hx
          obtain ⟨q, hq, hy⟩ := part_run h hr w
          exact Sim.pure k q (by simp [Instr.index, asIntOf, run_underlying hu, h0, h1, sizeT_run hs, hq]) hy

end Go.Ev

/-! Ev: aggregates, equality, texts. -/
namespace Go.Ev
open Go

/-! ### Aggregates that are put together -/
def spl (cells : List AV) (off : Nat) : List AV → List AV
  | [] => cells
  | x :: xs => spl (cells.set off x) (off + 1) xs

theorem spl_length (xs : List AV) : ∀ (cells : List AV) (off : Nat), (spl cells off xs).length = cells.length := by
  induction xs with
  | nil => intro c o; rfl
  | cons x xs ih => intro c o; simp [spl, ih]

theorem fold_rel {ι : Inj} : ∀ (xs : List AV) (vs : List Value) (off s : Nat) (cells : List AV) (cs : Array Value), VRels ι xs vs → VRels ι cells cs.toList →
    VRels ι (spl cells (off + s) xs) ((vs.zipIdx s).foldl (fun (cs : Array Value) (c, j) => cs.setIfInBounds (off + j) c) cs).toList
  | [], vs, off, s, cells, cs, h, k => by simp only [VRels] at h; subst h; simpa [spl] using k
  | x :: xs, vs, off, s, cells, cs, h, k => by
    simp only [VRels] at h
    obtain ⟨v, ws, rfl, h1, h2⟩ := h
    simp only [spl, List.zipIdx_cons, List.foldl_cons]
    have := fold_rel xs ws off (s + 1) (cells.set (off + s) x) (cs.setIfInBounds (off + s) v) h2 (by rw [Array.toList_setIfInBounds]; exact k.set _ h1)
    simpa [Nat.add_assoc] using this

def evFill (place : Nat → Option (Nat × Nat)) (cells : List AV) : List (Nat × AV) → Option (List AV)
  | [] => some cells
  | (i, x) :: rest =>
    match place i with
    | none => none
    | some (off, size) =>
      bif Nat.beq x.cells.length size && Nat.ble (off + size) cells.length then evFill place (spl cells off x.cells) rest else none

def PRels (ι : Inj) : List (Nat × AV) → List (Nat × Value) → Prop
  | [], vs => vs = []
  | (i, x) :: xs, vs => ∃ v ws, vs = (i, v) :: ws ∧ VRel ι x v ∧ PRels ι xs ws

theorem evFill_run {ι : Inj} (place : Nat → Option (Nat × Nat)) : ∀ (ps : List (Nat × AV)) (qs : List (Nat × Value)) (cells out : List AV) (cs : Array Value), PRels ι ps qs → VRels ι cells cs.toList →
    evFill place cells ps = some out → ∃ os : Array Value, Instr.fill place cs qs = some os ∧ VRels ι out os.toList
  | [], qs, cells, out, cs, hp, hc, h => by
    simp only [PRels] at hp; subst hp
    simp only [evFill, Option.some.injEq] at h; subst h
    exact ⟨cs, rfl, hc⟩
  | (i, x) :: ps, qs, cells, out, cs, hp, hc, h => by
    simp only [PRels] at hp
    obtain ⟨v, ws, rfl, hx, hp⟩ := hp
    simp only [evFill] at h
    cases hpl : place i with
    | none => simp [hpl] at h
    | some q =>
      obtain ⟨off, size⟩ := q
      simp only [hpl] at h
      cases hb : (Nat.beq x.cells.length size && Nat.ble (off + size) cells.length) with
      | false => simp [hb] at h
      | true =>
        simp only [hb, cond_true] at h
        simp only [Bool.and_eq_true, beqT, Nat.ble_eq] at hb
        have hxc := hx.cells
        have hl1 : v.cells.size = size := by have := hxc.length; simp at this; omega
        have hl2 : cs.size = cells.length := by have := hc.length; simpa using this
        have hf := fold_rel x.cells v.cells.toList off 0 cells cs hxc hc
        obtain ⟨os, h1, h2⟩ := evFill_run place ps ws _ out _ hp hf h
        refine ⟨os, ?_, h2⟩
        simp only [Instr.fill, hpl]
        rw [if_neg (by simp; omega)]
        rw [← h1]
        congr 1
        rw [← Array.foldl_toList]
        simp

def placesT (P : Program) (t : TypeId) : Option (Nat → Option (Nat × Nat)) :=
  match P.underlying t with
  | some (.array _ e) => match P.info? e with | some ie => some (fun i => some (i * ie.size, ie.size)) | none => none
  | some (.struct fs) => match fs.toList.mapM (fun f => (P.info? f.type).map fun i => (f.offset, i.size)) with | some ps => some (fun i => ps[i]?) | none => none
  | _ => none

def evBuild (P : Program) (t : TypeId) (ps : List (Nat × AV)) : Option AV :=
  match placesT P t, zeroT P t with
  | some pl, some z => match evFill pl z.cells ps with | some cs => some (.agg cs) | none => none
  | _, _ => none

theorem evBuild_sim {P : Program} {t : TypeId} {ps : List (Nat × AV)} {y : AV} (h : evBuild P t ps = some y) {g : AHeap} {n : Nat} {ι : Inj} {w : World} (k : HRel g ι w) {qs : Array (Nat × Value)} (hp : PRels ι ps qs.toList) :
    Sim P (Instr.build t qs) g n y .none ι w := by
  unfold evBuild at h
  cases hpl : placesT P t with
  | none => simp [hpl] at h
  | some pl =>
    cases hz : zeroT P t with
    | none => simp [hpl, hz] at h
    | some z =>
      simp only [hpl, hz] at h
      cases hf : evFill pl z.cells ps with
      | none => simp [hf] at h
      | some cs =>
        simp only [hf, Option.some.injEq] at h; subst h
        unfold zeroT at hz
        cases hi : P.info? t with
        | none => simp [hi] at hz
        | some it =>
          cases hiz : it.zero with
          | none => simp [hi, hiz] at hz
          | some zv =>
            simp only [hi, hiz] at hz
            obtain ⟨os, h1, h2⟩ := evFill_run pl ps qs.toList z.cells cs zv.cells hp (ofValue_rel ι zv z hz).cells hf
            refine Sim.pure k (.agg os) (run_build w t qs os ?_) (by simp only [VRel]; exact ⟨os, rfl, h2⟩)
            unfold placesT at hpl
            unfold Program.built
            cases hu : P.underlying t with
            | none => simp [hu] at hpl
            | some d =>
              cases d <;> simp only [hu] at hpl <;> (try (simp at hpl))
              case array len e =>
                cases hie : P.info? e with
                | none => simp [hie] at hpl
                | some ie => simp [hie] at hpl; subst hpl; simp [hi, hiz, hie, h1]
              case struct fs =>
                cases hm : fs.toList.mapM (fun f => (P.info? f.type).map fun i => (f.offset, i.size)) with
                | none => simp [hm] at hpl
                | some pl' =>
                  simp [hm] at hpl; subst hpl
                  simp only [hi, hiz, hm]
                  simpa using h1

/-! ### Texts -/
def strEq : List Nat → List Nat → Bool
  | [], [] => true
  | a :: x, b :: y => bif Nat.beq a b then strEq x y else false
  | _, _ => false

theorem strEq_iff : ∀ (a b : List Nat), strEq a b = true ↔ a = b
  | [], [] => by simp [strEq]
  | [], _ :: _ => by simp [strEq]
  | _ :: _, [] => by simp [strEq]
  | a :: x, b :: y => by
    simp only [strEq]
    cases h : Nat.beq a b with
    | true => rw [beqT] at h; subst h; simp [strEq_iff x y]
    | false => rw [beqF] at h; simp [h]

theorem bytesOf_toList (s : List Nat) : (bytesOf s).toList = s.map UInt8.ofNat := by
  rw [Lib.toList_data]; simp [bytesOf]

theorem map_inj8 : ∀ (a b : List Nat), (∀ x ∈ a, x < 256) → (∀ x ∈ b, x < 256) → a.map UInt8.ofNat = b.map UInt8.ofNat → a = b
  | [], [], _, _, _ => rfl
  | [], _ :: _, _, _, h => by simp at h
  | _ :: _, [], _, _, h => by simp at h
  | a :: x, b :: y, ha, hb, h => by
    simp only [List.map_cons, List.cons.injEq] at h
    have h1 := congrArg UInt8.toNat h.1
    simp only [UInt8.toNat_ofNat', Nat.reducePow] at h1
    rw [Nat.mod_eq_of_lt (ha a (by simp)), Nat.mod_eq_of_lt (hb b (by simp))] at h1
    rw [h1, map_inj8 x y (fun z hz => ha z (by simp [hz])) (fun z hz => hb z (by simp [hz])) h.2]

theorem strEq_run {a b : List Nat} (ha : ∀ x ∈ a, x < 256) (hb : ∀ x ∈ b, x < 256) : ((bytesOf a).toList == (bytesOf b).toList) = strEq a b := by
  rw [bytesOf_toList, bytesOf_toList, Bool.eq_iff_iff, strEq_iff, beq_iff_eq]
  exact ⟨map_inj8 a b ha hb, fun h => by rw [h]⟩

/-! ### Equality -/
def evEqFields (P : Program) (eqv : TypeId → AV → AV → Option Bool) (xs ys : List AV) : List Field → Option Bool
  | [] => some true
  | f :: fs =>
    bif decide (f.name = "_") then none else
    match partAV P f.type xs f.offset, partAV P f.type ys f.offset with
    | some a, some b => match eqv f.type a b with
      | some true => evEqFields P eqv xs ys fs
      | some false => some false
      | none => none
    | _, _ => none

def nilEq : TypeDesc → AV → AV → Option Bool
  | .pointer _, .nilPtr, .nilPtr => some true
  | .pointer _, .nilPtr, .ptr _ _ => some false
  | .pointer _, .ptr _ _, .nilPtr => some false
  | .slice _, .nilSlice, .nilSlice => some true
  | .slice _, .nilSlice, .slice _ _ _ _ _ => some false
  | .slice _, .slice _ _ _ _ _, .nilSlice => some false
  | .map _ _, .nilMap, .nilMap => some true
  | .map _ _, .nilMap, .map _ => some false
  | .map _ _, .map _, .nilMap => some false
  | .func _ _ _, .nilFunc, .nilFunc => some true
  | .func _ _ _, .nilFunc, .func _ _ _ => some false
  | .func _ _ _, .func _ _ _, .nilFunc => some false
  | .interface _, .nilIface, .iface _ _ => some false
  | .interface _, .iface _ _, .nilIface => some false
  | _, _, _ => none

theorem nilEq_run {P : Program} {d : TypeDesc} {x y : AV} {b : Bool} (h : nilEq d x y = some b) {ι : Inj} {v u : Value} (hx : VRel ι x v) (hy : VRel ι y u) {t : TypeId} (ht : P.underlying t = some d) (D : Nat) (w : World) :
    (Op.equalIn (D + 1) t v u).run P w = .ok b w := by
  cases d <;> cases x <;> simp only [nilEq] at h <;> (try (cases h; done)) <;> cases y <;> simp only [nilEq] at h <;> (try (cases h; done)) <;> simp only [Option.some.injEq] at h <;> subst h <;> simp only [VRel] at hx hy <;>
    (try (obtain ⟨_, _, rfl⟩ := hx)) <;> (try (obtain ⟨_, _, rfl⟩ := hy)) <;> (try (obtain ⟨_, _, _, _, rfl, _⟩ := hx)) <;> (try (obtain ⟨_, _, _, _, rfl, _⟩ := hy)) <;>
    (try (obtain ⟨_, _, rfl, _⟩ := hx)) <;> (try (obtain ⟨_, _, rfl, _⟩ := hy)) <;> (try (obtain ⟨_, rfl, _⟩ := hx)) <;> (try (obtain ⟨_, rfl, _⟩ := hy)) <;> (try subst hx) <;> (try subst hy) <;> simp [Op.equalIn, run_underlying ht]

def evEq (P : Program) : Nat → TypeId → AV → AV → Option Bool
  | 0, _, _, _ => none
  | d + 1, t, x, y =>
    match P.underlying t with
    | none => none
    | some td =>
      match td, x, y with
      | .int _, .int k a, .int k' b => bif decide (k = k') then some (decide (a = b)) else none
      | .bool, .bool a, .bool b => some (a == b)
      | .string, .str a, .str b => some (strEq a b)
      | .struct fs, .agg xs, .agg ys => bif P.stoodInHeld t then none else evEqFields P (evEq P d) xs ys fs.toList
      | td, x, y => nilEq td x y

theorem evEq_run {P : Program} : ∀ (d : Nat) (t : TypeId) (x y : AV) (b : Bool), evEq P d t x y = some b → ∀ (ι : Inj) (v u : Value), VRel ι x v → VRel ι y u → ∀ (D : Nat), d ≤ D → ∀ (w : World), (Op.equalIn D t v u).run P w = .ok b w
  | 0, t, x, y, b, h => by simp [evEq] at h
  | d + 1, t, x, y, b, h => by
    intro ι v u hx hy D hD w
    obtain ⟨D, rfl⟩ : ∃ E, D = E + 1 := ⟨D - 1, by omega⟩
    unfold evEq at h
    cases hu : P.underlying t with
    | none => simp [hu] at h
    | some td =>
      simp only [hu] at h
      split at h
      · rename_i kk k a k' c
        cases hk : decide (k = k') with
        | false => simp [hk] at h
        | true =>
          simp only [hk, cond_true, Option.some.injEq] at h
          simp only [decide_eq_true_eq] at hk
          subst hk; subst h
          simp only [VRel] at hx hy; subst hx; subst hy
          rw [run_equalIn_int w D t k kk a c hu]
          congr 1
      · simp only [Option.some.injEq] at h; subst h
        simp only [VRel] at hx hy; subst hx; subst hy
        rw [run_equalIn_bool' w D t _ _ hu]
      · simp only [Option.some.injEq] at h; subst h
        simp only [VRel] at hx hy
        obtain ⟨rfl, ha⟩ := hx
        obtain ⟨rfl, hb⟩ := hy
        rw [run_equalIn_string w D t _ _ hu, strEq_run ha hb]
      · rename_i fs xs ys
        cases hs : P.stoodInHeld t with
        | true => simp [hs] at h
        | false =>
          simp only [hs, cond_false] at h
          simp only [VRel] at hx hy
          obtain ⟨vs, rfl, hxs⟩ := hx
          obtain ⟨us, rfl, hys⟩ := hy
          have hf : P.fieldsOf t = fs := by simp [Program.fieldsOf, hu]
          rw [run_equalIn_struct w D t vs us (by rw [hf]; exact hu) hs, hf]
          have key : ∀ (l : List Field), evEqFields P (evEq P d) xs ys l = some b → (Op.eqFields D vs us l).run P w = .ok b w := by
            intro l
            induction l with
            | nil => intro h; simp only [evEqFields, Option.some.injEq] at h; subst h; simp [Op.eqFields]
            | cons f fs ih =>
              intro h
              simp only [evEqFields] at h
              cases hn : decide (f.name = "_") with
              | true => simp [hn] at h
              | false =>
                simp only [hn, cond_false] at h
                simp only [decide_eq_false_iff_not] at hn
                cases ha : partAV P f.type xs f.offset with
                | none => simp [ha] at h
                | some a =>
                  cases hb : partAV P f.type ys f.offset with
                  | none => simp [ha, hb] at h
                  | some c =>
                    simp only [ha, hb] at h
                    obtain ⟨va, h1, h2⟩ := part_run ha hxs w
                    obtain ⟨vc, h3, h4⟩ := part_run hb hys w
                    cases he : evEq P d f.type a c with
                    | none => simp [he] at h
                    | some r =>
                      have hr := evEq_run d f.type a c r he ι va vc h2 h4 D (by omega) w
                      simp only [he] at h
                      cases r with
                      | true =>
                        simp only [Op.eqFields, ne_eq, hn, not_false_eq_true, if_true, Sem.run_bind, h1, h3, Result.andThen_ok, hr]
                        simpa using ih h
                      | false =>
                        simp only [Option.some.injEq] at h
                        subst h
                        simp [Op.eqFields, hn, h1, h3, hr]
          exact key _ h
      · exact nilEq_run h hx hy hu D w

end Go.Ev

/-! Ev: operations on memory: new objects, loads, stores. -/
namespace Go.Ev
open Go

def allOne : List AV → Bool
  | [] => true
  | x :: xs => bif x.one then allOne xs else false

theorem allOne_spec : ∀ {xs : List AV}, allOne xs = true → ∀ x ∈ xs, x.one = true
  | [], _, x, hx => by simp at hx
  | y :: ys, h, x, hx => by
    simp only [allOne] at h
    cases hy : y.one with
    | false => simp [hy] at h
    | true =>
      simp only [hy, cond_true] at h
      rcases List.mem_cons.1 hx with rfl | hx
      · exact hy
      · exact allOne_spec h x hx

theorem heap_alloc_new (w : World) (o : Obj) : (w.alloc o).heap[w.heap.size]? = some o := by
  show (w.heap.push o)[w.heap.size]? = some o
  simp

/-- A new row of cells. -/
theorem newCells {P : Program} {g : AHeap} {n : Nat} {ι : Inj} {w : World} (k : HRel g ι w) (hn : ι n = none) (data : List AV) (sz cap : Nat) (hl : data.length = cap * sz) (h1 : allOne data = true)
    (vs : Array Value) (hr : VRels ι data vs.toList) (el : TypeId) :
    (newRow el vs).run P w = .ok ⟨w.heap.size, 0, none⟩ (w.alloc (.cells vs el)) ∧
    Post g (upd g n (some (.cells sz data))) n (n + 1) ι (upd ι n (some ⟨w.heap.size, 0, cap, sz⟩)) w (w.alloc (.cells vs el)) := by
  refine ⟨rfl, Post.newObj k hn _ _ _ rfl ?_⟩
  refine ⟨vs, el, heap_alloc_new w _, rfl, ?_, Nat.le_of_eq hl, fun i x hx => ⟨allOne_spec h1 x (List.mem_of_getElem? hx), ?_⟩⟩
  · have := hr.length; simp at this; simp; omega
  · obtain ⟨v, hv, hxv⟩ := hr.get hx
    exact ⟨v, by simpa using hv, VRel.ext (ext_upd hn _) _ _ hxv⟩

/-- What one op yields: its value (none: it yields nothing), the objects that it looked into, what it does. -/
structure OpR where
  v : Option AV
  rd : List Nat
  eff : Eff

def evBox (n : Nat) (cs : List AV) : Option (AV × Eff) :=
  bif allOne cs then some (.ptr n 0, .new (.cells cs.length cs)) else none

theorem evBox_sim {P : Program} {n : Nat} {x y : AV} {e : Eff} (h : evBox n x.cells = some (y, e)) {g : AHeap} {ι : Inj} {w : World} (k : HRel g ι w) (hn : ι n = none) {v : Value} (hx : VRel ι x v) (t : TypeId) :
    Sim P (Instr.box t v) g n y e ι w := by
  unfold evBox at h
  cases ha : allOne x.cells with
  | false => simp [ha] at h
  | true =>
    simp [ha] at h
    obtain ⟨rfl, rfl⟩ := h
    obtain ⟨h1, h2⟩ := newCells (P := P) k hn x.cells x.cells.length 1 (by omega) ha v.cells hx.cells t
    refine ⟨.pointer (some ⟨w.heap.size, 0, none⟩), _, _, ?_, ?_, h2⟩
    · simp [Instr.box, newVar, h1]
    · simp only [VRel]; exact ⟨_, upd_same _ _ _, rfl⟩

def evAlloc (P : Program) (n : Nat) (t : TypeId) : Option (AV × Eff) :=
  match zeroT P t with | some z => evBox n z.cells | none => none

theorem evAlloc_sim {P : Program} {n : Nat} {t : TypeId} {y : AV} {e : Eff} (h : evAlloc P n t = some (y, e)) {g : AHeap} {ι : Inj} {w : World} (k : HRel g ι w) (hn : ι n = none) :
    Sim P (Instr.alloc t true (.tuple #[])) g n y e ι w := by
  unfold evAlloc at h
  cases hz : zeroT P t with
  | none => simp [hz] at h
  | some z =>
    simp only [hz] at h
    obtain ⟨v, h1, h2⟩ := zeroT_run hz ι w
    obtain ⟨u, w', ι', r, q⟩ := evBox_sim (P := P) h k hn h2 t
    refine ⟨u, w', ι', ?_, q⟩
    simp only [Instr.box, Sem.run_bind] at r
    simp only [Instr.alloc, Sem.run_bind, h1, Result.andThen_ok]
    exact r

/-! ### Loads -/
def evLoad (P : Program) (g : AHeap) (t : TypeId) (a : AV) : Option AV :=
  match a with
  | .ptr id off =>
    match g id with
    | some (.cells _ data) =>
      match aggT P t with
      | some true => match sizeT P t with
        | some s => bif Nat.ble (off + s) data.length then some (.agg ((data.drop off).take s)) else none
        | none => none
      | some false => data[off]?
      | none => none
    | some (.ro _ data) =>
      match aggT P t with
      | some true => match sizeT P t with
        | some s => bif Nat.ble (off + s) data.length then some (.agg ((data.drop off).take s)) else none
        | none => none
      | some false => data[off]?
      | none => none
    | _ => none
  | _ => none

/-- An object whose cells may be read. -/
def Rd (o : Option AObj) (sz : Nat) (data : List AV) : Prop := o = some (.cells sz data) ∨ o = some (.ro sz data)

theorem rdAt {g : AHeap} {ι : Inj} {w : World} (k : HRel g ι w) {id sz : Nat} {data : List AV} (h : Rd (g id) sz data) :
    ∃ p c el fr, ι id = some p ∧ w.heap[p.blk]? = some (.cells c el fr) ∧ p.sz = sz ∧ data.length ≤ p.cap * sz ∧
      ∀ (i : Nat) (x : AV), data[i]? = some x → x.one = true ∧ ∃ v, c[p.base + i]? = some v ∧ VRel ι x v := by
  rcases h with h | h
  · obtain ⟨p, hp, c, el, h1, h2, h3, h4, h5⟩ := k.obj id _ h
    exact ⟨p, c, el, _, hp, h1, h2, h4, h5⟩
  · obtain ⟨p, hp, c, el, fr, h1, h2, h4, h5⟩ := k.obj id _ h
    exact ⟨p, c, el, fr, hp, h1, h2, h4, h5⟩

theorem cellsAt {g : AHeap} {ι : Inj} {w : World} (k : HRel g ι w) {id sz : Nat} {data : List AV} (h : g id = some (.cells sz data)) :
    ∃ p c el, ι id = some p ∧ w.heap[p.blk]? = some (.cells c el (0, 0)) ∧ p.sz = sz ∧ p.base + p.cap * sz ≤ c.size ∧ data.length ≤ p.cap * sz ∧
      ∀ (i : Nat) (x : AV), data[i]? = some x → x.one = true ∧ ∃ v, c[p.base + i]? = some v ∧ VRel ι x v := by
  obtain ⟨p, hp, c, el, h1, h2, h3, h4, h5⟩ := k.obj id _ h
  exact ⟨p, c, el, hp, h1, h2, h3, h4, h5⟩

/-- A stretch of cells, loaded. -/
theorem loads {P : Program} {ι : Inj} {w : World} {p : Place} {c : Array Value} {el : TypeId} {fr : Nat × Nat} {data : List AV} (hb : w.heap[p.blk]? = some (.cells c el fr))
    (hd : ∀ (i : Nat) (x : AV), data[i]? = some x → x.one = true ∧ ∃ v, c[p.base + i]? = some v ∧ VRel ι x v) (off s : Nat) (hl : off + s ≤ data.length) :
    ∃ vs : List Value, vs.length = s ∧ (∀ w' : World, w'.heap = w.heap → (loadCells ⟨p.blk, p.base + off, none⟩ s).run P w' = .ok vs.toArray w') ∧ VRels ι ((data.drop off).take s) vs ∧ ∀ v ∈ vs, v.oneCell' = true := by
  have hc : ∀ j, j < s → p.base + off + j < c.size := by
    intro j hj
    obtain ⟨x, hx⟩ : ∃ x, data[off + j]? = some x := ⟨_, List.getElem?_eq_getElem (by omega)⟩
    obtain ⟨_, v, hv, _⟩ := hd _ x hx
    have := (Array.getElem?_eq_some_iff.1 hv).1; omega
  have hlen : ((c.toList.drop (p.base + off)).take s).length = s := by
    rw [List.length_take, List.length_drop]
    rcases Nat.eq_zero_or_pos s with h0 | h0
    · omega
    · have := hc (s - 1) (by omega); simp; omega
  have hget : ∀ j v, ((c.toList.drop (p.base + off)).take s)[j]? = some v → c[p.base + off + j]? = some v ∧ j < s := by
    intro j v hv
    rw [List.getElem?_take] at hv
    split at hv
    · rename_i hj; rw [List.getElem?_drop] at hv; exact ⟨by simpa using hv, hj⟩
    · cases hv
  refine ⟨(c.toList.drop (p.base + off)).take s, hlen, ?_, ?_, ?_⟩
  · intro w' hw'
    have := run_loadCells_list (P := P) w' ⟨p.blk, p.base + off, none⟩ ((c.toList.drop (p.base + off)).take s) (fun j v hv => by
      rw [Addr.add_lit]; simp only [World.cell?, hw', hb]; simpa using (hget j v hv).1)
    rwa [hlen] at this
  · refine VRels.of_get (by rw [hlen]; simp; omega) fun i x hx => ?_
    rw [List.getElem?_take] at hx
    split at hx
    · rename_i hi
      rw [List.getElem?_drop] at hx
      obtain ⟨_, v, hv, hr⟩ := hd _ x hx
      refine ⟨v, ?_, hr⟩
      rw [List.getElem?_take, if_pos hi, List.getElem?_drop]
      simpa [Nat.add_assoc] using hv
    · cases hx
  · intro v hv
    obtain ⟨j, hj⟩ := List.getElem?_of_mem hv
    obtain ⟨h1, h2⟩ := hget j v hj
    obtain ⟨x, hx⟩ : ∃ x, data[off + j]? = some x := ⟨_, List.getElem?_eq_getElem (by omega)⟩
    obtain ⟨ho, u, hu, hr⟩ := hd _ x hx
    have : u = v := by rw [Nat.add_assoc] at h1; rw [hu] at h1; exact Option.some.inj h1
    subst this
    have := hr.one
    rw [ho] at this
    cases u <;> simp_all [Value.one, Value.oneCell']

theorem evLoad_run {P : Program} {g : AHeap} {t : TypeId} {a y : AV} (h : evLoad P g t a = some y) {ι : Inj} {w : World} (k : HRel g ι w) {v : Value} (ha : VRel ι a v) :
    ∃ u, (Instr.loadAt t v).run P w = .ok u w ∧ VRel ι y u := by
  unfold evLoad at h
  cases a <;> simp only [] at h <;> (try (simp at h))
  rename_i id off
  cases hg : g id with
  | none => simp [hg] at h
  | some o =>
    cases o <;> simp only [hg] at h <;> (try (simp at h)) <;> rename_i sz data
    all_goals
     obtain ⟨p, c, el, fr, hp, hb, hsz, hlen, hd⟩ := rdAt k (by first | exact .inl hg | exact .inr hg)
    all_goals
     simp only [VRel] at ha
     obtain ⟨q, hq, rfl⟩ := ha
     obtain rfl : q = p := by rw [hp] at hq; exact (Option.some.inj hq).symm
     cases hag : aggT P t with
     | none => simp [hag] at h
     | some b =>
       cases b with
       | true =>
         cases hs : sizeT P t with
         | none => simp [hag, hs] at h
         | some s =>
           simp only [hag, hs] at h
           cases hle : Nat.ble (off + s) data.length with
           | false => simp [hle] at h
           | true =>
             simp [hle] at h
             subst h
             obtain ⟨vs, _, h2, h3, _⟩ := loads (P := P) hb hd off s (Nat.le_of_ble_eq_true hle)
             refine ⟨.agg vs.toArray, ?_, by simp only [VRel]; exact ⟨_, rfl, by simpa using h3⟩⟩
             simp [Instr.loadAt, Instr.sureAddr, loadVar, aggT_run hag, sizeT_run hs, h2 w rfl]
       | false =>
         simp only [hag] at h
         obtain ⟨_, u, hu, hr⟩ := hd off y h
         refine ⟨u, ?_, hr⟩
         have hc : w.cell? ⟨q.blk, q.base + off, none⟩ = some u := by simp only [World.cell?, hb]; simpa using hu
         simp [Instr.loadAt, Instr.sureAddr, loadVar, aggT_run hag, run_load, hc]

theorem evLoad_sim {P : Program} {g : AHeap} {t : TypeId} {a y : AV} (h : evLoad P g t a = some y) {n : Nat} {ι : Inj} {w : World} (k : HRel g ι w) {v : Value} (ha : VRel ι a v) :
    Sim P (Instr.loadAt t v) g n y .none ι w :=
  let ⟨u, h1, h2⟩ := evLoad_run h k ha
  Sim.pure k u h1 h2

/-! ### Stores -/
def evStore (P : Program) (g : AHeap) (t : TypeId) (a x : AV) : Option (Nat × Eff) :=
  match a with
  | .ptr id off =>
    match g id with
    | some (.cells sz data) =>
      match sizeT P t with
      | some s => bif Nat.beq x.cells.length s && Nat.ble (off + s) data.length && allOne x.cells then some (id, .wr id (.cells sz (data.take off ++ x.cells ++ data.drop (off + s)))) else none
      | none => none
    | _ => none
  | _ => none

/-- Cells written into an object's stretch. -/
theorem stores {P : Program} {g : AHeap} {n : Nat} {ι : Inj} {w : World} (k : HRel g ι w) {id sz : Nat} {data : List AV} (hg : g id = some (.cells sz data)) {p : Place} (hp : ι id = some p)
    (off : Nat) (xs : List AV) (hl : off ≤ data.length) (hfit : off + xs.length ≤ p.cap * sz) (h1 : allOne xs = true) (vs : List Value) (hr : VRels ι xs vs) :
    ∃ w', (storeCells ⟨p.blk, p.base + off, none⟩ vs).run P w = .ok () w' ∧
      Post g (upd g id (some (.cells sz (data.take off ++ xs ++ data.drop (off + xs.length))))) n n ι ι w w' := by
  obtain ⟨q, c, el, hq, hb, hsz, hroom, hlen, hd⟩ := cellsAt k hg
  obtain rfl : q = p := by rw [hp] at hq; exact (Option.some.inj hq).symm
  have hvl := hr.length
  have hvone : ∀ v ∈ vs, v.oneCell' = true := by
    intro v hv
    obtain ⟨j, hj⟩ := List.getElem?_of_mem hv
    have hjl : j < vs.length := (List.getElem?_eq_some_iff.1 hj).1
    obtain ⟨x, hx⟩ : ∃ x, xs[j]? = some x := ⟨_, List.getElem?_eq_getElem (by omega)⟩
    obtain ⟨u, hu, hxu⟩ := hr.get hx
    obtain rfl : u = v := by rw [hu] at hj; exact Option.some.inj hj
    have h2 := hxu.one
    rw [allOne_spec h1 x (List.mem_of_getElem? hx)] at h2
    cases u <;> simp_all [Value.one, Value.oneCell']
  have hst := run_storeCells_at P q.blk (q.base + off) el vs 0 c w hb (by simp; omega) hvone
  simp only [Nat.add_zero] at hst
  refine ⟨_, hst, Post.setObj k n hg hp rfl _ rfl rfl ?_ ?_ ?_⟩
  · simp [World.setRow]
  · intro b hne; simp [World.setRow, Array.getElem?_modify, Ne.symm hne]
  · refine ⟨_, el, setRow_heap w q.blk c _ el _ hb, hsz, ?_, ?_, ?_⟩
    · simp; omega
    · simp; omega
    · intro i x hx
      have hi : i < (data.take off ++ xs ++ data.drop (off + xs.length)).length := (List.getElem?_eq_some_iff.1 hx).1
      have tk : (data.take off).length = off := by simp; omega
      have hcl : c.size = c.toList.length := by simp
      by_cases h1' : i < off
      · rw [List.append_assoc, List.getElem?_append_left (by omega), List.getElem?_take, if_pos h1'] at hx
        obtain ⟨a, v, hv, hxv⟩ := hd i x hx
        refine ⟨a, v, ?_, hxv⟩
        simp only [List.getElem?_toArray]
        rw [List.append_assoc, List.getElem?_append_left (by simp; omega), List.getElem?_take, if_pos (by omega)]
        simpa using hv
      · by_cases h2' : i < off + xs.length
        · rw [List.append_assoc, List.getElem?_append_right (by omega), List.getElem?_append_left (by omega), tk] at hx
          obtain ⟨v, hv, hxv⟩ := hr.get hx
          refine ⟨allOne_spec h1 x (List.mem_of_getElem? hx), v, ?_, hxv⟩
          simp only [List.getElem?_toArray]
          have tk2 : (c.toList.take (q.base + off)).length = q.base + off := by simp; omega
          rw [List.append_assoc, List.getElem?_append_right (by omega), List.getElem?_append_left (by omega), tk2]
          rw [show q.base + i - (q.base + off) = i - off by omega]; exact hv
        · rw [List.append_assoc, List.getElem?_append_right (by omega), List.getElem?_append_right (by omega), tk, List.getElem?_drop] at hx
          rw [show off + xs.length + (i - off - xs.length) = i by omega] at hx
          obtain ⟨a, v, hv, hxv⟩ := hd i x hx
          refine ⟨a, v, ?_, hxv⟩
          simp only [List.getElem?_toArray]
          have tk2 : (c.toList.take (q.base + off)).length = q.base + off := by simp; omega
          rw [List.append_assoc, List.getElem?_append_right (by omega), List.getElem?_append_right (by omega), tk2, List.getElem?_drop]
          rw [show q.base + off + vs.length + (q.base + i - (q.base + off) - vs.length) = q.base + i by omega]
          simpa using hv

theorem evStore_sim {P : Program} {g : AHeap} {t : TypeId} {a x : AV} {i : Nat} {e : Eff} (h : evStore P g t a x = some (i, e)) {n : Nat} {ι : Inj} {w : World} (k : HRel g ι w) {v u : Value} (ha : VRel ι a v) (hx : VRel ι x u) :
    SimU P (Instr.storeAt t v u) g n e ι w := by
  unfold evStore at h
  cases a <;> simp only [] at h <;> (try (simp at h))
  rename_i id off
  cases hg : g id with
  | none => simp [hg] at h
  | some o =>
    cases o <;> simp only [hg] at h <;> (try (simp at h))
    rename_i sz data
    cases hs : sizeT P t with
    | none => simp [hs] at h
    | some s =>
      simp only [hs] at h
      cases hb : (Nat.beq x.cells.length s && Nat.ble (off + s) data.length && allOne x.cells) with
      | false => simp [hb] at h
      | true =>
        simp [hb] at h
        obtain ⟨rfl, rfl⟩ := h
        simp only [Bool.and_eq_true, beqT, Nat.ble_eq] at hb
        obtain ⟨⟨h1, h2⟩, h3⟩ := hb
        obtain ⟨p, c, el, hp, _, _, _, hlen, _⟩ := cellsAt k hg
        simp only [VRel] at ha
        obtain ⟨q, hq, rfl⟩ := ha
        obtain rfl : q = p := by rw [hp] at hq; exact (Option.some.inj hq).symm
        obtain ⟨w', hr, hpost⟩ := stores (P := P) (n := n) k hg hp off x.cells (by omega) (by omega) h3 u.cells.toList hx.cells
        refine ⟨w', ι, ?_, ?_⟩
        · have hsz : u.cells.size = s := by have := hx.cells.length; simp at this; omega
          simp [Instr.storeAt, Instr.sureAddr, storeVar, sizeT_run hs, hsz, hr]
        · subst h1; rw [List.append_assoc] at hpost; exact hpost

end Go.Ev

/-! Ev: slices. -/
namespace Go.Ev
open Go

/-! ### Rows of zeros -/
def zrow (z : List AV) (k : Nat) : List AV := (List.range k).map fun i => z.getD (i % z.length) .nilPtr

theorem zrow_length (z : List AV) (k : Nat) : (zrow z k).length = k := by simp [zrow]

theorem zrow_rel {ι : Inj} {z : List AV} {vs : Array Value} (h : VRels ι z vs.toList) (k : Nat) (hk : 0 < k → 0 < z.length) : VRels ι (zrow z k) ((Array.range k).map (vs[· % vs.size]!)).toList := by
  refine VRels.of_get (by simp [zrow]) fun i x hx => ?_
  have hi : i < k := by have := (List.getElem?_eq_some_iff.1 hx).1; rwa [zrow_length] at this
  have hz := hk (by omega)
  have hl : vs.size = z.length := by have := h.length; simpa using this
  have hm : i % z.length < z.length := Nat.mod_lt _ hz
  simp only [zrow, List.getElem?_map, List.getElem?_range hi, Option.map_some, Option.some.injEq] at hx
  obtain ⟨v, hv, hr⟩ := h.get (i := i % z.length) (x := x) (by rw [← hx]; simp [List.getD, List.getElem?_eq_getElem hm])
  refine ⟨v, ?_, hr⟩
  rw [Array.getElem?_toList] at hv ⊢
  simp only [Array.getElem?_map]
  rw [Array.getElem?_range]
  simp only [hi, if_true, Option.map_some, hl]
  congr 1
  rw [← hl] at hv ⊢
  simp [getElem!_def, hv]

theorem zrow_one {z : List AV} (h : allOne z = true) : ∀ k, allOne (zrow z k) = true := by
  intro k
  have : ∀ l : List AV, (∀ x ∈ l, x.one = true) → allOne l = true := by
    intro l
    induction l with
    | nil => intro _; rfl
    | cons y ys ih => intro hy; simp only [allOne, hy y (by simp), cond_true]; exact ih fun x hx => hy x (by simp [hx])
  refine this _ fun x hx => ?_
  simp only [zrow, List.mem_map] at hx
  obtain ⟨i, _, rfl⟩ := hx
  rw [List.getD]
  cases hg : z[i % z.length]? with
  | none => rfl
  | some y => exact allOne_spec h y (List.mem_of_getElem? hg)

theorem mapZ (f : Nat → Value) : Array.map f (Array.range 0) = #[] := by simp

/-- The zeros that a new row is made of: none are asked for where the row is empty. -/
theorem zeros_run {P : Program} {e : TypeId} {z : AV} (hz : zeroT P e = some z) (ι : Inj) (w : World) (k : Nat) (hl : k = 0 ∨ 0 < z.cells.length) :
    (k = 0 ∧ ∀ Z : Array Value, (Array.range k).map (Z[· % Z.size]!) = #[] ∧ zrow z.cells k = []) ∨
    (k ≠ 0 ∧ ∃ v : Value, (zeroValue e).run P w = .ok v w ∧ VRels ι (zrow z.cells k) ((Array.range k).map (v.cells[· % v.cells.size]!)).toList) := by
  obtain ⟨v, h1, h2⟩ := zeroT_run hz ι w
  by_cases h0 : k = 0
  · subst h0
    exact .inl ⟨rfl, fun Z => ⟨by simp, by simp [zrow]⟩⟩
  · exact .inr ⟨h0, v, h1, zrow_rel h2.cells k fun _ => hl.resolve_left h0⟩

/-! ### A slice that is put together -/
def evBuildSlice (P : Program) (n : Nat) (t : TypeId) (len : Nat) (ps : List (Nat × AV)) : Option (AV × Eff) :=
  match P.underlying t with
  | some (.slice e) =>
    match sizeT P e, zeroT P e with
    | some s, some z =>
      bif Nat.ble (len * s) 16777216 && (Nat.beq (len * s) 0 || Nat.blt 0 z.cells.length) then
        match evFill (fun i => some (i * s, s)) (zrow z.cells (len * s)) ps with
        | some cs => bif allOne cs then some (.slice n 0 len (some len) s, .new (.cells s cs)) else none
        | none => none
      else none
    | _, _ => none
  | _ => none

theorem evFill_length : ∀ (pl : Nat → Option (Nat × Nat)) (ps : List (Nat × AV)) (cells out : List AV), evFill pl cells ps = some out → out.length = cells.length
  | pl, [], cells, out, h => by simp only [evFill, Option.some.injEq] at h; rw [h]
  | pl, (i, x) :: ps, cells, out, h => by
    simp only [evFill] at h
    cases hp : pl i with
    | none => simp [hp] at h
    | some q =>
      simp only [hp] at h
      cases hb : (Nat.beq x.cells.length q.2 && Nat.ble (q.1 + q.2) cells.length) with
      | false => simp [hb] at h
      | true =>
        simp only [hb, cond_true] at h
        rw [evFill_length pl ps _ out h, spl_length]

theorem evBuildSlice_sim {P : Program} {n : Nat} {t : TypeId} {len : Nat} {ps : List (Nat × AV)} {y : AV} {e : Eff} (h : evBuildSlice P n t len ps = some (y, e)) {g : AHeap} {ι : Inj} {w : World} (k : HRel g ι w) (hn : ι n = none)
    {qs : Array (Nat × Value)} (hp : PRels ι ps qs.toList) : Sim P (Instr.buildSlice t len qs) g n y e ι w := by
  unfold evBuildSlice at h
  cases hu : P.underlying t with
  | none => simp [hu] at h
  | some d =>
    cases d <;> simp only [hu] at h <;> (try (simp at h))
    rename_i el
    cases hs : sizeT P el with
    | none => simp [hs] at h
    | some s =>
      cases hz : zeroT P el with
      | none => simp [hs, hz] at h
      | some z =>
        simp only [hs, hz] at h
        cases hb : (Nat.ble (len * s) 16777216 && (Nat.beq (len * s) 0 || Nat.blt 0 z.cells.length)) with
        | false => simp [hb] at h
        | true =>
          simp only [hb, cond_true] at h
          simp only [Bool.and_eq_true, Bool.or_eq_true, Nat.ble_eq, beqT] at hb
          obtain ⟨hb1, hb2⟩ := hb
          have hb2 : len * s = 0 ∨ 0 < z.cells.length := hb2.imp id fun h => Nat.le_of_ble_eq_true h
          cases hf : evFill (fun i => some (i * s, s)) (zrow z.cells (len * s)) ps with
          | none => simp [hf] at h
          | some cs =>
            simp only [hf] at h
            cases ho : allOne cs with
            | false => simp [ho] at h
            | true =>
              simp [ho] at h
              obtain ⟨rfl, rfl⟩ := h
              have hno : ¬ (len * s > 2 ^ 24) := by omega
              have key : ∀ (R : Array Value) (os : Array Value), VRels ι cs os.toList → Instr.fill (fun i => some (i * s, s)) R qs.toList = some os →
                  (((match Instr.fill (fun i => some (i * s, s)) R qs.toList with
                    | some cells => (fun a => Value.slice (some a) len len) <$> newRow el cells
                    | _ => stuck "buildSlice: a part of the wrong size") : Sem Value).run P w = .ok (.slice (some ⟨w.heap.size, 0, none⟩) len len) (w.alloc (.cells os el))) ∧
                  VRel (upd ι n (some ⟨w.heap.size, 0, len, s⟩)) (.slice n 0 len (some len) s) (.slice (some ⟨w.heap.size, 0, none⟩) len len) ∧
                  Post g (upd g n (some (.cells s cs))) n (n + 1) ι (upd ι n (some ⟨w.heap.size, 0, len, s⟩)) w (w.alloc (.cells os el)) := by
                intro R os h2 h1
                obtain ⟨h3, h4⟩ := newCells (P := P) k hn cs s len (by rw [evFill_length _ _ _ _ hf, zrow_length]) ho os h2 el
                refine ⟨by simp [h1, h3], ?_, h4⟩
                simp only [VRel]
                exact ⟨_, _, _, upd_same _ _ _, rfl, rfl, Nat.le_refl _, Nat.le_of_eq (Nat.zero_add _), rfl, .inr (by simp)⟩
              rcases zeros_run hz ι w (len * s) hb2 with ⟨h0, hall⟩ | ⟨h0, zv, hzv, hr⟩
              · have hfz : evFill (fun i => some (i * s, s)) [] ps = some cs := by rw [← hf, (hall #[]).2]
                obtain ⟨os, h1, h2⟩ := evFill_run _ ps qs.toList [] cs #[] hp (by simp [VRels]) hfz
                obtain ⟨h3, h4, h5⟩ := key #[] os h2 h1
                refine ⟨_, _, _, ?_, h4, h5⟩
                rw [← h3]
                simp only [Instr.buildSlice, Sem.run_bind, run_underlying hu, Result.andThen_ok, sizeT_run hs, hno, if_false]
                simp [h0]
                rw [mapZ]
                rfl
              · obtain ⟨os, h1, h2⟩ := evFill_run _ ps qs.toList _ cs _ hp hr hf
                obtain ⟨h3, h4, h5⟩ := key _ os h2 h1
                refine ⟨_, _, _, ?_, h4, h5⟩
                rw [← h3]
                simp only [Instr.buildSlice, Sem.run_bind, run_underlying hu, Result.andThen_ok, sizeT_run hs, hno, if_false]
                simp [h0, hzv]
                rfl

/-! ### make([]T, n) -/
def evMakeSlice (P : Program) (n : Nat) (t : TypeId) (l c : AV) : Option (AV × Eff) :=
  match l, c with
  | .int _ l, .int _ c =>
    match P.underlying t with
    | some (.slice e) =>
      match P.info? e, zeroT P e with
      | some i, some z =>
        bif decide (0 ≤ l) && decide (l ≤ c) && decide (c ≤ 1048576) && Nat.ble i.bytes 65536 && (Nat.beq (c.toNat * i.size) 0 || Nat.blt 0 z.cells.length) && allOne z.cells then
          some (.slice n 0 l.toNat (some c.toNat) i.size, .new (.cells i.size (zrow z.cells (c.toNat * i.size))))
        else none
      | _, _ => none
    | _ => none
  | _, _ => none

theorem evMakeSlice_sim {P : Program} {n : Nat} {t : TypeId} {l c y : AV} {e : Eff} (h : evMakeSlice P n t l c = some (y, e)) {g : AHeap} {ι : Inj} {w : World} (k : HRel g ι w) (hn : ι n = none)
    {v u : Value} (hl : VRel ι l v) (hc : VRel ι c u) : Sim P (Instr.makeSlice t v u) g n y e ι w := by
  unfold evMakeSlice at h
  split at h
  rotate_left
  · cases h
  rename_i lk l ck c
  simp only [VRel] at hl hc
  subst hl; subst hc
  split at h
  rotate_left
  · cases h
  rename_i el hu
  split at h
  rotate_left
  · cases h
  rename_i i z hi hz
  cases hb : (decide (0 ≤ l) && decide (l ≤ c) && decide (c ≤ 1048576) && Nat.ble i.bytes 65536 && (Nat.beq (c.toNat * i.size) 0 || Nat.blt 0 z.cells.length) && allOne z.cells) with
  | false => simp [hb] at h
  | true =>
    simp [hb] at h
    obtain ⟨rfl, rfl⟩ := h
    simp only [Bool.and_eq_true, Bool.or_eq_true, Nat.ble_eq, beqT, decide_eq_true_eq] at hb
    obtain ⟨⟨⟨⟨⟨b1, b2⟩, b3⟩, b4⟩, b5⟩, b6⟩ := hb
    have b5 : c.toNat * i.size = 0 ∨ 0 < z.cells.length := b5.imp id fun h => Nat.le_of_ble_eq_true h
    have hs : sizeT P el = some i.size := by simp [sizeT, hi]
    have wl : IntKind.i64.wrap l = l := IntWalk.i64_in l (by omega)
    have wc : IntKind.i64.wrap c = c := IntWalk.i64_in c (by omega)
    have hm : ∀ x : Int, 0 ≤ x → x ≤ 1048576 → ¬ ((i.bytes : Int) * x > 2 ^ 48) := by
      intro x h0 h1
      have : (i.bytes : Int) * x ≤ 65536 * 1048576 := Int.mul_le_mul (by omega) h1 h0 (by omega)
      omega
    have m1 := hm c (by omega) b3
    have m2 := hm l b1 (by omega)
    have e1 : (c < 0) = False := by simp; omega
    have e2 : (l < 0) = False := by simp; omega
    have e3 : (l > c) = False := by simp; omega
    have key : ∀ (R : Array Value), VRels ι (zrow z.cells (c.toNat * i.size)) R.toList →
        (((fun a => Value.slice (some a) l.toNat c.toNat) <$> newRow el R : Sem Value).run P w = .ok (.slice (some ⟨w.heap.size, 0, none⟩) l.toNat c.toNat) (w.alloc (.cells R el))) ∧
        VRel (upd ι n (some ⟨w.heap.size, 0, c.toNat, i.size⟩)) (.slice n 0 l.toNat (some c.toNat) i.size) (.slice (some ⟨w.heap.size, 0, none⟩) l.toNat c.toNat) ∧
        Post g (upd g n (some (.cells i.size (zrow z.cells (c.toNat * i.size))))) n (n + 1) ι (upd ι n (some ⟨w.heap.size, 0, c.toNat, i.size⟩)) w (w.alloc (.cells R el)) := by
      intro R hr
      obtain ⟨h3, h4⟩ := newCells (P := P) k hn _ i.size c.toNat (zrow_length _ _) (zrow_one b6 _) R hr el
      refine ⟨by simp [h3], ?_, h4⟩
      simp only [VRel]
      exact ⟨_, _, _, upd_same _ _ _, rfl, rfl, by omega, Nat.le_of_eq (Nat.zero_add _), rfl, .inr (by simp)⟩
    rcases zeros_run hz ι w (c.toNat * i.size) b5 with ⟨h0, hall⟩ | ⟨h0, zv, hzv, hr⟩
    · obtain ⟨h3, h4, h5⟩ := key #[] (by rw [(hall #[]).2]; simp [VRels])
      refine ⟨_, _, _, ?_, h4, h5⟩
      rw [← h3]
      simp only [Instr.makeSlice, Sem.run_bind, run_underlying hu, Result.andThen_ok, asInt, asIntOf, Sem.run_pure, typeInfo, run_program, hi, wl, wc]
      simp only [e1, e2, e3, decide_false, Bool.or_false, m1, m2, if_false, Bool.false_eq_true, Sem.run_bind, run_askRoom, Result.andThen_ok, sizeT_run hs]
      simp [h0]
      rw [mapZ]
    · obtain ⟨h3, h4, h5⟩ := key _ hr
      refine ⟨_, _, _, ?_, h4, h5⟩
      rw [← h3]
      simp only [Instr.makeSlice, Sem.run_bind, run_underlying hu, Result.andThen_ok, asInt, asIntOf, Sem.run_pure, typeInfo, run_program, hi, wl, wc]
      simp only [e1, e2, e3, decide_false, Bool.or_false, m1, m2, if_false, Bool.false_eq_true, Sem.run_bind, run_askRoom, Result.andThen_ok, sizeT_run hs]
      simp [h0, hzv]

/-! ### s[l:h:m] -/
/-- The bounds: low, high, and the new capacity's end, if it is said. -/
def asNat : AV → Option Nat
  | .int _ j => bif decide (0 ≤ j) then some j.toNat else none
  | _ => none

def optNat : Option AV → Option (Option Nat)
  | none => some none
  | some x => match asNat x with | some k => some (some k) | none => none

def evSlice (P : Program) (t : TypeId) (x : AV) (lo hi mx : Option AV) : Option AV :=
  match optNat lo, optNat hi, optNat mx with
  | some l, some h, some m =>
    match P.underlying t, x with
    | some .string, .str s =>
      bif m.isSome then none else
      bif Nat.ble (h.getD s.length) s.length && Nat.ble (l.getD 0) (h.getD s.length) then some (.str ((s.drop (l.getD 0)).take (h.getD s.length - l.getD 0))) else none
    | some (.slice e), .slice id off len cap sz =>
      match sizeT P e with
      | some s =>
        bif Nat.beq s sz && (!m.isSome || h.isSome) then
          match m, cap with
          | none, none => bif Nat.ble (h.getD len) len && Nat.ble (l.getD 0) (h.getD len) then some (.slice id (off + l.getD 0) (h.getD len - l.getD 0) none sz) else none
          | none, some c => bif Nat.ble (h.getD len) c && Nat.ble (l.getD 0) (h.getD len) then some (.slice id (off + l.getD 0) (h.getD len - l.getD 0) (some (c - l.getD 0)) sz) else none
          | some m, cap => bif Nat.ble m (cap.getD len) && Nat.ble (h.getD len) m && Nat.ble (l.getD 0) (h.getD len) then some (.slice id (off + l.getD 0) (h.getD len - l.getD 0) (some (m - l.getD 0)) sz) else none
        else none
      | none => none
    | some (.slice e), .nilSlice =>
      match sizeT P e with
      | some _ => bif Nat.beq (l.getD 0) 0 && Nat.beq (h.getD 0) 0 && Nat.beq (m.getD 0) 0 && (!m.isSome || h.isSome) then some .nilSlice else none
      | none => none
    | _, _ => none
  | _, _, _ => none

theorem bytesOf_extract (s : List Nat) (a b : Nat) : (bytesOf s).extract a b = bytesOf ((s.drop a).take (b - a)) := by
  rw [Lib.extract_eq]
  simp [bytesOf, List.map_take, List.map_drop]

theorem asNat_spec {x : AV} {k : Nat} (h : asNat x = some k) {ι : Inj} {v : Value} (hx : VRel ι x v) : ∃ kd, v = .int kd (k : Int) := by
  unfold asNat at h
  split at h
  rotate_left
  · cases h
  rename_i kd j
  cases h0 : decide (0 ≤ j) with
  | false => simp [h0] at h
  | true =>
    simp [h0] at h
    simp only [decide_eq_true_eq] at h0
    simp only [VRel] at hx
    refine ⟨kd, ?_⟩
    rw [hx]; congr 1; omega

/-- Operands that may be wanting. -/
def VRelO (ι : Inj) : Option AV → Option Value → Prop
  | none, v => v = none
  | some x, v => ∃ u, v = some u ∧ VRel ι x u

theorem optNat_spec {o : Option AV} {k : Option Nat} (h : optNat o = some k) {ι : Inj} {v : Option Value} (hx : VRelO ι o v) :
    (k = none ∧ v = none) ∨ ∃ j kd, k = some j ∧ v = some (.int kd (j : Int)) := by
  cases o with
  | none => simp only [optNat, Option.some.injEq] at h; subst h; exact .inl ⟨rfl, hx⟩
  | some x =>
    simp only [optNat] at h
    cases ha : asNat x with
    | none => simp [ha] at h
    | some j =>
      simp [ha] at h; subst h
      obtain ⟨u, rfl, hu⟩ := hx
      obtain ⟨kd, rfl⟩ := asNat_spec ha hu
      exact .inr ⟨j, kd, rfl, rfl⟩

theorem run_sliceBound {P : Program} (w : World) (kd : IntKind) (j y : Nat) (code : BoundsCode) (h : j ≤ y) : (Instr.sliceBound (.int kd (j : Int)) y code).run P w = .ok j w := by
  have : (0 : Int) ≤ (j : Int) ∧ (j : Int) ≤ (y : Int) := by omega
  simp [Instr.sliceBound, asIntOf, this.2]

theorem run_sliceBounds {P : Program} (w : World) (isS : Bool) (len cap : Nat) {l h m : Option Nat} {lo hi mx : Option Value}
    (hl : (l = none ∧ lo = none) ∨ ∃ j kd, l = some j ∧ lo = some (.int kd (j : Int))) (hh : (h = none ∧ hi = none) ∨ ∃ j kd, h = some j ∧ hi = some (.int kd (j : Int)))
    (hm : (m = none ∧ mx = none) ∨ ∃ j kd, m = some j ∧ mx = some (.int kd (j : Int))) (h1 : m.getD cap ≤ cap) (h2 : h.getD len ≤ m.getD cap ∨ h = none) (h3 : l.getD 0 ≤ h.getD len) (h4 : m.isSome = true → h.isSome = true) :
    (Instr.sliceBounds isS len cap lo hi mx).run P w = .ok (l.getD 0, h.getD len, m.getD cap) w := by
  unfold Instr.sliceBounds
  rcases hm with ⟨rfl, rfl⟩ | ⟨jm, km, rfl, rfl⟩ <;> rcases hh with ⟨rfl, rfl⟩ | ⟨jh, kh, rfl, rfl⟩ <;> rcases hl with ⟨rfl, rfl⟩ | ⟨jl, kl, rfl, rfl⟩ <;> simp at h1 h2 h3 h4 <;>
    simp [run_sliceBound, h1, h2, h3]

theorem evSlice_sim {P : Program} {t : TypeId} {x y : AV} {lo hi mx : Option AV} (h : evSlice P t x lo hi mx = some y) {g : AHeap} {n : Nat} {ι : Inj} {w : World} (k : HRel g ι w) {v : Value} (hx : VRel ι x v)
    {vl vh vm : Option Value} (hl : VRelO ι lo vl) (hh : VRelO ι hi vh) (hm : VRelO ι mx vm) : Sim P (Instr.sliceAt t v vl vh vm) g n y .none ι w := by
  unfold evSlice at h
  split at h
  rotate_left
  · cases h
  rename_i l hgh m ql qh qm
  have sl := optNat_spec ql hl
  have sh := optNat_spec qh hh
  have sm := optNat_spec qm hm
  split at h
  · -- a text
    rename_i s hu
    cases hms : m.isSome with
    | true => simp [hms] at h
    | false =>
      simp only [hms, cond_false] at h
      obtain rfl : m = none := by cases m <;> simp_all
      obtain ⟨_, rfl⟩ := sm.resolve_right (by simp)
      cases hb : (Nat.ble (hgh.getD s.length) s.length && Nat.ble (l.getD 0) (hgh.getD s.length)) with
      | false => simp [hb] at h
      | true =>
        simp [hb] at h
        subst h
        simp only [Bool.and_eq_true, Nat.ble_eq] at hb
        simp only [VRel] at hx
        obtain ⟨rfl, hall⟩ := hx
        have hbd := run_sliceBounds (P := P) w false (bytesOf s).size (bytesOf s).size sl sh (.inl ⟨rfl, rfl⟩) (by simp) (.inl (by simp [bytesOf_size]; exact hb.1)) (by rw [bytesOf_size]; exact hb.2) (by simp)
        refine Sim.pure k (.string ((bytesOf s).extract (l.getD 0) (hgh.getD (bytesOf s).size))) ?_ ?_
        · simp [Instr.sliceAt, run_underlying hu, Instr.slice, hbd]
        · simp only [VRel]
          rw [bytesOf_size, bytesOf_extract]
          exact ⟨rfl, fun z hz => hall z (List.mem_of_mem_drop (List.mem_of_mem_take hz))⟩
  · -- a slice
    rename_i e id off len cap sz hu
    cases hs : sizeT P e with
    | none => simp [hs] at h
    | some s =>
      simp only [hs] at h
      cases hb0 : (Nat.beq s sz && (!m.isSome || hgh.isSome)) with
      | false => rw [hb0] at h; cases h
      | true =>
        rw [hb0] at h
        simp only [cond_true] at h
        simp only [Bool.and_eq_true, beqT, Bool.or_eq_true, Bool.not_eq_true'] at hb0
        obtain ⟨rfl, hmh⟩ := hb0
        have hmh' : m.isSome = true → hgh.isSome = true := fun e => hmh.resolve_left (by simp [e])
        simp only [VRel] at hx
        obtain ⟨p, a, c, hp, rfl, hsz, hlc, hroom, hcap, ha⟩ := hx
        -- whatever the capacity: the deed itself
        have deed : ∀ (cap' : Option Nat), m.getD c ≤ c → (hgh.getD len ≤ m.getD c) → l.getD 0 ≤ hgh.getD len →
            (match cap' with | some q => m.getD c - l.getD 0 = q | none => off + l.getD 0 + (m.getD c - l.getD 0) = p.cap) →
            Sim P (Instr.sliceAt t (.slice (some a) len c) vl vh vm) g n (.slice id (off + l.getD 0) (hgh.getD len - l.getD 0) cap' s) .none ι w := by
          intro cap' c1 c2 c3 c4
          have hbd := run_sliceBounds (P := P) w true len c sl sh sm c1 (.inl c2) c3 hmh'
          refine Sim.pure k (.slice (some (if m.getD c = l.getD 0 then a else a.add (l.getD 0 * s))) (hgh.getD len - l.getD 0) (m.getD c - l.getD 0)) ?_ ?_
          · simp only [Instr.sliceAt, Sem.run_bind, run_underlying hu, Result.andThen_ok, Instr.slice, hbd, sizeT_run hs, Sem.run_pure]
            congr 2
            split <;> rfl
          · simp only [VRel]
            refine ⟨p, _, _, hp, rfl, hsz, by omega, by omega, ?_, ?_⟩
            · cases cap' with
              | none => exact c4
              | some q => exact c4
            · by_cases hc0 : m.getD c = l.getD 0
              · exact .inl (by omega)
              · refine .inr ?_
                rw [if_neg hc0]
                have hcne : c ≠ 0 := by omega
                rw [ha.resolve_left hcne, Addr.add_lit, Nat.add_mul, Nat.add_assoc]
        cases hm' : m with
        | none =>
          subst hm'
          simp only [Option.getD_none] at deed
          cases cap with
          | none =>
            simp only at h
            cases hb : (Nat.ble (hgh.getD len) len && Nat.ble (l.getD 0) (hgh.getD len)) with
            | false => simp [hb] at h
            | true =>
              simp [hb] at h; subst h
              simp only [Bool.and_eq_true, Nat.ble_eq] at hb
              simp only at hcap
              exact deed none (Nat.le_refl _) (by omega) hb.2 (by simp only; omega)
          | some cc =>
            simp only at h
            cases hb : (Nat.ble (hgh.getD len) cc && Nat.ble (l.getD 0) (hgh.getD len)) with
            | false => simp [hb] at h
            | true =>
              simp [hb] at h; subst h
              simp only [Bool.and_eq_true, Nat.ble_eq] at hb
              simp only at hcap
              subst hcap
              exact deed (some (c - l.getD 0)) (Nat.le_refl _) (by omega) hb.2 rfl
        | some mm =>
          subst hm'
          simp only [Option.getD_some] at deed
          simp only at h
          cases hb : (Nat.ble mm (cap.getD len) && Nat.ble (hgh.getD len) mm && Nat.ble (l.getD 0) (hgh.getD len)) with
          | false => simp [hb] at h
          | true =>
            simp [hb] at h; subst h
            simp only [Bool.and_eq_true, Nat.ble_eq] at hb
            have hmc : mm ≤ c := by
              cases cap with
              | none => simp at hb; omega
              | some cc => simp at hb hcap; omega
            exact deed (some (mm - l.getD 0)) hmc hb.1.2 hb.2 rfl
  · -- nil
    rename_i e hu
    cases hs : sizeT P e with
    | none => simp [hs] at h
    | some s =>
      simp only [hs] at h
      cases hb : (Nat.beq (l.getD 0) 0 && Nat.beq (hgh.getD 0) 0 && Nat.beq (m.getD 0) 0 && (!m.isSome || hgh.isSome)) with
      | false => rw [hb] at h; cases h
      | true =>
        rw [hb] at h; simp only [cond_true, Option.some.injEq] at h; subst h
        simp only [Bool.and_eq_true, beqT, Bool.or_eq_true, Bool.not_eq_true'] at hb
        obtain ⟨⟨⟨b1, b2⟩, b3⟩, b4⟩ := hb
        have hmh' : m.isSome = true → hgh.isSome = true := fun e => b4.resolve_left (by simp [e])
        simp only [VRel] at hx; subst hx
        have hbd := run_sliceBounds (P := P) w true 0 0 sl sh sm (by omega) (.inl (by omega)) (by omega) hmh'
        refine Sim.pure k (.slice none 0 0) ?_ (by simp [VRel])
        simp [Instr.sliceAt, run_underlying hu, Instr.slice, hbd, sizeT_run hs, b1, b2, b3]
  · cases h

end Go.Ev
