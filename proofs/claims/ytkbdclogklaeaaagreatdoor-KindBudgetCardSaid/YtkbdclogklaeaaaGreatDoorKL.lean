/- PART OF THE PROOF OF KindBudget's CARD. The law's contract at arguments that are read. -/
import Derived.Test.YtkbdclogklaeaaaGreatDoorKJ
import Derived.ProofKit
import Derived.Deep.Grids
import Derived.Deep.Strs
import Derived.Test.YtkbdclogklaeaaaGreatDoorEvF
set_option linter.unusedSimpArgs false
set_option linter.unusedVariables false

/-! The arguments as read-only objects. -/
namespace Go.Ev
open Go Proofs
open Go.ChangeShapes Go.WideShapes

theorem gates_length3 (l : List Gate) : (gates l).length = l.length * 3 := by
  induction l with
  | nil => rfl
  | cons a l ih =>
    show (gcells a ++ gates l).length = _
    rw [List.length_append, ih]
    simp [gcells]; omega

/-- A slice that may be read, its elements' cells. -/
def SlVal (W : World) (sz len : Nat) (cs : List AV) (v : Value) : Prop :=
  (v = .slice none 0 0 ∧ len = 0 ∧ cs = []) ∨ ∃ a c, v = .slice (some a) len c ∧ cs.length = len * sz ∧ len ≤ c ∧
    (c = 0 ∨ (a.spot = none ∧ ∃ cells el fr, W.heap[a.block]? = some (.cells cells el fr) ∧ ∀ (i : Nat) (x : AV), cs[i]? = some x → x.one = true ∧ ∃ v, cells[a.off + i]? = some v ∧ ∀ ι, VRel ι x v))

theorem cell_there {w : World} {a : Addr} {v : Value} (h : w.cell? a = some v) : a.spot = none ∧ ∃ c el fr, w.heap[a.block]? = some (.cells c el fr) ∧ c[a.off]? = some v := by
  unfold World.cell? at h
  split at h
  · rename_i c el fr hb
    cases hs : a.spot with
    | none => simp [hs] at h; exact ⟨rfl, c, el, fr, hb, h⟩
    | some x => simp [hs] at h
  · cases h

theorem cells_there {w : World} {a : Addr} {c : Array Value} {el : TypeId} {fr : Nat × Nat} (hs : a.spot = none) (hb : w.heap[a.block]? = some (.cells c el fr)) (i : Nat) : w.cell? (a.add i) = c[a.off + i]? := by
  obtain ⟨b, o, s⟩ := a
  simp only at hs hb
  subst hs
  by_cases h0 : i = 0
  · subst h0; simp [Addr.add, World.cell?, hb]
  · simp [Addr.add, World.cell?, hb, h0]

/-- A slice by its cells, one after another. -/
theorem slval_of {W : World} {sz len cap : Nat} {a : Addr} {cs : List AV} (hl : cs.length = len * sz) (hlc : len ≤ cap) (_hsz : 0 < sz) (hone : ∀ x ∈ cs, x.one = true)
    (h : ∀ (i : Nat) (x : AV), cs[i]? = some x → ∃ v, W.cell? (a.add i) = some v ∧ ∀ ι, VRel ι x v) (h0 : 0 < cap → ∃ v, W.cell? a = some v) : SlVal W sz len cs (.slice (some a) len cap) := by
  refine .inr ⟨a, cap, rfl, hl, hlc, ?_⟩
  by_cases hc : cap = 0
  · exact .inl hc
  · obtain ⟨v, hv⟩ := h0 (by omega)
    obtain ⟨hs, c, el, fr, hb, _⟩ := cell_there hv
    refine .inr ⟨hs, c, el, fr, hb, fun i x hx => ⟨hone x (List.mem_of_getElem? hx), ?_⟩⟩
    obtain ⟨v, h1, h2⟩ := h i x hx
    exact ⟨v, by rw [← cells_there hs hb]; exact h1, h2⟩

/-- .. as an object with a place. -/
theorem slot {W : World} {sz len : Nat} {cs : List AV} {v : Value} (h : SlVal W sz len cs v) {z : Nat} {cz : Array Value} {ez : TypeId} {fz : Nat × Nat} (hz : W.heap[z]? = some (.cells cz ez fz)) :
    ∃ (p : Place) (av : Nat → AV), (∀ ι, ORel ι p W (.ro sz cs)) ∧ (∀ j ι, ι j = some p → VRel ι (av j) v) ∧ ∀ (j n : Nat) (g : T AObj), j < n → g.get j = some (.ro sz cs) → Row n g (av j) sz len cs := by
  rcases h with ⟨rfl, rfl, rfl⟩ | ⟨a, c, rfl, hl, hlc, hcell⟩
  · exact ⟨⟨z, 0, 0, sz⟩, fun _ => .nilSlice, fun ι => ⟨cz, ez, fz, hz, rfl, by simp, by simp⟩, fun _ _ _ => by simp [VRel], fun _ _ _ _ _ => .inl ⟨rfl, rfl, rfl⟩⟩
  · by_cases hc : c = 0
    · subst hc
      obtain rfl : len = 0 := by omega
      obtain rfl : cs = [] := List.length_eq_zero_iff.1 (by omega)
      refine ⟨⟨z, 0, 0, sz⟩, fun j => .slice j 0 0 (some 0) sz, fun ι => ⟨cz, ez, fz, hz, rfl, by simp, by simp⟩, fun j ι hj => ?_, fun j n g hj hg => .inr ⟨j, 0, some 0, [], rfl, hj, .inr hg, by simp, by simp, by simp⟩⟩
      simp only [VRel]
      exact ⟨_, a, 0, hj, rfl, rfl, by simp, by simp, rfl, .inl rfl⟩
    · obtain ⟨hs, cells, el, fr, hb, hx⟩ := hcell.resolve_left hc
      refine ⟨⟨a.block, a.off, c, sz⟩, fun j => .slice j 0 len (some c) sz, fun ι => ⟨cells, el, fr, hb, rfl, by simp only; rw [hl]; exact Nat.mul_le_mul_right _ hlc, fun i x h => ?_⟩, fun j ι hj => ?_, fun j n g hj hg => .inr ⟨j, 0, some c, cs, rfl, hj, .inr hg, hl, fun i x h => by simpa using h, by rw [hl, Nat.zero_add]; exact Nat.le_refl _⟩⟩
      · obtain ⟨h1, v, h2, h3⟩ := hx i x h
        exact ⟨h1, v, h2, h3 ι⟩
      · simp only [VRel]
        refine ⟨_, a, c, hj, rfl, rfl, hlc, by simp, rfl, .inr ?_⟩
        obtain ⟨b, o, s⟩ := a
        simp only at hs
        subst hs
        simp

section
variable {H : Type} {enc : TypeId × Value → H} {w : World} {held : Bool}

theorem spot_first {a : Addr} : a.add 0 = a := by simp [Addr.add]

theorem ints_slval {t e : TypeId} {fuel : Nat} {v : Value} {x : DataW H × List MemPlace} {P : Program} (ht : P.underlying t = some (.slice e)) (he : P.underlying e = some (.int .i64)) (hc : P.cellsOf e = 1)
    (h : DataW.trod enc P w 0 (fun _ => true) held fuel t [v] = some x) : ∃ l : List Int, SlVal w 1 l.length (ints l) v := by
  rcases open_ints ht he hc h with ⟨h1, _⟩ | ⟨a, len, cap, zs, h1, _, hl, _, hzl, _, hcells, _⟩
  · simp only [List.cons.injEq, and_true] at h1
    exact ⟨[], .inl ⟨h1, rfl, rfl⟩⟩
  · simp only [List.cons.injEq, and_true] at h1
    simp only [if_true] at hzl
    subst h1
    refine ⟨zs.take len, ?_⟩
    have hlen : (zs.take len).length = len := by rw [List.length_take]; omega
    rw [hlen]
    refine slval_of (by simp [ints]; omega) hl (by omega) (fun x hx => ?_) (fun i x hx => ?_) (fun h0 => ⟨_, by have := hcells 0 (by omega); rwa [spot_first] at this⟩)
    · simp only [ints, List.mem_map] at hx
      obtain ⟨k, _, rfl⟩ := hx; rfl
    · simp only [ints, List.getElem?_map, Option.map_eq_some_iff] at hx
      obtain ⟨k, hk, rfl⟩ := hx
      rw [List.getElem?_take] at hk
      split at hk
      · have hi : i < zs.length := (List.getElem?_eq_some_iff.1 hk).1
        refine ⟨_, hcells i hi, fun ι => ?_⟩
        simp only [VRel]
        rw [List.getD_eq_getElem?_getD, hk]; rfl
      · cases hk

theorem bools_slval {t e : TypeId} {fuel : Nat} {v : Value} {x : DataW H × List MemPlace} {P : Program} (ht : P.underlying t = some (.slice e)) (he : P.underlying e = some .bool) (hc : P.cellsOf e = 1)
    (h : DataW.trod enc P w 0 (fun _ => true) held fuel t [v] = some x) : ∃ l : List Bool, SlVal w 1 l.length (bools l) v := by
  rcases Deep.open_bools ht he hc h with ⟨h1, _⟩ | ⟨a, len, cap, B, h1, _, hl, _, _, hcells⟩
  · simp only [List.cons.injEq, and_true] at h1
    exact ⟨[], .inl ⟨h1, rfl, rfl⟩⟩
  · simp only [List.cons.injEq, and_true] at h1
    subst h1
    refine ⟨(List.range len).map B, ?_⟩
    rw [List.length_map, List.length_range]
    refine slval_of (by simp [bools]) hl (by omega) (fun x hx => ?_) (fun i x hx => ?_) (fun h0 => ⟨_, by have := hcells 0 (by omega); rwa [spot_first] at this⟩)
    · simp only [bools, List.mem_map] at hx
      obtain ⟨k, _, rfl⟩ := hx; rfl
    · simp only [bools, List.getElem?_map, Option.map_eq_some_iff] at hx
      obtain ⟨k, ⟨j, hj, rfl⟩, rfl⟩ := hx
      have hi : i < len := by have := (List.getElem?_eq_some_iff.1 hj).1; simpa using this
      rw [List.getElem?_range hi] at hj
      cases hj
      exact ⟨_, hcells i (by omega), fun ι => by simp only [VRel]⟩

theorem gates_slval {t e : TypeId} {fuel : Nat} {v : Value} {x : DataW H × List MemPlace} {P : Program} {f0 f1 f2 : Field} (ht : P.underlying t = some (.slice e)) (he : P.underlying e = some (.struct #[f0, f1, f2])) (hc : P.cellsOf e = 3)
    (t0 : P.underlying f0.type = some (.int .i64)) (t1 : P.underlying f1.type = some (.int .i64)) (t2 : P.underlying f2.type = some (.int .i64)) (o0 : f0.offset = 0) (o1 : f1.offset = 1) (o2 : f2.offset = 2)
    (c0 : P.cellsOf f0.type = 1) (c1 : P.cellsOf f1.type = 1) (c2 : P.cellsOf f2.type = 1)
    (h : DataW.trod enc P w 0 (fun _ => true) held fuel t [v] = some x) : ∃ l : List Gate, SlVal w 3 l.length (gates l) v := by
  rcases Deep.open_slice ht h with ⟨h1, _⟩ | ⟨a, len, cap, m, n, D, Pl, h1, _, hl, _, hm, _, hcells⟩
  · simp only [List.cons.injEq, and_true] at h1
    exact ⟨[], .inl ⟨h1, rfl, rfl⟩⟩
  · simp only [List.cons.injEq, and_true] at h1
    simp only [if_true] at hm
    subst h1 hm
    rw [hc] at hcells
    have key : ∀ i, i < m → ∃ g : Gate, ∀ j x, (gcells g)[j]? = some x → ∃ v, w.cell? (a.add (i * 3 + j)) = some v ∧ ∀ ι, VRel ι x v := by
      intro i hi
      obtain ⟨cs', h2, h3⟩ := hcells i hi
      obtain ⟨_, hlen, hget⟩ := World.cells?_some h2
      obtain ⟨y0, y1, y2, n', _, _, r0, r1, r2⟩ := Deep.trod_struct3 he h3
      obtain ⟨k0, e0, _⟩ := DataW.trod_int t0 r0
      obtain ⟨k1, e1, _⟩ := DataW.trod_int t1 r1
      obtain ⟨k2, e2, _⟩ := DataW.trod_int t2 r2
      match cs', hlen with
      | [v0, v1, v2], _ =>
        rw [o0, c0] at e0; rw [o1, c1] at e1; rw [o2, c2] at e2
        simp at e0 e1 e2
        subst e0 e1 e2
        refine ⟨⟨k0, k1, k2⟩, fun j x hx => ?_⟩
        have g0 := hget 0 (by omega)
        have g1 := hget 1 (by omega)
        have g2 := hget 2 (by omega)
        rw [Deep.add_add] at g0 g1 g2
        match j, hx with
        | 0, hx => simp [gcells] at hx; subst hx; exact ⟨_, g0, fun ι => by simp only [VRel]⟩
        | 1, hx => simp [gcells] at hx; subst hx; exact ⟨_, g1, fun ι => by simp only [VRel]⟩
        | 2, hx => simp [gcells] at hx; subst hx; exact ⟨_, g2, fun ι => by simp only [VRel]⟩
        | j + 3, hx => simp [gcells] at hx
    haveI : Inhabited Gate := ⟨⟨0, 0, 0⟩⟩
    obtain ⟨F, hF⟩ := Deep.choose_lt (α := Gate) key
    refine ⟨(List.range len).map F, ?_⟩
    rw [List.length_map, List.length_range]
    have hglen : (gates ((List.range len).map F)).length = len * 3 := by
      have := gates_length3 ((List.range len).map F)
      simpa using this
    refine slval_of hglen hl (by omega) (fun x hx => ?_) (fun i x hx => ?_) (fun h0 => ?_)
    · simp only [gates, List.mem_flatMap] at hx
      obtain ⟨g, _, hx⟩ := hx
      simp only [gcells, List.mem_cons, List.not_mem_nil, or_false] at hx
      rcases hx with rfl | rfl | rfl <;> rfl
    · have hi : i < len * 3 := by rw [← hglen]; exact (List.getElem?_eq_some_iff.1 hx).1
      have hi3 : i / 3 < len := by omega
      have hj3 : i % 3 < 3 := Nat.mod_lt _ (by omega)
      have hFx : ((List.range len).map F)[i / 3]? = some (F (i / 3)) := by simp [List.getElem?_range hi3]
      obtain ⟨y, hy⟩ : ∃ y, (gcells (F (i / 3)))[i % 3]? = some y := ⟨_, List.getElem?_eq_getElem (by simp [gcells]; omega)⟩
      have := gates_get hFx (i % 3) y hj3 hy
      rw [show i / 3 * 3 + i % 3 = i by omega, hx] at this
      cases this
      obtain ⟨v, h1, h2⟩ := hF (i / 3) (by omega) (i % 3) x hy
      rw [show i / 3 * 3 + i % 3 = i by omega] at h1
      exact ⟨v, h1, h2⟩
    · obtain ⟨v, h1, _⟩ := hF 0 h0 0 (.int .i64 (F 0).op) rfl
      simp only [Nat.zero_mul, Nat.zero_add, spot_first] at h1
      exact ⟨v, h1⟩
end
end Go.Ev

/-! The law's contract out of the evaluation. -/
namespace Go.Ev
open Go Proofs

theorem VRels.five {ι : Inj} {a b c d e f g : AV} {v0 v1 v2 v3 v4 v5 v6 : Value} (h0 : VRel ι a v0) (h1 : VRel ι b v1) (h2 : VRel ι c v2) (h3 : VRel ι d v3) (h4 : VRel ι e v4) (h5 : VRel ι f v5) (h6 : VRel ι g v6) :
    VRels ι [a, b, c, d, e, f, g] [v0, v1, v2, v3, v4, v5, v6] := by
  simp only [VRels]
  exact ⟨v0, _, rfl, h0, v1, _, rfl, h1, v2, _, rfl, h2, v3, _, rfl, h3, v4, _, rfl, h4, v5, _, rfl, h5, v6, _, rfl, h6, rfl⟩

theorem law_calls (ha : isTrue (evFn Tryz.prog 100000 100 (.fn 4) [] .lf 0) = true) (hm : Tryz.prog.follows .mixedOrders = true) {W : World} {z : Nat} {cz : Array Value} {ez : TypeId} {fz : Nat × Nat} (hz : W.heap[z]? = some (.cells cz ez fz))
    {gs : List Gate} {now next ins : List Int} {init : List Bool} {v0 v1 v2 v3 v4 : Value} {ok assume k bud : Int}
    (s0 : SlVal W 3 gs.length (gates gs) v0) (s1 : SlVal W 1 now.length (ints now) v1) (s2 : SlVal W 1 next.length (ints next) v2) (s3 : SlVal W 1 ins.length (ints ins) v3) (s4 : SlVal W 1 init.length (bools init) v4) :
    Calls Tryz.prog 3 #[.agg #[v0, v1, v2, v3, v4, .int .i64 ok, .int .i64 assume], .int .i64 k, .int .i64 bud] W (fun e W' => e = .returned (.bool true) ∧ W'.os = W.os ∧ W'.output = W.output ∧ W.heap.size ≤ W'.heap.size ∧ ∀ b, b < W.heap.size → W'.heap[b]? = W.heap[b]?) := by
  obtain ⟨p0, a0, o0, r0, w0⟩ := slot s0 hz
  obtain ⟨p1, a1, o1, r1, w1⟩ := slot s1 hz
  obtain ⟨p2, a2, o2, r2, w2⟩ := slot s2 hz
  obtain ⟨p3, a3, o3, r3, w3⟩ := slot s3 hz
  obtain ⟨p4, a4, o4, r4, w4⟩ := slot s4 hz
  let g : T AObj := T.set (.ro 3 (gates gs)) (T.set (.ro 1 (ints now)) (T.set (.ro 1 (ints next)) (T.set (.ro 1 (ints ins)) (T.set (.ro 1 (bools init)) .lf 4) 3) 2) 1) 0
  let ι : Inj := fun j => if j = 0 then some p0 else if j = 1 then some p1 else if j = 2 then some p2 else if j = 3 then some p3 else if j = 4 then some p4 else none
  have g0 : g.get 0 = some (.ro 3 (gates gs)) := by simp [g, T.get_set]
  have g1 : g.get 1 = some (.ro 1 (ints now)) := by simp [g, T.get_set]
  have g2 : g.get 2 = some (.ro 1 (ints next)) := by simp [g, T.get_set]
  have g3 : g.get 3 = some (.ro 1 (ints ins)) := by simp [g, T.get_set]
  have g4 : g.get 4 = some (.ro 1 (bools init)) := by simp [g, T.get_set]
  have gn : ∀ i o, g.get i = some o → o.rw = false ∧ ∃ p, ι i = some p ∧ ORel ι p W o := by
    intro i o h
    by_cases e0 : i = 0
    · subst e0; rw [g0] at h; cases h; exact ⟨rfl, p0, rfl, o0 ι⟩
    by_cases e1 : i = 1
    · subst e1; rw [g1] at h; cases h; exact ⟨rfl, p1, rfl, o1 ι⟩
    by_cases e2 : i = 2
    · subst e2; rw [g2] at h; cases h; exact ⟨rfl, p2, rfl, o2 ι⟩
    by_cases e3 : i = 3
    · subst e3; rw [g3] at h; cases h; exact ⟨rfl, p3, rfl, o3 ι⟩
    by_cases e4 : i = 4
    · subst e4; rw [g4] at h; cases h; exact ⟨rfl, p4, rfl, o4 ι⟩
    simp [g, T.get_set, e0, e1, e2, e3, e4] at h
  have hh : HRel g.get ι W := ⟨fun i o h => (gn i o h).2, fun i j oi oj p q hi hj _ _ _ hrw => by simp [(gn i oi hi).1, (gn j oj hj).1] at hrw⟩
  have hv : SysAt 5 g ⟨a0 0, a1 1, a2 2, a3 3, a4 4⟩ ⟨gs, now, next, ins, init, ok, assume⟩ :=
    ⟨w0 0 5 g (by omega) g0, w1 1 5 g (by omega) g1, w2 2 5 g (by omega) g2, w3 3 5 g (by omega) g3, w4 4 5 g (by omega) g4⟩
  obtain ⟨x, g', n', he, rfl, _⟩ := law_ends (k := k) (bud := bud) hv
  have hc := body_sound hm (callA_le hm 4 2000 10) (callA_ok hm ha 2000 10) he hh (fun id h1 _ => by simp only [ι]; rw [if_neg (by omega), if_neg (by omega), if_neg (by omega), if_neg (by omega), if_neg (by omega)])
    (vs := #[.agg #[v0, v1, v2, v3, v4, .int .i64 ok, .int .i64 assume], .int .i64 k, .int .i64 bud]) (by
      simp only [VRels]
      refine ⟨_, _, rfl, ?_, _, _, rfl, by simp only [VRel], _, _, rfl, by simp only [VRel], rfl⟩
      simp only [SysV.av, VRel]
      refine ⟨_, rfl, VRels.five (r0 0 ι rfl) (r1 1 ι rfl) (r2 2 ι rfl) (r3 3 ι rfl) (r4 4 ι rfl) (by simp only [VRel]) (by simp only [VRel])⟩)
  refine Calls.mono (callsIn_wide.1 hc) fun e W' hq => ?_
  obtain ⟨v, ι', rfl, hx, hp⟩ := hq
  simp only [VRel] at hx
  subst hx
  exact ⟨rfl, hp.os, hp.out, hp.size, fun b hb => hp.frame b hb fun id o p ho hrw => by rw [(gn id o ho).1] at hrw; cases hrw⟩
end Go.Ev
