/- PART OF THE PROOF OF KindBudget's CARD. The evaluator's append, maps and conversions do what the model's do. -/
import Derived.Test.YtkbdclogklaeaaaGreatDoorEvB
import Derived.MapKept
import Derived.DeepKeys3
set_option linter.unusedSimpArgs false
set_option linter.unusedVariables false

/-! Ev: append. -/
namespace Go.Ev
open Go

/-- What is appended: its cells, how many elements, what was looked into. -/
def evNews (g : AHeap) (sz : Nat) (x : AV) : Option (List AV × Nat × List Nat) :=
  match x with
  | .nilSlice => some ([], 0, [])
  | .slice id off len _ s =>
    match g id with
    | some (.cells _ data) => bif Nat.beq s sz && Nat.ble ((off + len) * sz) data.length then some ((data.drop (off * sz)).take (len * sz), len, [id]) else none
    | some (.ro _ data) => bif Nat.beq s sz && Nat.ble ((off + len) * sz) data.length then some ((data.drop (off * sz)).take (len * sz), len, [id]) else none
    | _ => none
  | .str s => bif Nat.beq sz 1 then some (s.map fun (b : Nat) => .int .u8 (Int.ofNat b), s.length, []) else none
  | _ => none

theorem ones_of {ι : Inj} {xs : List AV} {vs : List Value} (h : VRels ι xs vs) (h1 : ∀ v ∈ vs, v.oneCell' = true) : allOne xs = true := by
  induction xs generalizing vs with
  | nil => rfl
  | cons x xs ih =>
    simp only [VRels] at h
    obtain ⟨v, ws, rfl, hx, hr⟩ := h
    have h2 := hx.one
    have h3 := h1 v (by simp)
    have : x.one = true := by
      rw [← h2]
      cases v <;> simp_all [Value.one, Value.oneCell']
    simp only [allOne, this, cond_true]
    exact ih hr fun u hu => h1 u (by simp [hu])

theorem evNews_run {P : Program} {g : AHeap} {sz : Nat} {x : AV} {xs : List AV} {m : Nat} {rd : List Nat} (h : evNews g sz x = some (xs, m, rd)) {ι : Inj} {w : World} (k : HRel g ι w) {v : Value} (hx : VRel ι x v) :
    ∃ vs : List Value, (Builtin.lenOf v).run P w = .ok m w ∧ (∀ w' : World, w'.heap = w.heap → (Builtin.firstCells sz m v).run P w' = .ok vs.toArray w') ∧ VRels ι xs vs ∧ xs.length = m * sz ∧ allOne xs = true ∧
      ((∃ s, v = .string s) ∨ ∃ a b c, v = .slice a b c) := by
  unfold evNews at h
  split at h
  · simp only [Option.some.injEq, Prod.mk.injEq] at h
    obtain ⟨rfl, rfl, rfl⟩ := h
    simp only [VRel] at hx; subst hx
    exact ⟨[], by simp [Builtin.lenOf], fun _ _ => by simp [Builtin.firstCells], by simp [VRels], by simp, rfl, .inr ⟨_, _, _, rfl⟩⟩
  · rename_i id off len cap s
    have hgg : ∃ sz' data, Rd (g id) sz' data ∧ (bif Nat.beq s sz && Nat.ble ((off + len) * sz) data.length then some ((data.drop (off * sz)).take (len * sz), len, [id]) else none) = some (xs, m, rd) := by
      split at h
      · rename_i sz' data hg; exact ⟨sz', data, .inl hg, h⟩
      · rename_i sz' data hg; exact ⟨sz', data, .inr hg, h⟩
      · cases h
    clear h
    obtain ⟨sz', data, hg, h⟩ := hgg
    cases hb : (Nat.beq s sz && Nat.ble ((off + len) * sz) data.length) with
    | false => rw [hb] at h; cases h
    | true =>
      rw [hb] at h
      simp only [cond_true, Option.some.injEq, Prod.mk.injEq] at h
      obtain ⟨rfl, rfl, rfl⟩ := h
      simp only [Bool.and_eq_true, beqT, Nat.ble_eq] at hb
      obtain ⟨rfl, hb⟩ := hb
      simp only [VRel] at hx
      obtain ⟨p, a, c, hp, rfl, hsz, hlc, hroom, _, ha⟩ := hx
      obtain ⟨q, cs, el, fr, hq, hblk, _, _, hd⟩ := rdAt k hg
      obtain rfl : q = p := by rw [hp] at hq; exact (Option.some.inj hq).symm
      have hlt : q.blk < w.heap.size := (Array.getElem?_eq_some_iff.1 hblk).1
      have hl : off * s + len * s ≤ data.length := by rw [← Nat.add_mul]; exact hb
      obtain ⟨vs, h1, h2, h3, h4⟩ := loads (P := P) hblk hd (off * s) (len * s) hl
      refine ⟨vs, by simp [Builtin.lenOf], fun w' hw' => ?_, h3, ?_, ones_of h3 h4, .inr ⟨_, _, _, rfl⟩⟩
      · by_cases hc : c = 0
        · obtain rfl : len = 0 := by omega
          have : vs = [] := List.length_eq_zero_iff.1 (by rw [h1]; simp)
          subst this
          simp [Builtin.firstCells, loadCells, loadCellsFrom]
        · rw [ha.resolve_left hc]
          simp [Builtin.firstCells, h2 w' hw']
      · rw [List.length_take, List.length_drop]; omega
  · rename_i s
    cases hb : Nat.beq sz 1 with
    | false => rw [hb] at h; cases h
    | true =>
      rw [hb] at h
      rw [beqT] at hb; subst hb
      simp only [cond_true, Option.some.injEq, Prod.mk.injEq] at h
      obtain ⟨rfl, rfl, rfl⟩ := h
      simp only [VRel] at hx
      obtain ⟨rfl, hall⟩ := hx
      refine ⟨s.map fun (b : Nat) => .int .u8 (Int.ofNat b), by simp [Builtin.lenOf, bytesOf_size], fun w' _ => ?_, ?_, by simp, ?_, .inl ⟨_, rfl⟩⟩
      · simp only [Builtin.firstCells, Sem.run_pure]
        congr 1
        have he : (bytesOf s).extract 0 s.length = bytesOf s := by
          rw [bytesOf_extract]; simp
        rw [he]
        apply Array.ext'
        simp only [bytesOf, Array.toList_map, List.map_map]
        refine List.map_congr_left fun b hb => ?_
        have := hall b hb
        simp [Nat.mod_eq_of_lt this]
      · refine VRels.of_get (by simp) fun i y hy => ?_
        simp only [List.getElem?_map, Option.map_eq_some_iff] at hy ⊢
        obtain ⟨b, hb, rfl⟩ := hy
        exact ⟨_, ⟨b, hb, rfl⟩, by simp [VRel]⟩
      · have : ∀ l : List Nat, allOne (l.map fun (b : Nat) => .int .u8 (Int.ofNat b)) = true := by
          intro l
          induction l with
          | nil => rfl
          | cons b l ih => simp only [List.map_cons, allOne, AV.one, cond_true]; exact ih
        exact this s
  · cases h

/-- An append that has room. -/
theorem run_append_in {P : Program} {w : World} {t t2 ty e : TypeId} {i : TypeInfo} (ht : P.underlying t = some (.slice e)) (ht2 : ∃ d, P.underlying t2 = some d ∧ ∀ kd, d ≠ .int kd) (hi : P.info? e = some i)
    {base : Option Addr} {sLen sCap m : Nat} {x : Value} {vs : List Value} (hlen : (Builtin.lenOf x).run P w = .ok m w) (hf : (Builtin.firstCells i.size m x).run P w = .ok vs.toArray w) (hroom : sLen + m ≤ sCap)
    {w' : World} (hst : match base with | some a => (storeCells (a.add (sLen * i.size)) vs).run P w = .ok () w' | none => w' = w) :
    (Builtin.append_ #[t, t2] ty #[.slice base sLen sCap, x]).run P w = .ok (.slice base (sLen + m) sCap) w' := by
  obtain ⟨d, hd, hne⟩ := ht2
  have hz : (match d with | .int _ => true | _ => false) = false := by cases d <;> simp at hne ⊢
  cases base with
  | none => simp only at hst; subst hst; simp [Builtin.append_, run_underlying ht, run_underlying hd, sizeOf, typeInfo, hi, hlen, hroom, hf]
  | some a => simp [Builtin.append_, run_underlying ht, run_underlying hd, sizeOf, typeInfo, hi, hlen, hroom, hf, hst]

/-- An append that has none. -/
theorem run_append_out {P : Program} {w : World} {t t2 ty e : TypeId} {i : TypeInfo} {z : Value} (ht : P.underlying t = some (.slice e)) (ht2 : ∃ d, P.underlying t2 = some d ∧ ∀ kd, d ≠ .int kd) (hi : P.info? e = some i) (hz : i.zero = some z)
    {base : Option Addr} {sLen sCap m : Nat} {x : Value} {us vs : List Value} (hlen : (Builtin.lenOf x).run P w = .ok m w) (hf : (Builtin.firstCells i.size m x).run P w.drew = .ok vs.toArray w.drew)
    (ho : (Builtin.firstCells i.size sLen (.slice base sLen sCap)).run P w.drew = .ok us.toArray w.drew) (hroom : sCap < sLen + m) (hs : sLen + m ≤ 1073741824) (hb : i.bytes ≤ 65536) :
    (Builtin.append_ #[t, t2] ty #[.slice base sLen sCap, x]).run P w =
      .ok (.slice (some ⟨w.heap.size, 0, none⟩) (sLen + m) (grownCap w (sLen + m) sCap e))
        (w.drew.alloc (.cells (us.toArray ++ vs.toArray ++ Builtin.zeroCells z.cells (grownCap w (sLen + m) sCap e - (sLen + m))) e)) := by
  obtain ⟨d, hd, hne⟩ := ht2
  have hzz : (match d with | .int _ => true | _ => false) = false := by cases d <;> simp at hne ⊢
  have h1 : ¬ (sLen + m ≤ sCap) := by omega
  have h2 : ¬ (9223372036854775807 < ((sLen + m : Nat) : Int)) := by omega
  have h3 : ¬ (281474976710656 < Builtin.nextslicecap (sLen + m) sCap * i.bytes) := by
    have := growslice_fits (need := sLen + m) (old := sCap) (bytes := i.bytes) hroom (by
      have : (sLen + m) * i.bytes ≤ 1073741824 * 65536 := Nat.mul_le_mul hs hb
      omega)
    omega
  have h2' : ¬ (9223372036854775807 < (sLen : Int) + (m : Int)) := by omega
  simp [Builtin.append_, run_underlying ht, run_underlying hd, sizeOf, typeInfo, zeroValue, hi, hz, hlen, h1, h2', h3, hf, Question.forced, ho, newRow, grownCap]
  congr 2
  apply Array.ext'
  simp

/-- The row of what an append reads of its first slice. -/
def evApp (P : Program) (g : AHeap) (n : Nat) (t t2 : TypeId) (s x : AV) : Option (AV × List Nat × Eff) :=
  match P.underlying t, P.underlying t2 with
  | _, some (.int _) => none
  | some (.slice e), some _ =>
    match P.info? e, zeroT P e with
    | some i, some z =>
      bif !(Nat.beq z.cells.length i.size) then none else
      match evNews g i.size x with
      | some (xs, m, rd) =>
        bif Nat.beq m 0 then (match s with | .nilSlice => some (s, rd, .none) | .slice _ _ _ _ _ => some (s, rd, .none) | _ => none) else
        bif !(Nat.ble i.bytes 65536) then none else
        match s with
        | .nilSlice => bif Nat.ble m 1073741824 then some (.slice n 0 m none i.size, rd, .new (.cells i.size xs)) else none
        | .slice id off len cap sz =>
          match g id with
          | some (.cells sz' data) =>
            bif Nat.beq sz i.size && Nat.beq sz' i.size && Nat.ble (len + m) 1073741824 && Nat.ble ((off + len) * sz) data.length then
              match cap with
              | some c =>
                bif Nat.ble (len + m) c then some (.slice id off (len + m) (some c) sz, id :: rd, .wr id (.cells sz (data.take ((off + len) * sz) ++ xs ++ data.drop ((off + len) * sz + xs.length))))
                else some (.slice n 0 (len + m) none sz, id :: rd, .new (.cells sz ((data.drop (off * sz)).take (len * sz) ++ xs)))
              | none => some (.slice n 0 (len + m) none sz, id :: rd, .mv id (.cells sz ((data.drop (off * sz)).take (len * sz) ++ xs)))
            else none
          | _ => none
        | _ => none
      | none => none
    | _, _ => none
  | _, _ => none

theorem grownCap_ge' (w : World) (need old : Nat) (e : TypeId) : need ≤ grownCap w need old e := by simp [grownCap, Question.cut]

/-- A new row: the old elements, the new ones, and room. -/
theorem grown_post {g : AHeap} {ι : Inj} {w : World} (k : HRel g ι w) {n : Nat} (hn : ι n = none) {e : TypeId} {i : TypeInfo}
    {xs : List AV} {us : List Value} (hr : VRels ι xs us) (h1 : allOne xs = true) (need cap : Nat) (hl : xs.length = need * i.size) (hc : need ≤ cap) (zv : Value) (hzc : zv.cells.size = i.size) :
    Post g (upd g n (some (.cells i.size xs))) n (n + 1) ι (upd ι n (some ⟨w.heap.size, 0, cap, i.size⟩)) w (w.drew.alloc (.cells (us.toArray ++ Builtin.zeroCells zv.cells (cap - need)) e)) := by
  have k' : HRel g ι w.drew := ⟨fun id o ho => let ⟨p, a, b⟩ := k.obj id o ho; ⟨p, a, b.ext (Ext.refl _) rfl⟩, k.apart⟩
  have key := Post.newObj k' hn (.cells i.size xs) (.cells (us.toArray ++ Builtin.zeroCells zv.cells (cap - need)) e) ⟨w.heap.size, 0, cap, i.size⟩ rfl ?_
  · exact ⟨key.le, key.ext, key.new, key.rel, key.size, key.frame, key.blk, key.os, key.out⟩
  · have hul := hr.length
    have hcs : (cap - need) * i.size + need * i.size = cap * i.size := by rw [← Nat.add_mul]; congr 1; omega
    refine ⟨_, e, heap_alloc_new w.drew _, rfl, ?_, ?_, fun j x hx => ⟨allOne_spec h1 x (List.mem_of_getElem? hx), ?_⟩⟩
    · simp [Builtin.zeroCells, hzc]; omega
    · simp only; rw [hl]; exact Nat.mul_le_mul_right _ hc
    · obtain ⟨v, hv, hxv⟩ := hr.get hx
      refine ⟨v, ?_, VRel.ext (ext_upd hn _) _ _ hxv⟩
      have hj : j < us.length := (List.getElem?_eq_some_iff.1 hv).1
      simp only [Nat.zero_add]
      rw [Array.getElem?_append_left (by simpa using hj)]
      simpa using hv

theorem zero_size {P : Program} {e : TypeId} {i : TypeInfo} {z : AV} (hi : P.info? e = some i) (hz : zeroT P e = some z) (hl : z.cells.length = i.size) : ∃ zv, i.zero = some zv ∧ zv.cells.size = i.size := by
  unfold zeroT at hz
  simp only [hi] at hz
  cases h : i.zero with
  | none => simp [h] at hz
  | some zv =>
    simp only [h] at hz
    have := (ofValue_rel (fun _ => none) zv z hz).cells.length
    exact ⟨zv, rfl, by simp at this; omega⟩

theorem allOne_append {xs ys : List AV} (hx : allOne xs = true) (hy : allOne ys = true) : allOne (xs ++ ys) = true := by
  induction xs with
  | nil => exact hy
  | cons x xs ih =>
    simp only [allOne] at hx
    cases h : x.one with
    | false => simp [h] at hx
    | true => simp only [h, cond_true] at hx; simp only [List.cons_append, allOne, h, cond_true]; exact ih hx

/-- The view of an object's later part under a new name. -/
theorem rename_post {g : AHeap} {ι : Inj} {w : World} (k : HRel g ι w) {n : Nat} (hn : ι n = none) {id sz : Nat} {data : List AV} (hg : g id = some (.cells sz data)) {p : Place} (hp : ι id = some p) (off m : Nat)
    (ho : off ≤ p.cap) (hl : m ≤ (p.cap - off) * sz) :
    Post g (upd (upd g id none) n (some (.cells sz ((data.drop (off * sz)).take m)))) n (n + 1) ι (upd ι n (some ⟨p.blk, p.base + off * sz, p.cap - off, sz⟩)) w w := by
  obtain ⟨q, c, el, hq, hb, hsz, hroom, hlen, hd⟩ := cellsAt k hg
  obtain rfl : q = p := by rw [hp] at hq; exact (Option.some.inj hq).symm
  refine Post.moveObj k hn hg hp rfl _ rfl rfl rfl rfl (fun _ _ => rfl) ⟨c, el, hb, rfl, ?_, ?_, fun i x hx => ?_⟩
  · have : off * sz + (q.cap - off) * sz = q.cap * sz := by rw [← Nat.add_mul]; congr 1; omega
    simp only; omega
  · simp only [List.length_take]; omega
  · rw [List.getElem?_take] at hx
    split at hx
    · rw [List.getElem?_drop] at hx
      obtain ⟨a, v, hv, hr⟩ := hd _ x hx
      refine ⟨a, v, ?_, VRel.ext (ext_upd hn _) _ _ hr⟩
      simpa [Nat.add_assoc] using hv
    · cases hx

theorem evApp_sim {P : Program} {g : AHeap} {n : Nat} {t t2 ty : TypeId} {s x y : AV} {rd : List Nat} {e : Eff} (h : evApp P g n t t2 s x = some (y, rd, e)) {ι : Inj} {w : World} (k : HRel g ι w) (hn : ι n = none)
    {v u : Value} (hs : VRel ι s v) (hx : VRel ι x u) : Sim P (Builtin.append_ #[t, t2] ty #[v, u]) g n y e ι w := by
  unfold evApp at h
  split at h
  · cases h
  · rename_i el d2 hne ht hd2
    have ht2 : ∃ d, P.underlying t2 = some d ∧ ∀ kd, d ≠ .int kd := ⟨d2, hd2, fun kd e => hne kd e⟩
    split at h
    rotate_left
    · cases h
    rename_i i z hi hz
    cases hzl : Nat.beq z.cells.length i.size with
    | false => rw [hzl] at h; cases h
    | true =>
      rw [hzl] at h
      rw [beqT] at hzl
      simp only [Bool.not_true, cond_false] at h
      obtain ⟨zv, hzv, hzc⟩ := zero_size hi hz hzl
      split at h
      rotate_left
      · cases h
      rename_i xs m rd' hnews
      obtain ⟨vs, n1, n2, n3, n4, n5, _⟩ := evNews_run (P := P) hnews k hx
      have n2w := n2 w rfl
      have n2d := n2 w.drew rfl
      have hvl := n3.length
      cases hm0 : Nat.beq m 0 with
      | true =>
        rw [hm0] at h
        rw [beqT] at hm0
        subst hm0
        have hv0 : vs = [] := List.length_eq_zero_iff.1 (by rw [hvl, n4]; simp)
        subst hv0
        simp only [cond_true] at h
        split at h
        · simp only [Option.some.injEq, Prod.mk.injEq] at h
          obtain ⟨rfl, _, rfl⟩ := h
          simp only [VRel] at hs
          subst hs
          exact Sim.pure k _ (run_append_in (w' := w) ht ht2 hi n1 n2w (Nat.le_refl _) rfl) (by simp [VRel])
        · rename_i id off len cap sz
          simp only [Option.some.injEq, Prod.mk.injEq] at h
          obtain ⟨rfl, _, rfl⟩ := h
          have hs' := hs
          simp only [VRel] at hs
          obtain ⟨p, a, c, hp, rfl, _, hlc, _⟩ := hs
          refine Sim.pure k _ (run_append_in (w' := w) ht ht2 hi n1 n2w (by omega) ?_) hs'
          simp [storeCells]
        · cases h
      | false =>
        rw [hm0] at h
        rw [beqF] at hm0
        simp only [cond_false] at h
        cases hby : Nat.ble i.bytes 65536 with
        | false => rw [hby] at h; cases h
        | true =>
          rw [hby] at h
          rw [Nat.ble_eq] at hby
          simp only [Bool.not_true, cond_false] at h
          split at h
          · -- nil
            cases hml : Nat.ble m 1073741824 with
            | false => rw [hml] at h; cases h
            | true =>
              rw [hml] at h
              rw [Nat.ble_eq] at hml
              simp only [cond_true, Option.some.injEq, Prod.mk.injEq] at h
              obtain ⟨rfl, _, rfl⟩ := h
              simp only [VRel] at hs
              subst hs
              have hr := run_append_out (ty := ty) (us := []) ht ht2 hi hzv (base := none) (sLen := 0) (sCap := 0) n1 n2d (by simp [Builtin.firstCells]) (by omega) (by omega) hby
              simp only [Nat.zero_add, List.append_nil, Array.empty_append] at hr
              refine ⟨_, _, upd ι n (some ⟨w.heap.size, 0, grownCap w m 0 el, i.size⟩), hr, ?_, ?_⟩
              rotate_left
              · exact grown_post k hn n3 n5 m (grownCap w m 0 el) (by rw [n4]) (grownCap_ge' _ _ _ _) zv hzc
              · simp only [VRel]
                exact ⟨_, _, _, upd_same _ _ _, rfl, rfl, grownCap_ge' _ _ _ _, by simp, by simp, .inr (by simp)⟩
          · -- a slice
            rename_i id off len cap sz
            split at h
            rotate_left
            · cases h
            rename_i sz' data hg
            cases hb : (Nat.beq sz i.size && Nat.beq sz' i.size && Nat.ble (len + m) 1073741824 && Nat.ble ((off + len) * sz) data.length) with
            | false => rw [hb] at h; cases h
            | true =>
              rw [hb] at h
              simp only [Bool.and_eq_true, beqT, Nat.ble_eq] at hb
              obtain ⟨⟨⟨rfl, rfl⟩, b3⟩, b4⟩ := hb
              simp only [cond_true] at h
              simp only [VRel] at hs
              obtain ⟨p, a, c, hp, rfl, hpz, hlc, hroom, hcap, ha⟩ := hs
              obtain ⟨q, cs, eel, hq, hblk, hqz, hqroom, hqlen, hd⟩ := cellsAt k hg
              obtain rfl : q = p := by rw [hp] at hq; exact (Option.some.inj hq).symm
              have hview : off * i.size + len * i.size ≤ data.length := by rw [← Nat.add_mul]; exact b4
              obtain ⟨us, u1, u2, u3, u4⟩ := loads (P := P) hblk hd (off * i.size) (len * i.size) hview
              have hold : (Builtin.firstCells i.size len (.slice (some a) len c)).run P w.drew = .ok us.toArray w.drew := by
                by_cases hc : c = 0
                · obtain rfl : len = 0 := by omega
                  have : us = [] := List.length_eq_zero_iff.1 (by rw [u1]; simp)
                  subst this
                  simp [Builtin.firstCells, loadCells, loadCellsFrom]
                · rw [ha.resolve_left hc]
                  simp [Builtin.firstCells, u2 w.drew rfl]
              -- no room: a new row
              have out : c < len + m → ∃ w', (Builtin.append_ #[t, t2] ty #[.slice (some a) len c, u]).run P w = .ok (.slice (some ⟨w.heap.size, 0, none⟩) (len + m) (grownCap w (len + m) c el)) w' ∧
                  Post g (upd g n (some (.cells i.size ((data.drop (off * i.size)).take (len * i.size) ++ xs)))) n (n + 1) ι (upd ι n (some ⟨w.heap.size, 0, grownCap w (len + m) c el, i.size⟩)) w w' ∧
                  VRel (upd ι n (some ⟨w.heap.size, 0, grownCap w (len + m) c el, i.size⟩)) (.slice n 0 (len + m) none i.size) (.slice (some ⟨w.heap.size, 0, none⟩) (len + m) (grownCap w (len + m) c el)) := by
                intro hlt
                have hr := run_append_out (ty := ty) ht ht2 hi hzv n1 n2d hold hlt b3 hby
                refine ⟨_, hr, ?_, ?_⟩
                · have := grown_post k hn (u3.append n3) (allOne_append (ones_of u3 u4) n5) (len + m) (grownCap w (len + m) c el) (by
                    rw [List.length_append, n4, List.length_take, List.length_drop, Nat.add_mul]; omega) (grownCap_ge' _ _ _ _) zv hzc (e := el)
                  have e1 : us.toArray ++ vs.toArray = (us ++ vs).toArray := by simp
                  rw [e1]
                  exact this
                · simp only [VRel]
                  exact ⟨_, _, _, upd_same _ _ _, rfl, rfl, grownCap_ge' _ _ _ _, by simp, by simp, .inr (by simp)⟩
              -- room: in place
              have inn : len + m ≤ c → ∃ w', (Builtin.append_ #[t, t2] ty #[.slice (some a) len c, u]).run P w = .ok (.slice (some a) (len + m) c) w' ∧ a = ⟨q.blk, q.base + off * i.size, none⟩ ∧
                  Post g (upd g id (some (.cells i.size (data.take ((off + len) * i.size) ++ xs ++ data.drop ((off + len) * i.size + xs.length))))) n n ι ι w w' := by
                intro hle
                have ha' := ha.resolve_left (by omega)
                have hfit : (off + len) * i.size + xs.length ≤ q.cap * i.size := by
                  rw [n4, ← Nat.add_mul]; exact Nat.mul_le_mul_right _ (by omega)
                obtain ⟨w', s1, s2⟩ := stores (P := P) (n := n) k hg hp ((off + len) * i.size) xs b4 hfit n5 vs n3
                refine ⟨w', run_append_in ht ht2 hi n1 n2w hle ?_, ha', s2⟩
                rw [ha']
                simp only [Addr.add_lit]
                have : q.base + off * i.size + len * i.size = q.base + (off + len) * i.size := by rw [Nat.add_mul, Nat.add_assoc]
                rw [this]; exact s1
              split at h
              · -- its capacity is known
                rename_i cc
                simp only at hcap
                subst hcap
                cases hle : Nat.ble (len + m) c with
                | true =>
                  rw [hle] at h
                  rw [Nat.ble_eq] at hle
                  simp only [cond_true, Option.some.injEq, Prod.mk.injEq] at h
                  obtain ⟨rfl, _, rfl⟩ := h
                  obtain ⟨w', r1, r2, r3⟩ := inn hle
                  refine ⟨_, w', ι, r1, ?_, r3⟩
                  simp only [VRel]
                  exact ⟨q, a, c, hp, rfl, hpz, hle, hroom, rfl, .inr r2⟩
                | false =>
                  rw [hle] at h
                  have hlt : c < len + m := by
                    rcases Nat.lt_or_ge c (len + m) with h' | h'
                    · exact h'
                    · rw [Nat.ble_eq_true_of_le h'] at hle; cases hle
                  simp only [cond_false, Option.some.injEq, Prod.mk.injEq] at h
                  obtain ⟨rfl, _, rfl⟩ := h
                  obtain ⟨w', r1, r2, r3⟩ := out hlt
                  exact ⟨_, w', _, r1, r3, r2⟩
              · -- its capacity is what is left of the row
                simp only [Option.some.injEq, Prod.mk.injEq] at h
                obtain ⟨rfl, _, rfl⟩ := h
                simp only at hcap
                by_cases hle : len + m ≤ c
                · obtain ⟨w', r1, r2, r3⟩ := inn hle
                  have hn' : ι n = none := hn
                  have r4 := rename_post (n := n) r3.rel hn' (upd_same _ _ _) hp off ((len + m) * i.size) (by omega) (Nat.mul_le_mul_right _ (by omega))
                  have r5 := r3.trans r4
                  have hcut : List.take ((len + m) * i.size) (List.drop (off * i.size) (data.take ((off + len) * i.size) ++ xs ++ data.drop ((off + len) * i.size + xs.length))) = (data.drop (off * i.size)).take (len * i.size) ++ xs := by
                    have e1 : (data.take ((off + len) * i.size)).length = (off + len) * i.size := by rw [List.length_take]; omega
                    have e2 : (off + len) * i.size = off * i.size + len * i.size := Nat.add_mul _ _ _
                    have e3 : (len + m) * i.size = len * i.size + xs.length := by rw [n4, Nat.add_mul]
                    rw [List.append_assoc, List.drop_append_of_le_length (by omega), List.take_append]
                    have e4 : (List.drop (off * i.size) (data.take ((off + len) * i.size))).length = len * i.size := by rw [List.length_drop, e1]; omega
                    rw [e4, List.take_of_length_le (by rw [e4]; omega), List.drop_take, e3]
                    congr 1
                    · congr 1; omega
                    · rw [show len * i.size + xs.length - len * i.size = xs.length by omega, List.take_append]
                      simp
                  rw [hcut] at r5
                  have hfun : upd (upd (upd g id (some (.cells i.size (data.take ((off + len) * i.size) ++ xs ++ data.drop ((off + len) * i.size + xs.length))))) id none) n (some (.cells i.size ((data.drop (off * i.size)).take (len * i.size) ++ xs))) =
                      upd (upd g id none) n (some (.cells i.size ((data.drop (off * i.size)).take (len * i.size) ++ xs))) := by
                    funext j
                    simp only [upd]
                    split <;> (try rfl)
                    split <;> rfl
                  rw [hfun] at r5
                  refine ⟨_, w', _, r1, ?_, r5⟩
                  simp only [VRel]
                  refine ⟨_, a, c, upd_same _ _ _, rfl, rfl, hle, ?_, ?_, .inr ?_⟩
                  · simp only; omega
                  · simp only; omega
                  · rw [r2]; simp
                · obtain ⟨w', r1, r2, r3⟩ := out (by omega)
                  refine ⟨_, w', _, r1, r3, r2.drop _ fun j o hj => ?_⟩
                  change upd (upd g id none) n (some _) j = some o at hj
                  by_cases e1 : j = n
                  · subst e1; rw [upd_same] at hj ⊢; exact hj
                  · rw [upd_ne e1] at hj ⊢
                    by_cases e2 : j = id
                    · subst e2; rw [upd_same] at hj; cases hj
                    · rw [upd_ne e2] at hj; exact hj
          · cases h
  · cases h

end Go.Ev

/-! Ev: maps. -/
namespace Go.Ev
open Go Go.MapKept

def keyHit : TypeDesc → AV → AV → Option Bool
  | .int _, .int k a, .int k' b => bif decide (k = k') then some (decide (a = b)) else none
  | .string, .str a, .str b => some (strEq a b)
  | .bool, .bool a, .bool b => some (a == b)
  | _, _, _ => none

def keyLike : TypeDesc → AV → Bool
  | .int k, .int k' _ => decide (k' = k)
  | .string, .str _ => true
  | .bool, .bool _ => true
  | _, _ => false

theorem strEq_bytes {a b : List Nat} (ha : ∀ x ∈ a, x < 256) (hb : ∀ x ∈ b, x < 256) : (bytesOf a == bytesOf b) = strEq a b := by
  rw [Bool.eq_iff_iff, bytes_beq, strEq_iff]
  refine ⟨fun h => ?_, fun h => by rw [h]⟩
  have h1 := congrArg ByteArray.toList h
  rw [bytesOf_toList, bytesOf_toList] at h1
  exact map_inj8 a b ha hb h1

theorem keyLike_is {d : TypeDesc} {x : AV} (h : keyLike d x = true) {ι : Inj} {v : Value} (hx : VRel ι x v) : IsKey d v := by
  cases d <;> cases x <;> simp only [keyLike] at h <;> (try (cases h; done)) <;> simp only [VRel] at hx
  · subst hx; simp [IsKey]
  · subst hx; simpa [IsKey] using h
  · rw [hx.1]; simp [IsKey]

theorem keyHit_run {d : TypeDesc} {x y : AV} {b : Bool} (h : keyHit d x y = some b) {ι : Inj} {v u : Value} (hx : VRel ι x v) (hy : VRel ι y u) :
    Instr.sameNow d v u = some b ∧ (b = true → u = v) := by
  cases d <;> cases x <;> (try (cases h; done)) <;> cases y <;> (try (cases h; done)) <;> simp only [keyHit] at h <;> simp only [VRel] at hx hy
  · simp only [Option.some.injEq] at h; subst h hx hy
    exact ⟨rfl, fun h => by rw [beq_iff_eq] at h; rw [h]⟩
  · rename_i k a k' c
    subst hx hy
    cases hk : decide (k = k') with
    | false => simp [hk] at h
    | true =>
      simp only [hk, cond_true, Option.some.injEq] at h
      simp only [decide_eq_true_eq] at hk
      subst hk h
      refine ⟨by simp [Instr.sameNow]; rfl, fun h => by simp only [decide_eq_true_eq] at h; rw [h]⟩
  · simp only [Option.some.injEq] at h; subst h
    obtain ⟨rfl, ha⟩ := hx
    obtain ⟨rfl, hb⟩ := hy
    refine ⟨by simp only [Instr.sameNow]; rw [strEq_bytes ha hb], fun h => by rw [(strEq_iff _ _).1 h]⟩

theorem same_key {d : TypeDesc} {v : Value} (h : IsKey d v) (n : Nat) : Instr.sameBits n v v = true := by
  cases d <;> cases v <;> simp only [IsKey] at h <;> simp [Instr.sameBits, bytes_beq]

/-- The place of a key. -/
def evFind (d : TypeDesc) (k : AV) : List (AV × AV × Nat) → Nat → Option (Option Nat)
  | [], _ => some none
  | e :: es, i =>
    match keyHit d k e.1 with
    | some true => some (some i)
    | some false => evFind d k es (i + 1)
    | none => none

theorem evFind_run {ι : Inj} {d : TypeDesc} {k : AV} {v : Value} (hk : VRel ι k v) : ∀ (es : List (AV × AV × Nat)) (ms : List MapEntry) (i : Nat) (r : Option Nat), ms.length = es.length →
    (∀ (j : Nat) e, es[j]? = some e → ∃ m, ms[j]? = some m ∧ ERel ι e m) → evFind d k es i = some r →
    (r = none ∧ Instr.findNow d v ms i = some none) ∨ ∃ j m, r = some (i + j) ∧ ms[j]? = some m ∧ Instr.findNow d v ms i = some (some (i + j, m.val)) ∧ m.key = v
  | [], [], i, r, _, _, h => by simp only [evFind, Option.some.injEq] at h; exact .inl ⟨h.symm, rfl⟩
  | [], m :: ms, i, r, hl, _, _ => by simp at hl
  | e :: es, [], i, r, hl, _, _ => by simp at hl
  | e :: es, m :: ms, i, r, hl, hr, h => by
    obtain ⟨m', hm', h1, h2, h3⟩ := hr 0 e rfl
    obtain rfl : m = m' := by simpa using hm'
    simp only [evFind] at h
    cases hh : keyHit d k e.1 with
    | none => simp [hh] at h
    | some b =>
      obtain ⟨s1, s2⟩ := keyHit_run hh hk h1
      cases b with
      | true =>
        simp only [hh, Option.some.injEq] at h
        exact .inr ⟨0, m, h.symm, rfl, by simp [Instr.findNow, s1], s2 rfl⟩
      | false =>
        simp only [hh] at h
        rcases evFind_run hk es ms (i + 1) r (by simpa using hl) (fun j e' he => by simpa using hr (j + 1) e' (by simpa using he)) h with ⟨a, b⟩ | ⟨j, m', a, b, c, q⟩
        · exact .inl ⟨a, by simp [Instr.findNow, s1, b]⟩
        · refine .inr ⟨j + 1, m', by rw [a]; congr 1; omega, by simpa using b, ?_, q⟩
          simp only [Instr.findNow, s1, c]
          congr 3; omega

mutual
def toKey : AV → Option Value
  | .bool b => some (.bool b)
  | .int k n => some (.int k n)
  | .str s => some (.string (bytesOf s))
  | .agg cs => match toKeys cs with | some vs => some (.agg vs.toArray) | none => none
  | _ => none
def toKeys : List AV → Option (List Value)
  | [] => some []
  | x :: xs => match toKey x with | some v => (match toKeys xs with | some vs => some (v :: vs) | none => none) | none => none
end

mutual
theorem toKey_eq {ι : Inj} : ∀ (x : AV) (v u : Value), VRel ι x v → toKey x = some u → v = u
  | .bool b, v, u, h, k => by simp only [VRel] at h; simp only [toKey, Option.some.injEq] at k; rw [h, k]
  | .int _ n, v, u, h, k => by simp only [VRel] at h; simp only [toKey, Option.some.injEq] at k; rw [h, k]
  | .str s, v, u, h, k => by simp only [VRel] at h; simp only [toKey, Option.some.injEq] at k; rw [h.1, k]
  | .agg cs, v, u, h, k => by
    simp only [VRel] at h
    obtain ⟨xs, rfl, hx⟩ := h
    simp only [toKey] at k
    split at k
    · rename_i vs hvs
      simp only [Option.some.injEq] at k
      subst k
      rw [← toKeys_eq cs xs.toList vs hx hvs]
    · cases k
  | .nilPtr, v, u, _, k => by simp [toKey] at k
  | .ptr _ _, v, u, _, k => by simp [toKey] at k
  | .nilSlice, v, u, _, k => by simp [toKey] at k
  | .slice _ _ _ _ _, v, u, _, k => by simp [toKey] at k
  | .nilMap, v, u, _, k => by simp [toKey] at k
  | .map _, v, u, _, k => by simp [toKey] at k
  | .func _ _ _, v, u, _, k => by simp [toKey] at k
  | .yield _, v, u, _, k => by simp [toKey] at k
  | .nilFunc, v, u, _, k => by simp [toKey] at k
  | .iface _ _, v, u, _, k => by simp [toKey] at k
  | .nilIface, v, u, _, k => by simp [toKey] at k
  | .tuple _, v, u, _, k => by simp [toKey] at k
theorem toKeys_eq {ι : Inj} : ∀ (xs : List AV) (vs us : List Value), VRels ι xs vs → toKeys xs = some us → vs = us
  | [], vs, us, h, k => by simp only [VRels] at h; simp only [toKeys, Option.some.injEq] at k; rw [h, k]
  | x :: xs, vs, us, h, k => by
    simp only [VRels] at h
    obtain ⟨v, ws, rfl, h1, h2⟩ := h
    simp only [toKeys] at k
    split at k
    rotate_left
    · cases k
    rename_i u hu
    split at k
    rotate_left
    · cases k
    rename_i us' hus
    simp only [Option.some.injEq] at k
    subst k
    rw [toKey_eq x v u h1 hu, toKeys_eq xs ws us' h2 hus]
end

/-- The place of a key that is a struct. -/
def evFindW (P : Program) (kt : TypeId) (k : AV) : List (AV × AV × Nat) → Nat → Option (Option Nat)
  | [], _ => some none
  | e :: es, i =>
    match evEq P 50 kt k e.1 with
    | some true => some (some i)
    | some false => evFindW P kt k es (i + 1)
    | none => none

theorem evFindW_run {P : Program} {kt : TypeId} {ι : Inj} {k : AV} {v : Value} (hk : VRel ι k v) (w : World) : ∀ (es : List (AV × AV × Nat)) (ms : List MapEntry) (i : Nat) (r : Option Nat), ms.length = es.length →
    (∀ (j : Nat) e, es[j]? = some e → ∃ m, ms[j]? = some m ∧ ERel ι e m) → evFindW P kt k es i = some r →
    (r = none ∧ (Instr.findAsking kt v ms i).run P w = .ok none w) ∨ ∃ j m, r = some (i + j) ∧ ms[j]? = some m ∧ (Instr.findAsking kt v ms i).run P w = .ok (some (i + j, m.val)) w
  | [], [], i, r, _, _, h => by simp only [evFindW, Option.some.injEq] at h; exact .inl ⟨h.symm, rfl⟩
  | [], m :: ms, i, r, hl, _, _ => by simp at hl
  | e :: es, [], i, r, hl, _, _ => by simp at hl
  | e :: es, m :: ms, i, r, hl, hr, h => by
    obtain ⟨m', hm', h1, h2, h3⟩ := hr 0 e rfl
    obtain rfl : m = m' := by simpa using hm'
    simp only [evFindW] at h
    cases hh : evEq P 50 kt k e.1 with
    | none => simp [hh] at h
    | some b =>
      have he : (Op.equal kt v m.key).run P w = .ok b w := evEq_run 50 kt k e.1 b hh ι v m.key hk h1 10000 (by omega) w
      cases b with
      | true =>
        simp only [hh, Option.some.injEq] at h
        exact .inr ⟨0, m, h.symm, rfl, by simp [Instr.findAsking, he]⟩
      | false =>
        simp only [hh] at h
        rcases evFindW_run hk w es ms (i + 1) r (by simpa using hl) (fun j e' he => by simpa using hr (j + 1) e' (by simpa using he)) h with ⟨a, b⟩ | ⟨j, m', a, b, c⟩
        · exact .inl ⟨a, by simp [Instr.findAsking, he, b]⟩
        · refine .inr ⟨j + 1, m', by rw [a]; congr 1; omega, by simpa using b, ?_⟩
          simp only [Instr.findAsking, Sem.run_bind, he, Result.andThen_ok, Bool.false_eq_true, if_false, c]
          congr 3; omega

def wideD : TypeDesc → Bool
  | .struct _ => true
  | _ => false

def evFindAny (P : Program) (kt : TypeId) (kd : TypeDesc) (k : AV) (es : List (AV × AV × Nat)) : Option (Option Nat) :=
  bif keyLike kd k then evFind kd k es 0 else
  bif wideD kd && P.keyTypeAt 5 kt then
    match toKey k with
    | some u =>
      bif u.formed P kt && (P.keyLits 10 kt u.cells.toList).isSome && Instr.sameBits 10000 u u then
        match evFindW P kt k es 0 with
        | some (some j) => match es[j]? with | some e => (match toKey e.1 with | some u' => bif Instr.sameBits 10000 u' u then some (some j) else none | none => none) | none => none
        | r => r
      else none
    | none => none
  else none

/-- What finding a key comes to. -/
theorem evFindAny_run {P : Program} {kt : TypeId} {kd : TypeDesc} (hkd : P.underlying kt = some kd) {ι : Inj} {k : AV} {v : Value} (hk : VRel ι k v) (w : World) {es : List (AV × AV × Nat)} {ms : List MapEntry} {r : Option Nat} (hl : ms.length = es.length)
    (hr : ∀ (j : Nat) e, es[j]? = some e → ∃ m, ms[j]? = some m ∧ ERel ι e m) (h : evFindAny P kt kd k es = some r) :
    (∀ b, (Instr.checkKey b 10000 kt v).run P w = .ok () w) ∧
    ((r = none ∧ (Instr.findKey kt v ms).run P w = .ok none w) ∨ ∃ j m, r = some j ∧ ms[j]? = some m ∧ (Instr.findKey kt v ms).run P w = .ok (some (j, m.val)) w ∧ Instr.sameBits 10000 m.key v = true) := by
  unfold evFindAny at h
  cases hkl : keyLike kd k with
  | true =>
    rw [hkl] at h
    simp only [cond_true] at h
    have hik := keyLike_is hkl hk
    refine ⟨fun b => Go.MapKept.run_checkKey hkd hik b 9999, ?_⟩
    rcases evFind_run hk es ms 0 r hl hr h with ⟨a, c⟩ | ⟨j, m, a, b, c, d⟩
    · exact .inl ⟨a, Go.MapKept.run_findKey hkd c⟩
    · simp only [Nat.zero_add] at a c
      exact .inr ⟨j, m, a, b, Go.MapKept.run_findKey hkd c, by rw [d]; exact same_key hik _⟩
  | false =>
    rw [hkl] at h
    simp only [cond_false] at h
    cases hw : (wideD kd && P.keyTypeAt 5 kt) with
    | false => rw [hw] at h; cases h
    | true =>
      rw [hw] at h
      simp only [cond_true] at h
      simp only [Bool.and_eq_true] at hw
      split at h
      rotate_left
      · cases h
      rename_i u hu
      have hvu := toKey_eq k v u hk hu
      subst hvu
      cases hb : (v.formed P kt && (P.keyLits 10 kt v.cells.toList).isSome && Instr.sameBits 10000 v v) with
      | false => rw [hb] at h; cases h
      | true =>
        rw [hb] at h
        simp only [cond_true] at h
        simp only [Bool.and_eq_true] at hb
        obtain ⟨⟨b1, b2⟩, _⟩ := hb
        obtain ⟨la, hla⟩ := Option.isSome_iff_exists.1 b2
        have hck : ∀ b, (Instr.checkKey b 10000 kt v).run P w = .ok () w := fun b => run_checkKey_deep b 9995 5 kt hw.2 w 10 v la b1 hla
        refine ⟨hck, ?_⟩
        have hnow : Instr.findNow kd v ms 0 = none ∨ ms = [] := by
          cases ms with
          | nil => exact .inr rfl
          | cons m ms =>
            left
            cases kd with
            | struct fs => simp [Instr.findNow, Instr.sameNow]
            | _ => simp [wideD] at hw
        have hfk : (Instr.findKey kt v ms).run P w = (Instr.findAsking kt v ms 0).run P w := by
          rcases hnow with hn | hn
          · simp only [Instr.findKey, Sem.run_bind, run_underlying hkd, Result.andThen_ok, hn]
          · subst hn
            simp [Instr.findKey, run_underlying hkd, Instr.findNow, Instr.findAsking]
        split at h
        · rename_i j hf
          split at h
          rotate_left
          · cases h
          rename_i e he
          split at h
          rotate_left
          · cases h
          rename_i u' hu'
          cases hsb : Instr.sameBits 10000 u' v with
          | false => rw [hsb] at h; cases h
          | true =>
            rw [hsb] at h
            simp only [cond_true, Option.some.injEq] at h
            subst h
            rcases evFindW_run hk w es ms 0 _ hl hr hf with ⟨a, _⟩ | ⟨j', m, a, b, c⟩
            · cases a
            · simp only [Nat.zero_add, Option.some.injEq] at a c
              subst a
              obtain ⟨m', hm', e1, _⟩ := hr j e he
              obtain rfl : m = m' := by rw [b] at hm'; exact Option.some.inj hm'
              exact .inr ⟨j, m, rfl, b, by rw [hfk]; exact c, by rw [toKey_eq e.1 m.key u' e1 hu']; exact hsb⟩
        · rename_i hne
          rcases evFindW_run hk w es ms 0 _ hl hr h with ⟨a, c⟩ | ⟨j', m, a, _⟩
          · exact .inl ⟨a, by rw [hfk]; exact c⟩
          · subst a; exact absurd h (hne _)

/-- A map, as it lies. -/
theorem mapAt {g : AHeap} {ι : Inj} {w : World} (k : HRel g ι w) {id clock : Nat} {es : List (AV × AV × Nat)} (h : g id = some (.map es clock)) :
    ∃ p ms, ι id = some p ∧ w.heap[p.blk]? = some (.map ms clock) ∧ ms.toList.length = es.length ∧ ∀ (i : Nat) e, es[i]? = some e → ∃ m, ms.toList[i]? = some m ∧ ERel ι e m := by
  obtain ⟨p, hp, ms, h1, h2, h3⟩ := k.obj id _ h
  exact ⟨p, ms, hp, h1, by simpa using h2, fun i e he => by simpa using h3 i e he⟩

/-- A block overwritten. -/
theorem setBlock {g : AHeap} {ι : Inj} {w : World} (k : HRel g ι w) (n : Nat) {id : Nat} {o0 o : AObj} {p : Place} (h0 : g id = some o0) (hp : ι id = some p) (hrw : o0.rw = true) (O : Obj)
    (hrel : ∀ w' : World, w'.heap[p.blk]? = some O → ORel ι p w' o) : Post g (upd g id (some o)) n n ι ι w { w with heap := w.heap.setIfInBounds p.blk O } := by
  obtain ⟨q, hq, hr⟩ := k.obj id o0 h0
  obtain rfl : q = p := by rw [hp] at hq; exact (Option.some.inj hq).symm
  have hlt := hr.there
  refine Post.setObj k n h0 hp hrw o rfl rfl (by simp) (fun b hb => by simp [Ne.symm hb]) (hrel _ (by simp [hlt]))

theorem mrel {ι : Inj} {p : Place} {es : List (AV × AV × Nat)} {ms : Array MapEntry} {clock : Nat} (hl : ms.toList.length = es.length)
    (hr : ∀ (i : Nat) e, es[i]? = some e → ∃ m, ms.toList[i]? = some m ∧ ERel ι e m) (w' : World) (hw : w'.heap[p.blk]? = some (.map ms clock)) : ORel ι p w' (.map es clock) :=
  ⟨ms, hw, by simpa using hl, fun i e he => by simpa using hr i e he⟩

theorem mpush {ι : Inj} {es : List (AV × AV × Nat)} {ms : Array MapEntry} (hl : ms.toList.length = es.length) (hr : ∀ (i : Nat) e, es[i]? = some e → ∃ m, ms.toList[i]? = some m ∧ ERel ι e m)
    {x y : AV} {v u : Value} (hx : VRel ι x v) (hy : VRel ι y u) (clock : Nat) :
    (ms.push { key := v, val := u, born := clock }).toList.length = (es ++ [(x, y, clock)]).length ∧
    ∀ (i : Nat) e, (es ++ [(x, y, clock)])[i]? = some e → ∃ m, (ms.push { key := v, val := u, born := clock }).toList[i]? = some m ∧ ERel ι e m := by
  refine ⟨by simp at hl ⊢; omega, fun i e he => ?_⟩
  rw [Array.toList_push]
  by_cases hi : i < es.length
  · rw [List.getElem?_append_left hi] at he
    rw [List.getElem?_append_left (by omega)]
    exact hr i e he
  · rw [List.getElem?_append_right (by omega)] at he
    rw [List.getElem?_append_right (by omega), hl]
    cases hj : i - es.length with
    | zero => rw [hj] at he; simp at he; subst he; exact ⟨_, rfl, hx, hy, rfl⟩
    | succ j => rw [hj] at he; simp at he

theorem mset {ι : Inj} {es : List (AV × AV × Nat)} {ms : Array MapEntry} (hl : ms.toList.length = es.length) (hr : ∀ (i : Nat) e, es[i]? = some e → ∃ m, ms.toList[i]? = some m ∧ ERel ι e m)
    (j : Nat) (e' : AV × AV × Nat) (f : MapEntry → MapEntry) (hf : ∀ m, ms.toList[j]? = some m → ERel ι e' (f m)) :
    (ms.modify j f).toList.length = (es.set j e').length ∧
    ∀ (i : Nat) e, (es.set j e')[i]? = some e → ∃ m, (ms.modify j f).toList[i]? = some m ∧ ERel ι e m := by
  refine ⟨by simp at hl ⊢; omega, fun i e he => ?_⟩
  rw [List.getElem?_set] at he
  have hm : (ms.modify j f).toList[i]? = if j = i then ms.toList[i]?.map f else ms.toList[i]? := by
    rw [Array.getElem?_toList, Array.getElem?_modify, Array.getElem?_toList]
  rw [hm]
  by_cases hji : j = i
  · subst hji
    simp only [if_true] at he ⊢
    split at he
    · simp at he; subst he
      rename_i hlt
      have : ∃ m, ms.toList[j]? = some m := ⟨_, List.getElem?_eq_getElem (by omega)⟩
      obtain ⟨m, hm⟩ := this
      rw [hm]
      exact ⟨f m, rfl, hf m hm⟩
    · cases he
  · rw [if_neg hji] at he ⊢
    exact hr i e he

/-! ### Looking up -/
def entriesOf (g : AHeap) : AV → Option (List (AV × AV × Nat))
  | .nilMap => some []
  | .map id => match g id with | some (.map es _) => some es | _ => none
  | _ => none

def evLookup (P : Program) (g : AHeap) (t : TypeId) (x i : AV) (ok : Bool) : Option AV :=
  match P.underlying t with
  | some (.map kt el) =>
    match P.underlying kt with
    | some kd =>
      match entriesOf g x with
      | some es =>
        match evFindAny P kt kd i es with
        | some (some j) => match es[j]? with | some e => some (bif ok then .tuple [e.2.1, .bool true] else e.2.1) | none => none
        | some none => match zeroT P el with | some z => some (bif ok then .tuple [z, .bool false] else z) | none => none
        | none => none
      | none => none
    | none => none
  | _ => none

theorem evLookup_sim {P : Program} {g : AHeap} {t : TypeId} {x i y : AV} {ok : Bool} (h : evLookup P g t x i ok = some y) {n : Nat} {ι : Inj} {w : World} (k : HRel g ι w) {v u : Value} (hx : VRel ι x v) (hi : VRel ι i u) :
    Sim P (Instr.lookup t v u ok) g n y .none ι w := by
  unfold evLookup at h
  split at h
  rotate_left
  · cases h
  rename_i kt el hu
  split at h
  rotate_left
  · cases h
  rename_i kd hkd
  · split at h
    rotate_left
    · cases h
    rename_i es hes
    have key : ∃ ms : Array MapEntry, ((v = .map none ∧ ms = #[]) ∨ ∃ r clock, v = .map (some r) ∧ w.heap[r]? = some (.map ms clock)) ∧ ms.toList.length = es.length ∧ ∀ (i : Nat) e, es[i]? = some e → ∃ m, ms.toList[i]? = some m ∧ ERel ι e m := by
      unfold entriesOf at hes
      split at hes
      · simp only [VRel] at hx
        subst hx
        simp only [Option.some.injEq] at hes
        subst hes
        exact ⟨#[], .inl ⟨rfl, rfl⟩, rfl, by simp⟩
      · rename_i id
        split at hes
        rotate_left
        · cases hes
        rename_i es' clock hg
        simp only [Option.some.injEq] at hes
        subst hes
        obtain ⟨p, ms, hp, hb, hl, hr⟩ := mapAt k hg
        simp only [VRel] at hx
        obtain ⟨q, hq, rfl⟩ := hx
        obtain rfl : q = p := by rw [hp] at hq; exact (Option.some.inj hq).symm
        exact ⟨ms, .inr ⟨_, _, rfl, hb⟩, hl, hr⟩
      · cases hes
    obtain ⟨ms, hrun, hl, hr⟩ := key
    split at h
    · rename_i j hf
      split at h
      rotate_left
      · cases h
      rename_i e he
      simp only [Option.some.injEq] at h
      obtain ⟨hck, hcase⟩ := evFindAny_run hkd hi w hl hr hf
      rcases hcase with ⟨a, _⟩ | ⟨j', m, a, b, hfk, _⟩
      · cases a
      · simp only [Option.some.injEq] at a
        subst a
        obtain ⟨m', hm', e1, e2, e3⟩ := hr j e he
        obtain rfl : m = m' := by rw [b] at hm'; exact Option.some.inj hm'
        refine Sim.pure k (if ok then .tuple #[m.val, .bool true] else m.val) ?_ ?_
        · rcases hrun with ⟨rfl, rfl⟩ | ⟨r, cl, rfl, hb⟩
          · simp at b
          · simp [Instr.lookup, run_underlying hu, Go.MapKept.run_getObj_map hb, hck, hfk]
        · subst h
          cases ok
          · exact e2
          · simp only [cond_true, if_true, VRel]
            exact ⟨_, rfl, by simp only [VRels, VRel]; exact ⟨_, _, rfl, e2, _, _, rfl, rfl, rfl⟩⟩
    · rename_i hf
      split at h
      rotate_left
      · cases h
      rename_i z hz
      simp only [Option.some.injEq] at h
      obtain ⟨zv, z1, z2⟩ := zeroT_run hz ι w
      obtain ⟨hck, hcase⟩ := evFindAny_run hkd hi w hl hr hf
      rcases hcase with ⟨_, hfk⟩ | ⟨j', m, a, _⟩
      · skip
        refine Sim.pure k (if ok then .tuple #[zv, .bool false] else zv) ?_ ?_
        · rcases hrun with ⟨rfl, rfl⟩ | ⟨r, cl, rfl, hb⟩
          · simp [Instr.lookup, run_underlying hu, hck, hfk, z1]
          · simp [Instr.lookup, run_underlying hu, Go.MapKept.run_getObj_map hb, hck, hfk, z1]
        · subst h
          cases ok
          · exact z2
          · simp only [cond_true, if_true, VRel]
            exact ⟨_, rfl, by simp only [VRels, VRel]; exact ⟨_, _, rfl, z2, _, _, rfl, rfl, rfl⟩⟩
      · cases a
    · cases h

/-! ### Writing -/
def evMapUpdate (P : Program) (g : AHeap) (t : TypeId) (x i y : AV) : Option Eff :=
  match P.underlying t with
  | some (.map kt _) =>
    match P.underlying kt, x with
    | some kd, .map id =>
      match g id with
      | some (.map es clock) =>
        match evFindAny P kt kd i es with
        | some (some j) => match es[j]? with | some e => some (.wr id (.map (es.set j (i, y, e.2.2)) clock)) | none => none
        | some none => some (.wr id (.map (es ++ [(i, y, clock)]) (clock + 1)))
        | none => none
      | _ => none
    | _, _ => none
  | _ => none

theorem evMapUpdate_sim {P : Program} {g : AHeap} {t : TypeId} {x i y : AV} {e : Eff} (h : evMapUpdate P g t x i y = some e) {n : Nat} {ι : Inj} {w : World} (k : HRel g ι w) {v u z : Value} (hx : VRel ι x v) (hi : VRel ι i u) (hy : VRel ι y z) :
    SimU P (Instr.mapUpdate t v u z) g n e ι w := by
  unfold evMapUpdate at h
  split at h
  rotate_left
  · cases h
  rename_i kt el hu
  split at h
  rotate_left
  · cases h
  rename_i kd id hkd
  · split at h
    rotate_left
    · cases h
    rename_i es clock hg
    obtain ⟨p, ms, hp, hb, hl, hr⟩ := mapAt k hg
    simp only [VRel] at hx
    obtain ⟨q, hq, rfl⟩ := hx
    obtain rfl : q = p := by rw [hp] at hq; exact (Option.some.inj hq).symm
    split at h
    · rename_i j hf
      split at h
      rotate_left
      · cases h
      rename_i e0 he
      simp only [Option.some.injEq] at h
      subst h
      obtain ⟨hck, hcase⟩ := evFindAny_run hkd hi w hl hr hf
      rcases hcase with ⟨a, _⟩ | ⟨j', m, a, b, hfk, hsb⟩
      · cases a
      · simp only [Option.some.injEq] at a
        subst a
        have hms : ms[j]? = some m := by simpa using b
        obtain ⟨m', hm', e1, e2, e3⟩ := hr j e0 he
        obtain rfl : m = m' := by rw [b] at hm'; exact Option.some.inj hm'
        obtain ⟨s1, s2⟩ := mset hl hr j (i, y, e0.2.2) (fun e => { e with key := u, val := z }) (fun m' hm' => by
          obtain rfl : m = m' := by rw [b] at hm'; exact Option.some.inj hm'
          exact ⟨hi, hy, e3⟩)
        refine ⟨_, ι, ?_, setBlock k n hg hp rfl (.map (ms.modify j fun e => { e with key := u, val := z }) clock) (mrel s1 s2)⟩
        simp [Instr.mapUpdate, run_underlying hu, Go.MapKept.run_getObj_map hb, hck, hfk, Instr.keyThatStays, hms, hsb, Go.MapKept.run_setObj_map _ hb]
    · rename_i hf
      simp only [Option.some.injEq] at h
      subst h
      obtain ⟨hck, hcase⟩ := evFindAny_run hkd hi w hl hr hf
      rcases hcase with ⟨_, hfk⟩ | ⟨j', m, a, _⟩
      · skip
        obtain ⟨s1, s2⟩ := mpush hl hr hi hy clock
        refine ⟨_, ι, ?_, setBlock k n hg hp rfl (.map (ms.push { key := u, val := z, born := clock }) (clock + 1)) (mrel s1 s2)⟩
        simp [Instr.mapUpdate, run_underlying hu, Go.MapKept.run_getObj_map hb, hck, hfk, Go.MapKept.run_setObj_map _ hb]
      · cases a
    · cases h

/-! ### m[k] op= v: the entry, and its store -/
def evMapEntry (P : Program) (g : AHeap) (t : TypeId) (x i : AV) : Option (AV × Eff) :=
  match P.underlying t with
  | some (.map kt el) =>
    match P.underlying kt, x with
    | some kd, .map id =>
      match g id with
      | some (.map es clock) =>
        match evFindAny P kt kd i es with
        | some (some j) => match es[j]? with | some e => some (.tuple [e.2.1, .int .i64 (e.2.2 : Int)], .wr id (.map (es.set j (i, e.2.1, e.2.2)) clock)) | none => none
        | some none => match zeroT P el with | some z => some (.tuple [z, .int .i64 (clock : Int)], .wr id (.map (es ++ [(i, z, clock)]) (clock + 1))) | none => none
        | none => none
      | _ => none
    | _, _ => none
  | _ => none

theorem evMapEntry_sim {P : Program} {g : AHeap} {t : TypeId} {x i y : AV} {e : Eff} (h : evMapEntry P g t x i = some (y, e)) {n : Nat} {ι : Inj} {w : World} (k : HRel g ι w) {v u : Value} (hx : VRel ι x v) (hi : VRel ι i u) :
    Sim P (Instr.mapEntry t v u) g n y e ι w := by
  unfold evMapEntry at h
  split at h
  rotate_left
  · cases h
  rename_i kt el hu
  split at h
  rotate_left
  · cases h
  rename_i kd id hkd
  · split at h
    rotate_left
    · cases h
    rename_i es clock hg
    obtain ⟨p, ms, hp, hb, hl, hr⟩ := mapAt k hg
    simp only [VRel] at hx
    obtain ⟨q, hq, rfl⟩ := hx
    obtain rfl : q = p := by rw [hp] at hq; exact (Option.some.inj hq).symm
    split at h
    · rename_i j hf
      split at h
      rotate_left
      · cases h
      rename_i e0 he
      simp only [Option.some.injEq, Prod.mk.injEq] at h
      obtain ⟨rfl, rfl⟩ := h
      obtain ⟨hck, hcase⟩ := evFindAny_run hkd hi w hl hr hf
      rcases hcase with ⟨a, _⟩ | ⟨j', m, a, b, hfk, hsb⟩
      · cases a
      · simp only [Option.some.injEq] at a
        subst a
        have hms : ms[j]? = some m := by simpa using b
        obtain ⟨m', hm', e1, e2, e3⟩ := hr j e0 he
        obtain rfl : m = m' := by rw [b] at hm'; exact Option.some.inj hm'
        obtain ⟨s1, s2⟩ := mset hl hr j (i, e0.2.1, e0.2.2) (fun e => { e with key := u }) (fun m' hm' => by
          obtain rfl : m = m' := by rw [b] at hm'; exact Option.some.inj hm'
          exact ⟨hi, e2, e3⟩)
        refine ⟨.tuple #[m.val, goInt m.born], _, ι, ?_, ?_, setBlock k n hg hp rfl (.map (ms.modify j fun e => { e with key := u }) clock) (mrel s1 s2)⟩
        · simp [Instr.mapEntry, run_underlying hu, Go.MapKept.run_getObj_map hb, hck, hfk, Instr.keyThatStays, hms, hsb, Go.MapKept.run_setObj_map _ hb]
        · simp only [VRel]
          exact ⟨_, rfl, by simp only [VRels, VRel]; exact ⟨_, _, rfl, e2, _, _, rfl, by rw [e3]; rfl, rfl⟩⟩
    · rename_i hf
      split at h
      rotate_left
      · cases h
      rename_i z hz
      simp only [Option.some.injEq, Prod.mk.injEq] at h
      obtain ⟨rfl, rfl⟩ := h
      obtain ⟨zv, z1, z2⟩ := zeroT_run hz ι w
      obtain ⟨hck, hcase⟩ := evFindAny_run hkd hi w hl hr hf
      rcases hcase with ⟨_, hfk⟩ | ⟨j', m, a, _⟩
      · skip
        obtain ⟨s1, s2⟩ := mpush hl hr hi z2 clock
        refine ⟨.tuple #[zv, goInt clock], _, ι, ?_, ?_, setBlock k n hg hp rfl (.map (ms.push { key := u, val := zv, born := clock }) (clock + 1)) (mrel s1 s2)⟩
        · simp [Instr.mapEntry, run_underlying hu, Go.MapKept.run_getObj_map hb, hck, hfk, Go.MapKept.run_setObj_map _ hb, z1]
        · simp only [VRel]
          exact ⟨_, rfl, by simp only [VRels, VRel]; exact ⟨_, _, rfl, z2, _, _, rfl, rfl, rfl⟩⟩
      · cases a
    · cases h

def bornAt (b : Int) : List (AV × AV × Nat) → Nat → Option Nat
  | [], _ => none
  | e :: es, i => bif decide ((e.2.2 : Int) = b) then some i else bornAt b es (i + 1)

theorem bornAt_run {ι : Inj} (b : Int) : ∀ (es : List (AV × AV × Nat)) (ms : List MapEntry) (i j : Nat), ms.length = es.length →
    (∀ (j : Nat) e, es[j]? = some e → ∃ m, ms[j]? = some m ∧ ERel ι e m) → bornAt b es i = some j → ∃ l, j = i + l ∧ ms.findIdx? (fun e => (e.born : Int) == b) = some l
  | [], _, i, j, _, _, h => by simp [bornAt] at h
  | e :: es, [], i, j, hl, _, _ => by simp at hl
  | e :: es, m :: ms, i, j, hl, hr, h => by
    obtain ⟨m', hm', h1, h2, h3⟩ := hr 0 e rfl
    obtain rfl : m = m' := by simpa using hm'
    simp only [bornAt] at h
    cases hb : decide ((e.2.2 : Int) = b) with
    | true =>
      rw [hb] at h
      simp only [cond_true, Option.some.injEq] at h
      simp only [decide_eq_true_eq] at hb
      exact ⟨0, by omega, by simp [List.findIdx?_cons, h3, hb]⟩
    | false =>
      rw [hb] at h
      simp only [cond_false] at h
      simp only [decide_eq_false_iff_not] at hb
      obtain ⟨l, e1, e2⟩ := bornAt_run b es ms (i + 1) j (by simpa using hl) (fun j e' he => by simpa using hr (j + 1) e' (by simpa using he)) h
      exact ⟨l + 1, by omega, by simp [List.findIdx?_cons, h3, hb, e2]⟩

def evEntryStore (g : AHeap) (x s y : AV) : Option Eff :=
  match x, s with
  | .map id, .int _ b =>
    match g id with
    | some (.map es clock) =>
      match bornAt b es 0 with
      | some j => match es[j]? with | some e => some (.wr id (.map (es.set j (e.1, y, e.2.2)) clock)) | none => none
      | none => none
    | _ => none
  | _, _ => none

theorem evEntryStore_sim {P : Program} {t : TypeId} {g : AHeap} {x s y : AV} {e : Eff} (h : evEntryStore g x s y = some e) {n : Nat} {ι : Inj} {w : World} (k : HRel g ι w) {v u z : Value} (hx : VRel ι x v) (hs : VRel ι s u) (hy : VRel ι y z) :
    SimU P (Instr.entryStore t v u z) g n e ι w := by
  unfold evEntryStore at h
  split at h
  rotate_left
  · cases h
  rename_i id kd b
  split at h
  rotate_left
  · cases h
  rename_i es clock hg
  split at h
  rotate_left
  · cases h
  rename_i j hj
  split at h
  rotate_left
  · cases h
  rename_i e0 he
  simp only [Option.some.injEq] at h
  subst h
  obtain ⟨p, ms, hp, hb, hl, hr⟩ := mapAt k hg
  simp only [VRel] at hx hs
  obtain ⟨q, hq, rfl⟩ := hx
  obtain rfl : q = p := by rw [hp] at hq; exact (Option.some.inj hq).symm
  subst hs
  obtain ⟨l, e1, e2⟩ := bornAt_run b es ms.toList 0 j hl hr hj
  obtain rfl : j = l := by omega
  obtain ⟨s1, s2⟩ := mset hl hr j (e0.1, y, e0.2.2) (fun e => { e with val := z }) (fun m hm => by
    obtain ⟨m', hm', a, _, c⟩ := hr j e0 he
    obtain rfl : m = m' := by rw [hm] at hm'; exact Option.some.inj hm'
    exact ⟨a, hy, c⟩)
  refine ⟨_, ι, ?_, setBlock k n hg hp rfl (.map (ms.modify j fun e => { e with val := z }) clock) (mrel s1 s2)⟩
  have e3 : ms.findIdx? (fun e => (e.born : Int) == b) = some j := by cases ms; simpa using e2
  simp [Instr.entryStore, Go.MapKept.run_getObj_map hb, asInt, asIntOf, e3, Go.MapKept.run_setObj_map _ hb]

/-! ### New maps, deletes -/
def evMakeMap (n : Nat) : AV × Eff := (.map n, .new (.map [] 0))

theorem evMakeMap_sim {P : Program} {t : TypeId} {n : Nat} {y : AV} {e : Eff} (h : evMakeMap n = (y, e)) {g : AHeap} {ι : Inj} {w : World} (k : HRel g ι w) (hn : ι n = none) : Sim P (Instr.makeMap t none) g n y e ι w := by
  simp only [evMakeMap, Prod.mk.injEq] at h
  obtain ⟨rfl, rfl⟩ := h
  refine ⟨.map (some w.heap.size), w.alloc (.map #[] 0), upd ι n (some ⟨w.heap.size, 0, 0, 0⟩), rfl, ?_, Post.newObj k hn _ _ _ rfl ⟨#[], heap_alloc_new w _, rfl, by simp⟩⟩
  simp only [VRel]; exact ⟨_, upd_same _ _ _, rfl⟩

def evDelete (P : Program) (g : AHeap) (t : TypeId) (x i : AV) : Option Eff :=
  match P.underlying t with
  | some (.map kt _) =>
    match P.underlying kt, x with
    | some kd, .map id =>
      match g id with
      | some (.map es clock) =>
        match evFindAny P kt kd i es with
        | some (some j) => some (.wr id (.map (es.eraseIdx j) clock))
        | some none => some (.wr id (.map es clock))
        | none => none
      | _ => none
    | some kd, .nilMap => match evFindAny P kt kd i [] with | some _ => some .none | none => none
    | _, _ => none
  | _ => none

theorem evDelete_sim {P : Program} {g : AHeap} {t t2 ty : TypeId} {x i : AV} {e : Eff} (h : evDelete P g t x i = some e) {n : Nat} {ι : Inj} {w : World} (k : HRel g ι w) {v u : Value} (hx : VRel ι x v) (hi : VRel ι i u) :
    Sim P (Builtin.delete_ #[t, t2] ty #[v, u]) g n (.tuple []) e ι w := by
  unfold evDelete at h
  split at h
  rotate_left
  · cases h
  rename_i kt el hu
  have hret : ∀ ι, VRel ι (.tuple []) (.tuple #[]) := fun ι => by simp [VRel, VRels]
  split at h
  · rename_i kd id hkd
    · split at h
      rotate_left
      · cases h
      rename_i es clock hg
      obtain ⟨p, ms, hp, hb, hl, hr⟩ := mapAt k hg
      simp only [VRel] at hx
      obtain ⟨q, hq, rfl⟩ := hx
      obtain rfl : q = p := by rw [hp] at hq; exact (Option.some.inj hq).symm
      split at h
      · rename_i j hf
        simp only [Option.some.injEq] at h
        subst h
        obtain ⟨hck, hcase⟩ := evFindAny_run hkd hi w hl hr hf
        rcases hcase with ⟨a, _⟩ | ⟨j', m, a, b, hfk, hsb⟩
        · cases a
        · simp only [Option.some.injEq] at a
          subst a
          have hjl : j < ms.size := by have := (List.getElem?_eq_some_iff.1 b).1; simpa using this
          have hel : (ms.eraseIdxIfInBounds j).toList = ms.toList.eraseIdx j := by simp [Array.eraseIdxIfInBounds, hjl]
          refine ⟨.tuple #[], _, ι, ?_, hret _, setBlock k n hg hp rfl (.map (ms.eraseIdxIfInBounds j) clock) (mrel ?_ ?_)⟩
          · simp [Builtin.delete_, run_underlying hu, Go.MapKept.run_getObj_map hb, hck, hfk, Go.MapKept.run_setObj_map _ hb]
          · rw [hel, List.length_eraseIdx, List.length_eraseIdx, hl]
          · intro i' e' he'
            rw [hel]
            rw [List.getElem?_eraseIdx] at he' ⊢
            split at he'
            · rename_i hlt; rw [if_pos hlt]; exact hr _ _ he'
            · rename_i hlt; rw [if_neg hlt]; exact hr _ _ he'
      · rename_i hf
        simp only [Option.some.injEq] at h
        subst h
        obtain ⟨hck, hcase⟩ := evFindAny_run hkd hi w hl hr hf
        rcases hcase with ⟨_, hfk⟩ | ⟨j', m, a, _⟩
        · skip
          refine ⟨.tuple #[], _, ι, ?_, hret _, setBlock k n hg hp rfl (.map ms clock) (mrel hl hr)⟩
          simp [Builtin.delete_, run_underlying hu, Go.MapKept.run_getObj_map hb, hck, hfk, Go.MapKept.run_setObj_map _ hb]
        · cases a
      · cases h
  · rename_i kd hkd
    · split at h
      rotate_left
      · cases h
      rename_i r hf
      simp only [Option.some.injEq] at h
      subst h
      simp only [VRel] at hx
      subst hx
      have hck := (evFindAny_run hkd hi w (ms := []) rfl (by simp) hf).1
      exact Sim.pure k (.tuple #[]) (by simp [Builtin.delete_, run_underlying hu, hck]) (hret _)
  · cases h

end Go.Ev

/-! Ev: one operation. -/
namespace Go.Ev
open Go

/-- What an operand stands for. -/
def evOpd (tm : T AV) : Operand → Option AV
  | .tmp t => tm.get t
  | .const v => ofValue v
  | .func f => some (.func f [] [])
  | .global _ => none

theorem evOpd_rel {ι : Inj} {nt : Nat} {tm : T AV} {a : Act} (ht : TRel ι nt tm a.tmps) {x : Operand} {y : AV} (h : evOpd tm x = some y) : VRel ι y (a.eval x) := by
  cases x with
  | tmp t =>
    exact ht.2 t y h
  | const v => exact ofValue_rel ι v y h
  | func f =>
    simp only [evOpd, Option.some.injEq] at h
    subst h
    simp only [VRel, Act.eval]
    exact ⟨#[], #[], rfl, by simp [VRels], by simp [VRels]⟩
  | global g => cases h

def evOpds (tm : T AV) : List Operand → Option (List AV)
  | [] => some []
  | x :: xs => match evOpd tm x with | some y => (match evOpds tm xs with | some ys => some (y :: ys) | none => none) | none => none

theorem evOpds_rel {ι : Inj} {nt : Nat} {tm : T AV} {a : Act} (ht : TRel ι nt tm a.tmps) : ∀ (xs : List Operand) (ys : List AV), evOpds tm xs = some ys → VRels ι ys (xs.map a.eval)
  | [], ys, h => by simp only [evOpds, Option.some.injEq] at h; subst h; simp [VRels]
  | x :: xs, ys, h => by
    simp only [evOpds] at h
    split at h
    rotate_left
    · cases h
    rename_i y hy
    split at h
    rotate_left
    · cases h
    rename_i ys' hys
    simp only [Option.some.injEq] at h
    subst h
    simp only [List.map_cons, VRels]
    exact ⟨_, _, rfl, evOpd_rel ht hy, evOpds_rel ht xs ys' hys⟩

def evParts (tm : T AV) : List (Nat × Operand) → Option (List (Nat × AV))
  | [] => some []
  | (i, x) :: xs => match evOpd tm x with | some y => (match evParts tm xs with | some ys => some ((i, y) :: ys) | none => none) | none => none

theorem evParts_rel {ι : Inj} {nt : Nat} {tm : T AV} {a : Act} (ht : TRel ι nt tm a.tmps) : ∀ (xs : List (Nat × Operand)) (ys : List (Nat × AV)), evParts tm xs = some ys → PRels ι ys (xs.map fun (i, x) => (i, a.eval x))
  | [], ys, h => by simp only [evParts, Option.some.injEq] at h; subst h; simp [PRels]
  | (i, x) :: xs, ys, h => by
    simp only [evParts] at h
    split at h
    rotate_left
    · cases h
    rename_i y hy
    split at h
    rotate_left
    · cases h
    rename_i ys' hys
    simp only [Option.some.injEq] at h
    subst h
    simp only [List.map_cons, PRels]
    exact ⟨_, _, rfl, evOpd_rel ht hy, evParts_rel ht xs ys' hys⟩

def evOpdO (tm : T AV) : Option Operand → Option (Option AV)
  | none => some none
  | some x => match evOpd tm x with | some y => some (some y) | none => none

theorem evOpdO_rel {ι : Inj} {nt : Nat} {tm : T AV} {a : Act} (ht : TRel ι nt tm a.tmps) {x : Option Operand} {y : Option AV} (h : evOpdO tm x = some y) : VRelO ι y (x.map a.eval) := by
  cases x with
  | none => simp only [evOpdO, Option.some.injEq] at h; subst h; rfl
  | some x =>
    simp only [evOpdO] at h
    split at h
    rotate_left
    · cases h
    rename_i y' hy
    simp only [Option.some.injEq] at h
    subst h
    exact ⟨_, rfl, evOpd_rel ht hy⟩

/-! ### Operators -/
def evBinStr (op : BinOp) (a b : List Nat) : Option AV :=
  match op with
  | .eql => some (.bool (strEq a b))
  | .neq => some (.bool (!strEq a b))
  | .add => bif Nat.ble (a.length + b.length) 1099511627776 then some (.str (a ++ b)) else none
  | _ => none

def evBinAny (P : Program) (op : BinOp) (t : TypeId) (x y : AV) : Option AV :=
  match op with
  | .eql => match evEq P 50 t x y with | some b => some (.bool b) | none => none
  | .neq => match evEq P 50 t x y with | some b => some (.bool (!b)) | none => none
  | _ => none

def evBin (P : Program) (op : BinOp) (t : TypeId) (x y : AV) : Option AV :=
  match x, y with
  | .int k a, .int k' b => evPure P (binOp op t (.int k a) (.int k' b))
  | .str a, .str b => evBinStr op a b
  | .agg xs, .agg ys => bif P.eqGuardType P.depth t then none else evBinAny P op t (.agg xs) (.agg ys)
  | x, y => evBinAny P op t x y

theorem stringOp_add {a b : List Nat} (h : a.length + b.length ≤ 1099511627776) (P : Program) (w : World) :
    (Op.stringOp .add (bytesOf a) (bytesOf b)).run P w = .ok (.string (bytesOf (a ++ b))) w := by
  have hm : IntKind.i64.max = 9223372036854775807 := by decide
  have h1 : ¬ (((bytesOf a).size + (bytesOf b).size : Nat) : Int) > IntKind.i64.max := by rw [bytesOf_size, bytesOf_size, hm]; omega
  have h2 : bytesOf a ++ bytesOf b = bytesOf (a ++ b) := by
    apply ByteArray.ext
    rw [ByteArray.data_append]
    simp [bytesOf]
  simp only [Op.stringOp, if_neg h1, h2]
  rfl

/-- The guard says nothing here. -/
theorem guard_nilEq {op : BinOp} {t : TypeId} {x y : AV} {b : Bool} {td : TypeDesc} (h : nilEq td x y = some b) {ι : Inj} {v u : Value} (hv : VRel ι x v) (hu : VRel ι y u) (X Y : Operand) :
    eqGuard op t X Y v u = pure () := by
  unfold nilEq at h
  split at h <;> (try (cases h; done)) <;> simp only [VRel] at hv hu <;> (try subst hv) <;> (try subst hu) <;>
    (try (obtain ⟨p, _, rfl⟩ := hv)) <;> (try (obtain ⟨p, a, c, _, rfl, _⟩ := hv)) <;> (try (obtain ⟨p, a, rfl, _⟩ := hv)) <;> (try (obtain ⟨p, rfl, _⟩ := hv)) <;>
    first
    | exact eqGuard_at_pointer ..
    | exact eqGuard_at_slice ..
    | exact eqGuard_at_map ..
    | exact eqGuard_at_func ..
    | exact eqGuard_at_nilFunc ..
    | exact eqGuard_at_iface ..
    | (obtain ⟨p, rfl, _⟩ := hu; exact eqGuard_nil_iface ..)

theorem guard_plain {op : BinOp} {t : TypeId} {x y : AV} {b : Bool} {P : Program} {d : Nat} (h : evEq P d t x y = some b) (hx : ∀ c, x ≠ .agg c) {ι : Inj} {v u : Value} (hv : VRel ι x v) (hu : VRel ι y u) (X Y : Operand) :
    eqGuard op t X Y v u = pure () := by
  cases d with
  | zero => simp [evEq] at h
  | succ d =>
    unfold evEq at h
    split at h
    · cases h
    · split at h
      · simp only [VRel] at hv; subst hv; exact eqGuard_at_int ..
      · simp only [VRel] at hv; subst hv; exact eqGuard_at_bool ..
      · simp only [VRel] at hv; rw [hv.1]; exact eqGuard_at_string ..
      · exact absurd rfl (hx _)
      · exact guard_nilEq h hv hu X Y

theorem evBinAny_sim {P : Program} {op : BinOp} {t : TypeId} {x y z : AV} (h : evBinAny P op t x y = some z) {g : AHeap} {n : Nat} {ι : Inj} {w : World} (k : HRel g ι w) {v u : Value} (hx : VRel ι x v) (hy : VRel ι y u) (X Y : Operand)
    (hg : ∀ b, evEq P 50 t x y = some b → (eqGuard op t X Y v u).run P w = .ok () w)
    (hi : ∀ k' a k'' b, x = .int k' a → y = .int k'' b → False) (hs : ∀ a b, x = .str a → y = .str b → False) : Sim P (do eqGuard op t X Y v u; binOp op t v u) g n z .none ι w := by
  have hbin : ∀ b, evEq P 50 t x y = some b → (binOp .eql t v u).run P w = .ok (.bool b) w ∧ (binOp .neq t v u).run P w = .ok (.bool (!b)) w := by
    intro b hb
    have he := evEq_run 50 t x y b hb ι v u hx hy 10000 (by omega) w
    cases x <;> simp only [VRel] at hx <;> (try subst hx) <;> (try (obtain ⟨p, _, rfl⟩ := hx)) <;> (try (obtain ⟨p, a, c, _, rfl, _⟩ := hx)) <;> (try (obtain ⟨p, a, rfl, _⟩ := hx)) <;> (try (obtain ⟨p, rfl, _⟩ := hx)) <;> (try (obtain ⟨rfl, _⟩ := hx)) <;>
      cases y <;> simp only [VRel] at hy <;> (try subst hy) <;> (try (obtain ⟨p', _, rfl⟩ := hy)) <;> (try (obtain ⟨p', a', c', _, rfl, _⟩ := hy)) <;> (try (obtain ⟨p', a', rfl, _⟩ := hy)) <;> (try (obtain ⟨p', rfl, _⟩ := hy)) <;> (try (obtain ⟨rfl, _⟩ := hy)) <;>
      first
      | exact (hi _ _ _ _ rfl rfl).elim
      | exact (hs _ _ rfl rfl).elim
      | (refine ⟨?_, ?_⟩ <;> simp [binOp, Op.equal, Op.maxDepth, he])
  unfold evBinAny at h
  split at h
  · split at h
    rotate_left
    · cases h
    rename_i b hb
    simp only [Option.some.injEq] at h
    subst h
    exact Sim.pure k (.bool b) (by simp [hg b hb, (hbin b hb).1]) (by simp [VRel])
  · split at h
    rotate_left
    · cases h
    rename_i b hb
    simp only [Option.some.injEq] at h
    subst h
    exact Sim.pure k (.bool (!b)) (by simp [hg b hb, (hbin b hb).2]) (by simp [VRel])
  · cases h

theorem evBin_sim {P : Program} {op : BinOp} {t : TypeId} {x y z : AV} (h : evBin P op t x y = some z) {g : AHeap} {n : Nat} {ι : Inj} {w : World} (k : HRel g ι w) {v u : Value} (hx : VRel ι x v) (hy : VRel ι y u) (X Y : Operand) :
    Sim P (do eqGuard op t X Y v u; binOp op t v u) g n z .none ι w := by
  unfold evBin at h
  split at h
  · rename_i k1 a k2 b
    simp only [VRel] at hx hy
    subst hx hy
    have h1 : eqGuard op t X Y (.int k1 a) (.int k2 b) = pure () := eqGuard_at_int ..
    obtain ⟨v, w', ι', r, q⟩ := evPure_sim h (n := n) k
    exact ⟨v, w', ι', by rw [h1]; simpa using r, q⟩
  · rename_i a b
    simp only [VRel] at hx hy
    obtain ⟨rfl, ha⟩ := hx
    obtain ⟨rfl, hb⟩ := hy
    have h1 : eqGuard op t X Y (.string (bytesOf a)) (.string (bytesOf b)) = pure () := eqGuard_at_string ..
    rw [h1]
    unfold evBinStr at h
    split at h
    · simp only [Option.some.injEq] at h
      subst h
      exact Sim.pure k (.bool (strEq a b)) (by simp [binOp, Op.stringOp, strEq_run ha hb]) (by simp [VRel])
    · simp only [Option.some.injEq] at h
      subst h
      exact Sim.pure k (.bool (!strEq a b)) (by simp [binOp, Op.stringOp, strEq_run ha hb]) (by simp [VRel])
    · cases hl : Nat.ble (a.length + b.length) 1099511627776 with
      | false => rw [hl] at h; cases h
      | true =>
        rw [hl] at h
        simp only [cond_true, Option.some.injEq] at h
        subst h
        refine Sim.pure k (.string (bytesOf (a ++ b))) ?_ ?_
        · simp only [Sem.run_bind, Sem.run_pure, Result.andThen_ok, binOp]
          exact stringOp_add (Nat.le_of_ble_eq_true hl) P w
        · simp only [VRel, true_and]
          intro x hx
          rcases List.mem_append.1 hx with hx | hx
          · exact ha x hx
          · exact hb x hx
    · cases h
  · rename_i xs ys
    cases hg : P.eqGuardType P.depth t with
    | true => rw [hg] at h; cases h
    | false =>
      rw [hg] at h
      simp only [cond_false] at h
      refine evBinAny_sim h k hx hy X Y (fun b _ => ?_) (fun _ _ _ _ e => by cases e) (fun _ _ e => by cases e)
      simp only [VRel] at hx hy
      obtain ⟨xs', rfl, _⟩ := hx
      obtain ⟨ys', rfl, _⟩ := hy
      exact run_eqGuard_agg (P := P) w op t X Y xs' ys' hg
  · rename_i hn1 hn2 hn3
    by_cases hagg : ∀ c, x ≠ .agg c
    · exact evBinAny_sim h k hx hy X Y (fun b hb => by rw [guard_plain hb hagg hx hy]; rfl) (fun a b c d e f => hn1 a b c d e f) (fun a b e f => hn2 a b e f)
    · have : ∃ c, x = .agg c := by
        rcases Classical.em (∃ c, x = AV.agg c) with h | h
        · exact h
        · exact absurd (fun c e => h ⟨c, e⟩) hagg
      obtain ⟨c, rfl⟩ := this
      exfalso
      have hno : evEq P 50 t (.agg c) y = none := by
        unfold evEq
        split
        · rfl
        · rename_i td _
          cases y <;> (try exact (hn3 _ _ rfl rfl).elim) <;> cases td <;> rfl
      unfold evBinAny at h
      split at h
      · rw [hno] at h; cases h
      · rw [hno] at h; cases h
      · cases h

end Go.Ev
