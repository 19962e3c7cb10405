/- KindBudget: the law returns true whatever its arguments are, and they read afterwards as before: the tied card; no condition of its own. -/
import Derived.Test.YtkbdclogklaeaaaGreatDoorKL
import Derived.Test.YtkbdclogklaeaaaGreatDoorKK
import Derived.Test.YtkbdclogklaeaaaGreatDoorTie
import Derived.LaidMore
import Derived.OpenShut
import Derived.Stop.Joined
import Derived.JoinedOf
import Derived.LaidLaws
import Derived.LaidHandle
import Derived.Deep.Onto
import Derived.SevenTiedAt
import Derived.Test.YtkbdclogklaeaaaGreatDoorCards
set_option linter.unusedSimpArgs false
set_option linter.unusedVariables false

namespace Go.Proofs.YtkbdclogklaeaaaGreatDoor
open Go Go.Ev Go.Proofs
open Go.ChangeShapes Go.WideShapes Go.ChangeAt Go.WideMaps Go.WideElems Go.RowKit

theorem own : ownKnob Tryz.prog.godebug = none := by kernel_rfl
theorem laidOut : laidOutB Tryz.prog = true := by kernel_rfl

/-- A block of cells in a world whose listed variables lie. -/
theorem block_of_laid {W : World} (h : laidMetH Tryz.prog Rows.kindBudgetRow.laid W) : ∃ (z : Nat) (cz : Array Value) (ez : TypeId) (fz : Nat × Nat), W.heap[z]? = some (.cells cz ez fz) := by
  rw [MakeChecks.laidMetH_plain _ _ _ (by kernel_rfl)] at h
  obtain ⟨ps, ⟨g0, t0, cs0, f0, p0, q0, hg0, ht0, hv0, _⟩, _⟩ := h
  simp only [World.var?, hg0, Option.bind_some] at hv0
  split at hv0
  · rename_i c el fr hb
    exact ⟨_, c, el, fr, hb⟩
  · cases hv0

theorem trod_struct7 {H : Type} {enc : TypeId × Value → H} {P : Program} {w : World} {base : Nat} {spare : Nat → Bool} {held : Bool} {t : TypeId} {f0 f1 f2 f3 f4 f5 f6 : Field} {fuel : Nat} {cs : List Value} {x : DataW H × List MemPlace} (ht : P.underlying t = some (.struct #[f0, f1, f2, f3, f4, f5, f6])) (h : DataW.trod enc P w base spare held fuel t cs = some x) :
    cs.length = P.cellsOf t ∧ ∃ y0 y1 y2 y3 y4 y5 y6 n, DataW.trod enc P w base spare held n f0.type ((cs.drop f0.offset).take (P.cellsOf f0.type)) = some y0 ∧ DataW.trod enc P w base spare held n f1.type ((cs.drop f1.offset).take (P.cellsOf f1.type)) = some y1 ∧
      DataW.trod enc P w base spare held n f2.type ((cs.drop f2.offset).take (P.cellsOf f2.type)) = some y2 ∧ DataW.trod enc P w base spare held n f3.type ((cs.drop f3.offset).take (P.cellsOf f3.type)) = some y3 ∧
      DataW.trod enc P w base spare held n f4.type ((cs.drop f4.offset).take (P.cellsOf f4.type)) = some y4 ∧ DataW.trod enc P w base spare held n f5.type ((cs.drop f5.offset).take (P.cellsOf f5.type)) = some y5 ∧
      DataW.trod enc P w base spare held n f6.type ((cs.drop f6.offset).take (P.cellsOf f6.type)) = some y6 := by
  obtain ⟨xs, n, _, _, hl, hlen, hf⟩ := DataW.trod_struct ht h
  have get : ∀ i, i < 7 → ∃ y, xs[i]? = some y := fun i hi => ⟨_, List.getElem?_eq_getElem (by rw [hlen]; simpa using hi)⟩
  obtain ⟨y0, e0⟩ := get 0 (by omega)
  obtain ⟨y1, e1⟩ := get 1 (by omega)
  obtain ⟨y2, e2⟩ := get 2 (by omega)
  obtain ⟨y3, e3⟩ := get 3 (by omega)
  obtain ⟨y4, e4⟩ := get 4 (by omega)
  obtain ⟨y5, e5⟩ := get 5 (by omega)
  obtain ⟨y6, e6⟩ := get 6 (by omega)
  exact ⟨hl, y0, y1, y2, y3, y4, y5, y6, n, (hf 0 f0 rfl).trans e0, (hf 1 f1 rfl).trans e1, (hf 2 f2 rfl).trans e2, (hf 3 f3 rfl).trans e3, (hf 4 f4 rfl).trans e4, (hf 5 f5 rfl).trans e5, (hf 6 f6 rfl).trans e6⟩

theorem array7 {α : Type} {cs : Array α} (h : cs.size = 7) : ∃ a b c d e f g, cs = #[a, b, c, d, e, f, g] := by
  obtain ⟨l⟩ := cs
  match l, h with
  | [a, b, c, d, e, f, g], _ => exact ⟨a, b, c, d, e, f, g, rfl⟩

set_option maxRecDepth 100000
theorem c28 : Tryz.prog.cellsOf 28 = 7 := by kernel_rfl
theorem c24 : Tryz.prog.cellsOf 24 = 1 := by kernel_rfl
theorem c22 : Tryz.prog.cellsOf 22 = 1 := by kernel_rfl
theorem c25 : Tryz.prog.cellsOf 25 = 1 := by kernel_rfl
theorem c26 : Tryz.prog.cellsOf 26 = 1 := by kernel_rfl
theorem c3 : Tryz.prog.cellsOf 3 = 1 := by kernel_rfl
theorem c4 : Tryz.prog.cellsOf 4 = 1 := by kernel_rfl
theorem c51 : Tryz.prog.cellsOf 51 = 3 := by kernel_rfl

/-- The first argument, read. -/
theorem sys_open {H : Type} {enc : TypeId × Value → H} {W : World} {r : Reach} {b0 : Nat} {held : Bool} {v : Value} {d : DataW H} {ps : List MemPlace} (hval : Value.okWide Tryz.prog W r b0 28 v) (h : DataW.Trod enc Tryz.prog W 0 (fun _ => true) held 28 v d ps) :
    ∃ (gs : List Gate) (now next ins : List Int) (init : List Bool) (v0 v1 v2 v3 v4 : Value) (ok assume : Int), v = .agg #[v0, v1, v2, v3, v4, .int .i64 ok, .int .i64 assume] ∧
      SlVal W 3 gs.length (gates gs) v0 ∧ SlVal W 1 now.length (ints now) v1 ∧ SlVal W 1 next.length (ints next) v2 ∧ SlVal W 1 ins.length (ints ins) v3 ∧ SlVal W 1 init.length (bools init) v4 := by
  obtain ⟨cs, rfl, hsz⟩ := okWide_struct Tryz.underlying28 hval
  obtain ⟨fuel, hf⟩ := h
  obtain ⟨_, y0, y1, y2, y3, y4, y5, y6, n, e0, e1, e2, e3, e4, e5, e6⟩ := trod_struct7 Tryz.underlying28 hf
  replace hsz : cs.size = 7 := hsz.trans c28
  obtain ⟨a, b, c, d', e, f, g, rfl⟩ := array7 hsz
  clear hsz
  simp only [Value.cells, c24, c25, c26, c3, List.drop_zero, List.drop_succ_cons, List.take_succ_cons, List.take_zero] at e0 e1 e2 e3 e4 e5 e6
  obtain ⟨z0, n0, _, _, e0'⟩ := trod_struct1 Tryz.underlying24 e0
  simp only [c22, List.drop_zero, List.take_succ_cons, List.take_zero] at e0'
  obtain ⟨gs, s0⟩ := gates_slval Tryz.underlying22 Tryz.underlying51 c51 Tryz.underlying3 Tryz.underlying3 Tryz.underlying3 rfl rfl rfl c3 c3 c3 e0'
  obtain ⟨now, s1⟩ := ints_slval Tryz.underlying25 Tryz.underlying3 c3 e1
  obtain ⟨next, s2⟩ := ints_slval Tryz.underlying25 Tryz.underlying3 c3 e2
  obtain ⟨ins, s3⟩ := ints_slval Tryz.underlying25 Tryz.underlying3 c3 e3
  obtain ⟨init, s4⟩ := bools_slval Tryz.underlying26 Tryz.underlying4 c4 e4
  obtain ⟨ok, k5, _⟩ := DataW.trod_int Tryz.underlying3 e5
  obtain ⟨asm, k6, _⟩ := DataW.trod_int Tryz.underlying3 e6
  simp only [List.cons.injEq, and_true] at k5 k6
  subst k5 k6
  exact ⟨gs, now, next, ins, init, a, b, c, d', e, ok, asm, rfl, s0, s1, s2, s3, s4⟩

theorem same_block {W W' : World} (h : ∀ b, b < W.heap.size → W'.heap[b]? = W.heap[b]?) {p : MemPlace} (hp : p.block < W.heap.size) : W.sameAt W' p := by
  cases p with
  | cell b o => exact World.cell?_of_block (w := W) (h b hp)
  | map b => exact h b hp
end Go.Proofs.YtkbdclogklaeaaaGreatDoor

namespace Go.Proofs.YtkbdclogklaeaaaGreatDoor
open Go Go.Ev Go.Proofs
open Go.ChangeShapes Go.WideShapes Go.ChangeAt Go.WideMaps Go.WideElems Go.RowKit

noncomputable def witArgs : Array Value := #[.agg #[.slice none 0 0, .slice none 0 0, .slice none 0 0, .slice none 0 0, .slice none 0 0, .int .i64 0, .int .i64 0], .int .i64 0, .int .i64 0]

theorem door_met (os : Os) (args : Array Value) : laidMetH Tryz.prog Rows.kindBudgetRow.laid ((World.doorLaid Tryz.prog 400 os).forCall (fun _ _ => 0) ⟨#[], args, []⟩).memory :=
  laidMetH_of_parts3 (fuel := 8) (laidMet_of_run' 8 (by kernel_rfl) (by kernel_rfl)) (by kernel_rfl) (by kernel_rfl)
end Go.Proofs.YtkbdclogklaeaaaGreatDoor

namespace Go.Proofs.YtkbdclogklaeaaaGreatDoor
open Go Go.Ev Go.Proofs
open Go.ChangeShapes Go.WideShapes Go.ChangeAt Go.WideMaps Go.WideElems Go.RowKit

set_option maxRecDepth 100000 in
theorem law_lifted (os : Os) (started : os.Started) (H : Type) (enc : TypeId × Value → H) :
    ReturnsInHanded {} Tryz.checked os 3 .any (fun w args => (Rows.kindBudgetSpec.pre enc Tryz.prog Tryz.f3 [] false w args ∧ laidMetH Tryz.prog Rows.kindBudgetRow.laid w) ∧ sizedMet enc Tryz.prog Tryz.f3 (OpenSpec.ofChange Rows.kindBudgetSpec) false w args)
      (Rows.kindBudgetSpec.post enc Tryz.prog Tryz.f3 false true false false) := by
  refine returnsInHanded_of_change_and (C := Tryz.checked) (X := fun w _ => laidMetH Tryz.prog Rows.kindBudgetRow.laid w) (fun _ _ _ hh h => h.of_heap hh) own started (by kernel_rfl) Tryz.func3
    (ChangeSpec.witness_shaped (enc := enc) (C := Tryz.checked) (os := os) (X := fun w _ => laidMetH Tryz.prog Rows.kindBudgetRow.laid w) false (World.doorLaid Tryz.prog 400 os) witArgs 8 rfl (World.shaped_of_RefB (by kernel_rfl) (by kernel_rfl)) (by kernel_rfl) (by kernel_rfl) (by kernel_rfl) (door_met os _)) ?_
  intro W base args ds gs before hval0 hW _ _ hL _
  have hval : ∀ (j : Nat) t v, Tryz.f3.params[j]? = some t → args[j]? = some v → Value.okWide Tryz.prog W .any base t v := hval0
  have hW' := hW
  obtain ⟨p, q, hA0, hV, rfl, hfz, hnd⟩ := hW
  have hA : DataW.TrodAll enc Tryz.prog W 0 (fun _ => true) true Tryz.f3.params.toList args.toList ds p := hA0
  rw [Tryz.params3] at hA hval
  obtain ⟨v0, v1, v2, d0, d1, d2, q0, q1, q2, rfl, rfl, rfl, h0, h1, h2⟩ := trodAll_three hA
  obtain ⟨rfl, rfl⟩ := trodVars_none hV
  have h0k := h0
  obtain ⟨gs, now, next, ins, init, u0, u1, u2, u3, u4, ok, asm, rfl, s0, s1, s2, s3, s4⟩ := sys_open (hval 0 28 v0 rfl rfl) h0
  obtain ⟨k, rfl, rfl, rfl, hwk⟩ := open_int Tryz.underlying3 (hval 1 3 v1 rfl rfl) h1
  obtain ⟨bud, rfl, rfl, rfl, hwb⟩ := open_int Tryz.underlying3 (hval 2 3 v2 rfl rfl) h2
  obtain ⟨z, cz, ez, fz, hz⟩ := block_of_laid hL
  have hlt : ∀ x ∈ q0, x.block < W.heap.size := fun x hx => hW'.lt x (by simp [hx])
  refine (law_calls alive_run mixed hz s0 s1 s2 s3 s4 (ok := ok) (assume := asm) (k := k) (bud := bud)).mono fun e W' ⟨he, hos, hout, hsz, hkeep⟩ => ?_
  subst he
  have e1 : Rows.kindBudgetSpec.fn H ([d0, .lit (.int .i64 k), .lit (.int .i64 bud)] ++ []) = { results := [.lit (.bool true)], args := [d0, .lit (.int .i64 k), .lit (.int .i64 bud)] } := rfl
  refine ⟨_, rfl, _, _, _, [], q0 ++ ([] ++ []), [], hW', ?_, ?_, ?_, World.keptBut.congr (World.keptBut_refl W _) hos hout hkeep, fun h => by cases h⟩
  · rw [e1]; exact trodAll_mk1 (shut_bool Tryz.underlying4 true)
  · rw [e1]
    exact trodAll_mk3 (Trod_stays laidOut (by kernel_rfl) (of_decide_eq_true (by kernel_rfl)) h0k (fun x hx => same_block hkeep (hlt x hx)) (fun x hx => by simpa using hlt x hx)) (shut_int Tryz.underlying3 hwk) (shut_int Tryz.underlying3 hwb)
  · rw [e1]; rfl

theorem kindBudget_holds : Rows.KindBudgetSaid :=
  OpenClaim.holds_of_wide 3 Tryz.f3 rfl rfl rfl rfl rfl rfl rfl ⟨rfl, rfl, rfl, rfl, rfl⟩ rfl rfl rfl rfl rfl (by kernel_rfl) Tryz.func3 (by kernel_rfl)
    (of_decide_eq_true (by kernel_rfl)) (by unfold Func.isWrapper; first | (rw [if_pos (by decide +kernel)]; kernel_rfl) | (rw [if_neg (by decide +kernel)]; exact ⟨rfl, rfl⟩))
    (fun os started H enc _ => law_lifted os started H enc)

/-- THE TIED CARD. -/
theorem kindBudget_card : Rows.KindBudgetCardSaid :=
  Claim7.holds_tied_plain_at .later [] [.data, .data, .data] true (true, "07b76448880ed3fa5ec58858fb727ee7b84318d85ca7edc9f0f541ba629de19e") true
    kindBudget_holds (fun _ h => by cases h) (by kernel_rfl) (fun _ h => by cases h) kindBudget_row_tie rfl ⟨rfl, rfl⟩ (by kernel_rfl) rfl
    (fun f fn hf hfn => by
      obtain rfl : f = 3 := Option.some.inj ((show Tryz.prog.funcNamed "metronome/metronomelaw27.KindBudget" = some 3 by kernel_rfl).symm.trans hf) |>.symm
      obtain rfl : fn = Tryz.f3 := (Option.some.inj (Tryz.func3.symm.trans hfn)).symm
      exact ⟨by kernel_rfl, fun j t ht => by
        rw [Tryz.params3] at ht
        have hm : t ∈ [28, 3, 3] := by simpa using Array.mem_of_getElem? ht
        have hall : ([28, 3, 3].all fun u => !Tryz.prog.wantsStandIn u) = true := by kernel_rfl
        exact (show Tryz.prog.wantsStandIn t = false by simpa using List.all_eq_true.1 hall t hm)⟩)
    (by kernel_rfl)
#print axioms kindBudget_card
end Go.Proofs.YtkbdclogklaeaaaGreatDoor
