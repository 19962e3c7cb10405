/- PART OF THE PROOF OF KindBudget's CARD. Whether a system fits, evaluated for all data. -/
import Derived.Test.YtkbdclogklaeaaaGreatDoorKD
set_option linter.unusedSimpArgs false
set_option linter.unusedVariables false

/-! Sets of numbers, kept as maps to 1; a pigeonhole. -/
set_option linter.unusedSimpArgs false
set_option linter.unusedVariables false
set_option maxRecDepth 20000
namespace Go.Ev
open Go Proofs

def ents : List Int → Nat → List (AV × AV × Nat)
  | [], _ => []
  | k :: ks, i => (.int .i64 k, .int .i64 1, i) :: ents ks (i + 1)
def seenMap (K : List Int) : AObj := .map (ents K 0) K.length
theorem ents_snoc (w : Int) : ∀ (K : List Int) (i : Nat), ents (K ++ [w]) i = ents K i ++ [(.int .i64 w, .int .i64 1, i + K.length)]
  | [], i => by simp [ents]
  | k :: ks, i => by
    have e : i + 1 + ks.length = i + (ks.length + 1) := by omega
    simp [ents, ents_snoc w ks (i + 1), e]
theorem find_not {w : Int} : ∀ {K : List Int} {i j : Nat}, w ∉ K → evFind (.int .i64) (.int .i64 w) (ents K i) j = some none
  | [], _, _, _ => rfl
  | k :: ks, i, j, h => by
    have h1 : w ≠ k := fun e => h (by simp [e])
    have h2 : w ∉ ks := fun e => h (by simp [e])
    have h3 : keyHit (.int .i64) (.int .i64 w) (.int .i64 k) = some false := by simp [keyHit, h1]
    simp only [ents, evFind, h3]
    exact find_not h2
theorem find_in {w : Int} : ∀ {K : List Int} {i j : Nat}, w ∈ K → ∃ m e, evFind (.int .i64) (.int .i64 w) (ents K i) j = some (some (j + m)) ∧ (ents K i)[m]? = some e ∧ e.2.1 = .int .i64 1
  | [], _, _, h => by simp at h
  | k :: ks, i, j, h => by
    by_cases h1 : w = k
    · have h3 : keyHit (.int .i64) (.int .i64 w) (.int .i64 k) = some true := by simp [keyHit, h1]
      exact ⟨0, _, by simp only [ents, evFind, h3, Nat.add_zero], rfl, rfl⟩
    · have h2 : w ∈ ks := by simpa [h1] using h
      have h3 : keyHit (.int .i64) (.int .i64 w) (.int .i64 k) = some false := by simp [keyHit, h1]
      obtain ⟨m, e, e1, e2, e3⟩ := find_in (i := i + 1) (j := j + 1) h2
      refine ⟨m + 1, e, ?_, by simpa [ents] using e2, e3⟩
      simp only [ents, evFind, h3, e1]
      congr 2; omega
theorem zero3 : zeroT Tryz.prog 3 = some (.int .i64 0) := by
  have h : isAV (zeroT Tryz.prog 3) (.int .i64 0) = true := by decide +kernel
  exact isAV_eq h
theorem lookup_not {G : AHeap} {id : Nat} {K : List Int} {w : Int} (h : w ∉ K) (hg : G id = some (seenMap K)) : evLookup Tryz.prog G 96 (.map id) (.int .i64 w) false = some (.int .i64 0) := by
  have hk : keyLike (.int .i64) (.int .i64 w) = true := rfl
  simp only [evLookup, Tryz.underlying96, Tryz.underlying3, entriesOf, hg, seenMap, evFindAny, hk, cond_true, find_not h, zero3, cond_false]
theorem lookup_in {G : AHeap} {id : Nat} {K : List Int} {w : Int} (h : w ∈ K) (hg : G id = some (seenMap K)) : evLookup Tryz.prog G 96 (.map id) (.int .i64 w) false = some (.int .i64 1) := by
  have hk : keyLike (.int .i64) (.int .i64 w) = true := rfl
  obtain ⟨m, e, e1, e2, e3⟩ := find_in (i := 0) (j := 0) h
  rw [Nat.zero_add] at e1
  simp only [evLookup, Tryz.underlying96, Tryz.underlying3, entriesOf, hg, seenMap, evFindAny, hk, cond_true, e1, e2, e3, cond_false]
theorem update_not {G : AHeap} {id : Nat} {K : List Int} {w : Int} (h : w ∉ K) (hg : G id = some (seenMap K)) : evMapUpdate Tryz.prog G 96 (.map id) (.int .i64 w) (.int .i64 1) = some (.wr id (seenMap (K ++ [w]))) := by
  have hk : keyLike (.int .i64) (.int .i64 w) = true := rfl
  simp only [evMapUpdate, Tryz.underlying96, Tryz.underlying3, hg, seenMap, evFindAny, hk, cond_true, find_not h]
  rw [ents_snoc]
  simp
theorem makeMap_eq (n : Nat) : evMakeMap n = (.map n, .new (seenMap [])) := rfl

theorem pigeon : ∀ {A B : List Int}, A.Nodup → (∀ a ∈ A, a ∈ B) → A.length ≤ B.length
  | [], _, _, _ => by simp
  | a :: r, B, hn, h => by
    have ha : a ∈ B := h a (by simp)
    have hn' := List.nodup_cons.1 hn
    have := pigeon (A := r) (B := B.erase a) hn'.2 fun x hx => by
      have hne : x ≠ a := fun e => hn'.1 (e ▸ hx)
      exact (List.mem_erase_of_ne hne).2 (h x (by simp [hx]))
    rw [List.length_erase_of_mem ha] at this
    have hp : 0 < B.length := List.length_pos_of_mem ha
    simp; omega
theorem pigeon_all {A B : List Int} (hn : A.Nodup) (h : ∀ a ∈ A, a ∈ B) (hl : B.length ≤ A.length) : ∀ b ∈ B, b ∈ A := by
  intro b hb
  refine Decidable.byContradiction fun hba => ?_
  have := pigeon (A := A) (B := B.erase b) hn fun x hx => (List.mem_erase_of_ne (fun e : x = b => hba (e ▸ hx))).2 (h x hx)
  rw [List.length_erase_of_mem hb] at this
  have hp : 0 < B.length := List.length_pos_of_mem hb
  omega
/-- Every input is named. -/
theorem good_all {S : Sys} (hS : GoodSys S) {i : Nat} {x : Gate} (hx : S.gs[i]? = some x) (h2 : x.op = 2) : ((2 * i : Nat) : Int) ∈ S.now ++ S.ins := by
  have hb : ((2 * i : Nat) : Int) ∈ (places S.gs).map fun p => 2 * p := by
    refine List.mem_map.2 ⟨(i : Int), List.mem_of_getElem? (places_at hx h2), ?_⟩
    omega
  refine pigeon_all hS.nodup (fun a ha => ?_) (by rw [List.length_map, hS.count]; exact Nat.le_refl _) _ hb
  obtain ⟨h0, h1, h3, y, hy, hy2⟩ := hS.inps a ha
  refine List.mem_map.2 ⟨((a.toNat / 2 : Nat) : Int), List.mem_of_getElem? (places_at hy hy2), ?_⟩
  omega
end Go.Ev

set_option linter.unusedSimpArgs false
set_option linter.unusedVariables false
set_option maxRecDepth 20000
namespace Go.Ev
open Go Proofs

theorem build31 (n : Nat) {x y : AV} (h1 : x.one = true) (hc : x.cells = [x]) (h2 : y.one = true) (hc2 : y.cells = [y]) : evBuildSlice Tryz.prog n 31 2 [(0, x), (1, y)] = some (.slice n 0 2 (some 2) 1, .new (.cells 1 [x, y])) := build_2 elem31 n h1 hc h2 hc2
theorem build25_2 (n : Nat) (x y : Int) : evBuildSlice Tryz.prog n 25 2 [(0, .int .i64 x), (1, .int .i64 y)] = some (.slice n 0 2 (some 2) 1, .new (.cells 1 [.int .i64 x, .int .i64 y])) := build_2 elem25 n rfl rfl rfl rfl
theorem Row.cells1 {n : Nat} {g : T AObj} {v : AV} {sz len : Nat} {cs : List AV} (h : Row n g v sz len cs) : v.cells = [v] := by
  rcases h with ⟨rfl, _⟩ | ⟨id, off, cap, data, rfl, _⟩ <;> rfl
theorem size31 : sizeT Tryz.prog 31 = some 1 := by decide +kernel
/-- The i-th list of two. -/
theorem pair_at {G : AHeap} {id i : Nat} {x y : AV} (hg : G id = some (.cells 1 [x, y])) (hi : i < 2) (k : IntKind) : evIndexAddr Tryz.prog 31 (.slice id 0 2 (some 2) 1) (.int k (i : Int)) = some (.ptr id i) ∧ evLoad Tryz.prog G 25 (.ptr id i) = some (if i = 0 then x else y) := by
  have h2 : i = 0 ∨ i = 1 := by omega
  rcases h2 with rfl | rfl
  · exact ⟨by simp [evIndexAddr, Tryz.underlying31, size25, Nat.beq], by simp [evLoad, hg, agg25]⟩
  · exact ⟨by simp [evIndexAddr, Tryz.underlying31, size25, Nat.beq], by simp [evLoad, hg, agg25]⟩

theorem len31 (G : AHeap) (a b l : Nat) (c : Option Nat) (s : Nat) : evLen Tryz.prog G 31 (.slice a b l c s) = some (.int .i64 (l : Int)) := by simp [evLen, Tryz.underlying31]

theorem nodup_not {A l R : List Int} {j : Nat} {w : Int} (h : (A ++ l ++ R).Nodup) (hw : l[j]? = some w) : w ∉ A ++ l.take j := by
  have e : A ++ l ++ R = (A ++ l.take j) ++ (w :: (l.drop (j + 1) ++ R)) := by
    have hj : j < l.length := (List.getElem?_eq_some_iff.1 hw).1
    have h1 : l = l.take j ++ w :: l.drop (j + 1) := by
      have h2 : l[j] = w := by rw [List.getElem?_eq_getElem hj] at hw; exact Option.some.inj hw
      rw [← h2, ← List.drop_eq_getElem_cons hj, List.take_append_drop]
    conv => lhs; rw [h1]
    simp
  rw [e, List.nodup_append] at h
  intro hm
  exact h.2.2 w hm w (by simp) rfl

theorem fits_gives {fuel d : Nat} {g : T AObj} {n : Nat} {v : SysV} {S : Sys} (hS : GoodSys S) (hv : SysAt n g v S) (hf : 1100 < fuel) (hg : S.gs.length ≤ 400) (hnl : S.now.length ≤ 8) (hil : S.ins.length ≤ 3) :
    Gives Tryz.prog fuel (d + 2) 15 [v.av S] g n (fun x g' n' => x = .bool true ∧ Old n g g' ∧ n ≤ n') := by
  refine gives_ends 141 [.tmp 2] Tryz.func15 rfl rfl rfl ?_
  have hla := hv.net.evLen Tryz.underlying22 (P := Tryz.prog)
  have hlno := hv.now.evLen Tryz.underlying25 (P := Tryz.prog)
  have hlin := hv.ins.evLen Tryz.underlying25 (P := Tryz.prog)
  have hlne := hv.next.evLen Tryz.underlying25 (P := Tryz.prog)
  have hlit := hv.init.evLen Tryz.underlying26 (P := Tryz.prog)
  have hbox := box_sys (m := n) hv
  have f0 := fieldAddr28 n 0 (by omega)
  have f1 := fieldAddr28 n 1 (by omega)
  have f2 := fieldAddr28 n 2 (by omega)
  have f3 := fieldAddr28 n 3 (by omega)
  have f4 := fieldAddr28 n 4 (by omega)
  have f5 := fieldAddr28 n 5 (by omega)
  have f6 := fieldAddr28 n 6 (by omega)
  obtain ⟨q1, q2, q3, q4, q5, q6, q7, q8, q9⟩ := sys_load (g := (T.set (.cells 7 (v.cells S)) g n).get) (id := n) (v := v) (S := S) (by rw [T.get_set, if_pos rfl])
  have o1 : Old n g (T.set (.cells 7 (v.cells S)) g n) := (Old.refl _ _).set (Nat.le_refl _) _
  simp only [SysV.av]
  simp only [e_seq, e_skip, e_ret, e_exit, e_block, e_region, e_cond, condQ_true, condQ_false, seqK_normal, seqK_ret, seqK_exit, loopK_normal, loopK_ret, loopK_exit, drawK_eq, blockQ_normal, blockQ_ret, blockQ_same, blockQ_other, steps_cons, steps_done, fits_some, blt_lt, pre_plain, pre_guardQ, guardV_some, guardQ_tt, guardQ_ff, guardQ_tf, guardQ_ft, guardQ_skip, List.getElem?_toArray, List.getElem?_cons_zero, List.getElem?_cons_succ, fits_none, evOp, evCall, evOpds, evBuiltin, opd_tmp, opd_int, opd_bool, opd_nil, ov_some, ove_some, oe_some, ose_some, after_val, after_skip, after_call, callQ_some, stepK_eq, opd_func,  putT_some, putT_none, effT_none, next_none, effT_new, effT_wr, effT_mv, next_new, next_wr, next_mv, Nat.reduceLT, Nat.reduceBEq, true_and, and_true, reduceIte, Nat.reduceEqDiff, eq_self, T.get_set, cond_true, cond_false, endR_ret, resQ_some, evResults, tup_one, tup_two, tup_three, fillT, load_same, load_ne, store_same, store_ne, AV.cells, allOne, one_int, one_bool, one_ptr, one_nil, one_slice, List.length_cons, List.length_nil, Nat.zero_add, Nat.reduceAdd, beqD, bleD, Nat.reduceLeDiff, Nat.le_refl, decide_true, decide_false, Bool.and_self, Bool.and_true, Bool.true_and, List.take_zero, List.take_succ_cons, List.drop_succ_cons, List.drop_zero, List.nil_append, List.append_nil, List.cons_append, List.getElem?_cons_zero, List.getElem?_cons_succ, agg3, agg4, agg22, agg25, size3, size4, size22, size51, alloc51, fieldAddr24, fieldAddr51, bin_lss, bin_leq, bin_gtr, bin_geq, bin_eql, bin_neq, bin_neqb, un_not, List.getElem?_toArray, ne_eq, not_false_eq_true, evParts, build25, build26, ok5, ok6, ok7, ok8, ok9, ok10, ok13, ok14, ok15, ok16, ok17, ok19, ok20, ok34, ok35, ok36, ok37, ok38, ok39, ok44, ok45, ok60, load_same_agg, agg24, size24, evExtract, agg51, hbox, f0, q8]
  refine callQ_gives (check_gives (hv.net.old (n' := n + 1) o1 (by omega)) hS.net (by omega)) ?_
  rintro _ g2 n2 ⟨rfl, o2, l2⟩
  have O2 : Old n g g2 := o1.trans (by omega) o2
  have c2 : g2.get n = some (.cells 7 (v.cells S)) := by rw [o2 n (by omega), T.get_set, if_pos rfl]
  clear q1 q2 q3 q4 q5 q6 q7 q8 q9
  obtain ⟨q1, q2, q3, q4, q5, q6, q7, q8, q9⟩ := sys_load c2
  have e1 : ((S.next.length : Int) != (S.now.length : Int)) = false := by simp [hS.next]
  have e2 : ((S.init.length : Int) != (S.now.length : Int)) = false := by simp [hS.init]
  have b31 := build31 (n2 + 1) (x := v.next) (y := .slice n2 0 2 (some 2) 1) hv.next.one hv.next.cells1 rfl rfl
  have hdb := bin_dbl Tryz.prog 3 S.gs.length (by omega)
  simp only [e_seq, e_skip, e_ret, e_exit, e_block, e_region, e_cond, condQ_true, condQ_false, seqK_normal, seqK_ret, seqK_exit, loopK_normal, loopK_ret, loopK_exit, drawK_eq, blockQ_normal, blockQ_ret, blockQ_same, blockQ_other, steps_cons, steps_done, fits_some, blt_lt, pre_plain, pre_guardQ, guardV_some, guardQ_tt, guardQ_ff, guardQ_tf, guardQ_ft, guardQ_skip, List.getElem?_toArray, List.getElem?_cons_zero, List.getElem?_cons_succ, fits_none, evOp, evCall, evOpds, evBuiltin, opd_tmp, opd_int, opd_bool, opd_nil, ov_some, ove_some, oe_some, ose_some, after_val, after_skip, after_call, callQ_some, stepK_eq, opd_func,  putT_some, putT_none, effT_none, next_none, effT_new, effT_wr, effT_mv, next_new, next_wr, next_mv, Nat.reduceLT, Nat.reduceBEq, true_and, and_true, reduceIte, Nat.reduceEqDiff, eq_self, T.get_set, cond_true, cond_false, endR_ret, resQ_some, evResults, tup_one, tup_two, tup_three, fillT, load_same, load_ne, store_same, store_ne, AV.cells, allOne, one_int, one_bool, one_ptr, one_nil, one_slice, List.length_cons, List.length_nil, Nat.zero_add, Nat.reduceAdd, beqD, bleD, Nat.reduceLeDiff, Nat.le_refl, decide_true, decide_false, Bool.and_self, Bool.and_true, Bool.true_and, List.take_zero, List.take_succ_cons, List.drop_succ_cons, List.drop_zero, List.nil_append, List.append_nil, List.cons_append, List.getElem?_cons_zero, List.getElem?_cons_succ, agg3, agg4, agg22, agg25, size3, size4, size22, size51, alloc51, fieldAddr24, fieldAddr51, bin_lss, bin_leq, bin_gtr, bin_geq, bin_eql, bin_neq, bin_neqb, un_not, List.getElem?_toArray, ne_eq, not_false_eq_true, evParts, build25, build26, ok5, ok6, ok7, ok8, ok9, ok10, ok13, ok14, ok15, ok16, ok17, ok19, ok20, ok34, ok35, ok36, ok37, ok38, ok39, ok44, ok45, ok60, load_same_agg, agg24, size24, evExtract, agg51, f0, f1, f2, f4, f5, f6, q1, q2, q3, q5, q6, q7, hla, hlno, hlne, hlit, bne_self_eq_false, e1, e2, build25_2, b31, load_ne, len31]
  have hH : ∃ H, H = (T.set (.cells 1 [v.next, .slice n2 0 2 (some 2) 1]) (T.set (.cells 1 [.int .i64 S.ok, .int .i64 S.assume]) g2 n2) (n2 + 1)) := ⟨_, rfl⟩
  obtain ⟨H, hH⟩ := hH
  have H1 : H.get (n2 + 1) = some (.cells 1 [v.next, .slice n2 0 2 (some 2) 1]) := by rw [hH, T.get_set, if_pos rfl]
  have H2 : H.get n2 = some (.cells 1 [.int .i64 S.ok, .int .i64 S.assume]) := by rw [hH, T.get_set, if_neg (by omega), T.get_set, if_pos rfl]
  have H3 : H.get n = some (.cells 7 (v.cells S)) := by rw [hH, T.get_set, if_neg (by omega), T.get_set, if_neg (by omega)]; exact c2
  have H4 : Old n g H := by rw [hH]; exact (O2.set (by omega) _).set (by omega) _
  rw [← hH]
  clear q1 q2 q3 q4 q5 q6 q7 q8 q9 c2
  obtain ⟨q1, q2, q3, q4, q5, q6, q7, q8, q9⟩ := sys_load H3
  have rows : ∀ i, i < 2 → ∃ l : List Int, Row (n2 + 2) H (if i = 0 then v.next else .slice n2 0 2 (some 2) 1) 1 l.length (ints l) ∧ l.length ≤ 8 ∧ ∀ w ∈ l, 0 ≤ w ∧ w < 2 * S.gs.length := by
    intro i hi
    by_cases h0 : i = 0
    · rw [if_pos h0]
      exact ⟨S.next, hv.next.old H4 (by omega), by have := hS.next; omega, fun w hw => hS.outs w (by simp [hw])⟩
    · rw [if_neg h0]
      refine ⟨[S.ok, S.assume], .inr ⟨n2, 0, some 2, _, rfl, by omega, .inl H2, rfl, fun j x hx => by simpa [ints] using hx, by simp⟩, by simp, fun w hw => hS.outs w ?_⟩
      simp at hw ⊢; right; exact hw
  refine e_loop (fun k s => ∃ i : Nat, ∃ tm : T AV, s = ⟨tm, H, n2 + 2, []⟩ ∧ i + k = 2 ∧
    tm.get 1 = some (.ptr n 0) ∧ tm.get 3 = some (.int .i64 (S.gs.length : Int)) ∧ tm.get 48 = some (.slice (n2 + 1) 0 2 (some 2) 1) ∧ tm.get 49 = some (.int .i64 ((2 : Nat) : Int)) ∧ tm.get 50 = some (.int .i64 (i : Int))) 2 (by omega) ?_ ?_
  · refine ⟨0, _, rfl, rfl, ?_, ?_, ?_, ?_, ?_⟩ <;> simp [T.get_set]
  rintro k _ ⟨i, tm, rfl, hik, t1, t3, t48, t49, t50⟩
  by_cases hlt : i < 2
  · have hc : (i : Int) < ((2 : Nat) : Int) := by omega
    obtain ⟨p1, p2⟩ := pair_at H1 hlt .i64
    obtain ⟨l, hl1, hl2, hl3⟩ := rows i hlt
    have hll := hl1.evLen Tryz.underlying25 (P := Tryz.prog)
    have hs := bin_succ Tryz.prog 3 i (by omega)
    simp only [e_seq, e_skip, e_ret, e_exit, e_block, e_region, e_cond, condQ_true, condQ_false, seqK_normal, seqK_ret, seqK_exit, loopK_normal, loopK_ret, loopK_exit, drawK_eq, blockQ_normal, blockQ_ret, blockQ_same, blockQ_other, steps_cons, steps_done, fits_some, blt_lt, pre_plain, pre_guardQ, guardV_some, guardQ_tt, guardQ_ff, guardQ_tf, guardQ_ft, guardQ_skip, List.getElem?_toArray, List.getElem?_cons_zero, List.getElem?_cons_succ, fits_none, evOp, evCall, evOpds, evBuiltin, opd_tmp, opd_int, opd_bool, opd_nil, ov_some, ove_some, oe_some, ose_some, after_val, after_skip, after_call, callQ_some, stepK_eq, opd_func,  putT_some, putT_none, effT_none, next_none, effT_new, effT_wr, effT_mv, next_new, next_wr, next_mv, Nat.reduceLT, Nat.reduceBEq, true_and, and_true, reduceIte, Nat.reduceEqDiff, eq_self, T.get_set, cond_true, cond_false, endR_ret, resQ_some, evResults, tup_one, tup_two, tup_three, fillT, load_same, load_ne, store_same, store_ne, AV.cells, allOne, one_int, one_bool, one_ptr, one_nil, one_slice, List.length_cons, List.length_nil, Nat.zero_add, Nat.reduceAdd, beqD, bleD, Nat.reduceLeDiff, Nat.le_refl, decide_true, decide_false, Bool.and_self, Bool.and_true, Bool.true_and, List.take_zero, List.take_succ_cons, List.drop_succ_cons, List.drop_zero, List.nil_append, List.append_nil, List.cons_append, List.getElem?_cons_zero, List.getElem?_cons_succ, agg3, agg4, agg22, agg25, size3, size4, size22, size51, alloc51, fieldAddr24, fieldAddr51, bin_lss, bin_leq, bin_gtr, bin_geq, bin_eql, bin_neq, bin_neqb, un_not, List.getElem?_toArray, ne_eq, not_false_eq_true, evParts, build25, build26, ok5, ok6, ok7, ok8, ok9, ok10, ok13, ok14, ok15, ok16, ok17, ok19, ok20, ok34, ok35, ok36, ok37, ok38, ok39, ok44, ok45, ok60, load_same_agg, agg24, size24, evExtract, agg51, t1, t3, t48, t49, t50, hc, p1, p2, hll]
    refine e_loop (fun k' s => ∃ j : Nat, ∃ tm : T AV, s = ⟨tm, H, n2 + 2, []⟩ ∧ j + k' = l.length ∧
      tm.get 1 = some (.ptr n 0) ∧ tm.get 3 = some (.int .i64 (S.gs.length : Int)) ∧ tm.get 48 = some (.slice (n2 + 1) 0 2 (some 2) 1) ∧ tm.get 49 = some (.int .i64 ((2 : Nat) : Int)) ∧ tm.get 50 = some (.int .i64 (i : Int)) ∧
      tm.get 54 = some (if i = 0 then v.next else .slice n2 0 2 (some 2) 1) ∧ tm.get 55 = some (.int .i64 (l.length : Int)) ∧ tm.get 56 = some (.int .i64 (j : Int))) l.length (by omega) ?_ ?_
    · refine ⟨0, _, rfl, by omega, ?_, ?_, ?_, ?_, ?_, ?_, ?_, ?_⟩ <;> simp [T.get_set, t1, t3, t48, t49, t50]
    clear t1 t3 t48 t49 t50
    rintro k' _ ⟨j, tm, rfl, hjk, t1, t3, t48, t49, t50, t54, t55, t56⟩
    by_cases hj : j < l.length
    · have hcj : (j : Int) < (l.length : Int) := by omega
      obtain ⟨w, hw⟩ : ∃ w, l[j]? = some w := ⟨_, List.getElem?_eq_getElem hj⟩
      obtain ⟨ia, oa, a1, a2, a3⟩ := hl1.num hj hw .i64
      obtain ⟨w0, w1⟩ := hl3 w (List.mem_of_getElem? hw)
      have z1 : decide (w < 0) = false := by simp; omega
      have z2 : decide (((2 * S.gs.length : Nat) : Int) ≤ w) = false := by simp; omega
      have hsj := bin_succ Tryz.prog 3 j (by omega)
      simp only [e_seq, e_skip, e_ret, e_exit, e_block, e_region, e_cond, condQ_true, condQ_false, seqK_normal, seqK_ret, seqK_exit, loopK_normal, loopK_ret, loopK_exit, drawK_eq, blockQ_normal, blockQ_ret, blockQ_same, blockQ_other, steps_cons, steps_done, fits_some, blt_lt, pre_plain, pre_guardQ, guardV_some, guardQ_tt, guardQ_ff, guardQ_tf, guardQ_ft, guardQ_skip, List.getElem?_toArray, List.getElem?_cons_zero, List.getElem?_cons_succ, fits_none, evOp, evCall, evOpds, evBuiltin, opd_tmp, opd_int, opd_bool, opd_nil, ov_some, ove_some, oe_some, ose_some, after_val, after_skip, after_call, callQ_some, stepK_eq, opd_func,  putT_some, putT_none, effT_none, next_none, effT_new, effT_wr, effT_mv, next_new, next_wr, next_mv, Nat.reduceLT, Nat.reduceBEq, true_and, and_true, reduceIte, Nat.reduceEqDiff, eq_self, T.get_set, cond_true, cond_false, endR_ret, resQ_some, evResults, tup_one, tup_two, tup_three, fillT, load_same, load_ne, store_same, store_ne, AV.cells, allOne, one_int, one_bool, one_ptr, one_nil, one_slice, List.length_cons, List.length_nil, Nat.zero_add, Nat.reduceAdd, beqD, bleD, Nat.reduceLeDiff, Nat.le_refl, decide_true, decide_false, Bool.and_self, Bool.and_true, Bool.true_and, List.take_zero, List.take_succ_cons, List.drop_succ_cons, List.drop_zero, List.nil_append, List.append_nil, List.cons_append, List.getElem?_cons_zero, List.getElem?_cons_succ, agg3, agg4, agg22, agg25, size3, size4, size22, size51, alloc51, fieldAddr24, fieldAddr51, bin_lss, bin_leq, bin_gtr, bin_geq, bin_eql, bin_neq, bin_neqb, un_not, List.getElem?_toArray, ne_eq, not_false_eq_true, evParts, build25, build26, ok5, ok6, ok7, ok8, ok9, ok10, ok13, ok14, ok15, ok16, ok17, ok19, ok20, ok34, ok35, ok36, ok37, ok38, ok39, ok44, ok45, ok60, load_same_agg, agg24, size24, evExtract, agg51, t1, t3, t48, t49, t50, t54, t55, t56, hcj, a1, a3, z1, z2, hdb, hsj]
      refine ⟨k' - 1, by omega, j + 1, _, rfl, by omega, ?_, ?_, ?_, ?_, ?_, ?_, ?_, ?_⟩ <;> simp [T.get_set, t1, t3, t48, t49, t50, t54, t55]
    · have hcj : ¬ (j : Int) < (l.length : Int) := by omega
      simp only [e_seq, e_skip, e_ret, e_exit, e_block, e_region, e_cond, condQ_true, condQ_false, seqK_normal, seqK_ret, seqK_exit, loopK_normal, loopK_ret, loopK_exit, drawK_eq, blockQ_normal, blockQ_ret, blockQ_same, blockQ_other, steps_cons, steps_done, fits_some, blt_lt, pre_plain, pre_guardQ, guardV_some, guardQ_tt, guardQ_ff, guardQ_tf, guardQ_ft, guardQ_skip, List.getElem?_toArray, List.getElem?_cons_zero, List.getElem?_cons_succ, fits_none, evOp, evCall, evOpds, evBuiltin, opd_tmp, opd_int, opd_bool, opd_nil, ov_some, ove_some, oe_some, ose_some, after_val, after_skip, after_call, callQ_some, stepK_eq, opd_func,  putT_some, putT_none, effT_none, next_none, effT_new, effT_wr, effT_mv, next_new, next_wr, next_mv, Nat.reduceLT, Nat.reduceBEq, true_and, and_true, reduceIte, Nat.reduceEqDiff, eq_self, T.get_set, cond_true, cond_false, endR_ret, resQ_some, evResults, tup_one, tup_two, tup_three, fillT, load_same, load_ne, store_same, store_ne, AV.cells, allOne, one_int, one_bool, one_ptr, one_nil, one_slice, List.length_cons, List.length_nil, Nat.zero_add, Nat.reduceAdd, beqD, bleD, Nat.reduceLeDiff, Nat.le_refl, decide_true, decide_false, Bool.and_self, Bool.and_true, Bool.true_and, List.take_zero, List.take_succ_cons, List.drop_succ_cons, List.drop_zero, List.nil_append, List.append_nil, List.cons_append, List.getElem?_cons_zero, List.getElem?_cons_succ, agg3, agg4, agg22, agg25, size3, size4, size22, size51, alloc51, fieldAddr24, fieldAddr51, bin_lss, bin_leq, bin_gtr, bin_geq, bin_eql, bin_neq, bin_neqb, un_not, List.getElem?_toArray, ne_eq, not_false_eq_true, evParts, build25, build26, ok5, ok6, ok7, ok8, ok9, ok10, ok13, ok14, ok15, ok16, ok17, ok19, ok20, ok34, ok35, ok36, ok37, ok38, ok39, ok44, ok45, ok60, load_same_agg, agg24, size24, evExtract, agg51, t1, t3, t48, t49, t50, t54, t55, t56, hcj, hs]
      refine ⟨k - 1, by omega, i + 1, _, rfl, by omega, ?_, ?_, ?_, ?_, ?_⟩ <;> simp [T.get_set, t1, t3, t48, t49]
  have hc : ¬ (i : Int) < ((2 : Nat) : Int) := by omega
  have b31' := build31 (n2 + 2 + 1) (x := v.now) (y := v.ins) hv.now.one hv.now.cells1 hv.ins.one hv.ins.cells1
  have en : n ≠ n2 + 2 := by omega
  simp only [e_seq, e_skip, e_ret, e_exit, e_block, e_region, e_cond, condQ_true, condQ_false, seqK_normal, seqK_ret, seqK_exit, loopK_normal, loopK_ret, loopK_exit, drawK_eq, blockQ_normal, blockQ_ret, blockQ_same, blockQ_other, steps_cons, steps_done, fits_some, blt_lt, pre_plain, pre_guardQ, guardV_some, guardQ_tt, guardQ_ff, guardQ_tf, guardQ_ft, guardQ_skip, List.getElem?_toArray, List.getElem?_cons_zero, List.getElem?_cons_succ, fits_none, evOp, evCall, evOpds, evBuiltin, opd_tmp, opd_int, opd_bool, opd_nil, ov_some, ove_some, oe_some, ose_some, after_val, after_skip, after_call, callQ_some, stepK_eq, opd_func,  putT_some, putT_none, effT_none, next_none, effT_new, effT_wr, effT_mv, next_new, next_wr, next_mv, Nat.reduceLT, Nat.reduceBEq, true_and, and_true, reduceIte, Nat.reduceEqDiff, eq_self, T.get_set, cond_true, cond_false, endR_ret, resQ_some, evResults, tup_one, tup_two, tup_three, fillT, load_same, load_ne, store_same, store_ne, AV.cells, allOne, one_int, one_bool, one_ptr, one_nil, one_slice, List.length_cons, List.length_nil, Nat.zero_add, Nat.reduceAdd, beqD, bleD, Nat.reduceLeDiff, Nat.le_refl, decide_true, decide_false, Bool.and_self, Bool.and_true, Bool.true_and, List.take_zero, List.take_succ_cons, List.drop_succ_cons, List.drop_zero, List.nil_append, List.append_nil, List.cons_append, List.getElem?_cons_zero, List.getElem?_cons_succ, agg3, agg4, agg22, agg25, size3, size4, size22, size51, alloc51, fieldAddr24, fieldAddr51, bin_lss, bin_leq, bin_gtr, bin_geq, bin_eql, bin_neq, bin_neqb, un_not, List.getElem?_toArray, ne_eq, not_false_eq_true, evParts, build25, build26, ok5, ok6, ok7, ok8, ok9, ok10, ok13, ok14, ok15, ok16, ok17, ok19, ok20, ok34, ok35, ok36, ok37, ok38, ok39, ok44, ok45, ok60, load_same_agg, agg24, size24, evExtract, agg51, t1, t3, t48, t49, t50, hc, makeMap_eq, f1, f3, q2, q4, en, b31', len31]
  have hX : ∃ X, X = (T.set (.cells 1 [v.now, v.ins]) (T.set (seenMap []) H (n2 + 2)) (n2 + 2 + 1)) := ⟨_, rfl⟩
  obtain ⟨X, hX⟩ := hX
  have X1 : X.get (n2 + 3) = some (.cells 1 [v.now, v.ins]) := by rw [hX, T.get_set, if_pos rfl]
  have X2 : X.get (n2 + 2) = some (seenMap []) := by rw [hX, T.get_set, if_neg (by omega), T.get_set, if_pos rfl]
  have X3 : X.get n = some (.cells 7 (v.cells S)) := by rw [hX, T.get_set, if_neg (by omega), T.get_set, if_neg (by omega)]; exact H3
  have X4 : Old n g X := by rw [hX]; exact (H4.set (by omega) _).set (by omega) _
  rw [← hX]
  clear H1 H2 H3 rows hc t48 t49 t50 q1 q2 q3 q4 q5 q6 q7 q8 q9
  have rows : ∀ i, i < 2 → ∃ l K : List Int, (∀ m h, n2 + 4 ≤ m → Old n g h → Row m h (if i = 0 then v.now else v.ins) 1 l.length (ints l)) ∧ l.length ≤ 8 ∧ (∀ j w, l[j]? = some w → w ∉ K ++ l.take j ∧ w ∈ S.now ++ S.ins) ∧ K = (if i = 0 then [] else S.now) ∧ K ++ l = (if i = 0 then S.now else S.now ++ S.ins) := by
    intro i hi
    by_cases h0 : i = 0
    · simp only [if_pos h0]
      refine ⟨S.now, [], fun m h hm ho => hv.now.old ho (by omega), by omega, fun j w hw => ⟨nodup_not (A := []) (R := S.ins) (by simpa using hS.nodup) hw, List.mem_append_left _ (List.mem_of_getElem? hw)⟩, rfl, by simp⟩
    · simp only [if_neg h0]
      refine ⟨S.ins, S.now, fun m h hm ho => hv.ins.old ho (by omega), by omega, fun j w hw => ⟨nodup_not (R := []) (by simpa using hS.nodup) hw, List.mem_append_right _ (List.mem_of_getElem? hw)⟩, rfl, rfl⟩
  refine e_loop (fun k s => ∃ i : Nat, ∃ tm : T AV, ∃ h : T AObj, s = ⟨tm, h, n2 + 4, []⟩ ∧ i + k = 2 ∧ Old n g h ∧ h.get n = some (.cells 7 (v.cells S)) ∧ h.get (n2 + 3) = some (.cells 1 [v.now, v.ins]) ∧ h.get (n2 + 2) = some (seenMap (if i = 0 then [] else if i = 1 then S.now else S.now ++ S.ins)) ∧
    tm.get 1 = some (.ptr n 0) ∧ tm.get 3 = some (.int .i64 (S.gs.length : Int)) ∧ tm.get 8 = some (.map (n2 + 2)) ∧ tm.get 75 = some (.slice (n2 + 3) 0 2 (some 2) 1) ∧ tm.get 76 = some (.int .i64 ((2 : Nat) : Int)) ∧ tm.get 77 = some (.int .i64 (i : Int))) 2 (by omega) ?_ ?_
  · refine ⟨0, _, X, rfl, rfl, X4, X3, X1, X2, ?_, ?_, ?_, ?_, ?_, ?_⟩ <;> simp [T.get_set, t1, t3]
  clear t1 t3
  rintro k _ ⟨i, tm, h, rfl, hik, ho, hn, hp, hm, t1, t3, t8, t75, t76, t77⟩
  by_cases hlt : i < 2
  · have hc : (i : Int) < ((2 : Nat) : Int) := by omega
    obtain ⟨p1, p2⟩ := pair_at hp hlt .i64
    obtain ⟨l, K, hl1, hl2, hl3, hl4, hl5⟩ := rows i hlt
    have hll := (hl1 (n2 + 4) h (by omega) ho).evLen Tryz.underlying25 (P := Tryz.prog)
    have hs := bin_succ Tryz.prog 3 i (by omega)
    have hK : h.get (n2 + 2) = some (seenMap (K ++ l.take 0)) := by
      rw [hm, hl4]
      have : i = 0 ∨ i = 1 := by omega
      rcases this with rfl | rfl <;> simp
    simp only [e_seq, e_skip, e_ret, e_exit, e_block, e_region, e_cond, condQ_true, condQ_false, seqK_normal, seqK_ret, seqK_exit, loopK_normal, loopK_ret, loopK_exit, drawK_eq, blockQ_normal, blockQ_ret, blockQ_same, blockQ_other, steps_cons, steps_done, fits_some, blt_lt, pre_plain, pre_guardQ, guardV_some, guardQ_tt, guardQ_ff, guardQ_tf, guardQ_ft, guardQ_skip, List.getElem?_toArray, List.getElem?_cons_zero, List.getElem?_cons_succ, fits_none, evOp, evCall, evOpds, evBuiltin, opd_tmp, opd_int, opd_bool, opd_nil, ov_some, ove_some, oe_some, ose_some, after_val, after_skip, after_call, callQ_some, stepK_eq, opd_func,  putT_some, putT_none, effT_none, next_none, effT_new, effT_wr, effT_mv, next_new, next_wr, next_mv, Nat.reduceLT, Nat.reduceBEq, true_and, and_true, reduceIte, Nat.reduceEqDiff, eq_self, T.get_set, cond_true, cond_false, endR_ret, resQ_some, evResults, tup_one, tup_two, tup_three, fillT, load_same, load_ne, store_same, store_ne, AV.cells, allOne, one_int, one_bool, one_ptr, one_nil, one_slice, List.length_cons, List.length_nil, Nat.zero_add, Nat.reduceAdd, beqD, bleD, Nat.reduceLeDiff, Nat.le_refl, decide_true, decide_false, Bool.and_self, Bool.and_true, Bool.true_and, List.take_zero, List.take_succ_cons, List.drop_succ_cons, List.drop_zero, List.nil_append, List.append_nil, List.cons_append, List.getElem?_cons_zero, List.getElem?_cons_succ, agg3, agg4, agg22, agg25, size3, size4, size22, size51, alloc51, fieldAddr24, fieldAddr51, bin_lss, bin_leq, bin_gtr, bin_geq, bin_eql, bin_neq, bin_neqb, un_not, List.getElem?_toArray, ne_eq, not_false_eq_true, evParts, build25, build26, ok5, ok6, ok7, ok8, ok9, ok10, ok13, ok14, ok15, ok16, ok17, ok19, ok20, ok34, ok35, ok36, ok37, ok38, ok39, ok44, ok45, ok60, load_same_agg, agg24, size24, evExtract, agg51, t1, t3, t8, t75, t76, t77, hc, p1, p2, hll]
    refine e_loop (fun k' s => ∃ j : Nat, ∃ tm : T AV, ∃ h : T AObj, s = ⟨tm, h, n2 + 4, []⟩ ∧ j + k' = l.length ∧ Old n g h ∧ h.get n = some (.cells 7 (v.cells S)) ∧ h.get (n2 + 3) = some (.cells 1 [v.now, v.ins]) ∧ h.get (n2 + 2) = some (seenMap (K ++ l.take j)) ∧
      tm.get 1 = some (.ptr n 0) ∧ tm.get 3 = some (.int .i64 (S.gs.length : Int)) ∧ tm.get 8 = some (.map (n2 + 2)) ∧ tm.get 75 = some (.slice (n2 + 3) 0 2 (some 2) 1) ∧ tm.get 76 = some (.int .i64 ((2 : Nat) : Int)) ∧ tm.get 77 = some (.int .i64 (i : Int)) ∧
      tm.get 81 = some (if i = 0 then v.now else v.ins) ∧ tm.get 82 = some (.int .i64 (l.length : Int)) ∧ tm.get 83 = some (.int .i64 (j : Int))) l.length (by omega) ?_ ?_
    · refine ⟨0, _, h, rfl, by omega, ho, hn, hp, hK, ?_, ?_, ?_, ?_, ?_, ?_, ?_, ?_, ?_⟩ <;> simp [T.get_set, t1, t3, t8, t75, t76, t77]
    clear t1 t3 t8 t75 t76 t77 hK hm hp hn p1 p2
    rintro k' _ ⟨j, tm, h, rfl, hjk, ho, hn, hp, hm, t1, t3, t8, t75, t76, t77, t81, t82, t83⟩
    by_cases hj : j < l.length
    · have hcj : (j : Int) < (l.length : Int) := by omega
      obtain ⟨w0, hw⟩ : ∃ w, l[j]? = some w := ⟨_, List.getElem?_eq_getElem hj⟩
      obtain ⟨hnin, hin⟩ := hl3 j w0 hw
      obtain ⟨c0, c1, c2, x, hx, hx2⟩ := hS.inps w0 hin
      obtain ⟨ia, oa, a1, a2, a3⟩ := (hl1 (n2 + 4) h (by omega) ho).num hj hw .i64
      obtain ⟨w, rfl⟩ := nat_of c0
      have hwl : w / 2 < S.gs.length := by omega
      rw [Int.toNat_natCast] at hx
      obtain ⟨ig, og, b1, b2, b3, b4⟩ := (hv.net.old (n' := n2 + 4) ho (by omega)).gate hwl hx .i64
      obtain ⟨q1, q2, q3, q4, q5, q6, q7, q8, q9⟩ := sys_load hn
      have z1 : decide ((w : Int) < 0) = false := by simp
      have z2 : decide (((2 * S.gs.length : Nat) : Int) ≤ (w : Int)) = false := by simp; omega
      have z3 : evBin Tryz.prog .rem 3 (.int .i64 (w : Int)) (.int .i64 2) = some (.int .i64 0) := by
        have e : ((w % 2 : Nat) : Int) = 0 := by omega
        rw [bin_rem2, e]
      have z4 : (x.op != 2) = false := by simp [hx2]
      have hq := bin_quo2 Tryz.prog 3 w (by omega)
      have hlk := lookup_not hnin hm
      have hup := update_not hnin hm
      have hsj := bin_succ Tryz.prog 3 j (by omega)
      have htk : l.take (j + 1) = l.take j ++ [(w : Int)] := take_snoc' hw
      simp only [e_seq, e_skip, e_ret, e_exit, e_block, e_region, e_cond, condQ_true, condQ_false, seqK_normal, seqK_ret, seqK_exit, loopK_normal, loopK_ret, loopK_exit, drawK_eq, blockQ_normal, blockQ_ret, blockQ_same, blockQ_other, steps_cons, steps_done, fits_some, blt_lt, pre_plain, pre_guardQ, guardV_some, guardQ_tt, guardQ_ff, guardQ_tf, guardQ_ft, guardQ_skip, List.getElem?_toArray, List.getElem?_cons_zero, List.getElem?_cons_succ, fits_none, evOp, evCall, evOpds, evBuiltin, opd_tmp, opd_int, opd_bool, opd_nil, ov_some, ove_some, oe_some, ose_some, after_val, after_skip, after_call, callQ_some, stepK_eq, opd_func,  putT_some, putT_none, effT_none, next_none, effT_new, effT_wr, effT_mv, next_new, next_wr, next_mv, Nat.reduceLT, Nat.reduceBEq, true_and, and_true, reduceIte, Nat.reduceEqDiff, eq_self, T.get_set, cond_true, cond_false, endR_ret, resQ_some, evResults, tup_one, tup_two, tup_three, fillT, load_same, load_ne, store_same, store_ne, AV.cells, allOne, one_int, one_bool, one_ptr, one_nil, one_slice, List.length_cons, List.length_nil, Nat.zero_add, Nat.reduceAdd, beqD, bleD, Nat.reduceLeDiff, Nat.le_refl, decide_true, decide_false, Bool.and_self, Bool.and_true, Bool.true_and, List.take_zero, List.take_succ_cons, List.drop_succ_cons, List.drop_zero, List.nil_append, List.append_nil, List.cons_append, List.getElem?_cons_zero, List.getElem?_cons_succ, agg3, agg4, agg22, agg25, size3, size4, size22, size51, alloc51, fieldAddr24, fieldAddr51, bin_lss, bin_leq, bin_gtr, bin_geq, bin_eql, bin_neq, bin_neqb, un_not, List.getElem?_toArray, ne_eq, not_false_eq_true, evParts, build25, build26, ok5, ok6, ok7, ok8, ok9, ok10, ok13, ok14, ok15, ok16, ok17, ok19, ok20, ok34, ok35, ok36, ok37, ok38, ok39, ok44, ok45, ok60, load_same_agg, agg24, size24, evExtract, agg51, t1, t3, t8, t75, t76, t77, t81, t82, t83, hcj, a1, a3, z1, z2, z3, z4, hdb, hsj, hq, f0, q1, b1, b4, hlk, hup, bne_self_eq_false]
      refine ⟨k' - 1, by omega, j + 1, _, _, rfl, by omega, ho.set (by omega) _, ?_, ?_, ?_, ?_, ?_, ?_, ?_, ?_, ?_, ?_, ?_, ?_⟩
      · rw [T.get_set, if_neg (by omega)]; exact hn
      · rw [T.get_set, if_neg (by omega)]; exact hp
      · rw [T.get_set, if_pos rfl, htk, List.append_assoc]
      all_goals simp [T.get_set, t1, t3, t8, t75, t76, t77, t81, t82]
    · have hcj : ¬ (j : Int) < (l.length : Int) := by omega
      simp only [e_seq, e_skip, e_ret, e_exit, e_block, e_region, e_cond, condQ_true, condQ_false, seqK_normal, seqK_ret, seqK_exit, loopK_normal, loopK_ret, loopK_exit, drawK_eq, blockQ_normal, blockQ_ret, blockQ_same, blockQ_other, steps_cons, steps_done, fits_some, blt_lt, pre_plain, pre_guardQ, guardV_some, guardQ_tt, guardQ_ff, guardQ_tf, guardQ_ft, guardQ_skip, List.getElem?_toArray, List.getElem?_cons_zero, List.getElem?_cons_succ, fits_none, evOp, evCall, evOpds, evBuiltin, opd_tmp, opd_int, opd_bool, opd_nil, ov_some, ove_some, oe_some, ose_some, after_val, after_skip, after_call, callQ_some, stepK_eq, opd_func,  putT_some, putT_none, effT_none, next_none, effT_new, effT_wr, effT_mv, next_new, next_wr, next_mv, Nat.reduceLT, Nat.reduceBEq, true_and, and_true, reduceIte, Nat.reduceEqDiff, eq_self, T.get_set, cond_true, cond_false, endR_ret, resQ_some, evResults, tup_one, tup_two, tup_three, fillT, load_same, load_ne, store_same, store_ne, AV.cells, allOne, one_int, one_bool, one_ptr, one_nil, one_slice, List.length_cons, List.length_nil, Nat.zero_add, Nat.reduceAdd, beqD, bleD, Nat.reduceLeDiff, Nat.le_refl, decide_true, decide_false, Bool.and_self, Bool.and_true, Bool.true_and, List.take_zero, List.take_succ_cons, List.drop_succ_cons, List.drop_zero, List.nil_append, List.append_nil, List.cons_append, List.getElem?_cons_zero, List.getElem?_cons_succ, agg3, agg4, agg22, agg25, size3, size4, size22, size51, alloc51, fieldAddr24, fieldAddr51, bin_lss, bin_leq, bin_gtr, bin_geq, bin_eql, bin_neq, bin_neqb, un_not, List.getElem?_toArray, ne_eq, not_false_eq_true, evParts, build25, build26, ok5, ok6, ok7, ok8, ok9, ok10, ok13, ok14, ok15, ok16, ok17, ok19, ok20, ok34, ok35, ok36, ok37, ok38, ok39, ok44, ok45, ok60, load_same_agg, agg24, size24, evExtract, agg51, t1, t3, t8, t75, t76, t77, t81, t82, t83, hcj, hs]
      refine ⟨k - 1, by omega, i + 1, _, h, rfl, by omega, ho, hn, hp, ?_, ?_, ?_, ?_, ?_, ?_, ?_⟩
      · rw [hm, List.take_of_length_le (by omega), hl5]
        have : i = 0 ∨ i = 1 := by omega
        rcases this with rfl | rfl <;> simp
      all_goals simp [T.get_set, t1, t3, t8, t75, t76]
  have hc : ¬ (i : Int) < ((2 : Nat) : Int) := by omega
  have hm' : h.get (n2 + 2) = some (seenMap (S.now ++ S.ins)) := by rw [hm, if_neg (by omega), if_neg (by omega)]
  obtain ⟨q1, q2, q3, q4, q5, q6, q7, q8, q9⟩ := sys_load hn
  simp only [e_seq, e_skip, e_ret, e_exit, e_block, e_region, e_cond, condQ_true, condQ_false, seqK_normal, seqK_ret, seqK_exit, loopK_normal, loopK_ret, loopK_exit, drawK_eq, blockQ_normal, blockQ_ret, blockQ_same, blockQ_other, steps_cons, steps_done, fits_some, blt_lt, pre_plain, pre_guardQ, guardV_some, guardQ_tt, guardQ_ff, guardQ_tf, guardQ_ft, guardQ_skip, List.getElem?_toArray, List.getElem?_cons_zero, List.getElem?_cons_succ, fits_none, evOp, evCall, evOpds, evBuiltin, opd_tmp, opd_int, opd_bool, opd_nil, ov_some, ove_some, oe_some, ose_some, after_val, after_skip, after_call, callQ_some, stepK_eq, opd_func,  putT_some, putT_none, effT_none, next_none, effT_new, effT_wr, effT_mv, next_new, next_wr, next_mv, Nat.reduceLT, Nat.reduceBEq, true_and, and_true, reduceIte, Nat.reduceEqDiff, eq_self, T.get_set, cond_true, cond_false, endR_ret, resQ_some, evResults, tup_one, tup_two, tup_three, fillT, load_same, load_ne, store_same, store_ne, AV.cells, allOne, one_int, one_bool, one_ptr, one_nil, one_slice, List.length_cons, List.length_nil, Nat.zero_add, Nat.reduceAdd, beqD, bleD, Nat.reduceLeDiff, Nat.le_refl, decide_true, decide_false, Bool.and_self, Bool.and_true, Bool.true_and, List.take_zero, List.take_succ_cons, List.drop_succ_cons, List.drop_zero, List.nil_append, List.append_nil, List.cons_append, List.getElem?_cons_zero, List.getElem?_cons_succ, agg3, agg4, agg22, agg25, size3, size4, size22, size51, alloc51, fieldAddr24, fieldAddr51, bin_lss, bin_leq, bin_gtr, bin_geq, bin_eql, bin_neq, bin_neqb, un_not, List.getElem?_toArray, ne_eq, not_false_eq_true, evParts, build25, build26, ok5, ok6, ok7, ok8, ok9, ok10, ok13, ok14, ok15, ok16, ok17, ok19, ok20, ok34, ok35, ok36, ok37, ok38, ok39, ok44, ok45, ok60, load_same_agg, agg24, size24, evExtract, agg51, t1, t3, t8, t75, t76, t77, hc, f0, q1, hla]
  refine e_loop (fun k s => ∃ i m : Nat, ∃ tm : T AV, ∃ h : T AObj, s = ⟨tm, h, m, []⟩ ∧ i + k = S.gs.length ∧ n2 + 4 ≤ m ∧ Old n g h ∧ h.get (n2 + 2) = some (seenMap (S.now ++ S.ins)) ∧
    tm.get 8 = some (.map (n2 + 2)) ∧ tm.get 123 = some v.net ∧ tm.get 124 = some (.int .i64 (S.gs.length : Int)) ∧ tm.get 125 = some (.int .i64 (i : Int))) S.gs.length (by omega) ?_ ?_
  · refine ⟨0, n2 + 4, _, h, rfl, by omega, by omega, ho, hm', ?_, ?_, ?_, ?_⟩ <;> simp [T.get_set, t8]
  clear t1 t3 t8 t75 t76 t77 hm hp hn hm' hc q1 q2 q3 q4 q5 q6 q7 q8 q9
  rintro k _ ⟨i, m, tm, h, rfl, hik, hm4, ho, hm, t8, t123, t124, t125⟩
  by_cases hlt : i < S.gs.length
  · have hc : (i : Int) < (S.gs.length : Int) := by omega
    obtain ⟨x, hx⟩ : ∃ x, S.gs[i]? = some x := ⟨_, List.getElem?_eq_getElem hlt⟩
    obtain ⟨id, o, a1, a2, a3, a4⟩ := (hv.net.old (n' := m) ho (by omega)).gate hlt hx .i64
    have hs := bin_succ Tryz.prog 3 i (by omega)
    have hd := bin_dbl Tryz.prog 3 i (by omega)
    have em : n2 + 2 ≠ m := by omega
    rcases bt (x.op == 2) with o2 | o2
    · have hin := good_all hS hx (by simpa using o2)
      have hlk := fun (G : AHeap) (hG : G (n2 + 2) = some (seenMap (S.now ++ S.ins))) => lookup_in hin hG
      have z10 : ((1 : Int) == 0) = false := rfl
      simp only [e_seq, e_skip, e_ret, e_exit, e_block, e_region, e_cond, condQ_true, condQ_false, seqK_normal, seqK_ret, seqK_exit, loopK_normal, loopK_ret, loopK_exit, drawK_eq, blockQ_normal, blockQ_ret, blockQ_same, blockQ_other, steps_cons, steps_done, fits_some, blt_lt, pre_plain, pre_guardQ, guardV_some, guardQ_tt, guardQ_ff, guardQ_tf, guardQ_ft, guardQ_skip, List.getElem?_toArray, List.getElem?_cons_zero, List.getElem?_cons_succ, fits_none, evOp, evCall, evOpds, evBuiltin, opd_tmp, opd_int, opd_bool, opd_nil, ov_some, ove_some, oe_some, ose_some, after_val, after_skip, after_call, callQ_some, stepK_eq, opd_func,  putT_some, putT_none, effT_none, next_none, effT_new, effT_wr, effT_mv, next_new, next_wr, next_mv, Nat.reduceLT, Nat.reduceBEq, true_and, and_true, reduceIte, Nat.reduceEqDiff, eq_self, T.get_set, cond_true, cond_false, endR_ret, resQ_some, evResults, tup_one, tup_two, tup_three, fillT, load_same, load_ne, store_same, store_ne, AV.cells, allOne, one_int, one_bool, one_ptr, one_nil, one_slice, List.length_cons, List.length_nil, Nat.zero_add, Nat.reduceAdd, beqD, bleD, Nat.reduceLeDiff, Nat.le_refl, decide_true, decide_false, Bool.and_self, Bool.and_true, Bool.true_and, List.take_zero, List.take_succ_cons, List.drop_succ_cons, List.drop_zero, List.nil_append, List.append_nil, List.cons_append, List.getElem?_cons_zero, List.getElem?_cons_succ, agg3, agg4, agg22, agg25, size3, size4, size22, size51, alloc51, fieldAddr24, fieldAddr51, bin_lss, bin_leq, bin_gtr, bin_geq, bin_eql, bin_neq, bin_neqb, un_not, List.getElem?_toArray, ne_eq, not_false_eq_true, evParts, build25, build26, ok5, ok6, ok7, ok8, ok9, ok10, ok13, ok14, ok15, ok16, ok17, ok19, ok20, ok34, ok35, ok36, ok37, ok38, ok39, ok44, ok45, ok60, load_same_agg, agg24, size24, evExtract, agg51, t8, t123, t124, t125, hc, a1, a3, hs, hd, o2, hlk, em, hm, z10]
      refine ⟨k - 1, by omega, i + 1, _, _, _, rfl, by omega, by omega, (ho.set (by omega) _).set (by omega) _, ?_, ?_, ?_, ?_, ?_⟩
      · simp only [T.get_set, if_neg em]; exact hm
      all_goals simp [T.get_set, t8, t123, t124]
    · simp only [e_seq, e_skip, e_ret, e_exit, e_block, e_region, e_cond, condQ_true, condQ_false, seqK_normal, seqK_ret, seqK_exit, loopK_normal, loopK_ret, loopK_exit, drawK_eq, blockQ_normal, blockQ_ret, blockQ_same, blockQ_other, steps_cons, steps_done, fits_some, blt_lt, pre_plain, pre_guardQ, guardV_some, guardQ_tt, guardQ_ff, guardQ_tf, guardQ_ft, guardQ_skip, List.getElem?_toArray, List.getElem?_cons_zero, List.getElem?_cons_succ, fits_none, evOp, evCall, evOpds, evBuiltin, opd_tmp, opd_int, opd_bool, opd_nil, ov_some, ove_some, oe_some, ose_some, after_val, after_skip, after_call, callQ_some, stepK_eq, opd_func,  putT_some, putT_none, effT_none, next_none, effT_new, effT_wr, effT_mv, next_new, next_wr, next_mv, Nat.reduceLT, Nat.reduceBEq, true_and, and_true, reduceIte, Nat.reduceEqDiff, eq_self, T.get_set, cond_true, cond_false, endR_ret, resQ_some, evResults, tup_one, tup_two, tup_three, fillT, load_same, load_ne, store_same, store_ne, AV.cells, allOne, one_int, one_bool, one_ptr, one_nil, one_slice, List.length_cons, List.length_nil, Nat.zero_add, Nat.reduceAdd, beqD, bleD, Nat.reduceLeDiff, Nat.le_refl, decide_true, decide_false, Bool.and_self, Bool.and_true, Bool.true_and, List.take_zero, List.take_succ_cons, List.drop_succ_cons, List.drop_zero, List.nil_append, List.append_nil, List.cons_append, List.getElem?_cons_zero, List.getElem?_cons_succ, agg3, agg4, agg22, agg25, size3, size4, size22, size51, alloc51, fieldAddr24, fieldAddr51, bin_lss, bin_leq, bin_gtr, bin_geq, bin_eql, bin_neq, bin_neqb, un_not, List.getElem?_toArray, ne_eq, not_false_eq_true, evParts, build25, build26, ok5, ok6, ok7, ok8, ok9, ok10, ok13, ok14, ok15, ok16, ok17, ok19, ok20, ok34, ok35, ok36, ok37, ok38, ok39, ok44, ok45, ok60, load_same_agg, agg24, size24, evExtract, agg51, t8, t123, t124, t125, hc, a1, a3, hs, hd, o2, em, hm]
      refine ⟨k - 1, by omega, i + 1, _, _, _, rfl, by omega, by omega, (ho.set (by omega) _).set (by omega) _, ?_, ?_, ?_, ?_, ?_⟩
      · simp only [T.get_set, if_neg em]; exact hm
      all_goals simp [T.get_set, t8, t123, t124]
  · have hc : ¬ (i : Int) < (S.gs.length : Int) := by omega
    simp only [e_seq, e_skip, e_ret, e_exit, e_block, e_region, e_cond, condQ_true, condQ_false, seqK_normal, seqK_ret, seqK_exit, loopK_normal, loopK_ret, loopK_exit, drawK_eq, blockQ_normal, blockQ_ret, blockQ_same, blockQ_other, steps_cons, steps_done, fits_some, blt_lt, pre_plain, pre_guardQ, guardV_some, guardQ_tt, guardQ_ff, guardQ_tf, guardQ_ft, guardQ_skip, List.getElem?_toArray, List.getElem?_cons_zero, List.getElem?_cons_succ, fits_none, evOp, evCall, evOpds, evBuiltin, opd_tmp, opd_int, opd_bool, opd_nil, ov_some, ove_some, oe_some, ose_some, after_val, after_skip, after_call, callQ_some, stepK_eq, opd_func,  putT_some, putT_none, effT_none, next_none, effT_new, effT_wr, effT_mv, next_new, next_wr, next_mv, Nat.reduceLT, Nat.reduceBEq, true_and, and_true, reduceIte, Nat.reduceEqDiff, eq_self, T.get_set, cond_true, cond_false, endR_ret, resQ_some, evResults, tup_one, tup_two, tup_three, fillT, load_same, load_ne, store_same, store_ne, AV.cells, allOne, one_int, one_bool, one_ptr, one_nil, one_slice, List.length_cons, List.length_nil, Nat.zero_add, Nat.reduceAdd, beqD, bleD, Nat.reduceLeDiff, Nat.le_refl, decide_true, decide_false, Bool.and_self, Bool.and_true, Bool.true_and, List.take_zero, List.take_succ_cons, List.drop_succ_cons, List.drop_zero, List.nil_append, List.append_nil, List.cons_append, List.getElem?_cons_zero, List.getElem?_cons_succ, agg3, agg4, agg22, agg25, size3, size4, size22, size51, alloc51, fieldAddr24, fieldAddr51, bin_lss, bin_leq, bin_gtr, bin_geq, bin_eql, bin_neq, bin_neqb, un_not, List.getElem?_toArray, ne_eq, not_false_eq_true, evParts, build25, build26, ok5, ok6, ok7, ok8, ok9, ok10, ok13, ok14, ok15, ok16, ok17, ok19, ok20, ok34, ok35, ok36, ok37, ok38, ok39, ok44, ok45, ok60, load_same_agg, agg24, size24, evExtract, agg51, t8, t123, t124, t125, hc]
    exact ⟨ho, by omega⟩
end Go.Ev

set_option linter.unusedSimpArgs false
set_option linter.unusedVariables false
set_option maxRecDepth 20000
namespace Go.Ev
open Go Proofs

/-- The objects that a value points to at once. -/
def idsV : AV → List Nat
  | .ptr id _ => [id]
  | .slice id _ _ _ _ => [id]
  | .map id => [id]
  | .iface _ (.ptr id _) => [id]
  | _ => []
def idsT : Option AV → List Nat
  | some x => idsV x
  | none => []
theorem idsT_some (x : AV) : idsT (some x) = idsV x := rfl
theorem idsOf_cons (tm : T AV) (t : Nat) (ts : List Nat) : idsOf tm (t :: ts) = idsT (tm.get t) ++ idsOf tm ts := by
  simp only [idsOf]
  cases tm.get t with
  | none => rfl
  | some x =>
    cases x <;> (try rfl)
    case iface a b => cases b <;> rfl
theorem idsOf_nil (tm : T AV) : idsOf tm [] = [] := rfl
theorem idsV_ptr (a b : Nat) : idsV (.ptr a b) = [a] := rfl
theorem idsV_slice (a b c : Nat) (d : Option Nat) (e : Nat) : idsV (.slice a b c d e) = [a] := rfl
theorem idsV_map (a : Nat) : idsV (.map a) = [a] := rfl
theorem idsV_nil : idsV .nilSlice = [] := rfl
theorem idsV_int (k : IntKind) (i : Int) : idsV (.int k i) = [] := rfl
theorem idsV_bool (b : Bool) : idsV (.bool b) = [] := rfl
theorem idsV_agg (l : List AV) : idsV (.agg l) = [] := rfl
theorem idsV_tuple (l : List AV) : idsV (.tuple l) = [] := rfl
theorem idsV_func (f : Nat) (a b : List AV) : idsV (.func f a b) = [] := rfl

theorem Row.ids {n : Nat} {g : T AObj} {v : AV} {sz len : Nat} {cs : List AV} (h : Row n g v sz len cs) {k : Nat} (hk : n ≤ k) : memN k (idsV v) = false := by
  rcases h with ⟨rfl, _⟩ | ⟨id, off, cap, data, rfl, h2, _⟩
  · rfl
  · simp only [idsV_slice, memN]
    have : Nat.beq k id = false := beqF.2 (by omega)
    rw [this]; rfl
theorem disj_one (k : Nat) (l : List Nat) : disj [k] l = !(memN k l) := by
  simp only [disj]; cases memN k l <;> rfl
theorem Row.ids2 {n : Nat} {g : T AObj} {v : AV} {sz len : Nat} {cs : List AV} (h : Row n g v sz len cs) {k : Nat} (hk : n ≤ k) : disj (idsV v) [k] = true := by
  rcases h with ⟨rfl, _⟩ | ⟨id, off, cap, data, rfl, h2, _⟩
  · rfl
  · simp only [idsV_slice, disj, memN]
    have : Nat.beq id k = false := beqF.2 (by omega)
    rw [this]; rfl
theorem memN_app (k : Nat) : ∀ (a b : List Nat), memN k (a ++ b) = (memN k a || memN k b)
  | [], b => by simp [memN]
  | x :: xs, b => by
    simp only [List.cons_append, memN, memN_app k xs b]
    cases Nat.beq k x <;> simp
theorem pre_ids {n : Nat} {g g' : T AObj} {v : AV} {sz len : Nat} {cs : List AV} (h : Row n g v sz len cs) : ∀ id o l c s, v = .slice id o l c s → preOf g' (idsV v) id = g'.get id := by
  intro id o l c s e
  subst e
  rw [idsV_slice, pre_head]

theorem eq_add_pos (n k : Nat) : (n = n + (k + 1)) = False := by simp
theorem add_pos_eq (n k : Nat) : (n + (k + 1) = n) = False := by simp
theorem draws_mono {P : Program} {call : CallT} {ops : Array Oper} {nt : Nat} {bs l : List Nat} {d : DSt} {R R' : DSt → Prop} (h : Draws P call ops nt bs l d R) (hk : ∀ d, R d → R' d) : Draws P call ops nt bs l d R' :=
  let ⟨d', e, q⟩ := h; ⟨d', e, hk _ q⟩
theorem app25_nil2 (g : T AObj) (p n : Nat) (l : List Nat) (x y : AV) : evApp Tryz.prog (preOf (T.set (.cells 1 [x, y]) g p) (p :: l)) n 25 25 .nilSlice (.slice p 0 2 (some 2) 1) = some (.slice n 0 2 none 1, [p], .new (.cells 1 [x, y])) :=
  app_nil elem25 (data := [x, y]) (by rw [pre_head, T.get_set, if_pos rfl]) (by simp) (by simp) (by omega) (by omega)
theorem app25_mv2 {a len : Nat} {cs : List AV} (hl : cs.length = len) (hb : len < 1000) (g : T AObj) (p n : Nat) (l : List Nat) (x y : AV) (hap : a ≠ p) (hg : g.get a = some (.cells 1 cs)) :
    evApp Tryz.prog (preOf (T.set (.cells 1 [x, y]) g p) (a :: p :: l)) n 25 25 (.slice a 0 len none 1) (.slice p 0 2 (some 2) 1) = some (.slice n 0 (len + 2) none 1, [a, p], .mv a (.cells 1 (cs ++ [x, y]))) :=
  app_mv elem25 (data := [x, y]) (by rw [pre_head, T.get_set, if_neg hap]; exact hg) (by omega) (by rw [pre_snd, T.get_set, if_pos rfl]) (by simp) (by simp) (by omega) (by omega)

/-- Rows put behind a slice of one's own. -/
theorem app_row2 {P : Program} {t e sz : Nat} (he : ElemOk P t e sz) {n n1 a la : Nat} {g : T AObj} {G : AHeap} {v : AV} {len : Nat} {cs ca : List AV} (hr : Row n g v sz len cs) (hG : ∀ id o l c s, v = .slice id o l c s → G id = g.get id) (ha : G a = some (.cells sz ca)) (hla : ca.length = la * sz) (hlen : la + len ≤ 1073741824) :
    ∃ x rd ef, evApp P G n1 t t (.slice a 0 la none sz) v = some (x, rd, ef) ∧ ((ef = .none ∧ x = .slice a 0 la none sz ∧ len = 0 ∧ cs = []) ∨ (ef = .mv a (.cells sz (ca ++ cs)) ∧ x = .slice n1 0 (la + len) none sz ∧ cs.length = len * sz ∧ 0 < len)) := by
  obtain ⟨i, hi, hisz, hib⟩ := he.i
  obtain ⟨z, hz, hzc⟩ := he.z
  have b1 : Nat.beq z.cells.length i.size = true := by rw [hzc, hisz]; exact Nat.beq_refl _
  rcases hr with ⟨rfl, rfl, rfl⟩ | ⟨id, off, cap, data, rfl, h2, h3, h4, h5, h6⟩
  · refine ⟨_, [], .none, ?_, .inl ⟨rfl, rfl, rfl, rfl⟩⟩
    unfold evApp
    simp only [he.t, hi, hz, b1, evNews, Nat.beq_refl, Bool.not_true, cond_false, cond_true]
  · have hg := hG id off len cap sz rfl
    rw [← hg] at h3
    have hcs : (data.drop (off * sz)).take (len * sz) = cs := by
      apply List.ext_getElem?
      intro j
      by_cases hj : j < len * sz
      · rw [List.getElem?_take, if_pos hj, List.getElem?_drop]
        have hx : cs[j]? = some cs[j] := List.getElem?_eq_getElem (by omega)
        rw [hx]; exact h5 j _ hx
      · rw [List.getElem?_eq_none (by simp; omega), List.getElem?_eq_none (by omega)]
    by_cases hl : len = 0
    · subst hl
      have : cs = [] := List.length_eq_zero_iff.1 (by omega)
      refine ⟨_, [id], .none, ?_, .inl ⟨rfl, rfl, rfl, this⟩⟩
      have hnews := news_of he (cap := cap) h3 hcs h6 hisz
      unfold evApp
      simp only [he.t, hi, hz, b1, hnews, Nat.beq_refl, Bool.not_true, cond_false, cond_true]
    · exact ⟨_, [a, id], _, app_mv_rd he ha hla h3 hcs h6 (by omega) hlen, .inr ⟨rfl, rfl, h4, by omega⟩⟩
end Go.Ev
