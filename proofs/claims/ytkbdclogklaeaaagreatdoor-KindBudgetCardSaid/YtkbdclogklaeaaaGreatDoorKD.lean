/- PART OF THE PROOF OF KindBudget's CARD. A tick of a system, evaluated for all data. -/
import Derived.Test.YtkbdclogklaeaaaGreatDoorKC
set_option linter.unusedSimpArgs false
set_option linter.unusedVariables false

set_option linter.unusedSimpArgs false
set_option linter.unusedVariables false
set_option maxRecDepth 20000
namespace Go.Ev
open Go Proofs

theorem agg26 : aggT Tryz.prog 26 = some false := by decide +kernel

theorem eq_of_gives {P : Program} {fuel d f : Nat} {args : List AV} {g : T AObj} {n : Nat} {a : AV} (h : Gives P fuel d f args g n (fun x g' n' => x = a ∧ g' = g ∧ n' = n)) : evFn P fuel d (.fn f) args g n = some (a, g, n) := by
  obtain ⟨x, g', n', e, rfl, rfl, rfl⟩ := h
  exact e

theorem at_eq {fuel d : Nat} {g : T AObj} {n c id len : Nat} {f : Nat → Bool} {w : Int} (hc : g.get c = some (.cells 1 [.slice id 0 len (some len) 1])) (hi : g.get id = some (.cells 1 (arr len f))) (h0 : 0 ≤ w) (h1 : w < 2 * len) (hbig : len < 1000000) :
    evFn Tryz.prog fuel (d + 1) (.fn 60) [.int .i64 w, .ptr c 0] g n = some (.bool (wireB f w), g, n) := by
  refine eq_of_gives ?_
  obtain ⟨k, rfl⟩ := nat_of h0
  refine gives_ends 13 [.tmp 3] Tryz.func60 rfl rfl rfl ?_
  have l1 := load_cell hc agg26 (o := 0) (x := .slice id 0 len (some len) 1) rfl
  have hk : k / 2 < len := by omega
  have hidx := idx_arr (id := id) (c := some len) hk .i64
  have hld := load_arr hi hk
  have hq := bin_quo2 Tryz.prog 3 k (by omega)
  have hr := bin_rem2 Tryz.prog 3 k
  simp only [e_seq, e_skip, e_ret, e_exit, e_block, e_region, e_cond, condQ_true, condQ_false, seqK_normal, seqK_ret, seqK_exit, loopK_normal, loopK_ret, loopK_exit, drawK_eq, blockQ_normal, blockQ_ret, blockQ_same, blockQ_other, steps_cons, steps_done, fits_some, blt_lt, pre_plain, pre_guardQ, guardV_some, guardQ_tt, guardQ_ff, guardQ_tf, guardQ_ft, guardQ_skip, List.getElem?_toArray, List.getElem?_cons_zero, List.getElem?_cons_succ, fits_none, evOp, evCall, evOpds, evBuiltin, opd_tmp, opd_int, opd_bool, opd_nil, ov_some, ove_some, oe_some, ose_some, after_val, after_skip, after_call, callQ_some, stepK_eq, opd_func,  putT_some, putT_none, effT_none, next_none, effT_new, effT_wr, effT_mv, next_new, next_wr, next_mv, Nat.reduceLT, Nat.reduceBEq, true_and, and_true, reduceIte, Nat.reduceEqDiff, eq_self, T.get_set, cond_true, cond_false, endR_ret, resQ_some, evResults, tup_one, tup_two, tup_three, fillT, load_same, load_ne, store_same, store_ne, AV.cells, allOne, one_int, one_bool, one_ptr, one_nil, one_slice, List.length_cons, List.length_nil, Nat.zero_add, Nat.reduceAdd, beqD, bleD, Nat.reduceLeDiff, Nat.le_refl, decide_true, decide_false, Bool.and_self, Bool.and_true, Bool.true_and, List.take_zero, List.take_succ_cons, List.drop_succ_cons, List.drop_zero, List.nil_append, List.append_nil, List.cons_append, List.getElem?_cons_zero, List.getElem?_cons_succ, agg3, agg4, agg22, agg25, size3, size4, size22, size51, alloc51, fieldAddr24, fieldAddr51, bin_lss, bin_leq, bin_gtr, bin_geq, bin_eql, bin_neq, bin_neqb, un_not, List.getElem?_toArray, ne_eq, not_false_eq_true, evParts, build25, build26, ok5, ok6, ok7, ok8, ok9, ok10, ok13, ok14, ok15, ok16, ok17, ok19, ok20, ok34, ok35, ok36, ok37, ok38, ok39, ok44, ok45, ok60, load_same_agg, agg24, size24, evExtract, agg51, l1, hidx, hld, hq, hr]
  have e : (((k % 2 : Nat) : Int) == 1) = (k % 2 == 1) := by
    rcases Nat.mod_two_eq_zero_or_one k with h | h <;> rw [h] <;> rfl
  simp only [wireB, Int.toNat_natCast, e]

theorem zero26 : zeroT Tryz.prog 26 = some .nilSlice := by
  have h : isAV (zeroT Tryz.prog 26) .nilSlice = true := by decide +kernel
  exact isAV_eq h
theorem alloc26 (n : Nat) : evAlloc Tryz.prog n 26 = some (.ptr n 0, .new (.cells 1 [.nilSlice])) := by
  simp only [evAlloc, zero26, AV.cells, evBox, allOne, one_nil, cond_true, List.length_cons, List.length_nil]

/-- Where the step stands before gate i. -/
def cur (gs : List Gate) (w : Nat → Bool) (i : Nat) : Nat → Bool := fun j => if j < i then valsTo gs w i j else w j
theorem cur_zero (gs : List Gate) (w : Nat → Bool) : cur gs w 0 = w := by funext j; simp [cur]
theorem cur_succ {gs : List Gate} {w : Nat → Bool} {i : Nat} {x : Gate} (h : gs[i]? = some x) : cur gs w (i + 1) = updf (cur gs w i) i (gateB w (valsTo gs w i) i x) := by
  funext j
  simp only [cur, valsTo_succ h, updf]
  by_cases h1 : j = i
  · subst h1; simp
  · by_cases h2 : j < i
    · rw [if_pos (by omega), if_neg h1, if_neg h1, if_pos h2]
    · rw [if_neg (by omega), if_neg h1, if_neg h2]
theorem wire_cur {gs : List Gate} {w : Nat → Bool} {i : Nat} {a : Int} (h0 : 0 ≤ a) (h1 : a < 2 * i) : wireB (cur gs w i) a = wireB (valsTo gs w i) a := by
  have : a.toNat / 2 < i := by omega
  simp only [wireB, cur, if_pos this]
theorem cur_last (gs : List Gate) (w : Nat → Bool) : arr gs.length (cur gs w gs.length) = arr gs.length (valsOf gs w) := arr_congr fun j hj => by simp only [cur, if_pos hj, valsOf]
theorem updf_self {f : Nat → Bool} {i : Nat} : updf f i (f i) = f := by
  funext j; simp only [updf]; split
  · rename_i h; rw [h]
  · rfl

/-- An append where there is room. -/
theorem app_wr {P : Program} {t e sz : Nat} (he : ElemOk P t e sz) {G : AHeap} {n id len c : Nat} {ds xs : List AV} {mx k off : Nat} {cap : Option Nat} {data : List AV} (h4 : G id = some (.cells sz ds)) (h5 : len * sz ≤ ds.length) (hx : G mx = some (.cells sz data))
    (hd : (data.drop (off * sz)).take (k * sz) = xs) (hle : (off + k) * sz ≤ data.length) (hk : 0 < k) (hlen : len + k ≤ 1073741824) (hroom : len + k ≤ c) :
    evApp P G n t t (.slice id 0 len (some c) sz) (.slice mx off k cap sz) = some (.slice id 0 (len + k) (some c) sz, [id, mx], .wr id (.cells sz (ds.take (len * sz) ++ xs ++ ds.drop (len * sz + xs.length)))) := by
  obtain ⟨i, hi, hisz, hib⟩ := he.i
  obtain ⟨z, hz, hzc⟩ := he.z
  have b1 : Nat.beq z.cells.length i.size = true := by rw [hzc, hisz]; exact Nat.beq_refl _
  have b2 : Nat.beq k 0 = false := beqF.2 (by omega)
  have b3 : Nat.ble i.bytes 65536 = true := Nat.ble_eq_true_of_le hib
  have hnews := news_of he (cap := cap) (.inl hx) hd hle hisz
  have b4 : Nat.beq sz i.size = true := by rw [hisz]; exact Nat.beq_refl _
  have b5 : Nat.ble (len + k) 1073741824 = true := Nat.ble_eq_true_of_le hlen
  have b6 : Nat.ble (len * sz) ds.length = true := Nat.ble_eq_true_of_le h5
  have b7 : Nat.ble (len + k) c = true := Nat.ble_eq_true_of_le hroom
  unfold evApp
  simp only [he.t, hi, hz, b1, hnews, b2, b3, h4, b4, b5, b6, b7, Bool.not_true, Bool.and_self, cond_false, cond_true, Nat.zero_add]

theorem step_gives {fuel d : Nat} {g : T AObj} {n : Nat} {v : SysV} {S : Sys} {sv bv : AV} {state bits : List Bool} (hS : GoodSys S) (hv : SysAt n g v S) (hs : Row n g sv 1 state.length (bools state)) (hb : Row n g bv 1 bits.length (bools bits))
    (hsl : state.length = S.now.length) (hbl : bits.length = S.ins.length) (hf : 1100 < fuel) (hg : S.gs.length ≤ 400) (hnl : S.now.length ≤ 8) (hil : S.ins.length ≤ 3) :
    Gives Tryz.prog fuel (d + 2) 38 [v.av S, sv, bv] g n (fun x g' n' => (∃ ov, x = .tuple [ov, .bool (stepB S state bits).2.1, .bool (stepB S state bits).2.2] ∧ Row n' g' ov 1 S.next.length (bools (stepB S state bits).1) ∧ ∀ id o l c s, ov = .slice id o l c s → n ≤ id) ∧ Old n g g' ∧ n ≤ n') := by
  refine gives_ends 113 [.tmp 6, .tmp 7, .tmp 8] Tryz.func38 rfl rfl rfl ?_
  have hla := hv.net.evLen Tryz.underlying22 (P := Tryz.prog)
  have hlno := hv.now.evLen Tryz.underlying25 (P := Tryz.prog)
  have hlin := hv.ins.evLen Tryz.underlying25 (P := Tryz.prog)
  have hlne := hv.next.evLen Tryz.underlying25 (P := Tryz.prog)
  have hbox := box_sys (m := n) hv
  have hmk := mk_arr (n + 1) S.gs.length (by omega)
  have f0 := fieldAddr28 n 0 (by omega)
  have f1 := fieldAddr28 n 1 (by omega)
  have f2 := fieldAddr28 n 2 (by omega)
  have f3 := fieldAddr28 n 3 (by omega)
  have f5 := fieldAddr28 n 5 (by omega)
  have f6 := fieldAddr28 n 6 (by omega)
  obtain ⟨q1, q2, q3, q4, q5, q6, q7, q8, q9⟩ := sys_load (g := (T.set (.cells 7 (v.cells S)) g n).get) (id := n) (v := v) (S := S) (by rw [T.get_set, if_pos rfl])
  have d1 : n ≠ n + 1 := by omega
  have d2 : n ≠ n + 1 + 1 := by omega
  simp only [SysV.av]
  simp only [e_seq, e_skip, e_ret, e_exit, e_block, e_region, e_cond, condQ_true, condQ_false, seqK_normal, seqK_ret, seqK_exit, loopK_normal, loopK_ret, loopK_exit, drawK_eq, blockQ_normal, blockQ_ret, blockQ_same, blockQ_other, steps_cons, steps_done, fits_some, blt_lt, pre_plain, pre_guardQ, guardV_some, guardQ_tt, guardQ_ff, guardQ_tf, guardQ_ft, guardQ_skip, List.getElem?_toArray, List.getElem?_cons_zero, List.getElem?_cons_succ, fits_none, evOp, evCall, evOpds, evBuiltin, opd_tmp, opd_int, opd_bool, opd_nil, ov_some, ove_some, oe_some, ose_some, after_val, after_skip, after_call, callQ_some, stepK_eq, opd_func,  putT_some, putT_none, effT_none, next_none, effT_new, effT_wr, effT_mv, next_new, next_wr, next_mv, Nat.reduceLT, Nat.reduceBEq, true_and, and_true, reduceIte, Nat.reduceEqDiff, eq_self, T.get_set, cond_true, cond_false, endR_ret, resQ_some, evResults, tup_one, tup_two, tup_three, fillT, load_same, load_ne, store_same, store_ne, AV.cells, allOne, one_int, one_bool, one_ptr, one_nil, one_slice, List.length_cons, List.length_nil, Nat.zero_add, Nat.reduceAdd, beqD, bleD, Nat.reduceLeDiff, Nat.le_refl, decide_true, decide_false, Bool.and_self, Bool.and_true, Bool.true_and, List.take_zero, List.take_succ_cons, List.drop_succ_cons, List.drop_zero, List.nil_append, List.append_nil, List.cons_append, List.getElem?_cons_zero, List.getElem?_cons_succ, agg3, agg4, agg22, agg25, size3, size4, size22, size51, alloc51, fieldAddr24, fieldAddr51, bin_lss, bin_leq, bin_gtr, bin_geq, bin_eql, bin_neq, bin_neqb, un_not, List.getElem?_toArray, ne_eq, not_false_eq_true, evParts, build25, build26, ok5, ok6, ok7, ok8, ok9, ok10, ok13, ok14, ok15, ok16, ok17, ok19, ok20, ok34, ok35, ok36, ok37, ok38, ok39, ok44, ok45, ok60, load_same_agg, agg24, size24, evExtract, agg51, hbox, f0, f1, q1, q2, hla, hlno, hmk, alloc26, size26, d1, d2]
  have hw0 : wr S.now state (fun _ => false) 0 = fun _ => false := rfl
  refine e_loop (fun k s => ∃ i m : Nat, ∃ tm : T AV, ∃ h : T AObj, s = ⟨tm, h, m, []⟩ ∧ i + k = state.length ∧ n + 3 ≤ m ∧ Old n g h ∧ h.get n = some (.cells 7 (v.cells S)) ∧ h.get (n + 1) = some (.cells 1 (arr S.gs.length (wr S.now state (fun _ => false) i))) ∧
    h.get (n + 2) = some (.cells 1 [.slice (n + 1) 0 S.gs.length (some S.gs.length) 1]) ∧
    tm.get 1 = some sv ∧ tm.get 2 = some bv ∧ tm.get 3 = some (.ptr n 0) ∧ tm.get 9 = some (.ptr (n + 2) 0) ∧ tm.get 26 = some v.now ∧ tm.get 27 = some (.int .i64 (S.now.length : Int)) ∧ tm.get 28 = some (.int .i64 (i : Int))) state.length (by omega) ?_ ?_
  · refine ⟨0, n + 3, _, _, rfl, ?_, ?_, ?_, ?_, ?_, ?_, ?_, ?_, ?_, ?_, ?_, ?_, ?_⟩
    · omega
    · omega
    · exact ((((Old.refl _ _).set (Nat.le_refl _) _).set (by omega) _).set (by omega) _).set (by omega) _
    · simp only [T.get_set, if_neg d1, if_neg d2, reduceIte]
    · simp [T.get_set, hw0]
    · simp [T.get_set]
    · simp [T.get_set]
    · simp [T.get_set]
    · simp [T.get_set]
    · simp [T.get_set]
    · simp [T.get_set]
    · simp [T.get_set]
    · simp [T.get_set]
  rintro k _ ⟨i, m, tm, h, rfl, hik, hm, ho, hn, hw, hc1, t1, t2, t3, t9, t26, t27, t28⟩
  by_cases hlt : i < state.length
  · have hc : (i : Int) < (S.now.length : Int) := by omega
    obtain ⟨w0, hw0⟩ : ∃ w, S.now[i]? = some w := ⟨_, List.getElem?_eq_getElem (by omega)⟩
    obtain ⟨b, hbb⟩ : ∃ b, state[i]? = some b := ⟨_, List.getElem?_eq_getElem hlt⟩
    obtain ⟨c0, c1, _⟩ := hS.inps w0 (List.mem_append_left _ (List.mem_of_getElem? hw0))
    have hwr := wr_succ (f := fun _ => false) hw0 hbb
    obtain ⟨w, rfl⟩ := nat_of c0
    obtain ⟨ia, oa, a1, a2, a3⟩ := (hv.now.old (n' := m) ho (by omega)).num (i := i) (by omega) hw0 .i64
    obtain ⟨ib, ob, b1, b2, b3⟩ := (hs.old (n' := m) ho (by omega)).bit hlt hbb .i64
    have l1 := load_cell hc1 agg26 (o := 0) (x := .slice (n + 1) 0 S.gs.length (some S.gs.length) 1) rfl
    have hq := bin_quo2 Tryz.prog 3 w (by omega)
    have hwl : w / 2 < S.gs.length := by omega
    have hidx := idx_arr (id := n + 1) (c := some S.gs.length) hwl .i64
    have hst := store_arr b hw hwl
    have hs := bin_succ Tryz.prog 3 i (by omega)
    simp only [e_seq, e_skip, e_ret, e_exit, e_block, e_region, e_cond, condQ_true, condQ_false, seqK_normal, seqK_ret, seqK_exit, loopK_normal, loopK_ret, loopK_exit, drawK_eq, blockQ_normal, blockQ_ret, blockQ_same, blockQ_other, steps_cons, steps_done, fits_some, blt_lt, pre_plain, pre_guardQ, guardV_some, guardQ_tt, guardQ_ff, guardQ_tf, guardQ_ft, guardQ_skip, List.getElem?_toArray, List.getElem?_cons_zero, List.getElem?_cons_succ, fits_none, evOp, evCall, evOpds, evBuiltin, opd_tmp, opd_int, opd_bool, opd_nil, ov_some, ove_some, oe_some, ose_some, after_val, after_skip, after_call, callQ_some, stepK_eq, opd_func,  putT_some, putT_none, effT_none, next_none, effT_new, effT_wr, effT_mv, next_new, next_wr, next_mv, Nat.reduceLT, Nat.reduceBEq, true_and, and_true, reduceIte, Nat.reduceEqDiff, eq_self, T.get_set, cond_true, cond_false, endR_ret, resQ_some, evResults, tup_one, tup_two, tup_three, fillT, load_same, load_ne, store_same, store_ne, AV.cells, allOne, one_int, one_bool, one_ptr, one_nil, one_slice, List.length_cons, List.length_nil, Nat.zero_add, Nat.reduceAdd, beqD, bleD, Nat.reduceLeDiff, Nat.le_refl, decide_true, decide_false, Bool.and_self, Bool.and_true, Bool.true_and, List.take_zero, List.take_succ_cons, List.drop_succ_cons, List.drop_zero, List.nil_append, List.append_nil, List.cons_append, List.getElem?_cons_zero, List.getElem?_cons_succ, agg3, agg4, agg22, agg25, size3, size4, size22, size51, alloc51, fieldAddr24, fieldAddr51, bin_lss, bin_leq, bin_gtr, bin_geq, bin_eql, bin_neq, bin_neqb, un_not, List.getElem?_toArray, ne_eq, not_false_eq_true, evParts, build25, build26, ok5, ok6, ok7, ok8, ok9, ok10, ok13, ok14, ok15, ok16, ok17, ok19, ok20, ok34, ok35, ok36, ok37, ok38, ok39, ok44, ok45, ok60, load_same_agg, agg24, size24, evExtract, agg51, t1, t2, t3, t9, t26, t27, t28, hc, a1, a3]
    refine (e_draw (bs := [0, 0, 2, 0, 0, 24, 56, 127, 255]) (perm := [0, 1, 2, 3, 4, 5, 6, 7, 8]) (planIs_eq (by decide +kernel))).2 ?_
    simp only [e_seq, e_skip, e_ret, e_exit, e_block, e_region, e_cond, condQ_true, condQ_false, seqK_normal, seqK_ret, seqK_exit, loopK_normal, loopK_ret, loopK_exit, drawK_eq, blockQ_normal, blockQ_ret, blockQ_same, blockQ_other, steps_cons, steps_done, fits_some, blt_lt, pre_plain, pre_guardQ, guardV_some, guardQ_tt, guardQ_ff, guardQ_tf, guardQ_ft, guardQ_skip, List.getElem?_toArray, List.getElem?_cons_zero, List.getElem?_cons_succ, fits_none, evOp, evCall, evOpds, evBuiltin, opd_tmp, opd_int, opd_bool, opd_nil, ov_some, ove_some, oe_some, ose_some, after_val, after_skip, after_call, callQ_some, stepK_eq, opd_func,  putT_some, putT_none, effT_none, next_none, effT_new, effT_wr, effT_mv, next_new, next_wr, next_mv, Nat.reduceLT, Nat.reduceBEq, true_and, and_true, reduceIte, Nat.reduceEqDiff, eq_self, T.get_set, cond_true, cond_false, endR_ret, resQ_some, evResults, tup_one, tup_two, tup_three, fillT, d_step, drawAt_eq, afterD_some, d_nil, List.getD_cons_zero, List.getD_cons_succ, List.getElem?_toArray, List.getElem?_cons_succ, List.getElem?_cons_zero, looks_plain, looks_guard, Option.bind_some, Option.toList_some, Op.operands, Call.operands, tmpsOf, restrict, idsOf, addrOf, memN, load_pre, store_pre, delAll, List.append_nil, beq_selfN, beqD, T.get_lf, Bool.not_false, Bool.not_true, decide_true, decide_false, drawOut_eq, drawOut_val, drawOut_skip, drawOut_call, drawCall_some, drawCall2_call, callD_eq, stayed, putBack, Array.toList_append, List.append_toArray, List.map_cons, List.map_nil, okSimple, hides, wOf, disj, tmpsApart, List.append_nil, List.nil_append, List.cons_append, Nat.testBit, Nat.reduceShiftRight, Nat.reduceAnd, Nat.reduceBNe, Option.isNone_none, Option.isNone_some, Bool.and_self, Bool.and_true, Bool.true_and, Nat.reduceAdd, load_same, load_ne, store_same, store_ne, AV.cells, allOne, one_int, one_bool, one_ptr, one_nil, one_slice, List.length_cons, List.length_nil, Nat.zero_add, Nat.reduceAdd, beqD, bleD, Nat.reduceLeDiff, Nat.le_refl, decide_true, decide_false, Bool.and_self, Bool.and_true, Bool.true_and, List.take_zero, List.take_succ_cons, List.drop_succ_cons, List.drop_zero, List.nil_append, List.append_nil, List.cons_append, List.getElem?_cons_zero, List.getElem?_cons_succ, agg3, agg4, agg22, agg25, size3, size4, size22, size51, alloc51, fieldAddr24, fieldAddr51, bin_lss, bin_leq, bin_gtr, bin_geq, bin_eql, bin_neq, bin_neqb, un_not, List.getElem?_toArray, ne_eq, not_false_eq_true, evParts, build25, build26, ok5, ok6, ok7, ok8, ok9, ok10, ok13, ok14, ok15, ok16, ok17, ok19, ok20, ok34, ok35, ok36, ok37, ok38, ok39, ok44, ok45, ok60, load_same_agg, agg24, size24, evExtract, agg51, t1, t2, t3, t9, t26, t27, t28, l1, hq, b1, b3, hidx, hst, hs]
    refine ⟨k - 1, by omega, i + 1, _, _, _, rfl, ?_, ?_, ?_, ?_, ?_, ?_, ?_, ?_, ?_, ?_, ?_, ?_, ?_⟩
    · omega
    · omega
    · exact ho.set (by omega) _
    · rw [T.get_set, if_neg (by omega)]; exact hn
    · rw [T.get_set, if_pos rfl, hwr]; rfl
    · rw [T.get_set, if_neg (by omega)]; exact hc1
    · simp [T.get_set, t1]
    · simp [T.get_set, t2]
    · simp [T.get_set, t3]
    · simp [T.get_set, t9]
    · simp [T.get_set, t26]
    · simp [T.get_set, t27]
    · simp [T.get_set]
  have hc : ¬ (i : Int) < (S.now.length : Int) := by omega
  obtain rfl : i = state.length := by omega
  obtain ⟨q1, q2, q3, q4, q5, q6, q7, q8, q9⟩ := sys_load hn
  simp only [e_seq, e_skip, e_ret, e_exit, e_block, e_region, e_cond, condQ_true, condQ_false, seqK_normal, seqK_ret, seqK_exit, loopK_normal, loopK_ret, loopK_exit, drawK_eq, blockQ_normal, blockQ_ret, blockQ_same, blockQ_other, steps_cons, steps_done, fits_some, blt_lt, pre_plain, pre_guardQ, guardV_some, guardQ_tt, guardQ_ff, guardQ_tf, guardQ_ft, guardQ_skip, List.getElem?_toArray, List.getElem?_cons_zero, List.getElem?_cons_succ, fits_none, evOp, evCall, evOpds, evBuiltin, opd_tmp, opd_int, opd_bool, opd_nil, ov_some, ove_some, oe_some, ose_some, after_val, after_skip, after_call, callQ_some, stepK_eq, opd_func,  putT_some, putT_none, effT_none, next_none, effT_new, effT_wr, effT_mv, next_new, next_wr, next_mv, Nat.reduceLT, Nat.reduceBEq, true_and, and_true, reduceIte, Nat.reduceEqDiff, eq_self, T.get_set, cond_true, cond_false, endR_ret, resQ_some, evResults, tup_one, tup_two, tup_three, fillT, load_same, load_ne, store_same, store_ne, AV.cells, allOne, one_int, one_bool, one_ptr, one_nil, one_slice, List.length_cons, List.length_nil, Nat.zero_add, Nat.reduceAdd, beqD, bleD, Nat.reduceLeDiff, Nat.le_refl, decide_true, decide_false, Bool.and_self, Bool.and_true, Bool.true_and, List.take_zero, List.take_succ_cons, List.drop_succ_cons, List.drop_zero, List.nil_append, List.append_nil, List.cons_append, List.getElem?_cons_zero, List.getElem?_cons_succ, agg3, agg4, agg22, agg25, size3, size4, size22, size51, alloc51, fieldAddr24, fieldAddr51, bin_lss, bin_leq, bin_gtr, bin_geq, bin_eql, bin_neq, bin_neqb, un_not, List.getElem?_toArray, ne_eq, not_false_eq_true, evParts, build25, build26, ok5, ok6, ok7, ok8, ok9, ok10, ok13, ok14, ok15, ok16, ok17, ok19, ok20, ok34, ok35, ok36, ok37, ok38, ok39, ok44, ok45, ok60, load_same_agg, agg24, size24, evExtract, agg51, hlin, t1, t2, t3, t9, t26, t27, t28, hc, f3, q4]
  refine e_loop (fun k s => ∃ i m : Nat, ∃ tm : T AV, ∃ h : T AObj, s = ⟨tm, h, m, []⟩ ∧ i + k = bits.length ∧ n + 3 ≤ m ∧ Old n g h ∧ h.get n = some (.cells 7 (v.cells S)) ∧ h.get (n + 1) = some (.cells 1 (arr S.gs.length (wr S.ins bits (wr S.now state (fun _ => false) state.length) i))) ∧
    h.get (n + 2) = some (.cells 1 [.slice (n + 1) 0 S.gs.length (some S.gs.length) 1]) ∧
    tm.get 2 = some bv ∧ tm.get 3 = some (.ptr n 0) ∧ tm.get 9 = some (.ptr (n + 2) 0) ∧ tm.get 43 = some v.ins ∧ tm.get 44 = some (.int .i64 (S.ins.length : Int)) ∧ tm.get 45 = some (.int .i64 (i : Int))) bits.length (by omega) ?_ ?_
  · refine ⟨0, m, _, _, rfl, ?_, ?_, ?_, ?_, ?_, ?_, ?_, ?_, ?_, ?_, ?_, ?_⟩
    · omega
    · omega
    · exact ho
    · exact hn
    · exact hw
    · exact hc1
    · simp [T.get_set, t2]
    · simp [T.get_set, t3]
    · simp [T.get_set, t9]
    · simp [T.get_set]
    · simp [T.get_set]
    · simp [T.get_set]
  clear t1 t2 t3 t9 t26 t27 t28 hn hw hc hc1
  rintro k _ ⟨i, m2, tm, h, rfl, hik, hm2, ho, hn, hw, hc1, t2, t3, t9, t43, t44, t45⟩
  by_cases hlt : i < bits.length
  · have hc : (i : Int) < (S.ins.length : Int) := by omega
    obtain ⟨w0, hw0⟩ : ∃ w, S.ins[i]? = some w := ⟨_, List.getElem?_eq_getElem (by omega)⟩
    obtain ⟨b, hbb⟩ : ∃ b, bits[i]? = some b := ⟨_, List.getElem?_eq_getElem hlt⟩
    obtain ⟨c0, c1, _⟩ := hS.inps w0 (List.mem_append_right _ (List.mem_of_getElem? hw0))
    have hwr := wr_succ (f := wr S.now state (fun _ => false) state.length) hw0 hbb
    obtain ⟨w, rfl⟩ := nat_of c0
    obtain ⟨ia, oa, a1, a2, a3⟩ := (hv.ins.old (n' := m2) ho (by omega)).num (i := i) (by omega) hw0 .i64
    obtain ⟨ib, ob, b1, b2, b3⟩ := (hb.old (n' := m2) ho (by omega)).bit hlt hbb .i64
    have l1 := load_cell hc1 agg26 (o := 0) (x := .slice (n + 1) 0 S.gs.length (some S.gs.length) 1) rfl
    have hq := bin_quo2 Tryz.prog 3 w (by omega)
    have hwl : w / 2 < S.gs.length := by omega
    have hidx := idx_arr (id := n + 1) (c := some S.gs.length) hwl .i64
    have hst := store_arr b hw hwl
    have hs := bin_succ Tryz.prog 3 i (by omega)
    simp only [e_seq, e_skip, e_ret, e_exit, e_block, e_region, e_cond, condQ_true, condQ_false, seqK_normal, seqK_ret, seqK_exit, loopK_normal, loopK_ret, loopK_exit, drawK_eq, blockQ_normal, blockQ_ret, blockQ_same, blockQ_other, steps_cons, steps_done, fits_some, blt_lt, pre_plain, pre_guardQ, guardV_some, guardQ_tt, guardQ_ff, guardQ_tf, guardQ_ft, guardQ_skip, List.getElem?_toArray, List.getElem?_cons_zero, List.getElem?_cons_succ, fits_none, evOp, evCall, evOpds, evBuiltin, opd_tmp, opd_int, opd_bool, opd_nil, ov_some, ove_some, oe_some, ose_some, after_val, after_skip, after_call, callQ_some, stepK_eq, opd_func,  putT_some, putT_none, effT_none, next_none, effT_new, effT_wr, effT_mv, next_new, next_wr, next_mv, Nat.reduceLT, Nat.reduceBEq, true_and, and_true, reduceIte, Nat.reduceEqDiff, eq_self, T.get_set, cond_true, cond_false, endR_ret, resQ_some, evResults, tup_one, tup_two, tup_three, fillT, load_same, load_ne, store_same, store_ne, AV.cells, allOne, one_int, one_bool, one_ptr, one_nil, one_slice, List.length_cons, List.length_nil, Nat.zero_add, Nat.reduceAdd, beqD, bleD, Nat.reduceLeDiff, Nat.le_refl, decide_true, decide_false, Bool.and_self, Bool.and_true, Bool.true_and, List.take_zero, List.take_succ_cons, List.drop_succ_cons, List.drop_zero, List.nil_append, List.append_nil, List.cons_append, List.getElem?_cons_zero, List.getElem?_cons_succ, agg3, agg4, agg22, agg25, size3, size4, size22, size51, alloc51, fieldAddr24, fieldAddr51, bin_lss, bin_leq, bin_gtr, bin_geq, bin_eql, bin_neq, bin_neqb, un_not, List.getElem?_toArray, ne_eq, not_false_eq_true, evParts, build25, build26, ok5, ok6, ok7, ok8, ok9, ok10, ok13, ok14, ok15, ok16, ok17, ok19, ok20, ok34, ok35, ok36, ok37, ok38, ok39, ok44, ok45, ok60, load_same_agg, agg24, size24, evExtract, agg51, t2, t3, t9, t43, t44, t45, hc, a1, a3]
    refine (e_draw (bs := [0, 0, 2, 0, 0, 24, 56, 127, 255]) (perm := [0, 1, 2, 3, 4, 5, 6, 7, 8]) (planIs_eq (by decide +kernel))).2 ?_
    simp only [e_seq, e_skip, e_ret, e_exit, e_block, e_region, e_cond, condQ_true, condQ_false, seqK_normal, seqK_ret, seqK_exit, loopK_normal, loopK_ret, loopK_exit, drawK_eq, blockQ_normal, blockQ_ret, blockQ_same, blockQ_other, steps_cons, steps_done, fits_some, blt_lt, pre_plain, pre_guardQ, guardV_some, guardQ_tt, guardQ_ff, guardQ_tf, guardQ_ft, guardQ_skip, List.getElem?_toArray, List.getElem?_cons_zero, List.getElem?_cons_succ, fits_none, evOp, evCall, evOpds, evBuiltin, opd_tmp, opd_int, opd_bool, opd_nil, ov_some, ove_some, oe_some, ose_some, after_val, after_skip, after_call, callQ_some, stepK_eq, opd_func,  putT_some, putT_none, effT_none, next_none, effT_new, effT_wr, effT_mv, next_new, next_wr, next_mv, Nat.reduceLT, Nat.reduceBEq, true_and, and_true, reduceIte, Nat.reduceEqDiff, eq_self, T.get_set, cond_true, cond_false, endR_ret, resQ_some, evResults, tup_one, tup_two, tup_three, fillT, d_step, drawAt_eq, afterD_some, d_nil, List.getD_cons_zero, List.getD_cons_succ, List.getElem?_toArray, List.getElem?_cons_succ, List.getElem?_cons_zero, looks_plain, looks_guard, Option.bind_some, Option.toList_some, Op.operands, Call.operands, tmpsOf, restrict, idsOf, addrOf, memN, load_pre, store_pre, delAll, List.append_nil, beq_selfN, beqD, T.get_lf, Bool.not_false, Bool.not_true, decide_true, decide_false, drawOut_eq, drawOut_val, drawOut_skip, drawOut_call, drawCall_some, drawCall2_call, callD_eq, stayed, putBack, Array.toList_append, List.append_toArray, List.map_cons, List.map_nil, okSimple, hides, wOf, disj, tmpsApart, List.append_nil, List.nil_append, List.cons_append, Nat.testBit, Nat.reduceShiftRight, Nat.reduceAnd, Nat.reduceBNe, Option.isNone_none, Option.isNone_some, Bool.and_self, Bool.and_true, Bool.true_and, Nat.reduceAdd, load_same, load_ne, store_same, store_ne, AV.cells, allOne, one_int, one_bool, one_ptr, one_nil, one_slice, List.length_cons, List.length_nil, Nat.zero_add, Nat.reduceAdd, beqD, bleD, Nat.reduceLeDiff, Nat.le_refl, decide_true, decide_false, Bool.and_self, Bool.and_true, Bool.true_and, List.take_zero, List.take_succ_cons, List.drop_succ_cons, List.drop_zero, List.nil_append, List.append_nil, List.cons_append, List.getElem?_cons_zero, List.getElem?_cons_succ, agg3, agg4, agg22, agg25, size3, size4, size22, size51, alloc51, fieldAddr24, fieldAddr51, bin_lss, bin_leq, bin_gtr, bin_geq, bin_eql, bin_neq, bin_neqb, un_not, List.getElem?_toArray, ne_eq, not_false_eq_true, evParts, build25, build26, ok5, ok6, ok7, ok8, ok9, ok10, ok13, ok14, ok15, ok16, ok17, ok19, ok20, ok34, ok35, ok36, ok37, ok38, ok39, ok44, ok45, ok60, load_same_agg, agg24, size24, evExtract, agg51, t2, t3, t9, t43, t44, t45, l1, hq, b1, b3, hidx, hst, hs]
    refine ⟨k - 1, by omega, i + 1, _, _, _, rfl, ?_, ?_, ?_, ?_, ?_, ?_, ?_, ?_, ?_, ?_, ?_, ?_⟩
    · omega
    · omega
    · exact ho.set (by omega) _
    · rw [T.get_set, if_neg (by omega)]; exact hn
    · rw [T.get_set, if_pos rfl, hwr]; rfl
    · rw [T.get_set, if_neg (by omega)]; exact hc1
    · simp [T.get_set, t2]
    · simp [T.get_set, t3]
    · simp [T.get_set, t9]
    · simp [T.get_set, t43]
    · simp [T.get_set, t44]
    · simp [T.get_set]
  have hc : ¬ (i : Int) < (S.ins.length : Int) := by omega
  obtain rfl : i = bits.length := by omega
  change h.get (n + 1) = some (.cells 1 (arr S.gs.length (want S state bits))) at hw
  rw [← cur_zero S.gs (want S state bits)] at hw
  obtain ⟨q1, q2, q3, q4, q5, q6, q7, q8, q9⟩ := sys_load hn
  simp only [e_seq, e_skip, e_ret, e_exit, e_block, e_region, e_cond, condQ_true, condQ_false, seqK_normal, seqK_ret, seqK_exit, loopK_normal, loopK_ret, loopK_exit, drawK_eq, blockQ_normal, blockQ_ret, blockQ_same, blockQ_other, steps_cons, steps_done, fits_some, blt_lt, pre_plain, pre_guardQ, guardV_some, guardQ_tt, guardQ_ff, guardQ_tf, guardQ_ft, guardQ_skip, List.getElem?_toArray, List.getElem?_cons_zero, List.getElem?_cons_succ, fits_none, evOp, evCall, evOpds, evBuiltin, opd_tmp, opd_int, opd_bool, opd_nil, ov_some, ove_some, oe_some, ose_some, after_val, after_skip, after_call, callQ_some, stepK_eq, opd_func,  putT_some, putT_none, effT_none, next_none, effT_new, effT_wr, effT_mv, next_new, next_wr, next_mv, Nat.reduceLT, Nat.reduceBEq, true_and, and_true, reduceIte, Nat.reduceEqDiff, eq_self, T.get_set, cond_true, cond_false, endR_ret, resQ_some, evResults, tup_one, tup_two, tup_three, fillT, load_same, load_ne, store_same, store_ne, AV.cells, allOne, one_int, one_bool, one_ptr, one_nil, one_slice, List.length_cons, List.length_nil, Nat.zero_add, Nat.reduceAdd, beqD, bleD, Nat.reduceLeDiff, Nat.le_refl, decide_true, decide_false, Bool.and_self, Bool.and_true, Bool.true_and, List.take_zero, List.take_succ_cons, List.drop_succ_cons, List.drop_zero, List.nil_append, List.append_nil, List.cons_append, List.getElem?_cons_zero, List.getElem?_cons_succ, agg3, agg4, agg22, agg25, size3, size4, size22, size51, alloc51, fieldAddr24, fieldAddr51, bin_lss, bin_leq, bin_gtr, bin_geq, bin_eql, bin_neq, bin_neqb, un_not, List.getElem?_toArray, ne_eq, not_false_eq_true, evParts, build25, build26, ok5, ok6, ok7, ok8, ok9, ok10, ok13, ok14, ok15, ok16, ok17, ok19, ok20, ok34, ok35, ok36, ok37, ok38, ok39, ok44, ok45, ok60, load_same_agg, agg24, size24, evExtract, agg51, hla, t2, t3, t9, t43, t44, t45, hc, f0, q1]
  have hat : ∀ (f : Nat → Bool) (w : Int) (G : T AObj) (M : Nat), G.get (n + 2) = some (.cells 1 [.slice (n + 1) 0 S.gs.length (some S.gs.length) 1]) → G.get (n + 1) = some (.cells 1 (arr S.gs.length f)) → 0 ≤ w → w < 2 * S.gs.length →
      evFn Tryz.prog fuel (d + 1) (.fn 60) [.int .i64 w, .ptr (n + 2) 0] G M = some (.bool (wireB f w), G, M) := fun f w G M h1 h2 h3 h4 => at_eq h1 h2 h3 h4 (by omega)
  refine e_loop (fun k s => ∃ i m : Nat, ∃ tm : T AV, ∃ h : T AObj, s = ⟨tm, h, m, []⟩ ∧ i + k = S.gs.length ∧ n + 3 ≤ m ∧ Old n g h ∧ h.get n = some (.cells 7 (v.cells S)) ∧ h.get (n + 1) = some (.cells 1 (arr S.gs.length (cur S.gs (want S state bits) i))) ∧
    h.get (n + 2) = some (.cells 1 [.slice (n + 1) 0 S.gs.length (some S.gs.length) 1]) ∧
    tm.get 3 = some (.ptr n 0) ∧ tm.get 9 = some (.ptr (n + 2) 0) ∧ tm.get 14 = some (.func 60 [] [.ptr (n + 2) 0]) ∧ tm.get 62 = some v.net ∧ tm.get 63 = some (.int .i64 (S.gs.length : Int)) ∧ tm.get 64 = some (.int .i64 (i : Int))) S.gs.length (by omega) ?_ ?_
  · refine ⟨0, m2, _, _, rfl, ?_, ?_, ?_, ?_, ?_, ?_, ?_, ?_, ?_, ?_, ?_, ?_⟩
    · omega
    · omega
    · exact ho
    · exact hn
    · exact hw
    · exact hc1
    · simp [T.get_set, t3]
    · simp [T.get_set, t9]
    · simp [T.get_set]
    · simp [T.get_set]
    · simp [T.get_set]
    · simp [T.get_set]
  clear t2 t3 t9 t43 t44 t45 hn hw hc hc1
  rintro k _ ⟨i, m3, tm, h, rfl, hik, hm3, ho, hn, hw, hc1, t3, t9, t14, t62, t63, t64⟩
  by_cases hlt : i < S.gs.length
  · have hc : (i : Int) < (S.gs.length : Int) := by omega
    obtain ⟨x, hx⟩ : ∃ x, S.gs[i]? = some x := ⟨_, List.getElem?_eq_getElem hlt⟩
    obtain ⟨id, o, a1, a2, a3, a4⟩ := (hv.net.old (n' := m3) ho (by omega)).gate hlt hx .i64
    have hs := bin_succ Tryz.prog 3 i (by omega)
    have e0 : n ≠ m3 := by omega
    have e1 : n + 1 ≠ m3 := by omega
    have e2 : n + 2 ≠ m3 := by omega
    have hgo := hS.net.2 i x hx
    have hcur := cur_succ (w := want S state bits) hx
    have good : ∀ (G : T AObj) (M : Nat) (tm : T AV), Old n g G → n + 3 ≤ M → G.get n = some (.cells 7 (v.cells S)) → G.get (n + 1) = some (.cells 1 (arr S.gs.length (cur S.gs (want S state bits) (i + 1)))) →
        G.get (n + 2) = some (.cells 1 [.slice (n + 1) 0 S.gs.length (some S.gs.length) 1]) →
        tm.get 3 = some (.ptr n 0) → tm.get 9 = some (.ptr (n + 2) 0) → tm.get 14 = some (.func 60 [] [.ptr (n + 2) 0]) → tm.get 62 = some v.net → tm.get 63 = some (.int .i64 (S.gs.length : Int)) → tm.get 64 = some (.int .i64 ((i + 1 : Nat) : Int)) →
        ∃ j, j < k ∧ ∃ i m : Nat, ∃ tm' : T AV, ∃ h : T AObj, (⟨tm, G, M, []⟩ : St) = ⟨tm', h, m, []⟩ ∧ i + j = S.gs.length ∧ n + 3 ≤ m ∧ Old n g h ∧ h.get n = some (.cells 7 (v.cells S)) ∧ h.get (n + 1) = some (.cells 1 (arr S.gs.length (cur S.gs (want S state bits) i))) ∧
          h.get (n + 2) = some (.cells 1 [.slice (n + 1) 0 S.gs.length (some S.gs.length) 1]) ∧
          tm'.get 3 = some (.ptr n 0) ∧ tm'.get 9 = some (.ptr (n + 2) 0) ∧ tm'.get 14 = some (.func 60 [] [.ptr (n + 2) 0]) ∧ tm'.get 62 = some v.net ∧ tm'.get 63 = some (.int .i64 (S.gs.length : Int)) ∧ tm'.get 64 = some (.int .i64 (i : Int)) :=
      fun G M tm h1 h2 h3 h4 h5 h6 h7 h8 h9 h10 h11 => ⟨k - 1, by omega, i + 1, M, tm, G, rfl, by omega, h2, h1, h3, h4, h5, h6, h7, h8, h9, h10, h11⟩
    have ho2 : ∀ a b, Old n g (T.set a (T.set b h m3) m3) := fun a b => (ho.set (by omega) _).set (by omega) _
    have ho3 : ∀ a b c, Old n g (T.set c (T.set a (T.set b h m3) m3) (n + 1)) := fun a b c => (ho2 a b).set (by omega) _
    have f01 : n ≠ n + 1 := by omega
    have f21 : n + 2 ≠ n + 1 := by omega
    rcases bt (x.op == 3) with o3 | o3
    · have op3 : x.op = 3 := by simpa using o3
      have hgo' : 0 ≤ x.a ∧ 0 ≤ x.b ∧ x.a < 2 * i ∧ x.b < 2 * i := by simp [GateOk] at hgo; omega
      have wa := fun (G : T AObj) (M : Nat) h1 h2 => hat (cur S.gs (want S state bits) i) x.a G M h1 h2 (by omega) (by omega)
      have wb := fun (G : T AObj) (M : Nat) h1 h2 => hat (cur S.gs (want S state bits) i) x.b G M h1 h2 (by omega) (by omega)
      have ca := wire_cur (gs := S.gs) (w := want S state bits) (i := i) hgo'.1 hgo'.2.2.1
      have cb := wire_cur (gs := S.gs) (w := want S state bits) (i := i) hgo'.2.1 hgo'.2.2.2
      have hB : gateB (want S state bits) (valsTo S.gs (want S state bits) i) i x = (wireB (valsTo S.gs (want S state bits) i) x.a && wireB (valsTo S.gs (want S state bits) i) x.b) := by simp [gateB, op3]
      have l1 := load_cell hc1 agg26 (o := 0) (x := .slice (n + 1) 0 S.gs.length (some S.gs.length) 1) rfl
      have hidx := idx_arr (id := n + 1) (c := some S.gs.length) hlt .i64
      have hst := fun b => store_arr b hw hlt
      have hso : sameO (some (.cells 1 [.slice (n + 1) 0 S.gs.length (some S.gs.length) 1])) (some (.cells 1 [.slice (n + 1) 0 S.gs.length (some S.gs.length) 1])) = true := by simp [sameO, AV.sames, AV.same]
      rcases bt (wireB (valsTo S.gs (want S state bits) i) x.a) with ea | ea
      · rcases bt (wireB (valsTo S.gs (want S state bits) i) x.b) with eb | eb
        · simp only [e_seq, e_skip, e_ret, e_exit, e_block, e_region, e_cond, condQ_true, condQ_false, seqK_normal, seqK_ret, seqK_exit, loopK_normal, loopK_ret, loopK_exit, drawK_eq, blockQ_normal, blockQ_ret, blockQ_same, blockQ_other, steps_cons, steps_done, fits_some, blt_lt, pre_plain, pre_guardQ, guardV_some, guardQ_tt, guardQ_ff, guardQ_tf, guardQ_ft, guardQ_skip, List.getElem?_toArray, List.getElem?_cons_zero, List.getElem?_cons_succ, fits_none, evOp, evCall, evOpds, evBuiltin, opd_tmp, opd_int, opd_bool, opd_nil, ov_some, ove_some, oe_some, ose_some, after_val, after_skip, after_call, callQ_some, stepK_eq, opd_func,  putT_some, putT_none, effT_none, next_none, effT_new, effT_wr, effT_mv, next_new, next_wr, next_mv, Nat.reduceLT, Nat.reduceBEq, true_and, and_true, reduceIte, Nat.reduceEqDiff, eq_self, T.get_set, cond_true, cond_false, endR_ret, resQ_some, evResults, tup_one, tup_two, tup_three, fillT, load_same, load_ne, store_same, store_ne, AV.cells, allOne, one_int, one_bool, one_ptr, one_nil, one_slice, List.length_cons, List.length_nil, Nat.zero_add, Nat.reduceAdd, beqD, bleD, Nat.reduceLeDiff, Nat.le_refl, decide_true, decide_false, Bool.and_self, Bool.and_true, Bool.true_and, List.take_zero, List.take_succ_cons, List.drop_succ_cons, List.drop_zero, List.nil_append, List.append_nil, List.cons_append, List.getElem?_cons_zero, List.getElem?_cons_succ, agg3, agg4, agg22, agg25, size3, size4, size22, size51, alloc51, fieldAddr24, fieldAddr51, bin_lss, bin_leq, bin_gtr, bin_geq, bin_eql, bin_neq, bin_neqb, un_not, List.getElem?_toArray, ne_eq, not_false_eq_true, evParts, build25, build26, ok5, ok6, ok7, ok8, ok9, ok10, ok13, ok14, ok15, ok16, ok17, ok19, ok20, ok34, ok35, ok36, ok37, ok38, ok39, ok44, ok45, ok60, load_same_agg, agg24, size24, evExtract, agg51, t3, t9, t14, t62, t63, t64, hc, a1, a3, hs, e0, e1, e2, o3]
          refine (e_draw (bs := [0, 0, 0, 0, 8, 28, 60, 124, 124, 380, 1020, 2044, 4095, 8191]) (perm := [0, 1, 2, 3, 4, 5, 6, 7, 8, 9, 10, 11, 12, 13]) (planIs_eq (by decide +kernel))).2 ?_
          simp only [e_seq, e_skip, e_ret, e_exit, e_block, e_region, e_cond, condQ_true, condQ_false, seqK_normal, seqK_ret, seqK_exit, loopK_normal, loopK_ret, loopK_exit, drawK_eq, blockQ_normal, blockQ_ret, blockQ_same, blockQ_other, steps_cons, steps_done, fits_some, blt_lt, pre_plain, pre_guardQ, guardV_some, guardQ_tt, guardQ_ff, guardQ_tf, guardQ_ft, guardQ_skip, List.getElem?_toArray, List.getElem?_cons_zero, List.getElem?_cons_succ, fits_none, evOp, evCall, evOpds, evBuiltin, opd_tmp, opd_int, opd_bool, opd_nil, ov_some, ove_some, oe_some, ose_some, after_val, after_skip, after_call, callQ_some, stepK_eq, opd_func,  putT_some, putT_none, effT_none, next_none, effT_new, effT_wr, effT_mv, next_new, next_wr, next_mv, Nat.reduceLT, Nat.reduceBEq, true_and, and_true, reduceIte, Nat.reduceEqDiff, eq_self, T.get_set, cond_true, cond_false, endR_ret, resQ_some, evResults, tup_one, tup_two, tup_three, fillT, d_step, drawAt_eq, afterD_some, d_nil, List.getD_cons_zero, List.getD_cons_succ, List.getElem?_toArray, List.getElem?_cons_succ, List.getElem?_cons_zero, looks_plain, looks_guard, Option.bind_some, Option.toList_some, Op.operands, Call.operands, tmpsOf, restrict, idsOf, addrOf, memN, load_pre, store_pre, delAll, List.append_nil, beq_selfN, beqD, T.get_lf, Bool.not_false, Bool.not_true, decide_true, decide_false, drawOut_eq, drawOut_val, drawOut_skip, drawOut_call, drawCall_some, drawCall2_call, callD_eq, stayed, putBack, Array.toList_append, List.append_toArray, List.map_cons, List.map_nil, okSimple, hides, wOf, disj, tmpsApart, List.append_nil, List.nil_append, List.cons_append, Nat.testBit, Nat.reduceShiftRight, Nat.reduceAnd, Nat.reduceBNe, Option.isNone_none, Option.isNone_some, Bool.and_self, Bool.and_true, Bool.true_and, Nat.reduceAdd, load_same, load_ne, store_same, store_ne, AV.cells, allOne, one_int, one_bool, one_ptr, one_nil, one_slice, List.length_cons, List.length_nil, Nat.zero_add, Nat.reduceAdd, beqD, bleD, Nat.reduceLeDiff, Nat.le_refl, decide_true, decide_false, Bool.and_self, Bool.and_true, Bool.true_and, List.take_zero, List.take_succ_cons, List.drop_succ_cons, List.drop_zero, List.nil_append, List.append_nil, List.cons_append, List.getElem?_cons_zero, List.getElem?_cons_succ, agg3, agg4, agg22, agg25, size3, size4, size22, size51, alloc51, fieldAddr24, fieldAddr51, bin_lss, bin_leq, bin_gtr, bin_geq, bin_eql, bin_neq, bin_neqb, un_not, List.getElem?_toArray, ne_eq, not_false_eq_true, evParts, build25, build26, ok5, ok6, ok7, ok8, ok9, ok10, ok13, ok14, ok15, ok16, ok17, ok19, ok20, ok34, ok35, ok36, ok37, ok38, ok39, ok44, ok45, ok60, load_same_agg, agg24, size24, evExtract, agg51, t3, t9, t14, t62, t63, t64, e0, e1, e2, l1, wa, wb, hw, hc1, ca, cb, ea, eb, hso, hidx, hst, hs]
          refine good _ _ _ (ho3 _ _ _) ?_ ?_ ?_ ?_ ?_ ?_ ?_ ?_ ?_ ?_
          · omega
          · simp only [T.get_set, if_neg f01, if_neg e0]; exact hn
          · rw [T.get_set, if_pos rfl, hcur, hB, ea, eb]; rfl
          · simp only [T.get_set, if_neg f21, if_neg e2]; exact hc1
          · simp [T.get_set, t3]
          · simp [T.get_set, t9]
          · simp [T.get_set, t14]
          · simp [T.get_set, t62]
          · simp [T.get_set, t63]
          · simp [T.get_set]
        · simp only [e_seq, e_skip, e_ret, e_exit, e_block, e_region, e_cond, condQ_true, condQ_false, seqK_normal, seqK_ret, seqK_exit, loopK_normal, loopK_ret, loopK_exit, drawK_eq, blockQ_normal, blockQ_ret, blockQ_same, blockQ_other, steps_cons, steps_done, fits_some, blt_lt, pre_plain, pre_guardQ, guardV_some, guardQ_tt, guardQ_ff, guardQ_tf, guardQ_ft, guardQ_skip, List.getElem?_toArray, List.getElem?_cons_zero, List.getElem?_cons_succ, fits_none, evOp, evCall, evOpds, evBuiltin, opd_tmp, opd_int, opd_bool, opd_nil, ov_some, ove_some, oe_some, ose_some, after_val, after_skip, after_call, callQ_some, stepK_eq, opd_func,  putT_some, putT_none, effT_none, next_none, effT_new, effT_wr, effT_mv, next_new, next_wr, next_mv, Nat.reduceLT, Nat.reduceBEq, true_and, and_true, reduceIte, Nat.reduceEqDiff, eq_self, T.get_set, cond_true, cond_false, endR_ret, resQ_some, evResults, tup_one, tup_two, tup_three, fillT, load_same, load_ne, store_same, store_ne, AV.cells, allOne, one_int, one_bool, one_ptr, one_nil, one_slice, List.length_cons, List.length_nil, Nat.zero_add, Nat.reduceAdd, beqD, bleD, Nat.reduceLeDiff, Nat.le_refl, decide_true, decide_false, Bool.and_self, Bool.and_true, Bool.true_and, List.take_zero, List.take_succ_cons, List.drop_succ_cons, List.drop_zero, List.nil_append, List.append_nil, List.cons_append, List.getElem?_cons_zero, List.getElem?_cons_succ, agg3, agg4, agg22, agg25, size3, size4, size22, size51, alloc51, fieldAddr24, fieldAddr51, bin_lss, bin_leq, bin_gtr, bin_geq, bin_eql, bin_neq, bin_neqb, un_not, List.getElem?_toArray, ne_eq, not_false_eq_true, evParts, build25, build26, ok5, ok6, ok7, ok8, ok9, ok10, ok13, ok14, ok15, ok16, ok17, ok19, ok20, ok34, ok35, ok36, ok37, ok38, ok39, ok44, ok45, ok60, load_same_agg, agg24, size24, evExtract, agg51, t3, t9, t14, t62, t63, t64, hc, a1, a3, hs, e0, e1, e2, o3]
          refine (e_draw (bs := [0, 0, 0, 0, 8, 28, 60, 124, 124, 380, 1020, 2044, 4095, 8191]) (perm := [0, 1, 2, 3, 4, 5, 6, 7, 8, 9, 10, 11, 12, 13]) (planIs_eq (by decide +kernel))).2 ?_
          simp only [e_seq, e_skip, e_ret, e_exit, e_block, e_region, e_cond, condQ_true, condQ_false, seqK_normal, seqK_ret, seqK_exit, loopK_normal, loopK_ret, loopK_exit, drawK_eq, blockQ_normal, blockQ_ret, blockQ_same, blockQ_other, steps_cons, steps_done, fits_some, blt_lt, pre_plain, pre_guardQ, guardV_some, guardQ_tt, guardQ_ff, guardQ_tf, guardQ_ft, guardQ_skip, List.getElem?_toArray, List.getElem?_cons_zero, List.getElem?_cons_succ, fits_none, evOp, evCall, evOpds, evBuiltin, opd_tmp, opd_int, opd_bool, opd_nil, ov_some, ove_some, oe_some, ose_some, after_val, after_skip, after_call, callQ_some, stepK_eq, opd_func,  putT_some, putT_none, effT_none, next_none, effT_new, effT_wr, effT_mv, next_new, next_wr, next_mv, Nat.reduceLT, Nat.reduceBEq, true_and, and_true, reduceIte, Nat.reduceEqDiff, eq_self, T.get_set, cond_true, cond_false, endR_ret, resQ_some, evResults, tup_one, tup_two, tup_three, fillT, d_step, drawAt_eq, afterD_some, d_nil, List.getD_cons_zero, List.getD_cons_succ, List.getElem?_toArray, List.getElem?_cons_succ, List.getElem?_cons_zero, looks_plain, looks_guard, Option.bind_some, Option.toList_some, Op.operands, Call.operands, tmpsOf, restrict, idsOf, addrOf, memN, load_pre, store_pre, delAll, List.append_nil, beq_selfN, beqD, T.get_lf, Bool.not_false, Bool.not_true, decide_true, decide_false, drawOut_eq, drawOut_val, drawOut_skip, drawOut_call, drawCall_some, drawCall2_call, callD_eq, stayed, putBack, Array.toList_append, List.append_toArray, List.map_cons, List.map_nil, okSimple, hides, wOf, disj, tmpsApart, List.append_nil, List.nil_append, List.cons_append, Nat.testBit, Nat.reduceShiftRight, Nat.reduceAnd, Nat.reduceBNe, Option.isNone_none, Option.isNone_some, Bool.and_self, Bool.and_true, Bool.true_and, Nat.reduceAdd, load_same, load_ne, store_same, store_ne, AV.cells, allOne, one_int, one_bool, one_ptr, one_nil, one_slice, List.length_cons, List.length_nil, Nat.zero_add, Nat.reduceAdd, beqD, bleD, Nat.reduceLeDiff, Nat.le_refl, decide_true, decide_false, Bool.and_self, Bool.and_true, Bool.true_and, List.take_zero, List.take_succ_cons, List.drop_succ_cons, List.drop_zero, List.nil_append, List.append_nil, List.cons_append, List.getElem?_cons_zero, List.getElem?_cons_succ, agg3, agg4, agg22, agg25, size3, size4, size22, size51, alloc51, fieldAddr24, fieldAddr51, bin_lss, bin_leq, bin_gtr, bin_geq, bin_eql, bin_neq, bin_neqb, un_not, List.getElem?_toArray, ne_eq, not_false_eq_true, evParts, build25, build26, ok5, ok6, ok7, ok8, ok9, ok10, ok13, ok14, ok15, ok16, ok17, ok19, ok20, ok34, ok35, ok36, ok37, ok38, ok39, ok44, ok45, ok60, load_same_agg, agg24, size24, evExtract, agg51, t3, t9, t14, t62, t63, t64, e0, e1, e2, l1, wa, wb, hw, hc1, ca, cb, ea, eb, hso, hidx, hst, hs]
          refine good _ _ _ (ho3 _ _ _) ?_ ?_ ?_ ?_ ?_ ?_ ?_ ?_ ?_ ?_
          · omega
          · simp only [T.get_set, if_neg f01, if_neg e0]; exact hn
          · rw [T.get_set, if_pos rfl, hcur, hB, ea, eb]; rfl
          · simp only [T.get_set, if_neg f21, if_neg e2]; exact hc1
          · simp [T.get_set, t3]
          · simp [T.get_set, t9]
          · simp [T.get_set, t14]
          · simp [T.get_set, t62]
          · simp [T.get_set, t63]
          · simp [T.get_set]
      · simp only [e_seq, e_skip, e_ret, e_exit, e_block, e_region, e_cond, condQ_true, condQ_false, seqK_normal, seqK_ret, seqK_exit, loopK_normal, loopK_ret, loopK_exit, drawK_eq, blockQ_normal, blockQ_ret, blockQ_same, blockQ_other, steps_cons, steps_done, fits_some, blt_lt, pre_plain, pre_guardQ, guardV_some, guardQ_tt, guardQ_ff, guardQ_tf, guardQ_ft, guardQ_skip, List.getElem?_toArray, List.getElem?_cons_zero, List.getElem?_cons_succ, fits_none, evOp, evCall, evOpds, evBuiltin, opd_tmp, opd_int, opd_bool, opd_nil, ov_some, ove_some, oe_some, ose_some, after_val, after_skip, after_call, callQ_some, stepK_eq, opd_func,  putT_some, putT_none, effT_none, next_none, effT_new, effT_wr, effT_mv, next_new, next_wr, next_mv, Nat.reduceLT, Nat.reduceBEq, true_and, and_true, reduceIte, Nat.reduceEqDiff, eq_self, T.get_set, cond_true, cond_false, endR_ret, resQ_some, evResults, tup_one, tup_two, tup_three, fillT, load_same, load_ne, store_same, store_ne, AV.cells, allOne, one_int, one_bool, one_ptr, one_nil, one_slice, List.length_cons, List.length_nil, Nat.zero_add, Nat.reduceAdd, beqD, bleD, Nat.reduceLeDiff, Nat.le_refl, decide_true, decide_false, Bool.and_self, Bool.and_true, Bool.true_and, List.take_zero, List.take_succ_cons, List.drop_succ_cons, List.drop_zero, List.nil_append, List.append_nil, List.cons_append, List.getElem?_cons_zero, List.getElem?_cons_succ, agg3, agg4, agg22, agg25, size3, size4, size22, size51, alloc51, fieldAddr24, fieldAddr51, bin_lss, bin_leq, bin_gtr, bin_geq, bin_eql, bin_neq, bin_neqb, un_not, List.getElem?_toArray, ne_eq, not_false_eq_true, evParts, build25, build26, ok5, ok6, ok7, ok8, ok9, ok10, ok13, ok14, ok15, ok16, ok17, ok19, ok20, ok34, ok35, ok36, ok37, ok38, ok39, ok44, ok45, ok60, load_same_agg, agg24, size24, evExtract, agg51, t3, t9, t14, t62, t63, t64, hc, a1, a3, hs, e0, e1, e2, o3]
        refine (e_draw (bs := [0, 0, 0, 0, 8, 28, 60, 124, 124, 380, 1020, 2044, 4095, 8191]) (perm := [0, 1, 2, 3, 4, 5, 6, 7, 8, 9, 10, 11, 12, 13]) (planIs_eq (by decide +kernel))).2 ?_
        simp only [e_seq, e_skip, e_ret, e_exit, e_block, e_region, e_cond, condQ_true, condQ_false, seqK_normal, seqK_ret, seqK_exit, loopK_normal, loopK_ret, loopK_exit, drawK_eq, blockQ_normal, blockQ_ret, blockQ_same, blockQ_other, steps_cons, steps_done, fits_some, blt_lt, pre_plain, pre_guardQ, guardV_some, guardQ_tt, guardQ_ff, guardQ_tf, guardQ_ft, guardQ_skip, List.getElem?_toArray, List.getElem?_cons_zero, List.getElem?_cons_succ, fits_none, evOp, evCall, evOpds, evBuiltin, opd_tmp, opd_int, opd_bool, opd_nil, ov_some, ove_some, oe_some, ose_some, after_val, after_skip, after_call, callQ_some, stepK_eq, opd_func,  putT_some, putT_none, effT_none, next_none, effT_new, effT_wr, effT_mv, next_new, next_wr, next_mv, Nat.reduceLT, Nat.reduceBEq, true_and, and_true, reduceIte, Nat.reduceEqDiff, eq_self, T.get_set, cond_true, cond_false, endR_ret, resQ_some, evResults, tup_one, tup_two, tup_three, fillT, d_step, drawAt_eq, afterD_some, d_nil, List.getD_cons_zero, List.getD_cons_succ, List.getElem?_toArray, List.getElem?_cons_succ, List.getElem?_cons_zero, looks_plain, looks_guard, Option.bind_some, Option.toList_some, Op.operands, Call.operands, tmpsOf, restrict, idsOf, addrOf, memN, load_pre, store_pre, delAll, List.append_nil, beq_selfN, beqD, T.get_lf, Bool.not_false, Bool.not_true, decide_true, decide_false, drawOut_eq, drawOut_val, drawOut_skip, drawOut_call, drawCall_some, drawCall2_call, callD_eq, stayed, putBack, Array.toList_append, List.append_toArray, List.map_cons, List.map_nil, okSimple, hides, wOf, disj, tmpsApart, List.append_nil, List.nil_append, List.cons_append, Nat.testBit, Nat.reduceShiftRight, Nat.reduceAnd, Nat.reduceBNe, Option.isNone_none, Option.isNone_some, Bool.and_self, Bool.and_true, Bool.true_and, Nat.reduceAdd, load_same, load_ne, store_same, store_ne, AV.cells, allOne, one_int, one_bool, one_ptr, one_nil, one_slice, List.length_cons, List.length_nil, Nat.zero_add, Nat.reduceAdd, beqD, bleD, Nat.reduceLeDiff, Nat.le_refl, decide_true, decide_false, Bool.and_self, Bool.and_true, Bool.true_and, List.take_zero, List.take_succ_cons, List.drop_succ_cons, List.drop_zero, List.nil_append, List.append_nil, List.cons_append, List.getElem?_cons_zero, List.getElem?_cons_succ, agg3, agg4, agg22, agg25, size3, size4, size22, size51, alloc51, fieldAddr24, fieldAddr51, bin_lss, bin_leq, bin_gtr, bin_geq, bin_eql, bin_neq, bin_neqb, un_not, List.getElem?_toArray, ne_eq, not_false_eq_true, evParts, build25, build26, ok5, ok6, ok7, ok8, ok9, ok10, ok13, ok14, ok15, ok16, ok17, ok19, ok20, ok34, ok35, ok36, ok37, ok38, ok39, ok44, ok45, ok60, load_same_agg, agg24, size24, evExtract, agg51, t3, t9, t14, t62, t63, t64, e0, e1, e2, l1, wa, wb, hw, hc1, ca, cb, ea, hso, hidx, hst, hs]
        refine good _ _ _ (ho3 _ _ _) ?_ ?_ ?_ ?_ ?_ ?_ ?_ ?_ ?_ ?_
        · omega
        · simp only [T.get_set, if_neg f01, if_neg e0]; exact hn
        · rw [T.get_set, if_pos rfl, hcur, hB, ea]; rfl
        · simp only [T.get_set, if_neg f21, if_neg e2]; exact hc1
        · simp [T.get_set, t3]
        · simp [T.get_set, t9]
        · simp [T.get_set, t14]
        · simp [T.get_set, t62]
        · simp [T.get_set, t63]
        · simp [T.get_set]
    · have op3 : ¬ x.op = 3 := by simpa using o3
      simp only [e_seq, e_skip, e_ret, e_exit, e_block, e_region, e_cond, condQ_true, condQ_false, seqK_normal, seqK_ret, seqK_exit, loopK_normal, loopK_ret, loopK_exit, drawK_eq, blockQ_normal, blockQ_ret, blockQ_same, blockQ_other, steps_cons, steps_done, fits_some, blt_lt, pre_plain, pre_guardQ, guardV_some, guardQ_tt, guardQ_ff, guardQ_tf, guardQ_ft, guardQ_skip, List.getElem?_toArray, List.getElem?_cons_zero, List.getElem?_cons_succ, fits_none, evOp, evCall, evOpds, evBuiltin, opd_tmp, opd_int, opd_bool, opd_nil, ov_some, ove_some, oe_some, ose_some, after_val, after_skip, after_call, callQ_some, stepK_eq, opd_func,  putT_some, putT_none, effT_none, next_none, effT_new, effT_wr, effT_mv, next_new, next_wr, next_mv, Nat.reduceLT, Nat.reduceBEq, true_and, and_true, reduceIte, Nat.reduceEqDiff, eq_self, T.get_set, cond_true, cond_false, endR_ret, resQ_some, evResults, tup_one, tup_two, tup_three, fillT, load_same, load_ne, store_same, store_ne, AV.cells, allOne, one_int, one_bool, one_ptr, one_nil, one_slice, List.length_cons, List.length_nil, Nat.zero_add, Nat.reduceAdd, beqD, bleD, Nat.reduceLeDiff, Nat.le_refl, decide_true, decide_false, Bool.and_self, Bool.and_true, Bool.true_and, List.take_zero, List.take_succ_cons, List.drop_succ_cons, List.drop_zero, List.nil_append, List.append_nil, List.cons_append, List.getElem?_cons_zero, List.getElem?_cons_succ, agg3, agg4, agg22, agg25, size3, size4, size22, size51, alloc51, fieldAddr24, fieldAddr51, bin_lss, bin_leq, bin_gtr, bin_geq, bin_eql, bin_neq, bin_neqb, un_not, List.getElem?_toArray, ne_eq, not_false_eq_true, evParts, build25, build26, ok5, ok6, ok7, ok8, ok9, ok10, ok13, ok14, ok15, ok16, ok17, ok19, ok20, ok34, ok35, ok36, ok37, ok38, ok39, ok44, ok45, ok60, load_same_agg, agg24, size24, evExtract, agg51, t3, t9, t14, t62, t63, t64, hc, a1, a3, hs, e0, e1, e2, o3]
      refine good _ _ _ (ho2 _ _) ?_ ?_ ?_ ?_ ?_ ?_ ?_ ?_ ?_ ?_
      · omega
      · simp only [T.get_set, if_neg e0]; exact hn
      · simp only [T.get_set, if_neg e1]; rw [hw, hcur]
        have hval : gateB (want S state bits) (valsTo S.gs (want S state bits) i) i x = cur S.gs (want S state bits) i i := by
          simp only [gateB, if_neg op3, cur, Nat.lt_irrefl, if_false]
          split
          · rfl
          · rename_i o2; exact (want_other hS hx o2).symm
        rw [hval, updf_self]
      · simp only [T.get_set, if_neg e2]; exact hc1
      · simp [T.get_set, t3]
      · simp [T.get_set, t9]
      · simp [T.get_set, t14]
      · simp [T.get_set, t62]
      · simp [T.get_set, t63]
      · simp [T.get_set]
  have hc : ¬ (i : Int) < (S.gs.length : Int) := by omega
  obtain rfl : i = S.gs.length := by omega
  rw [cur_last] at hw
  obtain ⟨q1, q2, q3, q4, q5, q6, q7, q8, q9⟩ := sys_load hn
  have hnl2 := hS.next
  have hmk0 := mk_arr0 m3 S.next.length (by omega)
  have e0 : n ≠ m3 := by omega
  simp only [e_seq, e_skip, e_ret, e_exit, e_block, e_region, e_cond, condQ_true, condQ_false, seqK_normal, seqK_ret, seqK_exit, loopK_normal, loopK_ret, loopK_exit, drawK_eq, blockQ_normal, blockQ_ret, blockQ_same, blockQ_other, steps_cons, steps_done, fits_some, blt_lt, pre_plain, pre_guardQ, guardV_some, guardQ_tt, guardQ_ff, guardQ_tf, guardQ_ft, guardQ_skip, List.getElem?_toArray, List.getElem?_cons_zero, List.getElem?_cons_succ, fits_none, evOp, evCall, evOpds, evBuiltin, opd_tmp, opd_int, opd_bool, opd_nil, ov_some, ove_some, oe_some, ose_some, after_val, after_skip, after_call, callQ_some, stepK_eq, opd_func,  putT_some, putT_none, effT_none, next_none, effT_new, effT_wr, effT_mv, next_new, next_wr, next_mv, Nat.reduceLT, Nat.reduceBEq, true_and, and_true, reduceIte, Nat.reduceEqDiff, eq_self, T.get_set, cond_true, cond_false, endR_ret, resQ_some, evResults, tup_one, tup_two, tup_three, fillT, load_same, load_ne, store_same, store_ne, AV.cells, allOne, one_int, one_bool, one_ptr, one_nil, one_slice, List.length_cons, List.length_nil, Nat.zero_add, Nat.reduceAdd, beqD, bleD, Nat.reduceLeDiff, Nat.le_refl, decide_true, decide_false, Bool.and_self, Bool.and_true, Bool.true_and, List.take_zero, List.take_succ_cons, List.drop_succ_cons, List.drop_zero, List.nil_append, List.append_nil, List.cons_append, List.getElem?_cons_zero, List.getElem?_cons_succ, agg3, agg4, agg22, agg25, size3, size4, size22, size51, alloc51, fieldAddr24, fieldAddr51, bin_lss, bin_leq, bin_gtr, bin_geq, bin_eql, bin_neq, bin_neqb, un_not, List.getElem?_toArray, ne_eq, not_false_eq_true, evParts, build25, build26, ok5, ok6, ok7, ok8, ok9, ok10, ok13, ok14, ok15, ok16, ok17, ok19, ok20, ok34, ok35, ok36, ok37, ok38, ok39, ok44, ok45, ok60, load_same_agg, agg24, size24, evExtract, agg51, hlne, t3, t9, t14, t62, t63, t64, hc, f2, q3, hmk0, e0]
  refine e_loop (fun k s => ∃ i m : Nat, ∃ tm : T AV, ∃ h : T AObj, ∃ f : Nat → Bool, s = ⟨tm, h, m, []⟩ ∧ i + k = S.next.length ∧ m3 + 1 ≤ m ∧ Old n g h ∧ h.get n = some (.cells 7 (v.cells S)) ∧ h.get (n + 1) = some (.cells 1 (arr S.gs.length (valsOf S.gs (want S state bits)))) ∧
    h.get (n + 2) = some (.cells 1 [.slice (n + 1) 0 S.gs.length (some S.gs.length) 1]) ∧ h.get m3 = some (.cells 1 (arr S.next.length f)) ∧ (∀ j b, j < i → (stepB S state bits).1[j]? = some b → f j = b) ∧
    tm.get 3 = some (.ptr n 0) ∧ tm.get 14 = some (.func 60 [] [.ptr (n + 2) 0]) ∧ tm.get 17 = some (.slice m3 0 i (some S.next.length) 1) ∧ tm.get 91 = some v.next ∧ tm.get 92 = some (.int .i64 (S.next.length : Int)) ∧ tm.get 93 = some (.int .i64 (i : Int))) S.next.length (by omega) ?_ ?_
  · refine ⟨0, m3 + 1, _, _, fun _ => false, rfl, ?_, ?_, ?_, ?_, ?_, ?_, ?_, ?_, ?_, ?_, ?_, ?_, ?_, ?_⟩
    · omega
    · omega
    · exact ho.set (by omega) _
    · rw [T.get_set, if_neg (by omega)]; exact hn
    · rw [T.get_set, if_neg (by omega)]; exact hw
    · rw [T.get_set, if_neg (by omega)]; exact hc1
    · rw [T.get_set, if_pos rfl]
    · intro j b hj; omega
    · simp [T.get_set, t3]
    · simp [T.get_set, t14]
    · simp [T.get_set]
    · simp [T.get_set]
    · simp [T.get_set]
    · simp [T.get_set]
  clear t3 t9 t14 t62 t63 t64 hn hw hc hc1 hmk0
  rintro k _ ⟨i, m4, tm, h, f, rfl, hik, hm4, ho, hn, hw, hc1, hl, hfj, t3, t14, t17, t91, t92, t93⟩
  by_cases hlt : i < S.next.length
  · have hc : (i : Int) < (S.next.length : Int) := by omega
    obtain ⟨w, hw0⟩ : ∃ w, S.next[i]? = some w := ⟨_, List.getElem?_eq_getElem hlt⟩
    obtain ⟨c0, c1⟩ := hS.outs w (List.mem_append_left _ (List.mem_of_getElem? hw0))
    obtain ⟨ia, oa, a1, a2, a3⟩ := (hv.next.old (n' := m4) ho (by omega)).num hlt hw0 .i64
    have hcall := hat (valsOf S.gs (want S state bits)) w h m4 hc1 hw c0 c1
    have hs := bin_succ Tryz.prog 3 i (by omega)
    have e3 : m3 ≠ m4 := by omega
    have happ := app_wr elem26 (G := (T.set (.cells 1 [.bool (wireB (valsOf S.gs (want S state bits)) w)]) h m4).get) (n := m4 + 1) (id := m3) (len := i) (c := S.next.length) (ds := arr S.next.length f) (xs := [.bool (wireB (valsOf S.gs (want S state bits)) w)]) (mx := m4) (k := 1) (off := 0) (cap := some 1) (data := [.bool (wireB (valsOf S.gs (want S state bits)) w)])
      (by rw [T.get_set, if_neg e3]; exact hl) (by rw [arr_length]; omega) (by rw [T.get_set, if_pos rfl]) (by simp) (by simp) (by omega) (by omega) (by omega)
    simp only [Nat.mul_one, List.length_cons, List.length_nil, Nat.zero_add] at happ
    rw [splice_one _ (by rw [arr_length]; exact hlt), arr_set] at happ
    simp only [e_seq, e_skip, e_ret, e_exit, e_block, e_region, e_cond, condQ_true, condQ_false, seqK_normal, seqK_ret, seqK_exit, loopK_normal, loopK_ret, loopK_exit, drawK_eq, blockQ_normal, blockQ_ret, blockQ_same, blockQ_other, steps_cons, steps_done, fits_some, blt_lt, pre_plain, pre_guardQ, guardV_some, guardQ_tt, guardQ_ff, guardQ_tf, guardQ_ft, guardQ_skip, List.getElem?_toArray, List.getElem?_cons_zero, List.getElem?_cons_succ, fits_none, evOp, evCall, evOpds, evBuiltin, opd_tmp, opd_int, opd_bool, opd_nil, ov_some, ove_some, oe_some, ose_some, after_val, after_skip, after_call, callQ_some, stepK_eq, opd_func,  putT_some, putT_none, effT_none, next_none, effT_new, effT_wr, effT_mv, next_new, next_wr, next_mv, Nat.reduceLT, Nat.reduceBEq, true_and, and_true, reduceIte, Nat.reduceEqDiff, eq_self, T.get_set, cond_true, cond_false, endR_ret, resQ_some, evResults, tup_one, tup_two, tup_three, fillT, load_same, load_ne, store_same, store_ne, AV.cells, allOne, one_int, one_bool, one_ptr, one_nil, one_slice, List.length_cons, List.length_nil, Nat.zero_add, Nat.reduceAdd, beqD, bleD, Nat.reduceLeDiff, Nat.le_refl, decide_true, decide_false, Bool.and_self, Bool.and_true, Bool.true_and, List.take_zero, List.take_succ_cons, List.drop_succ_cons, List.drop_zero, List.nil_append, List.append_nil, List.cons_append, List.getElem?_cons_zero, List.getElem?_cons_succ, agg3, agg4, agg22, agg25, size3, size4, size22, size51, alloc51, fieldAddr24, fieldAddr51, bin_lss, bin_leq, bin_gtr, bin_geq, bin_eql, bin_neq, bin_neqb, un_not, List.getElem?_toArray, ne_eq, not_false_eq_true, evParts, build25, build26, ok5, ok6, ok7, ok8, ok9, ok10, ok13, ok14, ok15, ok16, ok17, ok19, ok20, ok34, ok35, ok36, ok37, ok38, ok39, ok44, ok45, ok60, load_same_agg, agg24, size24, evExtract, agg51, hlne, t3, t14, t17, t91, t92, t93, hc, a1, a3, hcall, hs, happ]
    refine ⟨k - 1, by omega, i + 1, _, _, _, updf f i (wireB (valsOf S.gs (want S state bits)) w), rfl, ?_, ?_, ?_, ?_, ?_, ?_, ?_, ?_, ?_, ?_, ?_, ?_, ?_, ?_⟩
    · omega
    · omega
    · exact (ho.set (by omega) _).set (by omega) _
    · rw [T.get_set, if_neg (by omega), T.get_set, if_neg (by omega)]; exact hn
    · rw [T.get_set, if_neg (by omega), T.get_set, if_neg (by omega)]; exact hw
    · rw [T.get_set, if_neg (by omega), T.get_set, if_neg (by omega)]; exact hc1
    · rw [T.get_set, if_pos rfl]
    · intro j b hj hb'
      by_cases hji : j = i
      · subst hji; simp [stepB, hw0] at hb'; simp [updf, hb']
      · simp only [updf, if_neg hji]; exact hfj j b (by omega) hb'
    · simp [T.get_set, t3]
    · simp [T.get_set, t14]
    · simp [T.get_set]
    · simp [T.get_set, t91]
    · simp [T.get_set, t92]
    · simp [T.get_set]
  have hc : ¬ (i : Int) < (S.next.length : Int) := by omega
  obtain rfl : i = S.next.length := by omega
  obtain ⟨ok0, ok1⟩ := hS.outs S.ok (by simp)
  obtain ⟨as0, as1⟩ := hS.outs S.assume (by simp)
  have hok := fun (G : T AObj) (M : Nat) h1 h2 => hat (valsOf S.gs (want S state bits)) S.ok G M h1 h2 ok0 ok1
  have has := fun (G : T AObj) (M : Nat) h1 h2 => hat (valsOf S.gs (want S state bits)) S.assume G M h1 h2 as0 as1
  have hso : sameO (some (.cells 7 (v.cells S))) (some (.cells 7 (v.cells S))) = true := by simp [sameO, sys_same hv]
  obtain ⟨q1, q2, q3, q4, q5, q6, q7, q8, q9⟩ := sys_load hn
  simp only [e_seq, e_skip, e_ret, e_exit, e_block, e_region, e_cond, condQ_true, condQ_false, seqK_normal, seqK_ret, seqK_exit, loopK_normal, loopK_ret, loopK_exit, drawK_eq, blockQ_normal, blockQ_ret, blockQ_same, blockQ_other, steps_cons, steps_done, fits_some, blt_lt, pre_plain, pre_guardQ, guardV_some, guardQ_tt, guardQ_ff, guardQ_tf, guardQ_ft, guardQ_skip, List.getElem?_toArray, List.getElem?_cons_zero, List.getElem?_cons_succ, fits_none, evOp, evCall, evOpds, evBuiltin, opd_tmp, opd_int, opd_bool, opd_nil, ov_some, ove_some, oe_some, ose_some, after_val, after_skip, after_call, callQ_some, stepK_eq, opd_func,  putT_some, putT_none, effT_none, next_none, effT_new, effT_wr, effT_mv, next_new, next_wr, next_mv, Nat.reduceLT, Nat.reduceBEq, true_and, and_true, reduceIte, Nat.reduceEqDiff, eq_self, T.get_set, cond_true, cond_false, endR_ret, resQ_some, evResults, tup_one, tup_two, tup_three, fillT, load_same, load_ne, store_same, store_ne, AV.cells, allOne, one_int, one_bool, one_ptr, one_nil, one_slice, List.length_cons, List.length_nil, Nat.zero_add, Nat.reduceAdd, beqD, bleD, Nat.reduceLeDiff, Nat.le_refl, decide_true, decide_false, Bool.and_self, Bool.and_true, Bool.true_and, List.take_zero, List.take_succ_cons, List.drop_succ_cons, List.drop_zero, List.nil_append, List.append_nil, List.cons_append, List.getElem?_cons_zero, List.getElem?_cons_succ, agg3, agg4, agg22, agg25, size3, size4, size22, size51, alloc51, fieldAddr24, fieldAddr51, bin_lss, bin_leq, bin_gtr, bin_geq, bin_eql, bin_neq, bin_neqb, un_not, List.getElem?_toArray, ne_eq, not_false_eq_true, evParts, build25, build26, ok5, ok6, ok7, ok8, ok9, ok10, ok13, ok14, ok15, ok16, ok17, ok19, ok20, ok34, ok35, ok36, ok37, ok38, ok39, ok44, ok45, ok60, load_same_agg, agg24, size24, evExtract, agg51, hlne, t3, t14, t17, t91, t92, t93, hc]
  refine (e_draw (bs := [0, 0, 0, 4, 14, 0, 0, 64, 254, 511, 1023, 2047]) (perm := [0, 1, 2, 3, 5, 6, 7, 4, 8, 9, 10, 11]) (planIs_eq (by decide +kernel))).2 ?_
  simp only [e_seq, e_skip, e_ret, e_exit, e_block, e_region, e_cond, condQ_true, condQ_false, seqK_normal, seqK_ret, seqK_exit, loopK_normal, loopK_ret, loopK_exit, drawK_eq, blockQ_normal, blockQ_ret, blockQ_same, blockQ_other, steps_cons, steps_done, fits_some, blt_lt, pre_plain, pre_guardQ, guardV_some, guardQ_tt, guardQ_ff, guardQ_tf, guardQ_ft, guardQ_skip, List.getElem?_toArray, List.getElem?_cons_zero, List.getElem?_cons_succ, fits_none, evOp, evCall, evOpds, evBuiltin, opd_tmp, opd_int, opd_bool, opd_nil, ov_some, ove_some, oe_some, ose_some, after_val, after_skip, after_call, callQ_some, stepK_eq, opd_func,  putT_some, putT_none, effT_none, next_none, effT_new, effT_wr, effT_mv, next_new, next_wr, next_mv, Nat.reduceLT, Nat.reduceBEq, true_and, and_true, reduceIte, Nat.reduceEqDiff, eq_self, T.get_set, cond_true, cond_false, endR_ret, resQ_some, evResults, tup_one, tup_two, tup_three, fillT, d_step, drawAt_eq, afterD_some, d_nil, List.getD_cons_zero, List.getD_cons_succ, List.getElem?_toArray, List.getElem?_cons_succ, List.getElem?_cons_zero, looks_plain, looks_guard, Option.bind_some, Option.toList_some, Op.operands, Call.operands, tmpsOf, restrict, idsOf, addrOf, memN, load_pre, store_pre, delAll, List.append_nil, beq_selfN, beqD, T.get_lf, Bool.not_false, Bool.not_true, decide_true, decide_false, drawOut_eq, drawOut_val, drawOut_skip, drawOut_call, drawCall_some, drawCall2_call, callD_eq, stayed, putBack, Array.toList_append, List.append_toArray, List.map_cons, List.map_nil, okSimple, hides, wOf, disj, tmpsApart, List.append_nil, List.nil_append, List.cons_append, Nat.testBit, Nat.reduceShiftRight, Nat.reduceAnd, Nat.reduceBNe, Option.isNone_none, Option.isNone_some, Bool.and_self, Bool.and_true, Bool.true_and, Nat.reduceAdd, load_same, load_ne, store_same, store_ne, AV.cells, allOne, one_int, one_bool, one_ptr, one_nil, one_slice, List.length_cons, List.length_nil, Nat.zero_add, Nat.reduceAdd, beqD, bleD, Nat.reduceLeDiff, Nat.le_refl, decide_true, decide_false, Bool.and_self, Bool.and_true, Bool.true_and, List.take_zero, List.take_succ_cons, List.drop_succ_cons, List.drop_zero, List.nil_append, List.append_nil, List.cons_append, List.getElem?_cons_zero, List.getElem?_cons_succ, agg3, agg4, agg22, agg25, size3, size4, size22, size51, alloc51, fieldAddr24, fieldAddr51, bin_lss, bin_leq, bin_gtr, bin_geq, bin_eql, bin_neq, bin_neqb, un_not, List.getElem?_toArray, ne_eq, not_false_eq_true, evParts, build25, build26, ok5, ok6, ok7, ok8, ok9, ok10, ok13, ok14, ok15, ok16, ok17, ok19, ok20, ok34, ok35, ok36, ok37, ok38, ok39, ok44, ok45, ok60, load_same_agg, agg24, size24, evExtract, agg51, t3, t14, t17, t91, t92, t93, f5, f6, q6, q7, hok, has, hw, hc1, hn, hso]
  have hrow := row_arr (n := m4) (c := some S.next.length) (show m3 < m4 by omega) hl
  have hbs : (List.range S.next.length).map f = (stepB S state bits).1 := by
    apply List.ext_getElem?
    intro j
    by_cases hj : j < S.next.length
    · obtain ⟨b, hb'⟩ : ∃ b, (stepB S state bits).1[j]? = some b := ⟨_, List.getElem?_eq_getElem (by simp [stepB]; exact hj)⟩
      rw [hb', List.getElem?_map, List.getElem?_range hj, Option.map_some, hfj j b hj hb']
    · rw [List.getElem?_eq_none (by simp; omega), List.getElem?_eq_none (by simp [stepB]; omega)]
  rw [hbs] at hrow
  exact ⟨⟨_, rfl, hrow.old (Old.refl _ _) (by omega), fun id o l c s e => by cases e; omega⟩, ho, by omega⟩
end Go.Ev
