/- PART OF THE PROOF OF KindBudget's CARD. Whether a run is bad, and the trace of a state, evaluated for all data; the search's plain law. -/
import Derived.Test.YtkbdclogklaeaaaGreatDoorKF
set_option linter.unusedSimpArgs false
set_option linter.unusedVariables false

set_option linter.unusedSimpArgs false
set_option linter.unusedVariables false
set_option maxRecDepth 20000
namespace Go.Ev
open Go Proofs

/-- A slice of slices of numbers. -/
structure Rows (n0 n : Nat) (g : T AObj) (tv : AV) (tr : List (List Int)) : Prop where
  len : lenIs tv tr.length
  at' : ∀ (i : Nat) l, tr[i]? = some l → ∃ a id o, evIndexAddr Tryz.prog 31 tv (.int .i64 (i : Int)) = some (.ptr id o) ∧ id < n ∧ evLoad Tryz.prog g.get 25 (.ptr id o) = some a ∧ Row n g a 1 l.length (ints l) ∧ n0 ≤ id ∧ ∀ i o l c s, a = .slice i o l c s → n0 ≤ i

theorem load_old {P : Program} {n : Nat} {g g' : T AObj} {id o : Nat} {t : TypeId} (ho : Old n g g') (h : id < n) : evLoad P g'.get t (.ptr id o) = evLoad P g.get t (.ptr id o) := by
  simp only [evLoad, ho id h]
theorem Rows.old {n0 n n' : Nat} {g g' : T AObj} {tv : AV} {tr : List (List Int)} (h : Rows n0 n g tv tr) (ho : Old n g g') (hn : n ≤ n') : Rows n0 n' g' tv tr :=
  ⟨h.len, fun i l hl => by
    obtain ⟨a, id, o, h1, h2, h3, h4, h5⟩ := h.at' i l hl
    exact ⟨a, id, o, h1, by omega, by rw [load_old ho h2]; exact h3, h4.old ho hn, h5⟩⟩
theorem Row.keep {n n' : Nat} {g g' : T AObj} {v : AV} {sz len : Nat} {cs : List AV} (h : Row n g v sz len cs) (hk : ∀ id o l c s, v = .slice id o l c s → g'.get id = g.get id) (hn : n ≤ n') : Row n' g' v sz len cs := by
  rcases h with h | ⟨id, off, cap, data, h1, h2, h3, h4⟩
  · exact .inl h
  · exact .inr ⟨id, off, cap, data, h1, by omega, by rw [hk _ _ _ _ _ h1]; exact h3, h4⟩
theorem Rows.set {n0 n m : Nat} {g : T AObj} {tv : AV} {tr : List (List Int)} {o : AObj} (h : Rows n0 n g tv tr) (hm : m < n0) : Rows n0 n (T.set o g m) tv tr :=
  ⟨h.len, fun i l hl => by
    obtain ⟨a, id, o', h1, h2, h3, h4, h5, h6⟩ := h.at' i l hl
    refine ⟨a, id, o', h1, h2, by rw [load_ne (by omega)]; exact h3, h4.keep (fun id' o l c s e => ?_) (Nat.le_refl _), h5, h6⟩
    have := h6 _ _ _ _ _ e
    rw [T.get_set, if_neg (by omega)]⟩

/-- A run by inputs' numbers: is its last tick the first bad one? -/
def badRun (S : Sys) : List Bool → List Nat → Bool
  | _, [] => false
  | st, [k] => (stepB S st (bitsB k S.ins.length)).2.2 && !(stepB S st (bitsB k S.ins.length)).2.1
  | st, k :: k2 :: r => (stepB S st (bitsB k S.ins.length)).2.2 && badRun S (stepB S st (bitsB k S.ins.length)).1 (k2 :: r)

theorem bin_pred (P : Program) (t : TypeId) (i : Nat) (h : i < 4611686018427387904) : evBin P .sub t (.int .i64 (i : Int)) (.int .i64 1) = some (.int .i64 ((i : Int) - 1)) := by
  have : IntKind.i64.wrap ((i : Int) - 1) = (i : Int) - 1 := IntWalk.i64_in _ (by omega)
  show some (AV.int .i64 (IntKind.i64.wrap ((i : Int) - 1))) = _
  rw [this]

set_option maxHeartbeats 8000000 in
theorem bad_gives {fuel d : Nat} {g : T AObj} {n n0 : Nat} {v : SysV} {S : Sys} {tv : AV} {ks : List Nat} (hS : GoodSys S) (hv : SysAt n g v S) (ht : Rows n0 n g tv (ks.map fun k => bitsI k S.ins.length))
    (hf : 1100 < fuel) (hg : S.gs.length ≤ 400) (hnl : S.now.length ≤ 8) (hil : S.ins.length ≤ 3) (hk : ks.length ≤ 1000) :
    Gives Tryz.prog fuel (d + 4) 10 [v.av S, tv] g n (fun x g' n' => x = .bool (badRun S S.init ks) ∧ Old n g g' ∧ n ≤ n') := by
  refine gives_ends 85 [.tmp 4] Tryz.func10 rfl rfl rfl ?_
  have hlt := fun (G : AHeap) => len_run (g := G) Tryz.underlying31 ht.len
  rw [List.length_map] at hlt
  have hlin := hv.ins.evLen Tryz.underlying25 (P := Tryz.prog)
  have hbox := box_sys (m := n) hv
  have f3 := fieldAddr28 n 3 (by omega)
  have f4 := fieldAddr28 n 4 (by omega)
  obtain ⟨q1, q2, q3, q4, q5, q6, q7, q8, q9⟩ := sys_load (g := (T.set (.cells 7 (v.cells S)) g n).get) (id := n) (v := v) (S := S) (by rw [T.get_set, if_pos rfl])
  have o1 : Old n g (T.set (.cells 7 (v.cells S)) g n) := (Old.refl _ _).set (Nat.le_refl _) _
  simp only [SysV.av]
  simp only [e_seq, e_skip, e_ret, e_exit, e_block, e_region, e_cond, condQ_true, condQ_false, seqK_normal, seqK_ret, seqK_exit, loopK_normal, loopK_ret, loopK_exit, drawK_eq, blockQ_normal, blockQ_ret, blockQ_same, blockQ_other, steps_cons, steps_done, fits_some, blt_lt, pre_plain, pre_guardQ, guardV_some, guardQ_tt, guardQ_ff, guardQ_tf, guardQ_ft, guardQ_skip, List.getElem?_toArray, List.getElem?_cons_zero, List.getElem?_cons_succ, fits_none, evOp, evCall, evOpds, evBuiltin, opd_tmp, opd_int, opd_bool, opd_nil, ov_some, ove_some, oe_some, ose_some, after_val, after_skip, after_call, callQ_some, stepK_eq, opd_func,  putT_some, putT_none, effT_none, next_none, effT_new, effT_wr, effT_mv, next_new, next_wr, next_mv, Nat.reduceLT, Nat.reduceBEq, true_and, and_true, reduceIte, Nat.reduceEqDiff, eq_self, T.get_set, cond_true, cond_false, endR_ret, resQ_some, evResults, tup_one, tup_two, tup_three, fillT, load_same, load_ne, store_same, store_ne, AV.cells, allOne, one_int, one_bool, one_ptr, one_nil, one_slice, List.length_cons, List.length_nil, Nat.zero_add, Nat.reduceAdd, beqD, bleD, Nat.reduceLeDiff, Nat.le_refl, decide_true, decide_false, Bool.and_self, Bool.and_true, Bool.true_and, List.take_zero, List.take_succ_cons, List.drop_succ_cons, List.drop_zero, List.nil_append, List.append_nil, List.cons_append, List.getElem?_cons_zero, List.getElem?_cons_succ, agg3, agg4, agg22, agg25, size3, size4, size22, size51, alloc51, fieldAddr24, fieldAddr51, bin_lss, bin_leq, bin_gtr, bin_geq, bin_eql, bin_neq, bin_neqb, un_not, List.getElem?_toArray, ne_eq, not_false_eq_true, evParts, build25, build26, ok5, ok6, ok7, ok8, ok9, ok10, ok13, ok14, ok15, ok16, ok17, ok19, ok20, ok34, ok35, ok36, ok37, ok38, ok39, ok44, ok45, ok60, load_same_agg, agg24, size24, evExtract, agg51, hbox, f4, q5]
  refine e_loop (fun k s => ∃ i m : Nat, ∃ tm : T AV, ∃ h : T AObj, ∃ sv : AV, ∃ st : List Bool, s = ⟨tm, h, m, []⟩ ∧ i + k = ks.length ∧ n + 1 ≤ m ∧ Old n g h ∧ h.get n = some (.cells 7 (v.cells S)) ∧ Row m h sv 1 st.length (bools st) ∧ st.length = S.now.length ∧ badRun S st (ks.drop i) = badRun S S.init ks ∧
    tm.get 1 = some tv ∧ tm.get 2 = some (.ptr n 0) ∧ tm.get 5 = some sv ∧ tm.get 6 = some (.int .i64 (i : Int))) ks.length (by omega) ?_ ?_
  · refine ⟨0, n + 1, _, _, v.init, S.init, rfl, by omega, by omega, o1, by rw [T.get_set, if_pos rfl], hv.init.old o1 (by omega), hS.init, by simp, ?_, ?_, ?_, ?_⟩ <;> simp [T.get_set]
  clear q1 q2 q3 q4 q5 q6 q7 q8 q9
  rintro k _ ⟨i, m, tm, h, sv, st, rfl, hik, hm, ho, hn, hst, hsl, hrun, t1, t2, t5, t6⟩
  by_cases hlt2 : i < ks.length
  · have hc : (i : Int) < (ks.length : Int) := by omega
    obtain ⟨q1, q2, q3, q4, q5, q6, q7, q8, q9⟩ := sys_load hn
    obtain ⟨kk, hkk⟩ : ∃ k, ks[i]? = some k := ⟨_, List.getElem?_eq_getElem hlt2⟩
    have hrow : (ks.map fun k => bitsI k S.ins.length)[i]? = some (bitsI kk S.ins.length) := by simp [hkk]
    obtain ⟨a, ia, oa, a1, a2, a3, a4, _⟩ := (ht.old (n' := m) ho (by omega)).at' i _ hrow
    rw [bitsI_length] at a4
    have hla := a4.evLen Tryz.underlying25 (P := Tryz.prog)
    simp only [e_seq, e_skip, e_ret, e_exit, e_block, e_region, e_cond, condQ_true, condQ_false, seqK_normal, seqK_ret, seqK_exit, loopK_normal, loopK_ret, loopK_exit, drawK_eq, blockQ_normal, blockQ_ret, blockQ_same, blockQ_other, steps_cons, steps_done, fits_some, blt_lt, pre_plain, pre_guardQ, guardV_some, guardQ_tt, guardQ_ff, guardQ_tf, guardQ_ft, guardQ_skip, List.getElem?_toArray, List.getElem?_cons_zero, List.getElem?_cons_succ, fits_none, evOp, evCall, evOpds, evBuiltin, opd_tmp, opd_int, opd_bool, opd_nil, ov_some, ove_some, oe_some, ose_some, after_val, after_skip, after_call, callQ_some, stepK_eq, opd_func,  putT_some, putT_none, effT_none, next_none, effT_new, effT_wr, effT_mv, next_new, next_wr, next_mv, Nat.reduceLT, Nat.reduceBEq, true_and, and_true, reduceIte, Nat.reduceEqDiff, eq_self, T.get_set, cond_true, cond_false, endR_ret, resQ_some, evResults, tup_one, tup_two, tup_three, fillT, load_same, load_ne, store_same, store_ne, AV.cells, allOne, one_int, one_bool, one_ptr, one_nil, one_slice, List.length_cons, List.length_nil, Nat.zero_add, Nat.reduceAdd, beqD, bleD, Nat.reduceLeDiff, Nat.le_refl, decide_true, decide_false, Bool.and_self, Bool.and_true, Bool.true_and, List.take_zero, List.take_succ_cons, List.drop_succ_cons, List.drop_zero, List.nil_append, List.append_nil, List.cons_append, List.getElem?_cons_zero, List.getElem?_cons_succ, agg3, agg4, agg22, agg25, size3, size4, size22, size51, alloc51, fieldAddr24, fieldAddr51, bin_lss, bin_leq, bin_gtr, bin_geq, bin_eql, bin_neq, bin_neqb, un_not, List.getElem?_toArray, ne_eq, not_false_eq_true, evParts, build25, build26, ok5, ok6, ok7, ok8, ok9, ok10, ok13, ok14, ok15, ok16, ok17, ok19, ok20, ok34, ok35, ok36, ok37, ok38, ok39, ok44, ok45, ok60, load_same_agg, agg24, size24, evExtract, agg51, t1, t2, t5, t6, hlt, hc]
    refine (e_draw (bs := [0, 0, 3, 7, 15, 0, 32, 96, 255]) (perm := [0, 1, 2, 3, 4, 5, 6, 7, 8]) (planIs_eq (by decide +kernel))).2 ?_
    simp only [e_seq, e_skip, e_ret, e_exit, e_block, e_region, e_cond, condQ_true, condQ_false, seqK_normal, seqK_ret, seqK_exit, loopK_normal, loopK_ret, loopK_exit, drawK_eq, blockQ_normal, blockQ_ret, blockQ_same, blockQ_other, steps_cons, steps_done, fits_some, blt_lt, pre_plain, pre_guardQ, guardV_some, guardQ_tt, guardQ_ff, guardQ_tf, guardQ_ft, guardQ_skip, List.getElem?_toArray, List.getElem?_cons_zero, List.getElem?_cons_succ, fits_none, evOp, evCall, evOpds, evBuiltin, opd_tmp, opd_int, opd_bool, opd_nil, ov_some, ove_some, oe_some, ose_some, after_val, after_skip, after_call, callQ_some, stepK_eq, opd_func,  putT_some, putT_none, effT_none, next_none, effT_new, effT_wr, effT_mv, next_new, next_wr, next_mv, Nat.reduceLT, Nat.reduceBEq, true_and, and_true, reduceIte, Nat.reduceEqDiff, eq_self, T.get_set, cond_true, cond_false, endR_ret, resQ_some, evResults, tup_one, tup_two, tup_three, fillT, d_step, drawAt_eq, afterD_some, d_nil, List.getD_cons_zero, List.getD_cons_succ, List.getElem?_toArray, List.getElem?_cons_succ, List.getElem?_cons_zero, looks_plain, looks_guard, Option.bind_some, Option.toList_some, Op.operands, Call.operands, tmpsOf, restrict, idsOf_cons, idsOf_nil, idsT_some, idsV_ptr, idsV_slice, idsV_map, idsV_nil, idsV_int, idsV_bool, idsV_agg, idsV_tuple, idsV_func, addrOf, memN, load_pre, store_pre, delAll, List.append_nil, beq_selfN, beqD, T.get_lf, Bool.not_false, Bool.not_true, decide_true, decide_false, drawOut_eq, drawOut_val, drawOut_skip, drawOut_call, drawCall_some, drawCall2_call, callD_eq, stayed, putBack, Array.toList_append, List.append_toArray, List.map_cons, List.map_nil, okSimple, hides, wOf, disj, disj_one, memN_app, eq_add_pos, add_pos_eq, Bool.or_false, Bool.false_or, Bool.or_true, Bool.or_self, tmpsApart, List.append_nil, List.nil_append, List.cons_append, Nat.testBit, Nat.reduceShiftRight, Nat.reduceAnd, Nat.reduceBNe, Option.isNone_none, Option.isNone_some, Bool.and_self, Bool.and_true, Bool.true_and, Nat.reduceAdd, load_same, load_ne, store_same, store_ne, AV.cells, allOne, one_int, one_bool, one_ptr, one_nil, one_slice, List.length_cons, List.length_nil, Nat.zero_add, Nat.reduceAdd, beqD, bleD, Nat.reduceLeDiff, Nat.le_refl, decide_true, decide_false, Bool.and_self, Bool.and_true, Bool.true_and, List.take_zero, List.take_succ_cons, List.drop_succ_cons, List.drop_zero, List.nil_append, List.append_nil, List.cons_append, List.getElem?_cons_zero, List.getElem?_cons_succ, agg3, agg4, agg22, agg25, size3, size4, size22, size51, alloc51, fieldAddr24, fieldAddr51, bin_lss, bin_leq, bin_gtr, bin_geq, bin_eql, bin_neq, bin_neqb, un_not, List.getElem?_toArray, ne_eq, not_false_eq_true, evParts, build25, build26, ok5, ok6, ok7, ok8, ok9, ok10, ok13, ok14, ok15, ok16, ok17, ok19, ok20, ok34, ok35, ok36, ok37, ok38, ok39, ok44, ok45, ok60, load_same_agg, agg24, size24, evExtract, agg51, t1, t2, t5, t6, a1, a3, hla, f3, q4, hlin, bne_self_eq_false]
    clear q1 q2 q3 q4 q5 q6 q7 q8 q9
    refine e_loop (fun k' s => ∃ j m' : Nat, ∃ tm : T AV, ∃ h' : T AObj, ∃ lv : AV, s = ⟨tm, h', m', []⟩ ∧ j + k' = S.ins.length ∧ m ≤ m' ∧ Old m h h' ∧ Own m m' h' lv 1 j (bools (bitsB kk j)) ∧
      tm.get 1 = some tv ∧ tm.get 2 = some (.ptr n 0) ∧ tm.get 5 = some sv ∧ tm.get 6 = some (.int .i64 (i : Int)) ∧ tm.get 7 = some lv ∧ tm.get 8 = some (.int .i64 (j : Int))) S.ins.length (by omega) ?_ ?_
    · refine ⟨0, m + 9, _, h, .nilSlice, rfl, by omega, by omega, Old.refl _ _, Own.nil _ _ _ _, ?_, ?_, ?_, ?_, ?_, ?_⟩ <;> simp [T.get_set, t1, t2, t5, t6]
    clear t1 t2 t5 t6
    rintro k' _ ⟨j, m', tm, h', lv, rfl, hjk, hm', ho', hlv, t1, t2, t5, t6, t7, t8⟩
    have a3' : evLoad Tryz.prog h'.get 25 (.ptr ia oa) = some a := by rw [load_old ho' a2]; exact a3
    by_cases hj : j < S.ins.length
    · have hcj : (j : Int) < (S.ins.length : Int) := by omega
      have hbit : (bitsI kk S.ins.length)[j]? = some (bitI kk j) := by simp [bitsI, List.getElem?_range hj]
      obtain ⟨ib, ob, b1, b2, b3⟩ := (a4.old (n' := m') ho' (by omega)).num hj hbit .i64
      have hsj := bin_succ Tryz.prog 3 j (by omega)
      have hB : (bitI kk j == 1) = bitB kk j := by
        simp only [bitB, bitI]
        rcases Nat.mod_two_eq_zero_or_one (kk / 2 ^ j) with e | e <;> rw [e] <;> rfl
      have hk1 : Own m (m' + 1) (T.set (.cells 1 [.bool (bitB kk j)]) h' m') lv 1 j (bools (bitsB kk j)) := hlv.keep (by omega) fun i hi hi2 => by rw [T.get_set, if_neg (by omega)]
      obtain ⟨rd, ef, p1, p2, p3, p4, p5⟩ := app_own elem26 (xs := [.bool (bitB kk j)]) (mx := m') (k := 1) (off := 0) (cap := some 1) (data := [.bool (bitB kk j)]) hk1 (by simp [T.get_set]) (by simp) (by simp) (by omega) (by omega)
      have fin : ∀ (G : T AObj) (M : Nat) (tm : T AV), M = m' + 2 → (∀ i, i < m → G.get i = h.get i) → G.get (m' + 1) = some (.cells 1 (bools (bitsB kk j) ++ [.bool (bitB kk j)])) → tm.get 1 = some tv → tm.get 2 = some (.ptr n 0) → tm.get 5 = some sv → tm.get 6 = some (.int .i64 (i : Int)) → tm.get 7 = some (.slice (m' + 1) 0 (j + 1) none 1) → tm.get 8 = some (.int .i64 ((j + 1 : Nat) : Int)) →
          ∃ k'', k'' < k' ∧ ∃ j m' : Nat, ∃ tm' : T AV, ∃ h' : T AObj, ∃ lv : AV, (⟨tm, G, M, []⟩ : St) = ⟨tm', h', m', []⟩ ∧ j + k'' = S.ins.length ∧ m ≤ m' ∧ Old m h h' ∧ Own m m' h' lv 1 j (bools (bitsB kk j)) ∧
            tm'.get 1 = some tv ∧ tm'.get 2 = some (.ptr n 0) ∧ tm'.get 5 = some sv ∧ tm'.get 6 = some (.int .i64 (i : Int)) ∧ tm'.get 7 = some lv ∧ tm'.get 8 = some (.int .i64 (j : Int)) := by
        intro G M tm e1 e2 e3 e4 e5 e6 e7 e8 e9
        refine ⟨k' - 1, by omega, j + 1, M, tm, G, _, rfl, by omega, by omega, e2, ?_, e4, e5, e6, e7, e8, e9⟩
        rw [bitsB_succ, ← bools_snoc]; exact Own.fresh (by omega) (by omega) e3 p4
      have hold : ∀ i, i < m → (effT ef (T.set (.cells 1 [.bool (bitB kk j)]) h' m') (m' + 1)).get i = h.get i := fun i hi => by
        rw [p5 i (by omega) (hlv.notOf hi), T.get_set, if_neg (by omega)]; exact ho' i hi
      rcases bt (bitI kk j != 0) with z | z
      · have z1 : (bitI kk j != 1) = false := by
          simp only [bitI] at z ⊢
          rcases Nat.mod_two_eq_zero_or_one (kk / 2 ^ j) with e | e <;> rw [e] at z ⊢ <;> simp at z ⊢
        simp only [e_seq, e_skip, e_ret, e_exit, e_block, e_region, e_cond, condQ_true, condQ_false, seqK_normal, seqK_ret, seqK_exit, loopK_normal, loopK_ret, loopK_exit, drawK_eq, blockQ_normal, blockQ_ret, blockQ_same, blockQ_other, steps_cons, steps_done, fits_some, blt_lt, pre_plain, pre_guardQ, guardV_some, guardQ_tt, guardQ_ff, guardQ_tf, guardQ_ft, guardQ_skip, List.getElem?_toArray, List.getElem?_cons_zero, List.getElem?_cons_succ, fits_none, evOp, evCall, evOpds, evBuiltin, opd_tmp, opd_int, opd_bool, opd_nil, ov_some, ove_some, oe_some, ose_some, after_val, after_skip, after_call, callQ_some, stepK_eq, opd_func,  putT_some, putT_none, effT_none, next_none, effT_new, effT_wr, effT_mv, next_new, next_wr, next_mv, Nat.reduceLT, Nat.reduceBEq, true_and, and_true, reduceIte, Nat.reduceEqDiff, eq_self, T.get_set, cond_true, cond_false, endR_ret, resQ_some, evResults, tup_one, tup_two, tup_three, fillT, load_same, load_ne, store_same, store_ne, AV.cells, allOne, one_int, one_bool, one_ptr, one_nil, one_slice, List.length_cons, List.length_nil, Nat.zero_add, Nat.reduceAdd, beqD, bleD, Nat.reduceLeDiff, Nat.le_refl, decide_true, decide_false, Bool.and_self, Bool.and_true, Bool.true_and, List.take_zero, List.take_succ_cons, List.drop_succ_cons, List.drop_zero, List.nil_append, List.append_nil, List.cons_append, List.getElem?_cons_zero, List.getElem?_cons_succ, agg3, agg4, agg22, agg25, size3, size4, size22, size51, alloc51, fieldAddr24, fieldAddr51, bin_lss, bin_leq, bin_gtr, bin_geq, bin_eql, bin_neq, bin_neqb, un_not, List.getElem?_toArray, ne_eq, not_false_eq_true, evParts, build25, build26, ok5, ok6, ok7, ok8, ok9, ok10, ok13, ok14, ok15, ok16, ok17, ok19, ok20, ok34, ok35, ok36, ok37, ok38, ok39, ok44, ok45, ok60, load_same_agg, agg24, size24, evExtract, agg51, t1, t2, t5, t6, t7, t8, a1, a3', hla, hcj, b1, b3, z, z1, hB, p1, p2, hsj]
        refine fin _ _ _ rfl hold p3 ?_ ?_ ?_ ?_ ?_ ?_ <;> simp [T.get_set, t1, t2, t5, t6]
      · simp only [e_seq, e_skip, e_ret, e_exit, e_block, e_region, e_cond, condQ_true, condQ_false, seqK_normal, seqK_ret, seqK_exit, loopK_normal, loopK_ret, loopK_exit, drawK_eq, blockQ_normal, blockQ_ret, blockQ_same, blockQ_other, steps_cons, steps_done, fits_some, blt_lt, pre_plain, pre_guardQ, guardV_some, guardQ_tt, guardQ_ff, guardQ_tf, guardQ_ft, guardQ_skip, List.getElem?_toArray, List.getElem?_cons_zero, List.getElem?_cons_succ, fits_none, evOp, evCall, evOpds, evBuiltin, opd_tmp, opd_int, opd_bool, opd_nil, ov_some, ove_some, oe_some, ose_some, after_val, after_skip, after_call, callQ_some, stepK_eq, opd_func,  putT_some, putT_none, effT_none, next_none, effT_new, effT_wr, effT_mv, next_new, next_wr, next_mv, Nat.reduceLT, Nat.reduceBEq, true_and, and_true, reduceIte, Nat.reduceEqDiff, eq_self, T.get_set, cond_true, cond_false, endR_ret, resQ_some, evResults, tup_one, tup_two, tup_three, fillT, load_same, load_ne, store_same, store_ne, AV.cells, allOne, one_int, one_bool, one_ptr, one_nil, one_slice, List.length_cons, List.length_nil, Nat.zero_add, Nat.reduceAdd, beqD, bleD, Nat.reduceLeDiff, Nat.le_refl, decide_true, decide_false, Bool.and_self, Bool.and_true, Bool.true_and, List.take_zero, List.take_succ_cons, List.drop_succ_cons, List.drop_zero, List.nil_append, List.append_nil, List.cons_append, List.getElem?_cons_zero, List.getElem?_cons_succ, agg3, agg4, agg22, agg25, size3, size4, size22, size51, alloc51, fieldAddr24, fieldAddr51, bin_lss, bin_leq, bin_gtr, bin_geq, bin_eql, bin_neq, bin_neqb, un_not, List.getElem?_toArray, ne_eq, not_false_eq_true, evParts, build25, build26, ok5, ok6, ok7, ok8, ok9, ok10, ok13, ok14, ok15, ok16, ok17, ok19, ok20, ok34, ok35, ok36, ok37, ok38, ok39, ok44, ok45, ok60, load_same_agg, agg24, size24, evExtract, agg51, t1, t2, t5, t6, t7, t8, a1, a3', hla, hcj, b1, b3, z, hB, p1, p2, hsj]
        refine fin _ _ _ rfl hold p3 ?_ ?_ ?_ ?_ ?_ ?_ <;> simp [T.get_set, t1, t2, t5, t6]
    have hcj : ¬ (j : Int) < (S.ins.length : Int) := by omega
    obtain rfl : j = S.ins.length := by omega
    have HO : Old n g h' := ho.trans (by omega) ho'
    have hn' : h'.get n = some (.cells 7 (v.cells S)) := by rw [ho' n (by omega)]; exact hn
    obtain ⟨q1, q2, q3, q4, q5, q6, q7, q8, q9⟩ := sys_load hn'
    simp only [e_seq, e_skip, e_ret, e_exit, e_block, e_region, e_cond, condQ_true, condQ_false, seqK_normal, seqK_ret, seqK_exit, loopK_normal, loopK_ret, loopK_exit, drawK_eq, blockQ_normal, blockQ_ret, blockQ_same, blockQ_other, steps_cons, steps_done, fits_some, blt_lt, pre_plain, pre_guardQ, guardV_some, guardQ_tt, guardQ_ff, guardQ_tf, guardQ_ft, guardQ_skip, List.getElem?_toArray, List.getElem?_cons_zero, List.getElem?_cons_succ, fits_none, evOp, evCall, evOpds, evBuiltin, opd_tmp, opd_int, opd_bool, opd_nil, ov_some, ove_some, oe_some, ose_some, after_val, after_skip, after_call, callQ_some, stepK_eq, opd_func,  putT_some, putT_none, effT_none, next_none, effT_new, effT_wr, effT_mv, next_new, next_wr, next_mv, Nat.reduceLT, Nat.reduceBEq, true_and, and_true, reduceIte, Nat.reduceEqDiff, eq_self, T.get_set, cond_true, cond_false, endR_ret, resQ_some, evResults, tup_one, tup_two, tup_three, fillT, load_same, load_ne, store_same, store_ne, AV.cells, allOne, one_int, one_bool, one_ptr, one_nil, one_slice, List.length_cons, List.length_nil, Nat.zero_add, Nat.reduceAdd, beqD, bleD, Nat.reduceLeDiff, Nat.le_refl, decide_true, decide_false, Bool.and_self, Bool.and_true, Bool.true_and, List.take_zero, List.take_succ_cons, List.drop_succ_cons, List.drop_zero, List.nil_append, List.append_nil, List.cons_append, List.getElem?_cons_zero, List.getElem?_cons_succ, agg3, agg4, agg22, agg25, size3, size4, size22, size51, alloc51, fieldAddr24, fieldAddr51, bin_lss, bin_leq, bin_gtr, bin_geq, bin_eql, bin_neq, bin_neqb, un_not, List.getElem?_toArray, ne_eq, not_false_eq_true, evParts, build25, build26, ok5, ok6, ok7, ok8, ok9, ok10, ok13, ok14, ok15, ok16, ok17, ok19, ok20, ok34, ok35, ok36, ok37, ok38, ok39, ok44, ok45, ok60, load_same_agg, agg24, size24, evExtract, agg51, t1, t2, t5, t6, t7, t8, a1, a3', hla, hcj, q9]
    have hlr := hlv.row
    have hbl : (bitsB kk S.ins.length).length = S.ins.length := bitsB_length _ _
    rw [← hbl] at hlr
    simp only [hbl] at hlr
    refine callQ_gives (next_gives hS (hv.old (n' := m') HO (by omega)) (hst.old (n' := m') ho' (by omega)) (bits := bitsB kk S.ins.length) (by rw [hbl]; exact hlr) hsl hbl hf hg hnl hil) ?_
    rintro _ g5 n5 ⟨⟨ov, rfl, hov⟩, o5, l5⟩
    have O5 : Old n g g5 := HO.trans (by omega) o5
    have c5 : g5.get n = some (.cells 7 (v.cells S)) := by rw [o5 n (by omega)]; exact hn'
    have hdrop : ks.drop i = kk :: ks.drop (i + 1) := by
      have : ks[i] = kk := by rw [List.getElem?_eq_getElem hlt2] at hkk; exact Option.some.inj hkk
      rw [List.drop_eq_getElem_cons hlt2, this]
    have hp := bin_pred Tryz.prog 3 ks.length (by omega)
    have hsi := bin_succ Tryz.prog 3 i (by omega)
    rw [hdrop] at hrun
    rcases bt ((stepB S st (bitsB kk S.ins.length)).2.2) with za | za
    · rcases bt ((i : Int) == (ks.length : Int) - 1) with zl | zl
      · have hlast : ks.drop (i + 1) = [] := by
          have : (i : Int) = (ks.length : Int) - 1 := by simpa using zl
          exact List.drop_eq_nil_of_le (by omega)
        rw [hlast] at hrun
        simp only [e_seq, e_skip, e_ret, e_exit, e_block, e_region, e_cond, condQ_true, condQ_false, seqK_normal, seqK_ret, seqK_exit, loopK_normal, loopK_ret, loopK_exit, drawK_eq, blockQ_normal, blockQ_ret, blockQ_same, blockQ_other, steps_cons, steps_done, fits_some, blt_lt, pre_plain, pre_guardQ, guardV_some, guardQ_tt, guardQ_ff, guardQ_tf, guardQ_ft, guardQ_skip, List.getElem?_toArray, List.getElem?_cons_zero, List.getElem?_cons_succ, fits_none, evOp, evCall, evOpds, evBuiltin, opd_tmp, opd_int, opd_bool, opd_nil, ov_some, ove_some, oe_some, ose_some, after_val, after_skip, after_call, callQ_some, stepK_eq, opd_func,  putT_some, putT_none, effT_none, next_none, effT_new, effT_wr, effT_mv, next_new, next_wr, next_mv, Nat.reduceLT, Nat.reduceBEq, true_and, and_true, reduceIte, Nat.reduceEqDiff, eq_self, T.get_set, cond_true, cond_false, endR_ret, resQ_some, evResults, tup_one, tup_two, tup_three, fillT, load_same, load_ne, store_same, store_ne, AV.cells, allOne, one_int, one_bool, one_ptr, one_nil, one_slice, List.length_cons, List.length_nil, Nat.zero_add, Nat.reduceAdd, beqD, bleD, Nat.reduceLeDiff, Nat.le_refl, decide_true, decide_false, Bool.and_self, Bool.and_true, Bool.true_and, List.take_zero, List.take_succ_cons, List.drop_succ_cons, List.drop_zero, List.nil_append, List.append_nil, List.cons_append, List.getElem?_cons_zero, List.getElem?_cons_succ, agg3, agg4, agg22, agg25, size3, size4, size22, size51, alloc51, fieldAddr24, fieldAddr51, bin_lss, bin_leq, bin_gtr, bin_geq, bin_eql, bin_neq, bin_neqb, un_not, List.getElem?_toArray, ne_eq, not_false_eq_true, evParts, build25, build26, ok5, ok6, ok7, ok8, ok9, ok10, ok13, ok14, ok15, ok16, ok17, ok19, ok20, ok34, ok35, ok36, ok37, ok38, ok39, ok44, ok45, ok60, load_same_agg, agg24, size24, evExtract, agg51, t1, t2, t5, t6, t7, t8, za, zl, hlt, hp, Bool.not_true]
        refine ⟨?_, O5, by omega⟩
        rw [← hrun]; simp [badRun, za]
      · obtain ⟨k2, r, hr2⟩ : ∃ k2 r, ks.drop (i + 1) = k2 :: r := by
          cases hd : ks.drop (i + 1) with
          | nil =>
            have := List.drop_eq_nil_iff.1 hd
            have e : ((i : Int) == (ks.length : Int) - 1) = true := by simp; omega
            rw [e] at zl; cases zl
          | cons a b => exact ⟨a, b, rfl⟩
        simp only [e_seq, e_skip, e_ret, e_exit, e_block, e_region, e_cond, condQ_true, condQ_false, seqK_normal, seqK_ret, seqK_exit, loopK_normal, loopK_ret, loopK_exit, drawK_eq, blockQ_normal, blockQ_ret, blockQ_same, blockQ_other, steps_cons, steps_done, fits_some, blt_lt, pre_plain, pre_guardQ, guardV_some, guardQ_tt, guardQ_ff, guardQ_tf, guardQ_ft, guardQ_skip, List.getElem?_toArray, List.getElem?_cons_zero, List.getElem?_cons_succ, fits_none, evOp, evCall, evOpds, evBuiltin, opd_tmp, opd_int, opd_bool, opd_nil, ov_some, ove_some, oe_some, ose_some, after_val, after_skip, after_call, callQ_some, stepK_eq, opd_func,  putT_some, putT_none, effT_none, next_none, effT_new, effT_wr, effT_mv, next_new, next_wr, next_mv, Nat.reduceLT, Nat.reduceBEq, true_and, and_true, reduceIte, Nat.reduceEqDiff, eq_self, T.get_set, cond_true, cond_false, endR_ret, resQ_some, evResults, tup_one, tup_two, tup_three, fillT, load_same, load_ne, store_same, store_ne, AV.cells, allOne, one_int, one_bool, one_ptr, one_nil, one_slice, List.length_cons, List.length_nil, Nat.zero_add, Nat.reduceAdd, beqD, bleD, Nat.reduceLeDiff, Nat.le_refl, decide_true, decide_false, Bool.and_self, Bool.and_true, Bool.true_and, List.take_zero, List.take_succ_cons, List.drop_succ_cons, List.drop_zero, List.nil_append, List.append_nil, List.cons_append, List.getElem?_cons_zero, List.getElem?_cons_succ, agg3, agg4, agg22, agg25, size3, size4, size22, size51, alloc51, fieldAddr24, fieldAddr51, bin_lss, bin_leq, bin_gtr, bin_geq, bin_eql, bin_neq, bin_neqb, un_not, List.getElem?_toArray, ne_eq, not_false_eq_true, evParts, build25, build26, ok5, ok6, ok7, ok8, ok9, ok10, ok13, ok14, ok15, ok16, ok17, ok19, ok20, ok34, ok35, ok36, ok37, ok38, ok39, ok44, ok45, ok60, load_same_agg, agg24, size24, evExtract, agg51, t1, t2, t5, t6, t7, t8, za, zl, hlt, hp, Bool.not_true, hsi]
        refine ⟨k - 1, by omega, i + 1, _, _, _, ov, (stepB S st (bitsB kk S.ins.length)).1, rfl, by omega, by omega, O5, c5, ?_, ?_, ?_, ?_, ?_, ?_, ?_⟩
        · have e : (stepB S st (bitsB kk S.ins.length)).1.length = S.next.length := by simp [stepB]
          rw [e]; exact hov.row
        · simp [stepB, hS.next]
        · rw [hr2] at hrun ⊢
          rw [← hrun]; simp [badRun, za]
        all_goals simp [T.get_set, t1, t2]
    · simp only [e_seq, e_skip, e_ret, e_exit, e_block, e_region, e_cond, condQ_true, condQ_false, seqK_normal, seqK_ret, seqK_exit, loopK_normal, loopK_ret, loopK_exit, drawK_eq, blockQ_normal, blockQ_ret, blockQ_same, blockQ_other, steps_cons, steps_done, fits_some, blt_lt, pre_plain, pre_guardQ, guardV_some, guardQ_tt, guardQ_ff, guardQ_tf, guardQ_ft, guardQ_skip, List.getElem?_toArray, List.getElem?_cons_zero, List.getElem?_cons_succ, fits_none, evOp, evCall, evOpds, evBuiltin, opd_tmp, opd_int, opd_bool, opd_nil, ov_some, ove_some, oe_some, ose_some, after_val, after_skip, after_call, callQ_some, stepK_eq, opd_func,  putT_some, putT_none, effT_none, next_none, effT_new, effT_wr, effT_mv, next_new, next_wr, next_mv, Nat.reduceLT, Nat.reduceBEq, true_and, and_true, reduceIte, Nat.reduceEqDiff, eq_self, T.get_set, cond_true, cond_false, endR_ret, resQ_some, evResults, tup_one, tup_two, tup_three, fillT, load_same, load_ne, store_same, store_ne, AV.cells, allOne, one_int, one_bool, one_ptr, one_nil, one_slice, List.length_cons, List.length_nil, Nat.zero_add, Nat.reduceAdd, beqD, bleD, Nat.reduceLeDiff, Nat.le_refl, decide_true, decide_false, Bool.and_self, Bool.and_true, Bool.true_and, List.take_zero, List.take_succ_cons, List.drop_succ_cons, List.drop_zero, List.nil_append, List.append_nil, List.cons_append, List.getElem?_cons_zero, List.getElem?_cons_succ, agg3, agg4, agg22, agg25, size3, size4, size22, size51, alloc51, fieldAddr24, fieldAddr51, bin_lss, bin_leq, bin_gtr, bin_geq, bin_eql, bin_neq, bin_neqb, un_not, List.getElem?_toArray, ne_eq, not_false_eq_true, evParts, build25, build26, ok5, ok6, ok7, ok8, ok9, ok10, ok13, ok14, ok15, ok16, ok17, ok19, ok20, ok34, ok35, ok36, ok37, ok38, ok39, ok44, ok45, ok60, load_same_agg, agg24, size24, evExtract, agg51, t1, t2, t5, t6, t7, t8, za, Bool.not_false]
      refine ⟨?_, O5, by omega⟩
      rw [← hrun]
      cases ks.drop (i + 1) with
      | nil => simp [badRun, za]
      | cons a b => simp [badRun, za]
  have hc : ¬ (i : Int) < (ks.length : Int) := by omega
  simp only [e_seq, e_skip, e_ret, e_exit, e_block, e_region, e_cond, condQ_true, condQ_false, seqK_normal, seqK_ret, seqK_exit, loopK_normal, loopK_ret, loopK_exit, drawK_eq, blockQ_normal, blockQ_ret, blockQ_same, blockQ_other, steps_cons, steps_done, fits_some, blt_lt, pre_plain, pre_guardQ, guardV_some, guardQ_tt, guardQ_ff, guardQ_tf, guardQ_ft, guardQ_skip, List.getElem?_toArray, List.getElem?_cons_zero, List.getElem?_cons_succ, fits_none, evOp, evCall, evOpds, evBuiltin, opd_tmp, opd_int, opd_bool, opd_nil, ov_some, ove_some, oe_some, ose_some, after_val, after_skip, after_call, callQ_some, stepK_eq, opd_func,  putT_some, putT_none, effT_none, next_none, effT_new, effT_wr, effT_mv, next_new, next_wr, next_mv, Nat.reduceLT, Nat.reduceBEq, true_and, and_true, reduceIte, Nat.reduceEqDiff, eq_self, T.get_set, cond_true, cond_false, endR_ret, resQ_some, evResults, tup_one, tup_two, tup_three, fillT, load_same, load_ne, store_same, store_ne, AV.cells, allOne, one_int, one_bool, one_ptr, one_nil, one_slice, List.length_cons, List.length_nil, Nat.zero_add, Nat.reduceAdd, beqD, bleD, Nat.reduceLeDiff, Nat.le_refl, decide_true, decide_false, Bool.and_self, Bool.and_true, Bool.true_and, List.take_zero, List.take_succ_cons, List.drop_succ_cons, List.drop_zero, List.nil_append, List.append_nil, List.cons_append, List.getElem?_cons_zero, List.getElem?_cons_succ, agg3, agg4, agg22, agg25, size3, size4, size22, size51, alloc51, fieldAddr24, fieldAddr51, bin_lss, bin_leq, bin_gtr, bin_geq, bin_eql, bin_neq, bin_neqb, un_not, List.getElem?_toArray, ne_eq, not_false_eq_true, evParts, build25, build26, ok5, ok6, ok7, ok8, ok9, ok10, ok13, ok14, ok15, ok16, ok17, ok19, ok20, ok34, ok35, ok36, ok37, ok38, ok39, ok44, ok45, ok60, load_same_agg, agg24, size24, evExtract, agg51, t1, t2, t5, t6, hlt, hc]
  refine ⟨?_, ho, by omega⟩
  rw [← hrun, List.drop_eq_nil_of_le (by omega)]
  simp [badRun]
end Go.Ev

set_option linter.unusedSimpArgs false
set_option linter.unusedVariables false
set_option maxRecDepth 20000
namespace Go.Ev
open Go Proofs

structure Visit where
  st : List Bool
  frm : Int
  inp : Nat
  tick : Nat

/-- The states that were come to, in memory. -/
structure Vis (n : Nat) (g : T AObj) (lv : AV) (L : List Visit) : Prop where
  len : lenIs lv L.length
  at' : ∀ (j : Nat) x, L[j]? = some x → ∃ a id o, evIndexAddr Tryz.prog 100 lv (.int .i64 (j : Int)) = some (.ptr id o) ∧ id < n ∧ evLoad Tryz.prog g.get 26 (.ptr id (o + 0)) = some a ∧ evLoad Tryz.prog g.get 3 (.ptr id (o + 1)) = some (.int .i64 x.frm) ∧
    evLoad Tryz.prog g.get 3 (.ptr id (o + 2)) = some (.int .i64 (x.inp : Int)) ∧ evLoad Tryz.prog g.get 3 (.ptr id (o + 3)) = some (.int .i64 (x.tick : Int)) ∧ evLoad Tryz.prog g.get 99 (.ptr id o) = some (.agg [a, .int .i64 x.frm, .int .i64 (x.inp : Int), .int .i64 (x.tick : Int)]) ∧ Row n g a 1 x.st.length (bools x.st)
theorem Vis.old {n n' : Nat} {g g' : T AObj} {lv : AV} {L : List Visit} (h : Vis n g lv L) (ho : Old n g g') (hn : n ≤ n') : Vis n' g' lv L :=
  ⟨h.len, fun j x hx => by
    obtain ⟨a, id, o, h1, h2, h3, h4, h5, h6, h7, h8⟩ := h.at' j x hx
    exact ⟨a, id, o, h1, by omega, by rw [load_old ho h2]; exact h3, by rw [load_old ho h2]; exact h4, by rw [load_old ho h2]; exact h5, by rw [load_old ho h2]; exact h6, by rw [load_old ho h2]; exact h7, h8.old ho hn⟩⟩

theorem size99 : sizeT Tryz.prog 99 = some 4 := by decide +kernel
theorem agg99 : aggT Tryz.prog 99 = some true := by decide +kernel
theorem size100 : sizeT Tryz.prog 100 = some 1 := by decide +kernel
theorem fieldAddr99 (id o i : Nat) (h : i < 4) : evFieldAddr Tryz.prog 99 (.ptr id o) i = some (.ptr id (o + i)) := by
  have : i = 0 ∨ i = 1 ∨ i = 2 ∨ i = 3 := by omega
  rcases this with rfl | rfl | rfl | rfl <;> simp [evFieldAddr, Tryz.underlying99, size3, size26, Nat.beq]

/-- Each comes from one before it. -/
def FromOk (L : List Visit) : Prop := ∀ (j : Nat) x, L[j]? = some x → x.frm < (j : Int)

/-- The inputs' numbers by which a state was come to, the last one first. -/
def backs (L : List Visit) : Nat → Nat → List Nat
  | 0, _ => []
  | f + 1, j => match L[j]? with
    | some x => if 0 ≤ x.frm then x.inp :: backs L f x.frm.toNat else []
    | none => []
theorem backs_more {L : List Visit} (hL : FromOk L) : ∀ {f f' j : Nat}, j < f → j < f' → backs L f j = backs L f' j
  | 0, _, _, h, _ => by omega
  | _, 0, _, _, h => by omega
  | f + 1, f' + 1, j, h1, h2 => by
    simp only [backs]
    cases hx : L[j]? with
    | none => rfl
    | some x =>
      have := hL j x hx
      simp only []
      split
      · rw [backs_more hL (f := f) (f' := f') (by omega) (by omega)]
      · rfl
def backOf (L : List Visit) (j : Nat) : List Nat := backs L (j + 1) j
theorem backOf_step {L : List Visit} (hL : FromOk L) {j : Nat} {x : Visit} (hx : L[j]? = some x) (h0 : 0 ≤ x.frm) : backOf L j = x.inp :: backOf L x.frm.toNat := by
  have := hL j x hx
  rw [backOf, backs, hx]
  simp only [if_pos h0]
  rw [backOf, backs_more hL (f := j) (f' := x.frm.toNat + 1) (by omega) (by omega)]
theorem backOf_stop {L : List Visit} {j : Nat} {x : Visit} (hx : L[j]? = some x) (h0 : ¬ 0 ≤ x.frm) : backOf L j = [] := by
  rw [backOf, backs, hx]; simp only [if_neg h0]
theorem backOf_len {L : List Visit} (hL : FromOk L) : ∀ {f j : Nat}, j < f → (backOf L j).length ≤ j
  | 0, _, h => by omega
  | f + 1, j, h => by
    cases hx : L[j]? with
    | none => simp [backOf, backs, hx]
    | some x =>
      have h1 := hL j x hx
      by_cases h0 : 0 ≤ x.frm
      · rw [backOf_step hL hx h0]
        have := backOf_len hL (f := f) (j := x.frm.toNat) (by omega)
        simp; omega
      · rw [backOf_stop hx h0]; simp

theorem Row.at2 {n : Nat} {g : T AObj} {v : AV} {sz len : Nat} {cs : List AV} (h : Row n g v sz len cs) {i : Nat} (hi : i < len) {P : Program} {t e : TypeId} (ht : P.underlying t = some (.slice e)) (hs : sizeT P e = some sz) (k : IntKind) :
    ∃ id o data, evIndexAddr P t v (.int k (i : Int)) = some (.ptr id o) ∧ id < n ∧ Rd (g.get id) sz data ∧ (∀ j x, j < sz → cs[i * sz + j]? = some x → data[o + j]? = some x) ∧ ∃ o c, v = .slice id o len c sz := by
  rcases h with ⟨_, h, _⟩ | ⟨id, off, cap, data, h1, h2, h3, h4, h5⟩
  · omega
  · refine ⟨id, (off + i) * sz, data, ?_, h2, h3, fun j x _ hx => ?_, off, cap, h1⟩
    · rw [h1]
      have : (i : Int) < (len : Int) := by omega
      simp only [evIndexAddr, ht, hs, Nat.beq_refl, Int.natCast_nonneg, decide_true, this, Bool.and_self, cond_true, Int.toNat_natCast]
    · have := h5.1 _ _ hx
      rw [← this]; congr 1; rw [Nat.add_mul]; omega
theorem Row.id_lt {n : Nat} {g : T AObj} {v : AV} {sz len : Nat} {cs : List AV} (h : Row n g v sz len cs) {id o l : Nat} {c : Option Nat} {s : Nat} (e : v = .slice id o l c s) : id < n := by
  rcases h with ⟨h, _⟩ | ⟨id', off, cap, data, h1, h2, _⟩
  · rw [h] at e; cases e
  · rw [h1] at e; cases e; exact h2

def natInts (l : List Nat) : List Int := l.map fun k : Nat => (k : Int)
theorem len_cells {v : AV} {k : Nat} (hv : lenIs v k) : v.cells = [v] := by
  rcases hv with ⟨rfl, rfl⟩ | ⟨id, off, cap, sz, rfl⟩ <;> rfl
theorem build31_1 (n : Nat) {x : AV} (h1 : x.one = true) (hc : x.cells = [x]) : evBuildSlice Tryz.prog n 31 1 [(0, x)] = some (.slice n 0 1 (some 1) 1, .new (.cells 1 [x])) := build_1 elem31 n h1 hc

set_option maxHeartbeats 8000000 in
theorem trace_gives {fuel d : Nat} {g : T AObj} {n id : Nat} {v : SysV} {S : Sys} {bud lv : AV} {L : List Visit} {at0 k0 : Nat} (hv : SysAt n g v S) (hid : id < n) (hgc : g.get id = some (.cells 8 (v.cells S ++ [bud]))) (hL : Vis n g lv L) (hF : FromOk L)
    (hat : at0 < L.length) (hk : k0 < 8) (hin : ∀ x ∈ L, x.inp < 8) (hf : 1100 < fuel) (hll : L.length ≤ 300) (hil : S.ins.length ≤ 3) :
    Gives Tryz.prog fuel (d + 2) 39 [.ptr id 0, lv, .int .i64 (at0 : Int), .int .i64 (k0 : Int)] g n (fun x g' n' => Rows n n' g' x ((k0 :: backOf L at0).reverse.map fun k => bitsI k S.ins.length) ∧ Old n g g' ∧ n ≤ n') := by
  refine gives_ends 60 [.tmp 8] Tryz.func39 rfl rfl rfl ?_
  have hlen := hL.len
  obtain ⟨rd0, ef0, p1, p2, p3, p4, p5⟩ := app_own elem25 (n0 := n) (n := n + 1) (g := T.set (.cells 1 [.int .i64 (k0 : Int)]) g n) (v := .nilSlice) (len := 0) (cs := []) (xs := [.int .i64 (k0 : Int)]) (mx := n) (k := 1) (off := 0) (cap := some 1) (data := [.int .i64 (k0 : Int)]) (Own.nil _ _ _ _) (by simp [T.get_set]) (by simp) (by simp) (by omega) (by omega)
  have w0 : Old n g (effT ef0 (T.set (.cells 1 [.int .i64 (k0 : Int)]) g n) (n + 1)) := fun i hi => by rw [p5 i (by omega) trivial, T.get_set, if_neg (by omega)]
  simp only [e_seq, e_skip, e_ret, e_exit, e_block, e_region, e_cond, condQ_true, condQ_false, seqK_normal, seqK_ret, seqK_exit, loopK_normal, loopK_ret, loopK_exit, drawK_eq, blockQ_normal, blockQ_ret, blockQ_same, blockQ_other, steps_cons, steps_done, fits_some, blt_lt, pre_plain, pre_guardQ, guardV_some, guardQ_tt, guardQ_ff, guardQ_tf, guardQ_ft, guardQ_skip, List.getElem?_toArray, List.getElem?_cons_zero, List.getElem?_cons_succ, fits_none, evOp, evCall, evOpds, evBuiltin, opd_tmp, opd_int, opd_bool, opd_nil, ov_some, ove_some, oe_some, ose_some, after_val, after_skip, after_call, callQ_some, stepK_eq, opd_func,  putT_some, putT_none, effT_none, next_none, effT_new, effT_wr, effT_mv, next_new, next_wr, next_mv, Nat.reduceLT, Nat.reduceBEq, true_and, and_true, reduceIte, Nat.reduceEqDiff, eq_self, T.get_set, cond_true, cond_false, endR_ret, resQ_some, evResults, tup_one, tup_two, tup_three, fillT, load_same, load_ne, store_same, store_ne, AV.cells, allOne, one_int, one_bool, one_ptr, one_nil, one_slice, List.length_cons, List.length_nil, Nat.zero_add, Nat.reduceAdd, beqD, bleD, Nat.reduceLeDiff, Nat.le_refl, decide_true, decide_false, Bool.and_self, Bool.and_true, Bool.true_and, List.take_zero, List.take_succ_cons, List.drop_succ_cons, List.drop_zero, List.nil_append, List.append_nil, List.cons_append, List.getElem?_cons_zero, List.getElem?_cons_succ, agg3, agg4, agg22, agg25, size3, size4, size22, size51, alloc51, fieldAddr24, fieldAddr51, bin_lss, bin_leq, bin_gtr, bin_geq, bin_eql, bin_neq, bin_neqb, un_not, List.getElem?_toArray, ne_eq, not_false_eq_true, evParts, build25, build26, ok5, ok6, ok7, ok8, ok9, ok10, ok13, ok14, ok15, ok16, ok17, ok19, ok20, ok34, ok35, ok36, ok37, ok38, ok39, ok44, ok45, ok60, load_same_agg, agg24, size24, evExtract, agg51, p1, p2]
  refine e_loop (fun k s => ∃ j m : Nat, ∃ tm : T AV, ∃ h : T AObj, ∃ B : List Nat, ∃ bv : AV, s = ⟨tm, h, m, []⟩ ∧ j = k ∧ j < L.length ∧ n + 1 ≤ m ∧ Old n g h ∧ Own n m h bv 1 B.length (ints (natInts B)) ∧ B ++ backOf L j = k0 :: backOf L at0 ∧ B.length + j ≤ 301 ∧ (∀ b ∈ B, b < 8) ∧
    tm.get 0 = some (.ptr id 0) ∧ tm.get 1 = some lv ∧ tm.get 9 = some bv ∧ tm.get 10 = some (.int .i64 (j : Int))) at0 (by omega) ?_ ?_
  · refine ⟨at0, n + 1 + 1, _, _, [k0], .slice (n + 1) 0 1 none 1, rfl, rfl, hat, by omega, w0, ?_, by simp, by simp; omega, by simp [hk], ?_, ?_, ?_, ?_⟩
    · exact Own.fresh (by omega) (by omega) (by rw [p3]; simp [ints, natInts]) (by simp [ints, natInts])
    all_goals simp [T.get_set]
  rintro k _ ⟨j, m, tm, h, B, bv, rfl, rfl, hj, hm, ho, hbv, hB, hBl, hB8, t0, t1, t9, t10⟩
  obtain ⟨x, hx⟩ : ∃ x, L[j]? = some x := ⟨_, List.getElem?_eq_getElem hj⟩
  obtain ⟨a, ia, oa, a1, a2, a3, a4, a5, a6, a7, a8⟩ := (hL.old (n' := m) ho (by omega)).at' j x hx
  have f1 := fieldAddr99 ia oa 1 (by omega)
  have f2 := fieldAddr99 ia oa 2 (by omega)
  have hxf := hF j x hx
  rcases bt (decide (0 ≤ x.frm)) with z | z
  · have h0 : 0 ≤ x.frm := by simpa using z
    obtain ⟨j2, hj2⟩ := nat_of h0
    have hst := backOf_step hF hx h0
    rw [hj2] at hst hxf z a4
    rw [Int.toNat_natCast] at hst
    have hk1 : Own n (m + 1) (T.set (.cells 1 [.int .i64 (x.inp : Int)]) h m) bv 1 B.length (ints (natInts B)) := hbv.keep (by omega) fun i hi hi2 => by rw [T.get_set, if_neg (by omega)]
    obtain ⟨rd, ef, p1, p2, p3, p4, p5⟩ := app_own elem25 (xs := [.int .i64 (x.inp : Int)]) (mx := m) (k := 1) (off := 0) (cap := some 1) (data := [.int .i64 (x.inp : Int)]) hk1 (by simp [T.get_set]) (by simp) (by simp) (by omega) (by omega)
    have hold : Old n g (effT ef (T.set (.cells 1 [.int .i64 (x.inp : Int)]) h m) (m + 1)) := fun i hi => by
      rw [p5 i (by omega) (hbv.notOf hi), T.get_set, if_neg (by omega)]; exact ho i hi
    have a4' : evLoad Tryz.prog (effT ef (T.set (.cells 1 [.int .i64 (x.inp : Int)]) h m) (m + 1)).get 3 (.ptr ia (oa + 1)) = some (.int .i64 (j2 : Int)) := by
      obtain ⟨a', ia', oa', b1, b2, b3, b4, _⟩ := (hL.old (n' := m) hold (by omega)).at' j x hx
      rw [a1] at b1
      cases b1
      rw [b4, hj2]
    simp only [e_seq, e_skip, e_ret, e_exit, e_block, e_region, e_cond, condQ_true, condQ_false, seqK_normal, seqK_ret, seqK_exit, loopK_normal, loopK_ret, loopK_exit, drawK_eq, blockQ_normal, blockQ_ret, blockQ_same, blockQ_other, steps_cons, steps_done, fits_some, blt_lt, pre_plain, pre_guardQ, guardV_some, guardQ_tt, guardQ_ff, guardQ_tf, guardQ_ft, guardQ_skip, List.getElem?_toArray, List.getElem?_cons_zero, List.getElem?_cons_succ, fits_none, evOp, evCall, evOpds, evBuiltin, opd_tmp, opd_int, opd_bool, opd_nil, ov_some, ove_some, oe_some, ose_some, after_val, after_skip, after_call, callQ_some, stepK_eq, opd_func,  putT_some, putT_none, effT_none, next_none, effT_new, effT_wr, effT_mv, next_new, next_wr, next_mv, Nat.reduceLT, Nat.reduceBEq, true_and, and_true, reduceIte, Nat.reduceEqDiff, eq_self, T.get_set, cond_true, cond_false, endR_ret, resQ_some, evResults, tup_one, tup_two, tup_three, fillT, load_same, load_ne, store_same, store_ne, AV.cells, allOne, one_int, one_bool, one_ptr, one_nil, one_slice, List.length_cons, List.length_nil, Nat.zero_add, Nat.reduceAdd, beqD, bleD, Nat.reduceLeDiff, Nat.le_refl, decide_true, decide_false, Bool.and_self, Bool.and_true, Bool.true_and, List.take_zero, List.take_succ_cons, List.drop_succ_cons, List.drop_zero, List.nil_append, List.append_nil, List.cons_append, List.getElem?_cons_zero, List.getElem?_cons_succ, agg3, agg4, agg22, agg25, size3, size4, size22, size51, alloc51, fieldAddr24, fieldAddr51, bin_lss, bin_leq, bin_gtr, bin_geq, bin_eql, bin_neq, bin_neqb, un_not, List.getElem?_toArray, ne_eq, not_false_eq_true, evParts, build25, build26, ok5, ok6, ok7, ok8, ok9, ok10, ok13, ok14, ok15, ok16, ok17, ok19, ok20, ok34, ok35, ok36, ok37, ok38, ok39, ok44, ok45, ok60, load_same_agg, agg24, size24, evExtract, agg51, t0, t1, t9, t10, a1, f1, f2, a4, a5, z, p1, p2, a4']
    refine ⟨j2, by omega, j2, _, _, _, B ++ [x.inp], .slice (m + 1) 0 (B.length + 1) none 1, rfl, rfl, by omega, by omega, hold, ?_, ?_, ?_, ?_, ?_, ?_, ?_, ?_⟩
    · have e : (B ++ [x.inp]).length = B.length + 1 := by simp
      rw [e]; exact Own.fresh (by omega) (by omega) (by rw [p3]; simp [ints, natInts]) (by simp [ints, natInts])
    · rw [← hB, hst]; simp
    · simp; omega
    · intro b hb
      rcases List.mem_append.1 hb with hb | hb
      · exact hB8 b hb
      · simp at hb; subst hb; exact hin x (List.mem_of_getElem? hx)
    all_goals simp [T.get_set, t0, t1]
  have hnot : ¬ 0 ≤ x.frm := by simpa using z
  rw [backOf_stop hx hnot, List.append_nil] at hB
  have hlb := hbv.row.evLen Tryz.underlying25 (P := Tryz.prog)
  have hBp : 0 < B.length := by rw [hB]; simp
  have hpr := bin_pred Tryz.prog 3 B.length (by omega)
  simp only [e_seq, e_skip, e_ret, e_exit, e_block, e_region, e_cond, condQ_true, condQ_false, seqK_normal, seqK_ret, seqK_exit, loopK_normal, loopK_ret, loopK_exit, drawK_eq, blockQ_normal, blockQ_ret, blockQ_same, blockQ_other, steps_cons, steps_done, fits_some, blt_lt, pre_plain, pre_guardQ, guardV_some, guardQ_tt, guardQ_ff, guardQ_tf, guardQ_ft, guardQ_skip, List.getElem?_toArray, List.getElem?_cons_zero, List.getElem?_cons_succ, fits_none, evOp, evCall, evOpds, evBuiltin, opd_tmp, opd_int, opd_bool, opd_nil, ov_some, ove_some, oe_some, ose_some, after_val, after_skip, after_call, callQ_some, stepK_eq, opd_func,  putT_some, putT_none, effT_none, next_none, effT_new, effT_wr, effT_mv, next_new, next_wr, next_mv, Nat.reduceLT, Nat.reduceBEq, true_and, and_true, reduceIte, Nat.reduceEqDiff, eq_self, T.get_set, cond_true, cond_false, endR_ret, resQ_some, evResults, tup_one, tup_two, tup_three, fillT, load_same, load_ne, store_same, store_ne, AV.cells, allOne, one_int, one_bool, one_ptr, one_nil, one_slice, List.length_cons, List.length_nil, Nat.zero_add, Nat.reduceAdd, beqD, bleD, Nat.reduceLeDiff, Nat.le_refl, decide_true, decide_false, Bool.and_self, Bool.and_true, Bool.true_and, List.take_zero, List.take_succ_cons, List.drop_succ_cons, List.drop_zero, List.nil_append, List.append_nil, List.cons_append, List.getElem?_cons_zero, List.getElem?_cons_succ, agg3, agg4, agg22, agg25, size3, size4, size22, size51, alloc51, fieldAddr24, fieldAddr51, bin_lss, bin_leq, bin_gtr, bin_geq, bin_eql, bin_neq, bin_neqb, un_not, List.getElem?_toArray, ne_eq, not_false_eq_true, evParts, build25, build26, ok5, ok6, ok7, ok8, ok9, ok10, ok13, ok14, ok15, ok16, ok17, ok19, ok20, ok34, ok35, ok36, ok37, ok38, ok39, ok44, ok45, ok60, load_same_agg, agg24, size24, evExtract, agg51, t0, t1, t9, t10, a1, f1, f2, a4, a5, z, hlb, hpr]
  have hbo : Old n g h := ho
  refine e_loop (fun k s => ∃ j m' : Nat, ∃ tm : T AV, ∃ h' : T AObj, ∃ ov : AV, ∃ avs : List AV, ∃ i : Int, s = ⟨tm, h', m', []⟩ ∧ j = k ∧ j ≤ B.length ∧ i = (j : Int) - 1 ∧ m ≤ m' ∧ Old m h h' ∧ avs.length = B.length - j ∧ Own m m' h' ov 1 avs.length avs ∧
    (∀ (q : Nat) a, avs[q]? = some a → (∃ b, B[B.length - 1 - q]? = some b ∧ Row m' h' a 1 S.ins.length (ints (bitsI b S.ins.length))) ∧ ∀ id o l c s, a = .slice id o l c s → notOf ov id ∧ n ≤ id) ∧
    tm.get 0 = some (.ptr id 0) ∧ tm.get 9 = some bv ∧ tm.get 11 = some ov ∧ tm.get 12 = some (.int .i64 i)) B.length (by omega) ?_ ?_
  · refine ⟨B.length, m, _, h, .nilSlice, [], _, rfl, rfl, by omega, rfl, by omega, Old.refl _ _, by simp, Own.nil _ _ _ _, by simp, ?_, ?_, ?_, ?_⟩ <;> simp [T.get_set, t0, t9]
  clear t0 t1 t9 t10
  rintro k _ ⟨j, m', tm, h', ov, avs, i, rfl, rfl, hj, hi, hm', ho', hal, hov, hrows, t0, t9, t11, t12⟩
  cases j with
  | zero =>
    have z : decide (0 ≤ i) = false := by simp; omega
    simp only [e_seq, e_skip, e_ret, e_exit, e_block, e_region, e_cond, condQ_true, condQ_false, seqK_normal, seqK_ret, seqK_exit, loopK_normal, loopK_ret, loopK_exit, drawK_eq, blockQ_normal, blockQ_ret, blockQ_same, blockQ_other, steps_cons, steps_done, fits_some, blt_lt, pre_plain, pre_guardQ, guardV_some, guardQ_tt, guardQ_ff, guardQ_tf, guardQ_ft, guardQ_skip, List.getElem?_toArray, List.getElem?_cons_zero, List.getElem?_cons_succ, fits_none, evOp, evCall, evOpds, evBuiltin, opd_tmp, opd_int, opd_bool, opd_nil, ov_some, ove_some, oe_some, ose_some, after_val, after_skip, after_call, callQ_some, stepK_eq, opd_func,  putT_some, putT_none, effT_none, next_none, effT_new, effT_wr, effT_mv, next_new, next_wr, next_mv, Nat.reduceLT, Nat.reduceBEq, true_and, and_true, reduceIte, Nat.reduceEqDiff, eq_self, T.get_set, cond_true, cond_false, endR_ret, resQ_some, evResults, tup_one, tup_two, tup_three, fillT, load_same, load_ne, store_same, store_ne, AV.cells, allOne, one_int, one_bool, one_ptr, one_nil, one_slice, List.length_cons, List.length_nil, Nat.zero_add, Nat.reduceAdd, beqD, bleD, Nat.reduceLeDiff, Nat.le_refl, decide_true, decide_false, Bool.and_self, Bool.and_true, Bool.true_and, List.take_zero, List.take_succ_cons, List.drop_succ_cons, List.drop_zero, List.nil_append, List.append_nil, List.cons_append, List.getElem?_cons_zero, List.getElem?_cons_succ, agg3, agg4, agg22, agg25, size3, size4, size22, size51, alloc51, fieldAddr24, fieldAddr51, bin_lss, bin_leq, bin_gtr, bin_geq, bin_eql, bin_neq, bin_neqb, un_not, List.getElem?_toArray, ne_eq, not_false_eq_true, evParts, build25, build26, ok5, ok6, ok7, ok8, ok9, ok10, ok13, ok14, ok15, ok16, ok17, ok19, ok20, ok34, ok35, ok36, ok37, ok38, ok39, ok44, ok45, ok60, load_same_agg, agg24, size24, evExtract, agg51, t0, t9, t11, t12, z]
    refine ⟨⟨?_, fun q l hl => ?_⟩, ho.trans (by omega) ho', by omega⟩
    · have := hov.row.lenIs
      have e : ((k0 :: backOf L at0).reverse.map fun k => bitsI k S.ins.length).length = avs.length := by rw [hal, hB]; simp
      rw [e]; exact this
    · rw [List.getElem?_map] at hl
      have hql : q < B.length := by
        refine Decidable.byContradiction fun hq => ?_
        rw [List.getElem?_eq_none (by rw [hB] at hq; simp at hq ⊢; omega)] at hl
        cases hl
      obtain ⟨a', ha'⟩ : ∃ a, avs[q]? = some a := ⟨_, List.getElem?_eq_getElem (by omega)⟩
      obtain ⟨⟨b, hb1, hb2⟩, _⟩ := hrows q a' ha'
      have hb3 : (k0 :: backOf L at0).reverse[q]? = some b := by
        rw [← hB, List.getElem?_reverse hql]; exact hb1
      rw [hb3] at hl
      simp only [Option.map_some, Option.some.injEq] at hl
      subst hl
      obtain ⟨id', o', data, c1, c2, c3, c4, c5, c6, c7⟩ := hov.row.at2 (i := q) (by omega) Tryz.underlying31 size25 .i64
      have hge : n ≤ id' := by
        rcases hov with ⟨h1, _⟩ | ⟨i1, h1, h2, _⟩
        · rw [h1] at c7; cases c7
        · rw [h1] at c7; cases c7; omega
      refine ⟨a', id', o', c1, c2, load_rd (data := data) c3 agg25 ?_, by rw [bitsI_length]; exact hb2, hge, fun i o l c s e => ((hrows q a' ha').2 i o l c s e).2⟩
      have := c4 0 a' (by omega) (by simpa using ha')
      simpa using this
  | succ j =>
    have hi' : i = (j : Int) := by omega
    subst hi'
    have z : decide (0 ≤ (j : Int)) = true := by simp
    obtain ⟨b, hb⟩ : ∃ b, B[j]? = some b := ⟨_, List.getElem?_eq_getElem (by omega)⟩
    have hb' : (natInts B)[j]? = some (b : Int) := by simp [natInts, hb]
    have hbl : B.length = (natInts B).length := by simp [natInts]
    obtain ⟨ia, oa, a1, a2, a3⟩ := (hbv.row.old (n' := m') ho' (by omega)).num (by omega) hb' .i64
    have HO : Old n g h' := ho.trans (by omega) ho'
    have hgc' : h'.get id = some (.cells 8 (v.cells S ++ [bud])) := by rw [HO id hid]; exact hgc
    have hpj := bin_pred Tryz.prog 3 j (by omega)
    simp only [e_seq, e_skip, e_ret, e_exit, e_block, e_region, e_cond, condQ_true, condQ_false, seqK_normal, seqK_ret, seqK_exit, loopK_normal, loopK_ret, loopK_exit, drawK_eq, blockQ_normal, blockQ_ret, blockQ_same, blockQ_other, steps_cons, steps_done, fits_some, blt_lt, pre_plain, pre_guardQ, guardV_some, guardQ_tt, guardQ_ff, guardQ_tf, guardQ_ft, guardQ_skip, List.getElem?_toArray, List.getElem?_cons_zero, List.getElem?_cons_succ, fits_none, evOp, evCall, evOpds, evBuiltin, opd_tmp, opd_int, opd_bool, opd_nil, ov_some, ove_some, oe_some, ose_some, after_val, after_skip, after_call, callQ_some, stepK_eq, opd_func,  putT_some, putT_none, effT_none, next_none, effT_new, effT_wr, effT_mv, next_new, next_wr, next_mv, Nat.reduceLT, Nat.reduceBEq, true_and, and_true, reduceIte, Nat.reduceEqDiff, eq_self, T.get_set, cond_true, cond_false, endR_ret, resQ_some, evResults, tup_one, tup_two, tup_three, fillT, load_same, load_ne, store_same, store_ne, AV.cells, allOne, one_int, one_bool, one_ptr, one_nil, one_slice, List.length_cons, List.length_nil, Nat.zero_add, Nat.reduceAdd, beqD, bleD, Nat.reduceLeDiff, Nat.le_refl, decide_true, decide_false, Bool.and_self, Bool.and_true, Bool.true_and, List.take_zero, List.take_succ_cons, List.drop_succ_cons, List.drop_zero, List.nil_append, List.append_nil, List.cons_append, List.getElem?_cons_zero, List.getElem?_cons_succ, agg3, agg4, agg22, agg25, size3, size4, size22, size51, alloc51, fieldAddr24, fieldAddr51, bin_lss, bin_leq, bin_gtr, bin_geq, bin_eql, bin_neq, bin_neqb, un_not, List.getElem?_toArray, ne_eq, not_false_eq_true, evParts, build25, build26, ok5, ok6, ok7, ok8, ok9, ok10, ok13, ok14, ok15, ok16, ok17, ok19, ok20, ok34, ok35, ok36, ok37, ok38, ok39, ok44, ok45, ok60, load_same_agg, agg24, size24, evExtract, agg51, t0, t9, t11, t12, z, a1, a3]
    refine callQ_gives (input_gives (hv.old (n' := m') HO (by omega)) (by omega) hgc' hil (by have := hB8 b (List.mem_of_getElem? hb); omega) (by omega)) ?_
    rintro _ g5 n5 ⟨⟨lv5, tv5, rfl, _, htv⟩, o5, l5⟩
    have b31 := build31_1 n5 htv.row.one (len_cells htv.row.lenIs)
    have hk1 : Own m (n5 + 1) (T.set (.cells 1 [tv5]) g5 n5) ov 1 avs.length avs := (hov.keep (n' := n5 + 1) (g' := T.set (.cells 1 [tv5]) g5 n5) (by omega) fun i hi hi2 => by rw [T.get_set, if_neg (by omega)]; exact o5 i hi2)
    obtain ⟨rd, ef, p1, p2, p3, p4, p5⟩ := app_own elem31 (xs := [tv5]) (mx := n5) (k := 1) (off := 0) (cap := some 1) (data := [tv5]) hk1 (by simp [T.get_set]) (by simp) (by simp) (by omega) (by omega)
    simp only [e_seq, e_skip, e_ret, e_exit, e_block, e_region, e_cond, condQ_true, condQ_false, seqK_normal, seqK_ret, seqK_exit, loopK_normal, loopK_ret, loopK_exit, drawK_eq, blockQ_normal, blockQ_ret, blockQ_same, blockQ_other, steps_cons, steps_done, fits_some, blt_lt, pre_plain, pre_guardQ, guardV_some, guardQ_tt, guardQ_ff, guardQ_tf, guardQ_ft, guardQ_skip, List.getElem?_toArray, List.getElem?_cons_zero, List.getElem?_cons_succ, fits_none, evOp, evCall, evOpds, evBuiltin, opd_tmp, opd_int, opd_bool, opd_nil, ov_some, ove_some, oe_some, ose_some, after_val, after_skip, after_call, callQ_some, stepK_eq, opd_func,  putT_some, putT_none, effT_none, next_none, effT_new, effT_wr, effT_mv, next_new, next_wr, next_mv, Nat.reduceLT, Nat.reduceBEq, true_and, and_true, reduceIte, Nat.reduceEqDiff, eq_self, T.get_set, cond_true, cond_false, endR_ret, resQ_some, evResults, tup_one, tup_two, tup_three, fillT, load_same, load_ne, store_same, store_ne, AV.cells, allOne, one_int, one_bool, one_ptr, one_nil, one_slice, List.length_cons, List.length_nil, Nat.zero_add, Nat.reduceAdd, beqD, bleD, Nat.reduceLeDiff, Nat.le_refl, decide_true, decide_false, Bool.and_self, Bool.and_true, Bool.true_and, List.take_zero, List.take_succ_cons, List.drop_succ_cons, List.drop_zero, List.nil_append, List.append_nil, List.cons_append, List.getElem?_cons_zero, List.getElem?_cons_succ, agg3, agg4, agg22, agg25, size3, size4, size22, size51, alloc51, fieldAddr24, fieldAddr51, bin_lss, bin_leq, bin_gtr, bin_geq, bin_eql, bin_neq, bin_neqb, un_not, List.getElem?_toArray, ne_eq, not_false_eq_true, evParts, build25, build26, ok5, ok6, ok7, ok8, ok9, ok10, ok13, ok14, ok15, ok16, ok17, ok19, ok20, ok34, ok35, ok36, ok37, ok38, ok39, ok44, ok45, ok60, load_same_agg, agg24, size24, evExtract, agg51, t0, t9, t11, t12, z, b31, p1, p2, hpj]
    refine ⟨j, by omega, j, _, _, _, .slice (n5 + 1) 0 (avs.length + 1) none 1, avs ++ [tv5], _, rfl, rfl, by omega, rfl, by omega, ?_, ?_, ?_, ?_, ?_, ?_, ?_, ?_⟩
    · intro i hi; rw [p5 i (by omega) (hov.notOf hi), T.get_set, if_neg (by omega), o5 i (by omega)]; exact ho' i hi
    · simp; omega
    · have e : (avs ++ [tv5]).length = avs.length + 1 := by simp
      rw [e]; exact Own.fresh (by omega) (by omega) p3 p4
    · intro q a' ha'
      by_cases hq : q < avs.length
      · rw [List.getElem?_append_left hq] at ha'
        obtain ⟨⟨b2, hb2, hr2⟩, hno⟩ := hrows q a' ha'
        refine ⟨⟨b2, hb2, hr2.keep (fun id' o' l' c' s' e => ?_) (by omega)⟩, fun id' o' l' c' s' e => ?_⟩
        · have hlt := hr2.id_lt e
          rw [p5 id' (by omega) (hno _ _ _ _ _ e).1, T.get_set, if_neg (by omega), o5 id' hlt]
        · have hlt := hr2.id_lt e
          exact ⟨by simp only [notOf]; omega, (hno _ _ _ _ _ e).2⟩
      · rw [List.getElem?_append_right (by omega)] at ha'
        have hq0 : q - avs.length = 0 := by
          have := (List.getElem?_eq_some_iff.1 ha').1
          simp at this; omega
        rw [hq0] at ha'
        simp at ha'
        subst ha'
        refine ⟨⟨b, ?_, htv.row.keep (fun id' o' l' c' s' e => ?_) (by omega)⟩, fun id' o' l' c' s' e => ?_⟩
        · have e : B.length - 1 - q = j := by omega
          rw [e]; exact hb
        · have hlt := htv.row.id_lt e
          have hge : m' ≤ id' := by
            rcases htv with ⟨h1, _⟩ | ⟨i1, h1, h2, _⟩
            · rw [h1] at e; cases e
            · rw [h1] at e; cases e; exact h2
          have hno : notOf ov id' := by
            rcases hov with ⟨h1, _⟩ | ⟨i1, h1, h2, h3, _⟩
            · rw [h1]; trivial
            · rw [h1]; simp only [notOf]; omega
          rw [p5 id' (by omega) hno, T.get_set, if_neg (by omega)]
        · have hlt := htv.row.id_lt e
          have hge : m' ≤ id' := by
            rcases htv with ⟨h1, _⟩ | ⟨i1, h1, h2, _⟩
            · rw [h1] at e; cases e
            · rw [h1] at e; cases e; exact h2
          exact ⟨by simp only [notOf]; omega, by omega⟩
    all_goals simp [T.get_set, t0, t9]
end Go.Ev

set_option linter.unusedSimpArgs false
set_option linter.unusedVariables false
set_option maxRecDepth 20000
namespace Go.Ev
open Go Proofs

def flatB (P : Program) (t k : Nat) : Bool := match placesT P t with | some pl => ((List.range k).all fun i => (match pl i with | some (a, b) => Nat.beq a i && Nat.beq b 1 | none => false)) | none => false
theorem flat_pl {P : Program} {t k : Nat} (h : flatB P t k = true) : ∃ pl, placesT P t = some pl ∧ ∀ i, i < k → pl i = some (i, 1) := by
  unfold flatB at h
  split at h
  · rename_i pl hp
    refine ⟨pl, hp, fun i hi => ?_⟩
    have := List.all_eq_true.1 h i (List.mem_range.2 hi)
    split at this
    · rename_i a b hab
      simp only [Bool.and_eq_true, beqT] at this
      rw [hab, this.1, this.2]
    · cases this
  · cases h
theorem cells_int (k : IntKind) (i : Int) : (AV.int k i).cells = [.int k i] := rfl
theorem cells_agg (l : List AV) : (AV.agg l).cells = l := rfl
theorem zero33 : zeroT Tryz.prog 33 = some (.agg [.int .i64 0, .int .i64 0, .nilSlice]) := by
  have h : isAV (zeroT Tryz.prog 33) (.agg [.int .i64 0, .int .i64 0, .nilSlice]) = true := by decide +kernel
  exact isAV_eq h
theorem zero99 : zeroT Tryz.prog 99 = some (.agg [.nilSlice, .int .i64 0, .int .i64 0, .int .i64 0]) := by
  have h : isAV (zeroT Tryz.prog 99) (.agg [.nilSlice, .int .i64 0, .int .i64 0, .int .i64 0]) = true := by decide +kernel
  exact isAV_eq h
theorem size33 : sizeT Tryz.prog 33 = some 3 := by decide +kernel
theorem agg33 : aggT Tryz.prog 33 = some true := by decide +kernel
theorem agg31 : aggT Tryz.prog 31 = some false := by decide +kernel
theorem alloc33 (n : Nat) : evAlloc Tryz.prog n 33 = some (.ptr n 0, .new (.cells 3 [.int .i64 0, .int .i64 0, .nilSlice])) := by
  simp only [evAlloc, zero33, AV.cells, evBox, allOne, one_nil, one_int, cond_true, List.length_cons, List.length_nil]
theorem alloc99 (n : Nat) : evAlloc Tryz.prog n 99 = some (.ptr n 0, .new (.cells 4 [.nilSlice, .int .i64 0, .int .i64 0, .int .i64 0])) := by
  simp only [evAlloc, zero99, AV.cells, evBox, allOne, one_nil, one_int, cond_true, List.length_cons, List.length_nil]
theorem build33 (a b : Int) {c : AV} (hc : c.cells = [c]) : evBuild Tryz.prog 33 [(0, .int .i64 a), (1, .int .i64 b), (2, c)] = some (.agg [.int .i64 a, .int .i64 b, c]) := by
  obtain ⟨pl, h1, h2⟩ := flat_pl (show flatB Tryz.prog 33 3 = true by decide +kernel)
  simp only [evBuild, h1, zero33, evFill, cells_int, cells_agg, h2 0 (by omega), h2 1 (by omega), h2 2 (by omega), hc]
  simp [spl, beqD, bleD]
theorem build33_2 (a b : Int) : evBuild Tryz.prog 33 [(0, .int .i64 a), (1, .int .i64 b)] = some (.agg [.int .i64 a, .int .i64 b, .nilSlice]) := by
  obtain ⟨pl, h1, h2⟩ := flat_pl (show flatB Tryz.prog 33 3 = true by decide +kernel)
  simp only [evBuild, h1, zero33, evFill, cells_int, cells_agg, h2 0 (by omega), h2 1 (by omega)]
  simp [spl, beqD, bleD]
theorem build99 {a : AV} (b c e : Int) (ha : a.cells = [a]) : evBuild Tryz.prog 99 [(0, a), (1, .int .i64 b), (2, .int .i64 c), (3, .int .i64 e)] = some (.agg [a, .int .i64 b, .int .i64 c, .int .i64 e]) := by
  obtain ⟨pl, h1, h2⟩ := flat_pl (show flatB Tryz.prog 99 4 = true by decide +kernel)
  simp only [evBuild, h1, zero99, evFill, cells_int, cells_agg, h2 0 (by omega), h2 1 (by omega), h2 2 (by omega), h2 3 (by omega), ha]
  simp [spl, beqD, bleD]
theorem build99_2 {a : AV} (b : Int) (ha : a.cells = [a]) : evBuild Tryz.prog 99 [(0, a), (1, .int .i64 b)] = some (.agg [a, .int .i64 b, .int .i64 0, .int .i64 0]) := by
  obtain ⟨pl, h1, h2⟩ := flat_pl (show flatB Tryz.prog 99 4 = true by decide +kernel)
  simp only [evBuild, h1, zero99, evFill, cells_int, cells_agg, h2 0 (by omega), h2 1 (by omega), ha]
  simp [spl, beqD, bleD]
theorem build100 (n : Nat) {a : AV} (b c e : Int) (ha : a.one = true) : evBuildSlice Tryz.prog n 100 1 [(0, .agg [a, .int .i64 b, .int .i64 c, .int .i64 e])] = some (.slice n 0 1 (some 1) 4, .new (.cells 4 [a, .int .i64 b, .int .i64 c, .int .i64 e])) := by
  have hz : zrow [.nilSlice, .int .i64 0, .int .i64 0, .int .i64 0] 4 = [.nilSlice, .int .i64 0, .int .i64 0, .int .i64 0] := rfl
  simp only [evBuildSlice, Tryz.underlying100, size99, zero99, cells_agg, Nat.one_mul, hz]
  simp [evFill, cells_agg, spl, beqD, bleD, allOne, ha, one_int, Nat.blt]
/-- The cells of a visit. -/
def vcells (a : AV) (x : Visit) : List AV := [a, .int .i64 x.frm, .int .i64 (x.inp : Int), .int .i64 (x.tick : Int)]
def vrow : List AV → List Visit → List AV
  | a :: r, x :: xs => vcells a x ++ vrow r xs
  | _, _ => []
theorem vrow_len : ∀ {r : List AV} {L : List Visit}, r.length = L.length → (vrow r L).length = L.length * 4
  | [], [], _ => rfl
  | [], _ :: _, h => by simp at h
  | _ :: _, [], h => by simp at h
  | a :: r, x :: xs, h => by simp [vrow, vcells, vrow_len (r := r) (L := xs) (by simpa using h)]; omega
theorem vrow_get : ∀ {r : List AV} {L : List Visit} {j : Nat} {a : AV} {x : Visit}, r[j]? = some a → L[j]? = some x → ∀ c y, c < 4 → (vcells a x)[c]? = some y → (vrow r L)[j * 4 + c]? = some y
  | [], _, j, a, x, h, _ => by simp at h
  | _ :: _, [], j, a, x, _, h => by simp at h
  | a0 :: r, x0 :: xs, 0, a, x, h1, h2 => by
    simp at h1 h2
    subst h1; subst h2
    intro c y hc hy
    simp only [vrow, Nat.zero_mul, Nat.zero_add]
    rw [List.getElem?_append_left (by simp [vcells]; omega)]
    exact hy
  | a0 :: r, x0 :: xs, j + 1, a, x, h1, h2 => by
    intro c y hc hy
    have := vrow_get (r := r) (L := xs) (j := j) (by simpa using h1) (by simpa using h2) c y hc hy
    simp only [vrow]
    rw [List.getElem?_append_right (by simp [vcells]; omega)]
    have e : (j + 1) * 4 + c - (vcells a0 x0).length = j * 4 + c := by simp [vcells]; omega
    rw [e]; exact this
theorem vrow_snoc (a : AV) (x : Visit) : ∀ {r : List AV} {L : List Visit}, r.length = L.length → vrow (r ++ [a]) (L ++ [x]) = vrow r L ++ vcells a x
  | [], [], _ => by simp [vrow]
  | [], _ :: _, h => by simp at h
  | _ :: _, [], h => by simp at h
  | b :: r, y :: ys, h => by simp [vrow, vrow_snoc a x (r := r) (L := ys) (by simpa using h)]

/-- What is known of the slice of visits. -/
theorem vis_of {n : Nat} {g : T AObj} {lv : AV} {av : List AV} {L : List Visit} (h : Row n g lv 4 L.length (vrow av L)) (hl : av.length = L.length) (hr : ∀ (j : Nat) a x, av[j]? = some a → L[j]? = some x → Row n g a 1 x.st.length (bools x.st)) : Vis n g lv L := by
  refine ⟨h.lenIs, fun j x hx => ?_⟩
  have hj : j < L.length := (List.getElem?_eq_some_iff.1 hx).1
  obtain ⟨a, ha⟩ : ∃ a, av[j]? = some a := ⟨_, List.getElem?_eq_getElem (by omega)⟩
  obtain ⟨id, o, data, h1, h2, h3, h4⟩ := h.at hj Tryz.underlying100 size99 .i64
  have c : ∀ c y, c < 4 → (vcells a x)[c]? = some y → data[o + c]? = some y := fun c y hc hy => h4 c y hc (vrow_get ha hx c y hc hy)
  have c0 := c 0 _ (by omega) rfl
  have c1 := c 1 _ (by omega) rfl
  have c2 := c 2 _ (by omega) rfl
  have c3 := c 3 _ (by omega) rfl
  refine ⟨a, id, o, h1, h2, load_rd h3 agg26 c0, load_rd h3 agg3 c1, load_rd h3 agg3 c2, load_rd h3 agg3 c3, ?_, hr j a x ha hx⟩
  have hl : o + 4 ≤ data.length := by have := (List.getElem?_eq_some_iff.1 c3).1; omega
  have hle : Nat.ble (o + 4) data.length = true := Nat.ble_eq_true_of_le hl
  have hd : (data.drop o).take 4 = vcells a x := by
    apply List.ext_getElem?
    intro q
    by_cases hq : q < 4
    · rw [List.getElem?_take, if_pos hq, List.getElem?_drop]
      have : q = 0 ∨ q = 1 ∨ q = 2 ∨ q = 3 := by omega
      rcases this with rfl | rfl | rfl | rfl
      · exact c0
      · exact c1
      · exact c2
      · exact c3
    · rw [List.getElem?_eq_none (by simp; omega), List.getElem?_eq_none (by simp [vcells]; omega)]
  rw [evLoad_rd_agg h3 agg99 size99, hle, cond_true, hd]
  rfl
end Go.Ev

/-! The states of a system, gone through in breadth: plain. -/
set_option linter.unusedSimpArgs false
set_option linter.unusedVariables false
set_option maxRecDepth 20000
namespace Go.Ev
open Go Proofs

theorem keyFrom_bit : ∀ (bs : List Bool) (i acc p : Nat), (keyFrom i bs acc).testBit p = (acc.testBit p || (if i ≤ p then bs.getD (p - i) false else false))
  | [], i, acc, p => by simp [keyFrom]
  | b :: bs, i, acc, p => by
    simp only [keyFrom]
    rw [keyFrom_bit bs (i + 1)]
    by_cases h1 : i + 1 ≤ p
    · have e : p - i = (p - (i + 1)) + 1 := by omega
      have h0 : i ≤ p := by omega
      simp only [if_pos h1, if_pos h0, e, List.getD_cons_succ]
      cases b with
      | false => rfl
      | true =>
        have hne : ¬ i = p := by omega
        simp [Nat.testBit_or, Nat.testBit_two_pow, hne]
    · by_cases h2 : i = p
      · subst h2
        cases b <;> simp [Nat.testBit_or, Nat.testBit_two_pow, h1]
      · have h0 : ¬ i ≤ p := by omega
        simp only [if_neg h1, if_neg h0]
        cases b <;> simp [Nat.testBit_or, Nat.testBit_two_pow, h2]
def keyN (bs : List Bool) : Nat := keyFrom 0 bs 0
theorem keyN_bit (bs : List Bool) (p : Nat) : (keyN bs).testBit p = bs.getD p false := by simp [keyN, keyFrom_bit]
theorem keyN_inj {a b : List Bool} (hl : a.length = b.length) (h : keyN a = keyN b) : a = b := by
  apply List.ext_getElem hl
  intro i h1 h2
  have := keyN_bit a i
  rw [h, keyN_bit b i] at this
  simpa [List.getD, List.getElem?_eq_getElem h1, List.getElem?_eq_getElem h2] using this.symm
theorem keyN_lt (bs : List Bool) : keyN bs < 2 ^ bs.length := by
  refine Nat.lt_pow_two_of_testBit _ fun i hi => ?_
  rw [keyN_bit]
  simp [List.getD, List.getElem?_eq_none hi]

def nIn (S : Sys) : Nat := 2 ^ S.ins.length
def stp (S : Sys) (x : Visit) (j : Nat) : List Bool × Bool × Bool := stepB S x.st (bitsB j S.ins.length)
/-- One step of the search: state i, input j. -/
def grow (S : Sys) (L : List Visit) (i j : Nat) : List Visit :=
  match L[i]? with
  | none => L
  | some x => if (stp S x j).2.2 = true ∧ ∀ y ∈ L, y.st ≠ (stp S x j).1 then L ++ [⟨(stp S x j).1, (i : Int), j, x.tick + 1⟩] else L
/-- The states that were come to in the first p steps. -/
def lst (S : Sys) : Nat → List Visit
  | 0 => [⟨S.init, -1, 0, 0⟩]
  | p + 1 => grow S (lst S p) (p / nIn S) (p % nIn S)
def badAt (S : Sys) (p : Nat) : Bool :=
  match (lst S p)[p / nIn S]? with
  | some x => (stp S x (p % nIn S)).2.2 && !(stp S x (p % nIn S)).2.1
  | none => false

theorem nIn_pos (S : Sys) : 0 < nIn S := Nat.pow_pos (by omega)
theorem grow_keep {S : Sys} {L : List Visit} {i j q : Nat} {x : Visit} (h : L[q]? = some x) : (grow S L i j)[q]? = some x := by
  unfold grow
  split
  · exact h
  · split
    · rw [List.getElem?_append_left (List.getElem?_eq_some_iff.1 h).1]; exact h
    · exact h
theorem lst_keep {S : Sys} {q : Nat} {x : Visit} : ∀ {p p' : Nat}, p ≤ p' → (lst S p)[q]? = some x → (lst S p')[q]? = some x
  | p, p', hp, h => by
    obtain ⟨d, rfl⟩ := Nat.exists_eq_add_of_le hp
    clear hp
    induction d with
    | zero => exact h
    | succ d ih => exact grow_keep ih
theorem lst_root (S : Sys) (p : Nat) : (lst S p)[0]? = some ⟨S.init, -1, 0, 0⟩ := lst_keep (Nat.zero_le p) rfl
/-- What grows out of a list: itself, or one more. -/
theorem grow_cases {S : Sys} {L : List Visit} {i j : Nat} : grow S L i j = L ∨ ∃ x, L[i]? = some x ∧ (stp S x j).2.2 = true ∧ (∀ y ∈ L, y.st ≠ (stp S x j).1) ∧ grow S L i j = L ++ [⟨(stp S x j).1, (i : Int), j, x.tick + 1⟩] := by
  unfold grow
  split
  · exact .inl rfl
  · rename_i x hx
    split
    · rename_i h; exact .inr ⟨x, hx, h.1, h.2, rfl⟩
    · exact .inl rfl

/-- What holds of all lists. -/
structure LstOk (S : Sys) (L : List Visit) : Prop where
  len : ∀ x ∈ L, x.st.length = S.now.length
  frm : FromOk L
  inp : ∀ x ∈ L, x.inp < nIn S
  nodup : (L.map fun x => x.st).Nodup
  par : ∀ (j : Nat) x, L[j]? = some x → x.frm = -1 ∧ j = 0 ∧ x = ⟨S.init, -1, 0, 0⟩ ∨ ∃ (i : Nat) (y : Visit), x.frm = (i : Int) ∧ L[i]? = some y ∧ (stp S y x.inp).1 = x.st ∧ (stp S y x.inp).2.2 = true ∧ x.tick = y.tick + 1

theorem lstOk {S : Sys} (hS : GoodSys S) : ∀ p, LstOk S (lst S p)
  | 0 => by
    refine ⟨?_, ?_, ?_, ?_, ?_⟩
    · intro x hx; simp [lst] at hx; subst hx; exact hS.init
    · intro j x hx
      have : j = 0 := by have := (List.getElem?_eq_some_iff.1 hx).1; simp [lst] at this; omega
      subst this; simp [lst] at hx; subst hx; simp
    · intro x hx; simp [lst] at hx; subst hx; exact nIn_pos S
    · simp [lst]
    · intro j x hx
      have : j = 0 := by have := (List.getElem?_eq_some_iff.1 hx).1; simp [lst] at this; omega
      subst this; simp [lst] at hx; subst hx; exact .inl ⟨rfl, rfl, rfl⟩
  | p + 1 => by
    have ih := lstOk hS p
    simp only [lst]
    rcases grow_cases (S := S) (L := lst S p) (i := p / nIn S) (j := p % nIn S) with e | ⟨y, hy, has, hnew, e⟩
    · rw [e]; exact ih
    · rw [e]
      have hil : p / nIn S < (lst S p).length := (List.getElem?_eq_some_iff.1 hy).1
      refine ⟨?_, ?_, ?_, ?_, ?_⟩
      · intro x hx
        rcases List.mem_append.1 hx with hx | hx
        · exact ih.len x hx
        · simp at hx; subst hx; simp [stp, stepB, hS.next]
      · intro j x hx
        by_cases hj : j < (lst S p).length
        · rw [List.getElem?_append_left hj] at hx; exact ih.frm j x hx
        · rw [List.getElem?_append_right (by omega)] at hx
          have : j - (lst S p).length = 0 := by have := (List.getElem?_eq_some_iff.1 hx).1; simp at this; omega
          rw [this] at hx; simp at hx; subst hx
          simp only
          omega
      · intro x hx
        rcases List.mem_append.1 hx with hx | hx
        · exact ih.inp x hx
        · simp at hx; subst hx; exact Nat.mod_lt _ (nIn_pos S)
      · rw [List.map_append, List.nodup_append]
        refine ⟨ih.nodup, by simp, fun a ha b hb => ?_⟩
        simp at hb; subst hb
        obtain ⟨x, hx, rfl⟩ := List.mem_map.1 ha
        exact hnew x hx
      · intro j x hx
        by_cases hj : j < (lst S p).length
        · rw [List.getElem?_append_left hj] at hx
          rcases ih.par j x hx with h | ⟨i, z, h1, h2, h3⟩
          · exact .inl h
          · exact .inr ⟨i, z, h1, by rw [List.getElem?_append_left (List.getElem?_eq_some_iff.1 h2).1]; exact h2, h3⟩
        · rw [List.getElem?_append_right (by omega)] at hx
          have : j - (lst S p).length = 0 := by have := (List.getElem?_eq_some_iff.1 hx).1; simp at this; omega
          rw [this] at hx; simp at hx; subst hx
          exact .inr ⟨p / nIn S, y, rfl, by rw [List.getElem?_append_left hil]; exact hy, rfl, has, rfl⟩

def keysOf (L : List Visit) : List Int := L.map fun x => ((keyN x.st : Nat) : Int)
theorem keys_mem {S : Sys} {L : List Visit} (h : ∀ x ∈ L, x.st.length = S.now.length) {st : List Bool} (hl : st.length = S.now.length) : ((keyN st : Nat) : Int) ∈ keysOf L ↔ ∃ x ∈ L, x.st = st := by
  simp only [keysOf, List.mem_map]
  constructor
  · rintro ⟨x, hx, e⟩
    exact ⟨x, hx, keyN_inj (by rw [h x hx, hl]) (by omega)⟩
  · rintro ⟨x, hx, rfl⟩
    exact ⟨x, hx, rfl⟩
theorem lst_short {S : Sys} (hS : GoodSys S) (p : Nat) (hn : S.now.length ≤ 8) : (lst S p).length ≤ 256 := by
  have ok := lstOk hS p
  have hnd : (keysOf (lst S p)).Nodup := by
    have : keysOf (lst S p) = ((lst S p).map fun x => x.st).map fun st => ((keyN st : Nat) : Int) := by simp [keysOf]
    rw [this]
    refine List.Pairwise.map _ ?_ (List.Pairwise.imp_of_mem ?_ ok.nodup) (R := fun a b => a.length = b.length ∧ a ≠ b)
    · intro a b h e
      exact h.2 (keyN_inj h.1 (by omega))
    · intro a b ha hb hne
      obtain ⟨x, hx, rfl⟩ := List.mem_map.1 ha
      obtain ⟨y, hy, rfl⟩ := List.mem_map.1 hb
      exact ⟨by rw [ok.len x hx, ok.len y hy], hne⟩
  have := pigeon (B := (List.range 256).map fun k : Nat => (k : Int)) hnd fun a ha => by
    obtain ⟨x, hx, rfl⟩ := List.mem_map.1 ha
    refine List.mem_map.2 ⟨keyN x.st, List.mem_range.2 ?_, rfl⟩
    have h1 := keyN_lt x.st
    rw [ok.len x hx] at h1
    exact Nat.lt_of_lt_of_le h1 (Nat.pow_le_pow_right (by omega) hn)
  simpa [keysOf] using this

/-! ### Paths -/
def runs (S : Sys) : List Bool → List Nat → Option (List Bool)
  | st, [] => some st
  | st, k :: r => if (stepB S st (bitsB k S.ins.length)).2.2 then runs S (stepB S st (bitsB k S.ins.length)).1 r else none
theorem runs_append {S : Sys} : ∀ {a : List Nat} {st st' : List Bool} {b : List Nat}, runs S st a = some st' → runs S st (a ++ b) = runs S st' b
  | [], st, st', b, h => by simp [runs] at h; subst h; rfl
  | k :: r, st, st', b, h => by
    simp only [runs] at h
    split at h
    · rename_i hc
      simp only [List.cons_append, runs, hc, if_true]
      exact runs_append h
    · cases h
theorem badRun_last {S : Sys} : ∀ {a : List Nat} {st st' : List Bool} {k : Nat}, runs S st a = some st' → badRun S st (a ++ [k]) = ((stepB S st' (bitsB k S.ins.length)).2.2 && !(stepB S st' (bitsB k S.ins.length)).2.1)
  | [], st, st', k, h => by simp [runs] at h; subst h; rfl
  | j :: r, st, st', k, h => by
    simp only [runs] at h
    split at h
    · rename_i hc
      cases r with
      | nil =>
        have ih := badRun_last (k := k) h
        simp only [List.cons_append, List.nil_append, badRun, hc, Bool.true_and] at ih ⊢
        exact ih
      | cons j2 r =>
        have ih := badRun_last (k := k) h
        simp only [List.cons_append, badRun, hc, Bool.true_and] at ih ⊢
        exact ih
    · cases h
theorem path_runs {S : Sys} {L : List Visit} (ok : LstOk S L) : ∀ {f j : Nat} {x : Visit}, j < f → L[j]? = some x → runs S S.init (backOf L j).reverse = some x.st ∧ (backOf L j).length = x.tick
  | 0, _, _, h, _ => by omega
  | f + 1, j, x, h, hx => by
    rcases ok.par j x hx with ⟨h1, h2, h3⟩ | ⟨i, y, h1, h2, h3, h4, h5⟩
    · rw [backOf_stop hx (by omega), h3]; exact ⟨rfl, rfl⟩
    · have hf := ok.frm j x hx
      rw [h1] at hf
      have ih := path_runs ok (f := f) (j := i) (by omega) h2
      rw [backOf_step ok.frm hx (by omega), h1, Int.toNat_natCast, List.reverse_cons]
      refine ⟨?_, by simp [ih.2, h5]⟩
      rw [runs_append ih.1]
      have h4' : (stepB S y.st (bitsB x.inp S.ins.length)).2.2 = true := h4
      simp only [runs, h4', if_true, Option.some.injEq]
      exact h3
end Go.Ev

set_option linter.unusedSimpArgs false
set_option linter.unusedVariables false
set_option maxRecDepth 20000
namespace Go.Ev
open Go Proofs

theorem key_row {fuel d : Nat} {g : T AObj} {n : Nat} {v : AV} {bs : List Bool} (hr : Row n g v 1 bs.length (bools bs)) (hlen : bs.length ≤ 10) (hf : 20 < fuel) :
    evFn Tryz.prog fuel (d + 1) (.fn 36) [v] g n = some (.int .i64 ((keyN bs : Nat) : Int), g, n) := by
  refine eq_of_gives ?_
  rcases hr with ⟨rfl, h0, _⟩ | ⟨id, off, cap, data, rfl, h2, h3, h4, h5, h6⟩
  · have : bs = [] := List.length_eq_zero_iff.1 h0
    subst this
    refine gives_ends 20 [.tmp 2] Tryz.func36 rfl rfl rfl ?_
    have hl := len_run (P := Tryz.prog) (g := g.get) Tryz.underlying26 (v := .nilSlice) (k := 0) (.inl ⟨rfl, rfl⟩)
    simp only [e_seq, e_skip, e_ret, e_exit, e_block, e_region, e_cond, condQ_true, condQ_false, seqK_normal, seqK_ret, seqK_exit, loopK_normal, loopK_ret, loopK_exit, drawK_eq, blockQ_normal, blockQ_ret, blockQ_same, blockQ_other, steps_cons, steps_done, fits_some, blt_lt, pre_plain, pre_guardQ, guardV_some, guardQ_tt, guardQ_ff, guardQ_tf, guardQ_ft, guardQ_skip, List.getElem?_toArray, List.getElem?_cons_zero, List.getElem?_cons_succ, fits_none, evOp, evCall, evOpds, evBuiltin, opd_tmp, opd_int, opd_bool, opd_nil, ov_some, ove_some, oe_some, ose_some, after_val, after_skip, after_call, callQ_some, stepK_eq, opd_func,  putT_some, putT_none, effT_none, next_none, effT_new, effT_wr, effT_mv, next_new, next_wr, next_mv, Nat.reduceLT, Nat.reduceBEq, true_and, and_true, reduceIte, Nat.reduceEqDiff, eq_self, T.get_set, cond_true, cond_false, endR_ret, resQ_some, evResults, tup_one, tup_two, tup_three, fillT, load_same, load_ne, store_same, store_ne, AV.cells, allOne, one_int, one_bool, one_ptr, one_nil, one_slice, List.length_cons, List.length_nil, Nat.zero_add, Nat.reduceAdd, beqD, bleD, Nat.reduceLeDiff, Nat.le_refl, decide_true, decide_false, Bool.and_self, Bool.and_true, Bool.true_and, List.take_zero, List.take_succ_cons, List.drop_succ_cons, List.drop_zero, List.nil_append, List.append_nil, List.cons_append, List.getElem?_cons_zero, List.getElem?_cons_succ, agg3, agg4, agg22, agg25, size3, size4, size22, size51, alloc51, fieldAddr24, fieldAddr51, bin_lss, bin_leq, bin_gtr, bin_geq, bin_eql, bin_neq, bin_neqb, un_not, List.getElem?_toArray, ne_eq, not_false_eq_true, evParts, build25, build26, ok5, ok6, ok7, ok8, ok9, ok10, ok13, ok14, ok15, ok16, ok17, ok19, ok20, ok34, ok35, ok36, ok37, ok38, ok39, ok44, ok45, ok60, load_same_agg, agg24, size24, evExtract, agg51, hl]
    refine e_loop (fun _ s => ∃ tm : T AV, s = ⟨tm, g, n, []⟩ ∧ tm.get 3 = some (.int .i64 0) ∧ tm.get 7 = some (.int .i64 ((0 : Nat) : Int)) ∧ tm.get 8 = some (.int .i64 0)) 0 (by omega) ?_ ?_
    · refine ⟨_, rfl, ?_, ?_, ?_⟩ <;> simp [T.get_set]
    rintro k _ ⟨tm, rfl, t3, t7, t8⟩
    have z : decide ((0 : Int) < ((0 : Nat) : Int)) = false := by simp
    simp only [e_seq, e_skip, e_ret, e_exit, e_block, e_region, e_cond, condQ_true, condQ_false, seqK_normal, seqK_ret, seqK_exit, loopK_normal, loopK_ret, loopK_exit, drawK_eq, blockQ_normal, blockQ_ret, blockQ_same, blockQ_other, steps_cons, steps_done, fits_some, blt_lt, pre_plain, pre_guardQ, guardV_some, guardQ_tt, guardQ_ff, guardQ_tf, guardQ_ft, guardQ_skip, List.getElem?_toArray, List.getElem?_cons_zero, List.getElem?_cons_succ, fits_none, evOp, evCall, evOpds, evBuiltin, opd_tmp, opd_int, opd_bool, opd_nil, ov_some, ove_some, oe_some, ose_some, after_val, after_skip, after_call, callQ_some, stepK_eq, opd_func,  putT_some, putT_none, effT_none, next_none, effT_new, effT_wr, effT_mv, next_new, next_wr, next_mv, Nat.reduceLT, Nat.reduceBEq, true_and, and_true, reduceIte, Nat.reduceEqDiff, eq_self, T.get_set, cond_true, cond_false, endR_ret, resQ_some, evResults, tup_one, tup_two, tup_three, fillT, load_same, load_ne, store_same, store_ne, AV.cells, allOne, one_int, one_bool, one_ptr, one_nil, one_slice, List.length_cons, List.length_nil, Nat.zero_add, Nat.reduceAdd, beqD, bleD, Nat.reduceLeDiff, Nat.le_refl, decide_true, decide_false, Bool.and_self, Bool.and_true, Bool.true_and, List.take_zero, List.take_succ_cons, List.drop_succ_cons, List.drop_zero, List.nil_append, List.append_nil, List.cons_append, List.getElem?_cons_zero, List.getElem?_cons_succ, agg3, agg4, agg22, agg25, size3, size4, size22, size51, alloc51, fieldAddr24, fieldAddr51, bin_lss, bin_leq, bin_gtr, bin_geq, bin_eql, bin_neq, bin_neqb, un_not, List.getElem?_toArray, ne_eq, not_false_eq_true, evParts, build25, build26, ok5, ok6, ok7, ok8, ok9, ok10, ok13, ok14, ok15, ok16, ok17, ok19, ok20, ok34, ok35, ok36, ok37, ok38, ok39, ok44, ok45, ok60, load_same_agg, agg24, size24, evExtract, agg51, t3, t7, t8, z]
    simp [keyN, keyFrom]
  · have hb : bitsAt data off bs := by
      intro i b hi
      have := h5 i (.bool b) (by simp [bools, hi])
      rw [← this, Nat.mul_one, Nat.mul_one]
    obtain ⟨x, g', n', e, h⟩ := key_gives (fuel := fuel) (d := d) (cap := cap) (n := n) h3 hb hlen (by omega)
    exact ⟨x, g', n', e, h⟩

/-- An append to what is full. -/
theorem app_full {P : Program} {t e sz : Nat} (he : ElemOk P t e sz) {g : T AObj} {n id len : Nat} {c : Option Nat} {cs xs : List AV} {mx k off : Nat} {cap : Option Nat} {data : List AV} (hc : c = none ∨ c = some len) (h4 : g.get id = some (.cells sz cs)) (h5 : cs.length = len * sz) (hx : g.get mx = some (.cells sz data))
    (hd : (data.drop (off * sz)).take (k * sz) = xs) (hle : (off + k) * sz ≤ data.length) (hk : 0 < k) (hlen : len + k ≤ 1073741824) :
    ∃ rd ef, evApp P g.get n t t (.slice id 0 len c sz) (.slice mx off k cap sz) = some (.slice n 0 (len + k) none sz, rd, ef) ∧ ef.next n = n + 1 ∧ (effT ef g n).get n = some (.cells sz (cs ++ xs)) ∧ (cs ++ xs).length = (len + k) * sz ∧ (∀ i, i ≠ n → i ≠ id → (effT ef g n).get i = g.get i) := by
  have hxl : xs.length = k * sz := by rw [← hd, List.length_take, List.length_drop]; rw [Nat.add_mul] at hle; omega
  rcases hc with rfl | rfl
  · refine ⟨[id, mx], .mv id (.cells sz (cs ++ xs)), app_mv he h4 h5 hx hd hle hk hlen, rfl, ?_, ?_, ?_⟩
    · simp [effT, T.get_set]
    · rw [List.length_append, h5, hxl, Nat.add_mul]
    · intro j hj hno; simp only [effT, T.get_set, T.get_del, if_neg hj, if_neg hno]
  · obtain ⟨i, hi, hisz, hib⟩ := he.i
    obtain ⟨z, hz, hzc⟩ := he.z
    have b1 : Nat.beq z.cells.length i.size = true := by rw [hzc, hisz]; exact Nat.beq_refl _
    have b2 : Nat.beq k 0 = false := beqF.2 (by omega)
    have b3 : Nat.ble i.bytes 65536 = true := Nat.ble_eq_true_of_le hib
    have hnews := news_of he (cap := cap) (.inl hx) hd hle hisz
    have b4 : Nat.beq sz i.size = true := by rw [hisz]; exact Nat.beq_refl _
    have b5 : Nat.ble (len + k) 1073741824 = true := Nat.ble_eq_true_of_le hlen
    have b6 : Nat.ble (len * sz) cs.length = true := by rw [h5]; exact Nat.ble_eq_true_of_le (Nat.le_refl _)
    have b7 : Nat.ble (len + k) len = false := by rw [bleD]; simp; omega
    have e1 : (cs.drop (0 * sz)).take (len * sz) = cs := by rw [Nat.zero_mul, List.drop_zero, ← h5, List.take_length]
    refine ⟨[id, mx], .new (.cells sz (cs ++ xs)), ?_, rfl, ?_, ?_, ?_⟩
    · unfold evApp
      simp only [he.t, hi, hz, b1, hnews, b2, b3, h4, b4, b5, b6, b7, e1, Bool.not_true, Bool.and_self, cond_false, cond_true, Nat.zero_add]
    · simp [effT, T.get_set]
    · rw [List.length_append, h5, hxl, Nat.add_mul]
    · intro j hj _; simp only [effT, T.get_set, if_neg hj]

theorem bin_shl2 (i : Nat) (h : i < 10) : evBin Tryz.prog .shl 3 (.int .i64 1) (.int .i64 (i : Int)) = some (.int .i64 ((2 ^ i : Nat) : Int)) := bin_shl i h

/-- What wide tells. -/
def WideSaid (S : Sys) (n0 n : Nat) (g : T AObj) (k : Int) (what K : Int) (tv : AV) : Prop :=
  (what = 2 ∧ ∃ p y, badAt S p = true ∧ (∀ q, q < p → badAt S q = false) ∧ (lst S p)[p / nIn S]? = some y ∧ K = (y.tick : Int) ∧ (y.tick : Int) ≤ k ∧ Rows n0 n g tv (((p % nIn S) :: backOf (lst S p) (p / nIn S)).reverse.map fun k => bitsI k S.ins.length)) ∨
  (what = 3 ∧ K = k ∧ tv = .nilSlice) ∨ (what = 1 ∧ tv = .nilSlice ∧ ∀ p, badAt S p = false)

/-- The memory of the search. -/
structure WideMem (S : Sys) (n sm : Nat) (h : T AObj) (m : Nat) (lv : AV) (av : List AV) (L : List Visit) : Prop where
  lv : ∃ id c, lv = .slice id 0 L.length c 4 ∧ (c = none ∨ c = some L.length) ∧ n ≤ id ∧ id < m ∧ id ≠ sm ∧ h.get id = some (.cells 4 (vrow av L)) ∧ ∀ (j : Nat) a, av[j]? = some a → ∀ i o l c s, a = .slice i o l c s → i ≠ id
  len : av.length = L.length
  rows : ∀ (j : Nat) a x, av[j]? = some a → L[j]? = some x → Row m h a 1 x.st.length (bools x.st)
  map : h.get sm = some (seenMap (keysOf L))
  away : ∀ (j : Nat) a, av[j]? = some a → ∀ i o l c s, a = .slice i o l c s → i ≠ sm
theorem WideMem.vis {S : Sys} {n sm : Nat} {h : T AObj} {m : Nat} {lv : AV} {av : List AV} {L : List Visit} (w : WideMem S n sm h m lv av L) : Vis m h lv L := by
  obtain ⟨id, c, rfl, _, _, h2, _, h3, _⟩ := w.lv
  refine vis_of (av := av) (.inr ⟨id, 0, c, vrow av L, rfl, h2, .inl h3, vrow_len w.len, fun j x hx => by simpa using hx, by rw [vrow_len w.len, Nat.zero_add]; exact Nat.le_refl _⟩) w.len w.rows
theorem WideMem.old {S : Sys} {n sm : Nat} {h h' : T AObj} {m m' : Nat} {lv : AV} {av : List AV} {L : List Visit} (w : WideMem S n sm h m lv av L) (hsm : sm < m) (ho : Old m h h') (hm : m ≤ m') : WideMem S n sm h' m' lv av L := by
  obtain ⟨id, c, h1, h2, h3, h4, h5, h6, h7⟩ := w.lv
  exact ⟨⟨id, c, h1, h2, h3, by omega, h5, by rw [ho id h4]; exact h6, h7⟩, w.len, fun j a x ha hx => (w.rows j a x ha hx).old ho hm, by rw [ho sm hsm]; exact w.map, w.away⟩
end Go.Ev
