/- PART OF THE PROOF OF KindBudget's CARD. The nets' checks and the inputs' list, evaluated for all data. -/
import Derived.Test.YtkbdclogklaeaaaGreatDoorKA
set_option linter.unusedSimpArgs false
set_option linter.unusedVariables false

set_option linter.unusedSimpArgs false
set_option linter.unusedVariables false
set_option maxRecDepth 20000
namespace Go.Ev
open Go Proofs

theorem bt (b : Bool) : b = true ∨ b = false := by cases b <;> simp

theorem checkNet_gives {fuel d : Nat} {g : T AObj} {n : Nat} {net : AV} {gs : List Gate} (hr : Row n g net 3 gs.length (gates gs)) (hf : gs.length + 1 < fuel) (hbig : gs.length < 1000000) :
    Gives Tryz.prog fuel (d + 1) 13 [.agg [net]] g n (fun x g' n' => (∃ e : Int, x = .int .i64 e ∧ (e = 0 ↔ NetOk gs)) ∧ Old n g g' ∧ n ≤ n') := by
  refine gives_ends 58 [.tmp 2] Tryz.func13 rfl rfl rfl ?_
  have hla := hr.evLen Tryz.underlying22 (P := Tryz.prog)
  have hb := box1 (n := n) hr.one
  by_cases hlong : (200000 : Int) < (gs.length : Int)
  · simp only [e_seq, e_skip, e_ret, e_exit, e_block, e_region, e_cond, condQ_true, condQ_false, seqK_normal, seqK_ret, seqK_exit, loopK_normal, loopK_ret, loopK_exit, drawK_eq, blockQ_normal, blockQ_ret, blockQ_same, blockQ_other, steps_cons, steps_done, fits_some, blt_lt, pre_plain, pre_guardQ, guardV_some, guardQ_tt, guardQ_ff, guardQ_tf, guardQ_ft, guardQ_skip, List.getElem?_toArray, List.getElem?_cons_zero, List.getElem?_cons_succ, fits_none, evOp, evCall, evOpds, evBuiltin, opd_tmp, opd_int, opd_bool, opd_nil, ov_some, ove_some, oe_some, ose_some, after_val, after_skip, after_call, callQ_some, stepK_eq, opd_func,  putT_some, putT_none, effT_none, next_none, effT_new, effT_wr, effT_mv, next_new, next_wr, next_mv, Nat.reduceLT, Nat.reduceBEq, true_and, and_true, reduceIte, Nat.reduceEqDiff, eq_self, T.get_set, cond_true, cond_false, endR_ret, resQ_some, evResults, tup_one, tup_two, tup_three, fillT, load_same, load_ne, store_same, store_ne, AV.cells, allOne, one_int, one_bool, one_ptr, one_nil, one_slice, List.length_cons, List.length_nil, Nat.zero_add, Nat.reduceAdd, beqD, bleD, Nat.reduceLeDiff, Nat.le_refl, decide_true, decide_false, Bool.and_self, Bool.and_true, Bool.true_and, List.take_zero, List.take_succ_cons, List.drop_succ_cons, List.drop_zero, List.nil_append, List.append_nil, List.cons_append, List.getElem?_cons_zero, List.getElem?_cons_succ, agg3, agg4, agg22, agg25, size3, size4, size22, size51, alloc51, fieldAddr24, fieldAddr51, bin_lss, bin_leq, bin_gtr, bin_geq, bin_eql, bin_neq, bin_neqb, un_not, List.getElem?_toArray, ne_eq, not_false_eq_true, hla, hb, hlong]
    exact ⟨⟨2, rfl, by simp [NetOk]; omega⟩, (Old.refl _ _).set (Nat.le_refl _) _, by omega⟩
  simp only [e_seq, e_skip, e_ret, e_exit, e_block, e_region, e_cond, condQ_true, condQ_false, seqK_normal, seqK_ret, seqK_exit, loopK_normal, loopK_ret, loopK_exit, drawK_eq, blockQ_normal, blockQ_ret, blockQ_same, blockQ_other, steps_cons, steps_done, fits_some, blt_lt, pre_plain, pre_guardQ, guardV_some, guardQ_tt, guardQ_ff, guardQ_tf, guardQ_ft, guardQ_skip, List.getElem?_toArray, List.getElem?_cons_zero, List.getElem?_cons_succ, fits_none, evOp, evCall, evOpds, evBuiltin, opd_tmp, opd_int, opd_bool, opd_nil, ov_some, ove_some, oe_some, ose_some, after_val, after_skip, after_call, callQ_some, stepK_eq, opd_func,  putT_some, putT_none, effT_none, next_none, effT_new, effT_wr, effT_mv, next_new, next_wr, next_mv, Nat.reduceLT, Nat.reduceBEq, true_and, and_true, reduceIte, Nat.reduceEqDiff, eq_self, T.get_set, cond_true, cond_false, endR_ret, resQ_some, evResults, tup_one, tup_two, tup_three, fillT, load_same, load_ne, store_same, store_ne, AV.cells, allOne, one_int, one_bool, one_ptr, one_nil, one_slice, List.length_cons, List.length_nil, Nat.zero_add, Nat.reduceAdd, beqD, bleD, Nat.reduceLeDiff, Nat.le_refl, decide_true, decide_false, Bool.and_self, Bool.and_true, Bool.true_and, List.take_zero, List.take_succ_cons, List.drop_succ_cons, List.drop_zero, List.nil_append, List.append_nil, List.cons_append, List.getElem?_cons_zero, List.getElem?_cons_succ, agg3, agg4, agg22, agg25, size3, size4, size22, size51, alloc51, fieldAddr24, fieldAddr51, bin_lss, bin_leq, bin_gtr, bin_geq, bin_eql, bin_neq, bin_neqb, un_not, List.getElem?_toArray, ne_eq, not_false_eq_true, hla, hb, hlong]
  refine e_loop (fun k s => ∃ i m : Nat, ∃ tm : T AV, ∃ h : T AObj, s = ⟨tm, h, m, []⟩ ∧ i + k = gs.length ∧ n + 1 ≤ m ∧ Old n g h ∧ h.get n = some (.cells 1 [net]) ∧ (∀ (j : Nat) x, j < i → gs[j]? = some x → GateOk j x) ∧
    tm.get 1 = some (.ptr n 0) ∧ tm.get 3 = some (.int .i64 (i : Int))) gs.length (by omega)
    ⟨0, n + 1, _, _, rfl, by omega, by omega, (Old.refl _ _).set (Nat.le_refl _) _, by simp [T.get_set], fun j x hj => by omega, by simp [T.get_set], by simp [T.get_set]⟩ ?_
  rintro k _ ⟨i, m, tm, h, rfl, hik, hm, ho, hn, hall, h1, h3⟩
  have l22 := load22 hn
  by_cases hlt : i < gs.length
  · have hc : (i : Int) < (gs.length : Int) := by omega
    obtain ⟨x, hx⟩ : ∃ x, gs[i]? = some x := ⟨_, List.getElem?_eq_getElem hlt⟩
    obtain ⟨id, o, a1, a2, a3, a4⟩ := (hr.old (n' := m) ho (by omega)).gate hlt hx .i64
    have hs := bin_succ Tryz.prog 3 i (by omega)
    have hd := bin_dbl Tryz.prog 3 i (by omega)
    have hnm : n ≠ m := by omega
    have bad : ∀ (G : T AObj) (M : Nat), Old n g G → n ≤ M → ¬ GateOk i x → (∃ e : Int, AV.int .i64 40 = .int .i64 e ∧ (e = 0 ↔ NetOk gs)) ∧ Old n g G ∧ n ≤ M := fun G M h1 h2 h3 => ⟨⟨40, rfl, by simp; intro hk; exact h3 (hk.2 i x hx)⟩, h1, h2⟩
    have good : ∀ (G : T AObj) (M : Nat) (tm : T AV), Old n g G → n + 1 ≤ M → G.get n = some (.cells 1 [net]) → GateOk i x → tm.get 1 = some (.ptr n 0) → tm.get 3 = some (.int .i64 ((i + 1 : Nat) : Int)) →
        ∃ j, j < k ∧ ∃ i m : Nat, ∃ tm' : T AV, ∃ h : T AObj, (⟨tm, G, M, []⟩ : St) = ⟨tm', h, m, []⟩ ∧ i + j = gs.length ∧ n + 1 ≤ m ∧ Old n g h ∧ h.get n = some (.cells 1 [net]) ∧ (∀ (j : Nat) x, j < i → gs[j]? = some x → GateOk j x) ∧
          tm'.get 1 = some (.ptr n 0) ∧ tm'.get 3 = some (.int .i64 (i : Int)) := by
      intro G M tm h1 h2 h3 h4 h5 h6
      refine ⟨k - 1, by omega, i + 1, M, tm, G, rfl, by omega, h2, h1, h3, fun j y hj hy => ?_, h5, h6⟩
      by_cases hji : j = i
      · subst hji; rw [hx] at hy; cases hy; exact h4
      · exact hall j y (by omega) hy
    have ho2 : ∀ a b, Old n g (T.set a (T.set b h m) m) := fun a b => (ho.set (by omega) _).set (by omega) _
    have hg2 : ∀ a b, (T.set a (T.set b h m) m).get n = some (.cells 1 [net]) := fun a b => by simp only [T.get_set, if_neg hnm, hn]
    rcases bt (x.op == 1) with o1 | o1
    · rcases bt (x.a != 0) with za | za
      · simp only [e_seq, e_skip, e_ret, e_exit, e_block, e_region, e_cond, condQ_true, condQ_false, seqK_normal, seqK_ret, seqK_exit, loopK_normal, loopK_ret, loopK_exit, drawK_eq, blockQ_normal, blockQ_ret, blockQ_same, blockQ_other, steps_cons, steps_done, fits_some, blt_lt, pre_plain, pre_guardQ, guardV_some, guardQ_tt, guardQ_ff, guardQ_tf, guardQ_ft, guardQ_skip, List.getElem?_toArray, List.getElem?_cons_zero, List.getElem?_cons_succ, fits_none, evOp, evCall, evOpds, evBuiltin, opd_tmp, opd_int, opd_bool, opd_nil, ov_some, ove_some, oe_some, ose_some, after_val, after_skip, after_call, callQ_some, stepK_eq, opd_func,  putT_some, putT_none, effT_none, next_none, effT_new, effT_wr, effT_mv, next_new, next_wr, next_mv, Nat.reduceLT, Nat.reduceBEq, true_and, and_true, reduceIte, Nat.reduceEqDiff, eq_self, T.get_set, cond_true, cond_false, endR_ret, resQ_some, evResults, tup_one, tup_two, tup_three, fillT, load_same, load_ne, store_same, store_ne, AV.cells, allOne, one_int, one_bool, one_ptr, one_nil, one_slice, List.length_cons, List.length_nil, Nat.zero_add, Nat.reduceAdd, beqD, bleD, Nat.reduceLeDiff, Nat.le_refl, decide_true, decide_false, Bool.and_self, Bool.and_true, Bool.true_and, List.take_zero, List.take_succ_cons, List.drop_succ_cons, List.drop_zero, List.nil_append, List.append_nil, List.cons_append, List.getElem?_cons_zero, List.getElem?_cons_succ, agg3, agg4, agg22, agg25, size3, size4, size22, size51, alloc51, fieldAddr24, fieldAddr51, bin_lss, bin_leq, bin_gtr, bin_geq, bin_eql, bin_neq, bin_neqb, un_not, List.getElem?_toArray, ne_eq, not_false_eq_true, hla, h1, h3, l22, hc, a1, a3, hs, hd, hnm, o1, za]
        refine bad _ _ (ho2 _ _) ?_ ?_
        · omega
        · simp [GateOk] at *; omega
      rcases bt (x.b != 0) with zb | zb
      · simp only [e_seq, e_skip, e_ret, e_exit, e_block, e_region, e_cond, condQ_true, condQ_false, seqK_normal, seqK_ret, seqK_exit, loopK_normal, loopK_ret, loopK_exit, drawK_eq, blockQ_normal, blockQ_ret, blockQ_same, blockQ_other, steps_cons, steps_done, fits_some, blt_lt, pre_plain, pre_guardQ, guardV_some, guardQ_tt, guardQ_ff, guardQ_tf, guardQ_ft, guardQ_skip, List.getElem?_toArray, List.getElem?_cons_zero, List.getElem?_cons_succ, fits_none, evOp, evCall, evOpds, evBuiltin, opd_tmp, opd_int, opd_bool, opd_nil, ov_some, ove_some, oe_some, ose_some, after_val, after_skip, after_call, callQ_some, stepK_eq, opd_func,  putT_some, putT_none, effT_none, next_none, effT_new, effT_wr, effT_mv, next_new, next_wr, next_mv, Nat.reduceLT, Nat.reduceBEq, true_and, and_true, reduceIte, Nat.reduceEqDiff, eq_self, T.get_set, cond_true, cond_false, endR_ret, resQ_some, evResults, tup_one, tup_two, tup_three, fillT, load_same, load_ne, store_same, store_ne, AV.cells, allOne, one_int, one_bool, one_ptr, one_nil, one_slice, List.length_cons, List.length_nil, Nat.zero_add, Nat.reduceAdd, beqD, bleD, Nat.reduceLeDiff, Nat.le_refl, decide_true, decide_false, Bool.and_self, Bool.and_true, Bool.true_and, List.take_zero, List.take_succ_cons, List.drop_succ_cons, List.drop_zero, List.nil_append, List.append_nil, List.cons_append, List.getElem?_cons_zero, List.getElem?_cons_succ, agg3, agg4, agg22, agg25, size3, size4, size22, size51, alloc51, fieldAddr24, fieldAddr51, bin_lss, bin_leq, bin_gtr, bin_geq, bin_eql, bin_neq, bin_neqb, un_not, List.getElem?_toArray, ne_eq, not_false_eq_true, hla, h1, h3, l22, hc, a1, a3, hs, hd, hnm, o1, za, zb]
        refine bad _ _ (ho2 _ _) ?_ ?_
        · omega
        · simp [GateOk] at *; omega
      · simp only [e_seq, e_skip, e_ret, e_exit, e_block, e_region, e_cond, condQ_true, condQ_false, seqK_normal, seqK_ret, seqK_exit, loopK_normal, loopK_ret, loopK_exit, drawK_eq, blockQ_normal, blockQ_ret, blockQ_same, blockQ_other, steps_cons, steps_done, fits_some, blt_lt, pre_plain, pre_guardQ, guardV_some, guardQ_tt, guardQ_ff, guardQ_tf, guardQ_ft, guardQ_skip, List.getElem?_toArray, List.getElem?_cons_zero, List.getElem?_cons_succ, fits_none, evOp, evCall, evOpds, evBuiltin, opd_tmp, opd_int, opd_bool, opd_nil, ov_some, ove_some, oe_some, ose_some, after_val, after_skip, after_call, callQ_some, stepK_eq, opd_func,  putT_some, putT_none, effT_none, next_none, effT_new, effT_wr, effT_mv, next_new, next_wr, next_mv, Nat.reduceLT, Nat.reduceBEq, true_and, and_true, reduceIte, Nat.reduceEqDiff, eq_self, T.get_set, cond_true, cond_false, endR_ret, resQ_some, evResults, tup_one, tup_two, tup_three, fillT, load_same, load_ne, store_same, store_ne, AV.cells, allOne, one_int, one_bool, one_ptr, one_nil, one_slice, List.length_cons, List.length_nil, Nat.zero_add, Nat.reduceAdd, beqD, bleD, Nat.reduceLeDiff, Nat.le_refl, decide_true, decide_false, Bool.and_self, Bool.and_true, Bool.true_and, List.take_zero, List.take_succ_cons, List.drop_succ_cons, List.drop_zero, List.nil_append, List.append_nil, List.cons_append, List.getElem?_cons_zero, List.getElem?_cons_succ, agg3, agg4, agg22, agg25, size3, size4, size22, size51, alloc51, fieldAddr24, fieldAddr51, bin_lss, bin_leq, bin_gtr, bin_geq, bin_eql, bin_neq, bin_neqb, un_not, List.getElem?_toArray, ne_eq, not_false_eq_true, hla, h1, h3, l22, hc, a1, a3, hs, hd, hnm, o1, za, zb]
        refine good _ _ _ (ho2 _ _) ?_ (hg2 _ _) ?_ ?_ ?_
        · omega
        · simp [GateOk] at *; omega
        · simp [T.get_set, h1]
        · simp [T.get_set]
    rcases bt (x.op == 2) with o2 | o2
    · rcases bt (x.a != 0) with za | za
      · simp only [e_seq, e_skip, e_ret, e_exit, e_block, e_region, e_cond, condQ_true, condQ_false, seqK_normal, seqK_ret, seqK_exit, loopK_normal, loopK_ret, loopK_exit, drawK_eq, blockQ_normal, blockQ_ret, blockQ_same, blockQ_other, steps_cons, steps_done, fits_some, blt_lt, pre_plain, pre_guardQ, guardV_some, guardQ_tt, guardQ_ff, guardQ_tf, guardQ_ft, guardQ_skip, List.getElem?_toArray, List.getElem?_cons_zero, List.getElem?_cons_succ, fits_none, evOp, evCall, evOpds, evBuiltin, opd_tmp, opd_int, opd_bool, opd_nil, ov_some, ove_some, oe_some, ose_some, after_val, after_skip, after_call, callQ_some, stepK_eq, opd_func,  putT_some, putT_none, effT_none, next_none, effT_new, effT_wr, effT_mv, next_new, next_wr, next_mv, Nat.reduceLT, Nat.reduceBEq, true_and, and_true, reduceIte, Nat.reduceEqDiff, eq_self, T.get_set, cond_true, cond_false, endR_ret, resQ_some, evResults, tup_one, tup_two, tup_three, fillT, load_same, load_ne, store_same, store_ne, AV.cells, allOne, one_int, one_bool, one_ptr, one_nil, one_slice, List.length_cons, List.length_nil, Nat.zero_add, Nat.reduceAdd, beqD, bleD, Nat.reduceLeDiff, Nat.le_refl, decide_true, decide_false, Bool.and_self, Bool.and_true, Bool.true_and, List.take_zero, List.take_succ_cons, List.drop_succ_cons, List.drop_zero, List.nil_append, List.append_nil, List.cons_append, List.getElem?_cons_zero, List.getElem?_cons_succ, agg3, agg4, agg22, agg25, size3, size4, size22, size51, alloc51, fieldAddr24, fieldAddr51, bin_lss, bin_leq, bin_gtr, bin_geq, bin_eql, bin_neq, bin_neqb, un_not, List.getElem?_toArray, ne_eq, not_false_eq_true, hla, h1, h3, l22, hc, a1, a3, hs, hd, hnm, o1, o2, za]
        refine bad _ _ (ho2 _ _) ?_ ?_
        · omega
        · simp [GateOk] at *; omega
      rcases bt (x.b != 0) with zb | zb
      · simp only [e_seq, e_skip, e_ret, e_exit, e_block, e_region, e_cond, condQ_true, condQ_false, seqK_normal, seqK_ret, seqK_exit, loopK_normal, loopK_ret, loopK_exit, drawK_eq, blockQ_normal, blockQ_ret, blockQ_same, blockQ_other, steps_cons, steps_done, fits_some, blt_lt, pre_plain, pre_guardQ, guardV_some, guardQ_tt, guardQ_ff, guardQ_tf, guardQ_ft, guardQ_skip, List.getElem?_toArray, List.getElem?_cons_zero, List.getElem?_cons_succ, fits_none, evOp, evCall, evOpds, evBuiltin, opd_tmp, opd_int, opd_bool, opd_nil, ov_some, ove_some, oe_some, ose_some, after_val, after_skip, after_call, callQ_some, stepK_eq, opd_func,  putT_some, putT_none, effT_none, next_none, effT_new, effT_wr, effT_mv, next_new, next_wr, next_mv, Nat.reduceLT, Nat.reduceBEq, true_and, and_true, reduceIte, Nat.reduceEqDiff, eq_self, T.get_set, cond_true, cond_false, endR_ret, resQ_some, evResults, tup_one, tup_two, tup_three, fillT, load_same, load_ne, store_same, store_ne, AV.cells, allOne, one_int, one_bool, one_ptr, one_nil, one_slice, List.length_cons, List.length_nil, Nat.zero_add, Nat.reduceAdd, beqD, bleD, Nat.reduceLeDiff, Nat.le_refl, decide_true, decide_false, Bool.and_self, Bool.and_true, Bool.true_and, List.take_zero, List.take_succ_cons, List.drop_succ_cons, List.drop_zero, List.nil_append, List.append_nil, List.cons_append, List.getElem?_cons_zero, List.getElem?_cons_succ, agg3, agg4, agg22, agg25, size3, size4, size22, size51, alloc51, fieldAddr24, fieldAddr51, bin_lss, bin_leq, bin_gtr, bin_geq, bin_eql, bin_neq, bin_neqb, un_not, List.getElem?_toArray, ne_eq, not_false_eq_true, hla, h1, h3, l22, hc, a1, a3, hs, hd, hnm, o1, o2, za, zb]
        refine bad _ _ (ho2 _ _) ?_ ?_
        · omega
        · simp [GateOk] at *; omega
      · simp only [e_seq, e_skip, e_ret, e_exit, e_block, e_region, e_cond, condQ_true, condQ_false, seqK_normal, seqK_ret, seqK_exit, loopK_normal, loopK_ret, loopK_exit, drawK_eq, blockQ_normal, blockQ_ret, blockQ_same, blockQ_other, steps_cons, steps_done, fits_some, blt_lt, pre_plain, pre_guardQ, guardV_some, guardQ_tt, guardQ_ff, guardQ_tf, guardQ_ft, guardQ_skip, List.getElem?_toArray, List.getElem?_cons_zero, List.getElem?_cons_succ, fits_none, evOp, evCall, evOpds, evBuiltin, opd_tmp, opd_int, opd_bool, opd_nil, ov_some, ove_some, oe_some, ose_some, after_val, after_skip, after_call, callQ_some, stepK_eq, opd_func,  putT_some, putT_none, effT_none, next_none, effT_new, effT_wr, effT_mv, next_new, next_wr, next_mv, Nat.reduceLT, Nat.reduceBEq, true_and, and_true, reduceIte, Nat.reduceEqDiff, eq_self, T.get_set, cond_true, cond_false, endR_ret, resQ_some, evResults, tup_one, tup_two, tup_three, fillT, load_same, load_ne, store_same, store_ne, AV.cells, allOne, one_int, one_bool, one_ptr, one_nil, one_slice, List.length_cons, List.length_nil, Nat.zero_add, Nat.reduceAdd, beqD, bleD, Nat.reduceLeDiff, Nat.le_refl, decide_true, decide_false, Bool.and_self, Bool.and_true, Bool.true_and, List.take_zero, List.take_succ_cons, List.drop_succ_cons, List.drop_zero, List.nil_append, List.append_nil, List.cons_append, List.getElem?_cons_zero, List.getElem?_cons_succ, agg3, agg4, agg22, agg25, size3, size4, size22, size51, alloc51, fieldAddr24, fieldAddr51, bin_lss, bin_leq, bin_gtr, bin_geq, bin_eql, bin_neq, bin_neqb, un_not, List.getElem?_toArray, ne_eq, not_false_eq_true, hla, h1, h3, l22, hc, a1, a3, hs, hd, hnm, o1, o2, za, zb]
        refine good _ _ _ (ho2 _ _) ?_ (hg2 _ _) ?_ ?_ ?_
        · omega
        · simp [GateOk] at *; omega
        · simp [T.get_set, h1]
        · simp [T.get_set]
    rcases bt (x.op == 3) with o3 | o3
    · rcases bt (decide (x.a < 0)) with za | za
      · simp only [e_seq, e_skip, e_ret, e_exit, e_block, e_region, e_cond, condQ_true, condQ_false, seqK_normal, seqK_ret, seqK_exit, loopK_normal, loopK_ret, loopK_exit, drawK_eq, blockQ_normal, blockQ_ret, blockQ_same, blockQ_other, steps_cons, steps_done, fits_some, blt_lt, pre_plain, pre_guardQ, guardV_some, guardQ_tt, guardQ_ff, guardQ_tf, guardQ_ft, guardQ_skip, List.getElem?_toArray, List.getElem?_cons_zero, List.getElem?_cons_succ, fits_none, evOp, evCall, evOpds, evBuiltin, opd_tmp, opd_int, opd_bool, opd_nil, ov_some, ove_some, oe_some, ose_some, after_val, after_skip, after_call, callQ_some, stepK_eq, opd_func,  putT_some, putT_none, effT_none, next_none, effT_new, effT_wr, effT_mv, next_new, next_wr, next_mv, Nat.reduceLT, Nat.reduceBEq, true_and, and_true, reduceIte, Nat.reduceEqDiff, eq_self, T.get_set, cond_true, cond_false, endR_ret, resQ_some, evResults, tup_one, tup_two, tup_three, fillT, load_same, load_ne, store_same, store_ne, AV.cells, allOne, one_int, one_bool, one_ptr, one_nil, one_slice, List.length_cons, List.length_nil, Nat.zero_add, Nat.reduceAdd, beqD, bleD, Nat.reduceLeDiff, Nat.le_refl, decide_true, decide_false, Bool.and_self, Bool.and_true, Bool.true_and, List.take_zero, List.take_succ_cons, List.drop_succ_cons, List.drop_zero, List.nil_append, List.append_nil, List.cons_append, List.getElem?_cons_zero, List.getElem?_cons_succ, agg3, agg4, agg22, agg25, size3, size4, size22, size51, alloc51, fieldAddr24, fieldAddr51, bin_lss, bin_leq, bin_gtr, bin_geq, bin_eql, bin_neq, bin_neqb, un_not, List.getElem?_toArray, ne_eq, not_false_eq_true, hla, h1, h3, l22, hc, a1, a3, hs, hd, hnm, o1, o2, o3, za]
        refine bad _ _ (ho2 _ _) ?_ ?_
        · omega
        · simp [GateOk] at *; omega
      rcases bt (decide (x.b < 0)) with zb | zb
      · simp only [e_seq, e_skip, e_ret, e_exit, e_block, e_region, e_cond, condQ_true, condQ_false, seqK_normal, seqK_ret, seqK_exit, loopK_normal, loopK_ret, loopK_exit, drawK_eq, blockQ_normal, blockQ_ret, blockQ_same, blockQ_other, steps_cons, steps_done, fits_some, blt_lt, pre_plain, pre_guardQ, guardV_some, guardQ_tt, guardQ_ff, guardQ_tf, guardQ_ft, guardQ_skip, List.getElem?_toArray, List.getElem?_cons_zero, List.getElem?_cons_succ, fits_none, evOp, evCall, evOpds, evBuiltin, opd_tmp, opd_int, opd_bool, opd_nil, ov_some, ove_some, oe_some, ose_some, after_val, after_skip, after_call, callQ_some, stepK_eq, opd_func,  putT_some, putT_none, effT_none, next_none, effT_new, effT_wr, effT_mv, next_new, next_wr, next_mv, Nat.reduceLT, Nat.reduceBEq, true_and, and_true, reduceIte, Nat.reduceEqDiff, eq_self, T.get_set, cond_true, cond_false, endR_ret, resQ_some, evResults, tup_one, tup_two, tup_three, fillT, load_same, load_ne, store_same, store_ne, AV.cells, allOne, one_int, one_bool, one_ptr, one_nil, one_slice, List.length_cons, List.length_nil, Nat.zero_add, Nat.reduceAdd, beqD, bleD, Nat.reduceLeDiff, Nat.le_refl, decide_true, decide_false, Bool.and_self, Bool.and_true, Bool.true_and, List.take_zero, List.take_succ_cons, List.drop_succ_cons, List.drop_zero, List.nil_append, List.append_nil, List.cons_append, List.getElem?_cons_zero, List.getElem?_cons_succ, agg3, agg4, agg22, agg25, size3, size4, size22, size51, alloc51, fieldAddr24, fieldAddr51, bin_lss, bin_leq, bin_gtr, bin_geq, bin_eql, bin_neq, bin_neqb, un_not, List.getElem?_toArray, ne_eq, not_false_eq_true, hla, h1, h3, l22, hc, a1, a3, hs, hd, hnm, o1, o2, o3, za, zb]
        refine bad _ _ (ho2 _ _) ?_ ?_
        · omega
        · simp [GateOk] at *; omega
      rcases bt (decide (((2 * i : Nat) : Int) ≤ x.a)) with ya | ya
      · simp only [e_seq, e_skip, e_ret, e_exit, e_block, e_region, e_cond, condQ_true, condQ_false, seqK_normal, seqK_ret, seqK_exit, loopK_normal, loopK_ret, loopK_exit, drawK_eq, blockQ_normal, blockQ_ret, blockQ_same, blockQ_other, steps_cons, steps_done, fits_some, blt_lt, pre_plain, pre_guardQ, guardV_some, guardQ_tt, guardQ_ff, guardQ_tf, guardQ_ft, guardQ_skip, List.getElem?_toArray, List.getElem?_cons_zero, List.getElem?_cons_succ, fits_none, evOp, evCall, evOpds, evBuiltin, opd_tmp, opd_int, opd_bool, opd_nil, ov_some, ove_some, oe_some, ose_some, after_val, after_skip, after_call, callQ_some, stepK_eq, opd_func,  putT_some, putT_none, effT_none, next_none, effT_new, effT_wr, effT_mv, next_new, next_wr, next_mv, Nat.reduceLT, Nat.reduceBEq, true_and, and_true, reduceIte, Nat.reduceEqDiff, eq_self, T.get_set, cond_true, cond_false, endR_ret, resQ_some, evResults, tup_one, tup_two, tup_three, fillT, load_same, load_ne, store_same, store_ne, AV.cells, allOne, one_int, one_bool, one_ptr, one_nil, one_slice, List.length_cons, List.length_nil, Nat.zero_add, Nat.reduceAdd, beqD, bleD, Nat.reduceLeDiff, Nat.le_refl, decide_true, decide_false, Bool.and_self, Bool.and_true, Bool.true_and, List.take_zero, List.take_succ_cons, List.drop_succ_cons, List.drop_zero, List.nil_append, List.append_nil, List.cons_append, List.getElem?_cons_zero, List.getElem?_cons_succ, agg3, agg4, agg22, agg25, size3, size4, size22, size51, alloc51, fieldAddr24, fieldAddr51, bin_lss, bin_leq, bin_gtr, bin_geq, bin_eql, bin_neq, bin_neqb, un_not, List.getElem?_toArray, ne_eq, not_false_eq_true, hla, h1, h3, l22, hc, a1, a3, hs, hd, hnm, o1, o2, o3, za, zb, ya]
        refine bad _ _ (ho2 _ _) ?_ ?_
        · omega
        · simp [GateOk] at *; omega
      rcases bt (decide (((2 * i : Nat) : Int) ≤ x.b)) with yb | yb
      · simp only [e_seq, e_skip, e_ret, e_exit, e_block, e_region, e_cond, condQ_true, condQ_false, seqK_normal, seqK_ret, seqK_exit, loopK_normal, loopK_ret, loopK_exit, drawK_eq, blockQ_normal, blockQ_ret, blockQ_same, blockQ_other, steps_cons, steps_done, fits_some, blt_lt, pre_plain, pre_guardQ, guardV_some, guardQ_tt, guardQ_ff, guardQ_tf, guardQ_ft, guardQ_skip, List.getElem?_toArray, List.getElem?_cons_zero, List.getElem?_cons_succ, fits_none, evOp, evCall, evOpds, evBuiltin, opd_tmp, opd_int, opd_bool, opd_nil, ov_some, ove_some, oe_some, ose_some, after_val, after_skip, after_call, callQ_some, stepK_eq, opd_func,  putT_some, putT_none, effT_none, next_none, effT_new, effT_wr, effT_mv, next_new, next_wr, next_mv, Nat.reduceLT, Nat.reduceBEq, true_and, and_true, reduceIte, Nat.reduceEqDiff, eq_self, T.get_set, cond_true, cond_false, endR_ret, resQ_some, evResults, tup_one, tup_two, tup_three, fillT, load_same, load_ne, store_same, store_ne, AV.cells, allOne, one_int, one_bool, one_ptr, one_nil, one_slice, List.length_cons, List.length_nil, Nat.zero_add, Nat.reduceAdd, beqD, bleD, Nat.reduceLeDiff, Nat.le_refl, decide_true, decide_false, Bool.and_self, Bool.and_true, Bool.true_and, List.take_zero, List.take_succ_cons, List.drop_succ_cons, List.drop_zero, List.nil_append, List.append_nil, List.cons_append, List.getElem?_cons_zero, List.getElem?_cons_succ, agg3, agg4, agg22, agg25, size3, size4, size22, size51, alloc51, fieldAddr24, fieldAddr51, bin_lss, bin_leq, bin_gtr, bin_geq, bin_eql, bin_neq, bin_neqb, un_not, List.getElem?_toArray, ne_eq, not_false_eq_true, hla, h1, h3, l22, hc, a1, a3, hs, hd, hnm, o1, o2, o3, za, zb, ya, yb]
        refine bad _ _ (ho2 _ _) ?_ ?_
        · omega
        · simp [GateOk] at *; omega
      · simp only [e_seq, e_skip, e_ret, e_exit, e_block, e_region, e_cond, condQ_true, condQ_false, seqK_normal, seqK_ret, seqK_exit, loopK_normal, loopK_ret, loopK_exit, drawK_eq, blockQ_normal, blockQ_ret, blockQ_same, blockQ_other, steps_cons, steps_done, fits_some, blt_lt, pre_plain, pre_guardQ, guardV_some, guardQ_tt, guardQ_ff, guardQ_tf, guardQ_ft, guardQ_skip, List.getElem?_toArray, List.getElem?_cons_zero, List.getElem?_cons_succ, fits_none, evOp, evCall, evOpds, evBuiltin, opd_tmp, opd_int, opd_bool, opd_nil, ov_some, ove_some, oe_some, ose_some, after_val, after_skip, after_call, callQ_some, stepK_eq, opd_func,  putT_some, putT_none, effT_none, next_none, effT_new, effT_wr, effT_mv, next_new, next_wr, next_mv, Nat.reduceLT, Nat.reduceBEq, true_and, and_true, reduceIte, Nat.reduceEqDiff, eq_self, T.get_set, cond_true, cond_false, endR_ret, resQ_some, evResults, tup_one, tup_two, tup_three, fillT, load_same, load_ne, store_same, store_ne, AV.cells, allOne, one_int, one_bool, one_ptr, one_nil, one_slice, List.length_cons, List.length_nil, Nat.zero_add, Nat.reduceAdd, beqD, bleD, Nat.reduceLeDiff, Nat.le_refl, decide_true, decide_false, Bool.and_self, Bool.and_true, Bool.true_and, List.take_zero, List.take_succ_cons, List.drop_succ_cons, List.drop_zero, List.nil_append, List.append_nil, List.cons_append, List.getElem?_cons_zero, List.getElem?_cons_succ, agg3, agg4, agg22, agg25, size3, size4, size22, size51, alloc51, fieldAddr24, fieldAddr51, bin_lss, bin_leq, bin_gtr, bin_geq, bin_eql, bin_neq, bin_neqb, un_not, List.getElem?_toArray, ne_eq, not_false_eq_true, hla, h1, h3, l22, hc, a1, a3, hs, hd, hnm, o1, o2, o3, za, zb, ya, yb]
        refine good _ _ _ (ho2 _ _) ?_ (hg2 _ _) ?_ ?_ ?_
        · omega
        · simp [GateOk] at *; omega
        · simp [T.get_set, h1]
        · simp [T.get_set]
    · simp only [e_seq, e_skip, e_ret, e_exit, e_block, e_region, e_cond, condQ_true, condQ_false, seqK_normal, seqK_ret, seqK_exit, loopK_normal, loopK_ret, loopK_exit, drawK_eq, blockQ_normal, blockQ_ret, blockQ_same, blockQ_other, steps_cons, steps_done, fits_some, blt_lt, pre_plain, pre_guardQ, guardV_some, guardQ_tt, guardQ_ff, guardQ_tf, guardQ_ft, guardQ_skip, List.getElem?_toArray, List.getElem?_cons_zero, List.getElem?_cons_succ, fits_none, evOp, evCall, evOpds, evBuiltin, opd_tmp, opd_int, opd_bool, opd_nil, ov_some, ove_some, oe_some, ose_some, after_val, after_skip, after_call, callQ_some, stepK_eq, opd_func,  putT_some, putT_none, effT_none, next_none, effT_new, effT_wr, effT_mv, next_new, next_wr, next_mv, Nat.reduceLT, Nat.reduceBEq, true_and, and_true, reduceIte, Nat.reduceEqDiff, eq_self, T.get_set, cond_true, cond_false, endR_ret, resQ_some, evResults, tup_one, tup_two, tup_three, fillT, load_same, load_ne, store_same, store_ne, AV.cells, allOne, one_int, one_bool, one_ptr, one_nil, one_slice, List.length_cons, List.length_nil, Nat.zero_add, Nat.reduceAdd, beqD, bleD, Nat.reduceLeDiff, Nat.le_refl, decide_true, decide_false, Bool.and_self, Bool.and_true, Bool.true_and, List.take_zero, List.take_succ_cons, List.drop_succ_cons, List.drop_zero, List.nil_append, List.append_nil, List.cons_append, List.getElem?_cons_zero, List.getElem?_cons_succ, agg3, agg4, agg22, agg25, size3, size4, size22, size51, alloc51, fieldAddr24, fieldAddr51, bin_lss, bin_leq, bin_gtr, bin_geq, bin_eql, bin_neq, bin_neqb, un_not, List.getElem?_toArray, ne_eq, not_false_eq_true, hla, h1, h3, l22, hc, a1, a3, hs, hd, hnm, o1, o2, o3]
      refine bad _ _ (ho2 _ _) ?_ ?_
      · omega
      · simp [GateOk] at *; omega
  · have hc : ¬ (i : Int) < (gs.length : Int) := by omega
    simp only [e_seq, e_skip, e_ret, e_exit, e_block, e_region, e_cond, condQ_true, condQ_false, seqK_normal, seqK_ret, seqK_exit, loopK_normal, loopK_ret, loopK_exit, drawK_eq, blockQ_normal, blockQ_ret, blockQ_same, blockQ_other, steps_cons, steps_done, fits_some, blt_lt, pre_plain, pre_guardQ, guardV_some, guardQ_tt, guardQ_ff, guardQ_tf, guardQ_ft, guardQ_skip, List.getElem?_toArray, List.getElem?_cons_zero, List.getElem?_cons_succ, fits_none, evOp, evCall, evOpds, evBuiltin, opd_tmp, opd_int, opd_bool, opd_nil, ov_some, ove_some, oe_some, ose_some, after_val, after_skip, after_call, callQ_some, stepK_eq, opd_func,  putT_some, putT_none, effT_none, next_none, effT_new, effT_wr, effT_mv, next_new, next_wr, next_mv, Nat.reduceLT, Nat.reduceBEq, true_and, and_true, reduceIte, Nat.reduceEqDiff, eq_self, T.get_set, cond_true, cond_false, endR_ret, resQ_some, evResults, tup_one, tup_two, tup_three, fillT, load_same, load_ne, store_same, store_ne, AV.cells, allOne, one_int, one_bool, one_ptr, one_nil, one_slice, List.length_cons, List.length_nil, Nat.zero_add, Nat.reduceAdd, beqD, bleD, Nat.reduceLeDiff, Nat.le_refl, decide_true, decide_false, Bool.and_self, Bool.and_true, Bool.true_and, List.take_zero, List.take_succ_cons, List.drop_succ_cons, List.drop_zero, List.nil_append, List.append_nil, List.cons_append, List.getElem?_cons_zero, List.getElem?_cons_succ, agg3, agg4, agg22, agg25, size3, size4, size22, size51, alloc51, fieldAddr24, fieldAddr51, bin_lss, bin_leq, bin_gtr, bin_geq, bin_eql, bin_neq, bin_neqb, un_not, List.getElem?_toArray, ne_eq, not_false_eq_true, hla, h1, h3, l22, hc]
    exact ⟨⟨0, rfl, by simp [NetOk]; exact ⟨by omega, fun j x hj => hall j x (by have := (List.getElem?_eq_some_iff.1 hj).1; omega) hj⟩⟩, ho, by omega⟩
end Go.Ev

set_option linter.unusedSimpArgs false
set_option linter.unusedVariables false
set_option maxRecDepth 20000
namespace Go.Ev
open Go Proofs

theorem check_gives {fuel d : Nat} {g : T AObj} {n : Nat} {net : AV} {gs : List Gate} (hr : Row n g net 3 gs.length (gates gs)) (hok : NetOk gs) (hf : gs.length + 1 < fuel) :
    Gives Tryz.prog fuel (d + 1) 34 [.agg [net]] g n (fun x g' n' => x = .int .i64 0 ∧ Old n g g' ∧ n ≤ n') := by
  refine gives_ends 56 [.tmp 2] Tryz.func34 rfl rfl rfl ?_
  have hla := hr.evLen Tryz.underlying22 (P := Tryz.prog)
  have hb := box1 (n := n) hr.one
  have hlong : ¬ (200000 : Int) < (gs.length : Int) := by have := hok.1; omega
  simp only [e_seq, e_skip, e_ret, e_exit, e_block, e_region, e_cond, condQ_true, condQ_false, seqK_normal, seqK_ret, seqK_exit, loopK_normal, loopK_ret, loopK_exit, drawK_eq, blockQ_normal, blockQ_ret, blockQ_same, blockQ_other, steps_cons, steps_done, fits_some, blt_lt, pre_plain, pre_guardQ, guardV_some, guardQ_tt, guardQ_ff, guardQ_tf, guardQ_ft, guardQ_skip, List.getElem?_toArray, List.getElem?_cons_zero, List.getElem?_cons_succ, fits_none, evOp, evCall, evOpds, evBuiltin, opd_tmp, opd_int, opd_bool, opd_nil, ov_some, ove_some, oe_some, ose_some, after_val, after_skip, after_call, callQ_some, stepK_eq, opd_func,  putT_some, putT_none, effT_none, next_none, effT_new, effT_wr, effT_mv, next_new, next_wr, next_mv, Nat.reduceLT, Nat.reduceBEq, true_and, and_true, reduceIte, Nat.reduceEqDiff, eq_self, T.get_set, cond_true, cond_false, endR_ret, resQ_some, evResults, tup_one, tup_two, tup_three, fillT, load_same, load_ne, store_same, store_ne, AV.cells, allOne, one_int, one_bool, one_ptr, one_nil, one_slice, List.length_cons, List.length_nil, Nat.zero_add, Nat.reduceAdd, beqD, bleD, Nat.reduceLeDiff, Nat.le_refl, decide_true, decide_false, Bool.and_self, Bool.and_true, Bool.true_and, List.take_zero, List.take_succ_cons, List.drop_succ_cons, List.drop_zero, List.nil_append, List.append_nil, List.cons_append, List.getElem?_cons_zero, List.getElem?_cons_succ, agg3, agg4, agg22, agg25, size3, size4, size22, size51, alloc51, fieldAddr24, fieldAddr51, bin_lss, bin_leq, bin_gtr, bin_geq, bin_eql, bin_neq, bin_neqb, un_not, List.getElem?_toArray, ne_eq, not_false_eq_true, hla, hb, hlong]
  refine e_loop (fun k s => ∃ i m : Nat, ∃ tm : T AV, ∃ h : T AObj, s = ⟨tm, h, m, []⟩ ∧ i + k = gs.length ∧ n + 1 ≤ m ∧ Old n g h ∧ h.get n = some (.cells 1 [net]) ∧
    tm.get 10 = some net ∧ tm.get 11 = some (.int .i64 (gs.length : Int)) ∧ tm.get 12 = some (.int .i64 (i : Int))) gs.length (by omega)
    ⟨0, n + 1, _, _, rfl, by omega, by omega, (Old.refl _ _).set (Nat.le_refl _) _, by simp [T.get_set], by simp [T.get_set], by simp [T.get_set], by simp [T.get_set]⟩ ?_
  rintro k _ ⟨i, m, tm, h, rfl, hik, hm, ho, hn, h10, h11, h12⟩
  by_cases hlt : i < gs.length
  · have hc : (i : Int) < (gs.length : Int) := by omega
    obtain ⟨x, hx⟩ : ∃ x, gs[i]? = some x := ⟨_, List.getElem?_eq_getElem hlt⟩
    obtain ⟨id, o, a1, a2, a3, a4⟩ := (hr.old (n' := m) ho (by omega)).gate hlt hx .i64
    have hl := hok.1
    have hs := bin_succ Tryz.prog 3 i (by omega)
    have hd := bin_dbl Tryz.prog 3 i (by omega)
    have hnm : n ≠ m := by omega
    have good : ∀ (G : T AObj) (M : Nat) (tm : T AV), Old n g G → n + 1 ≤ M → G.get n = some (.cells 1 [net]) → tm.get 10 = some net → tm.get 11 = some (.int .i64 (gs.length : Int)) → tm.get 12 = some (.int .i64 ((i + 1 : Nat) : Int)) →
        ∃ j, j < k ∧ ∃ i m : Nat, ∃ tm' : T AV, ∃ h : T AObj, (⟨tm, G, M, []⟩ : St) = ⟨tm', h, m, []⟩ ∧ i + j = gs.length ∧ n + 1 ≤ m ∧ Old n g h ∧ h.get n = some (.cells 1 [net]) ∧
          tm'.get 10 = some net ∧ tm'.get 11 = some (.int .i64 (gs.length : Int)) ∧ tm'.get 12 = some (.int .i64 (i : Int)) := by
      intro G M tm h1 h2 h3 h5 h6 h7
      exact ⟨k - 1, by omega, i + 1, M, tm, G, rfl, by omega, h2, h1, h3, h5, h6, h7⟩
    have ho2 : ∀ a b, Old n g (T.set a (T.set b h m) m) := fun a b => (ho.set (by omega) _).set (by omega) _
    have hg2 : ∀ a b, (T.set a (T.set b h m) m).get n = some (.cells 1 [net]) := fun a b => by simp only [T.get_set, if_neg hnm, hn]
    have hgo := hok.2 i x hx
    rcases bt (x.op == 1) with o1 | o1
    · have za : (x.a != 0) = false := by simp [GateOk] at *; omega
      have zb : (x.b != 0) = false := by simp [GateOk] at *; omega
      simp only [e_seq, e_skip, e_ret, e_exit, e_block, e_region, e_cond, condQ_true, condQ_false, seqK_normal, seqK_ret, seqK_exit, loopK_normal, loopK_ret, loopK_exit, drawK_eq, blockQ_normal, blockQ_ret, blockQ_same, blockQ_other, steps_cons, steps_done, fits_some, blt_lt, pre_plain, pre_guardQ, guardV_some, guardQ_tt, guardQ_ff, guardQ_tf, guardQ_ft, guardQ_skip, List.getElem?_toArray, List.getElem?_cons_zero, List.getElem?_cons_succ, fits_none, evOp, evCall, evOpds, evBuiltin, opd_tmp, opd_int, opd_bool, opd_nil, ov_some, ove_some, oe_some, ose_some, after_val, after_skip, after_call, callQ_some, stepK_eq, opd_func,  putT_some, putT_none, effT_none, next_none, effT_new, effT_wr, effT_mv, next_new, next_wr, next_mv, Nat.reduceLT, Nat.reduceBEq, true_and, and_true, reduceIte, Nat.reduceEqDiff, eq_self, T.get_set, cond_true, cond_false, endR_ret, resQ_some, evResults, tup_one, tup_two, tup_three, fillT, load_same, load_ne, store_same, store_ne, AV.cells, allOne, one_int, one_bool, one_ptr, one_nil, one_slice, List.length_cons, List.length_nil, Nat.zero_add, Nat.reduceAdd, beqD, bleD, Nat.reduceLeDiff, Nat.le_refl, decide_true, decide_false, Bool.and_self, Bool.and_true, Bool.true_and, List.take_zero, List.take_succ_cons, List.drop_succ_cons, List.drop_zero, List.nil_append, List.append_nil, List.cons_append, List.getElem?_cons_zero, List.getElem?_cons_succ, agg3, agg4, agg22, agg25, size3, size4, size22, size51, alloc51, fieldAddr24, fieldAddr51, bin_lss, bin_leq, bin_gtr, bin_geq, bin_eql, bin_neq, bin_neqb, un_not, List.getElem?_toArray, ne_eq, not_false_eq_true, hla, h10, h11, h12, hc, a1, a3, hs, hd, hnm, o1, za, zb]
      refine good _ _ _ (ho2 _ _) ?_ (hg2 _ _) ?_ ?_ ?_
      · omega
      · simp [T.get_set, h10]
      · simp [T.get_set, h11]
      · simp [T.get_set]
    rcases bt (x.op == 2) with o2 | o2
    · have za : (x.a != 0) = false := by simp [GateOk] at *; omega
      have zb : (x.b != 0) = false := by simp [GateOk] at *; omega
      simp only [e_seq, e_skip, e_ret, e_exit, e_block, e_region, e_cond, condQ_true, condQ_false, seqK_normal, seqK_ret, seqK_exit, loopK_normal, loopK_ret, loopK_exit, drawK_eq, blockQ_normal, blockQ_ret, blockQ_same, blockQ_other, steps_cons, steps_done, fits_some, blt_lt, pre_plain, pre_guardQ, guardV_some, guardQ_tt, guardQ_ff, guardQ_tf, guardQ_ft, guardQ_skip, List.getElem?_toArray, List.getElem?_cons_zero, List.getElem?_cons_succ, fits_none, evOp, evCall, evOpds, evBuiltin, opd_tmp, opd_int, opd_bool, opd_nil, ov_some, ove_some, oe_some, ose_some, after_val, after_skip, after_call, callQ_some, stepK_eq, opd_func,  putT_some, putT_none, effT_none, next_none, effT_new, effT_wr, effT_mv, next_new, next_wr, next_mv, Nat.reduceLT, Nat.reduceBEq, true_and, and_true, reduceIte, Nat.reduceEqDiff, eq_self, T.get_set, cond_true, cond_false, endR_ret, resQ_some, evResults, tup_one, tup_two, tup_three, fillT, load_same, load_ne, store_same, store_ne, AV.cells, allOne, one_int, one_bool, one_ptr, one_nil, one_slice, List.length_cons, List.length_nil, Nat.zero_add, Nat.reduceAdd, beqD, bleD, Nat.reduceLeDiff, Nat.le_refl, decide_true, decide_false, Bool.and_self, Bool.and_true, Bool.true_and, List.take_zero, List.take_succ_cons, List.drop_succ_cons, List.drop_zero, List.nil_append, List.append_nil, List.cons_append, List.getElem?_cons_zero, List.getElem?_cons_succ, agg3, agg4, agg22, agg25, size3, size4, size22, size51, alloc51, fieldAddr24, fieldAddr51, bin_lss, bin_leq, bin_gtr, bin_geq, bin_eql, bin_neq, bin_neqb, un_not, List.getElem?_toArray, ne_eq, not_false_eq_true, hla, h10, h11, h12, hc, a1, a3, hs, hd, hnm, o1, o2, za, zb]
      refine good _ _ _ (ho2 _ _) ?_ (hg2 _ _) ?_ ?_ ?_
      · omega
      · simp [T.get_set, h10]
      · simp [T.get_set, h11]
      · simp [T.get_set]
    have o3 : (x.op == 3) = true := by simp [GateOk] at *; omega
    have za : (decide (x.a < 0)) = false := by simp [GateOk] at *; omega
    have zb : (decide (x.b < 0)) = false := by simp [GateOk] at *; omega
    have ya : (decide (((2 * i : Nat) : Int) ≤ x.a)) = false := by simp [GateOk] at *; omega
    have yb : (decide (((2 * i : Nat) : Int) ≤ x.b)) = false := by simp [GateOk] at *; omega
    simp only [e_seq, e_skip, e_ret, e_exit, e_block, e_region, e_cond, condQ_true, condQ_false, seqK_normal, seqK_ret, seqK_exit, loopK_normal, loopK_ret, loopK_exit, drawK_eq, blockQ_normal, blockQ_ret, blockQ_same, blockQ_other, steps_cons, steps_done, fits_some, blt_lt, pre_plain, pre_guardQ, guardV_some, guardQ_tt, guardQ_ff, guardQ_tf, guardQ_ft, guardQ_skip, List.getElem?_toArray, List.getElem?_cons_zero, List.getElem?_cons_succ, fits_none, evOp, evCall, evOpds, evBuiltin, opd_tmp, opd_int, opd_bool, opd_nil, ov_some, ove_some, oe_some, ose_some, after_val, after_skip, after_call, callQ_some, stepK_eq, opd_func,  putT_some, putT_none, effT_none, next_none, effT_new, effT_wr, effT_mv, next_new, next_wr, next_mv, Nat.reduceLT, Nat.reduceBEq, true_and, and_true, reduceIte, Nat.reduceEqDiff, eq_self, T.get_set, cond_true, cond_false, endR_ret, resQ_some, evResults, tup_one, tup_two, tup_three, fillT, load_same, load_ne, store_same, store_ne, AV.cells, allOne, one_int, one_bool, one_ptr, one_nil, one_slice, List.length_cons, List.length_nil, Nat.zero_add, Nat.reduceAdd, beqD, bleD, Nat.reduceLeDiff, Nat.le_refl, decide_true, decide_false, Bool.and_self, Bool.and_true, Bool.true_and, List.take_zero, List.take_succ_cons, List.drop_succ_cons, List.drop_zero, List.nil_append, List.append_nil, List.cons_append, List.getElem?_cons_zero, List.getElem?_cons_succ, agg3, agg4, agg22, agg25, size3, size4, size22, size51, alloc51, fieldAddr24, fieldAddr51, bin_lss, bin_leq, bin_gtr, bin_geq, bin_eql, bin_neq, bin_neqb, un_not, List.getElem?_toArray, ne_eq, not_false_eq_true, hla, h10, h11, h12, hc, a1, a3, hs, hd, hnm, o1, o2, o3, za, zb, ya, yb]
    refine good _ _ _ (ho2 _ _) ?_ (hg2 _ _) ?_ ?_ ?_
    · omega
    · simp [T.get_set, h10]
    · simp [T.get_set, h11]
    · simp [T.get_set]
  · have hc : ¬ (i : Int) < (gs.length : Int) := by omega
    simp only [e_seq, e_skip, e_ret, e_exit, e_block, e_region, e_cond, condQ_true, condQ_false, seqK_normal, seqK_ret, seqK_exit, loopK_normal, loopK_ret, loopK_exit, drawK_eq, blockQ_normal, blockQ_ret, blockQ_same, blockQ_other, steps_cons, steps_done, fits_some, blt_lt, pre_plain, pre_guardQ, guardV_some, guardQ_tt, guardQ_ff, guardQ_tf, guardQ_ft, guardQ_skip, List.getElem?_toArray, List.getElem?_cons_zero, List.getElem?_cons_succ, fits_none, evOp, evCall, evOpds, evBuiltin, opd_tmp, opd_int, opd_bool, opd_nil, ov_some, ove_some, oe_some, ose_some, after_val, after_skip, after_call, callQ_some, stepK_eq, opd_func,  putT_some, putT_none, effT_none, next_none, effT_new, effT_wr, effT_mv, next_new, next_wr, next_mv, Nat.reduceLT, Nat.reduceBEq, true_and, and_true, reduceIte, Nat.reduceEqDiff, eq_self, T.get_set, cond_true, cond_false, endR_ret, resQ_some, evResults, tup_one, tup_two, tup_three, fillT, load_same, load_ne, store_same, store_ne, AV.cells, allOne, one_int, one_bool, one_ptr, one_nil, one_slice, List.length_cons, List.length_nil, Nat.zero_add, Nat.reduceAdd, beqD, bleD, Nat.reduceLeDiff, Nat.le_refl, decide_true, decide_false, Bool.and_self, Bool.and_true, Bool.true_and, List.take_zero, List.take_succ_cons, List.drop_succ_cons, List.drop_zero, List.nil_append, List.append_nil, List.cons_append, List.getElem?_cons_zero, List.getElem?_cons_succ, agg3, agg4, agg22, agg25, size3, size4, size22, size51, alloc51, fieldAddr24, fieldAddr51, bin_lss, bin_leq, bin_gtr, bin_geq, bin_eql, bin_neq, bin_neqb, un_not, List.getElem?_toArray, ne_eq, not_false_eq_true, hla, h10, h11, h12, hc]
    exact ⟨ho, by omega⟩
end Go.Ev

/-! Slices that the code makes itself, and appends to. -/
set_option linter.unusedSimpArgs false
set_option linter.unusedVariables false
set_option maxRecDepth 20000
namespace Go.Ev
open Go Proofs

/-- A slice of one's own: nil, or all of its object. -/
def Own (n0 n : Nat) (g : T AObj) (v : AV) (sz len : Nat) (cs : List AV) : Prop :=
  (v = .nilSlice ∧ len = 0 ∧ cs = []) ∨ ∃ id, v = .slice id 0 len none sz ∧ n0 ≤ id ∧ id < n ∧ g.get id = some (.cells sz cs) ∧ cs.length = len * sz

theorem Own.row {n0 n : Nat} {g : T AObj} {v : AV} {sz len : Nat} {cs : List AV} (h : Own n0 n g v sz len cs) : Row n g v sz len cs := by
  rcases h with h | ⟨id, h1, h2, h3, h4, h5⟩
  · exact .inl h
  · exact .inr ⟨id, 0, none, cs, h1, h3, .inl h4, h5, fun j x hx => by simpa using hx, by rw [h5, Nat.zero_add]; exact Nat.le_refl _⟩
theorem Own.nil (n0 n : Nat) (g : T AObj) (sz : Nat) : Own n0 n g .nilSlice sz 0 [] := .inl ⟨rfl, rfl, rfl⟩

def notOf (v : AV) (i : Nat) : Prop := match v with | .slice id _ _ _ _ => i ≠ id | _ => True
theorem Own.notOf {n0 n : Nat} {g : T AObj} {v : AV} {sz len : Nat} {cs : List AV} (h : Own n0 n g v sz len cs) {i : Nat} (hi : i < n0) : notOf v i := by
  rcases h with ⟨h, _⟩ | ⟨id, h1, h2, _⟩
  · subst h; trivial
  · subst h1; simp only [Ev.notOf]; omega
theorem Own.keep {n0 n n' : Nat} {g g' : T AObj} {v : AV} {sz len : Nat} {cs : List AV} (h : Own n0 n g v sz len cs) (hn : n ≤ n') (hg : ∀ i, n0 ≤ i → i < n → g'.get i = g.get i) : Own n0 n' g' v sz len cs := by
  rcases h with h | ⟨id, h1, h2, h3, h4, h5⟩
  · exact .inl h
  · exact .inr ⟨id, h1, h2, by omega, by rw [hg id h2 h3]; exact h4, h5⟩
theorem Own.fresh {n0 n id sz len : Nat} {g : T AObj} {cs : List AV} (h0 : n0 ≤ id) (h1 : id < n) (h2 : g.get id = some (.cells sz cs)) (h3 : cs.length = len * sz) : Own n0 n g (.slice id 0 len none sz) sz len cs := .inr ⟨id, rfl, h0, h1, h2, h3⟩

/-- What an element type must be. -/
structure ElemOk (P : Program) (t e sz : Nat) : Prop where
  t : P.underlying t = some (.slice e)
  i : ∃ i, P.info? e = some i ∧ i.size = sz ∧ i.bytes ≤ 65536
  z : ∃ z, zeroT P e = some z ∧ z.cells.length = sz
  pos : 0 < sz

def elemB (P : Program) (t e sz : Nat) : Bool :=
  (match P.underlying t with | some (.slice e') => Nat.beq e' e | _ => false) && (match P.info? e with | some i => Nat.beq i.size sz && Nat.ble i.bytes 65536 | none => false) &&
  (match zeroT P e with | some z => Nat.beq z.cells.length sz | none => false) && Nat.blt 0 sz
theorem elemOk {P : Program} {t e sz : Nat} (h : elemB P t e sz = true) : ElemOk P t e sz := by
  unfold elemB at h
  simp only [Bool.and_eq_true] at h
  obtain ⟨⟨⟨h1, h2⟩, h3⟩, h4⟩ := h
  refine ⟨?_, ?_, ?_, Nat.le_of_ble_eq_true h4⟩
  · split at h1
    · rename_i e' he; rw [he, beqT.1 h1]
    · cases h1
  · split at h2
    · rename_i i hi
      simp only [Bool.and_eq_true] at h2
      exact ⟨i, hi, beqT.1 h2.1, Nat.le_of_ble_eq_true h2.2⟩
    · cases h2
  · split at h3
    · rename_i z hz; exact ⟨z, hz, beqT.1 h3⟩
    · cases h3
theorem elem25 : ElemOk Tryz.prog 25 3 1 := elemOk (by decide +kernel)
theorem elem26 : ElemOk Tryz.prog 26 4 1 := elemOk (by decide +kernel)
theorem elem31 : ElemOk Tryz.prog 31 25 1 := elemOk (by decide +kernel)
theorem elem57 : ElemOk Tryz.prog 57 26 1 := elemOk (by decide +kernel)
theorem elem100 : ElemOk Tryz.prog 100 99 4 := elemOk (by decide +kernel)

theorem und_not_int {P : Program} {t e : Nat} (h : P.underlying t = some (.slice e)) (k : IntKind) : P.underlying t ≠ some (.int k) := by rw [h]; simp

theorem news_of {P : Program} {t e sz : Nat} (he : ElemOk P t e sz) {G : AHeap} {xs : List AV} {mx k off : Nat} {cap : Option Nat} {data : List AV} (hx : Rd (G mx) sz data)
    (hd : (data.drop (off * sz)).take (k * sz) = xs) (hle : (off + k) * sz ≤ data.length) {i : TypeInfo} (hisz : i.size = sz) : evNews G i.size (.slice mx off k cap sz) = some (xs, k, [mx]) := by
  have c1 : Nat.beq sz i.size = true := by rw [hisz]; exact Nat.beq_refl _
  have c2 : Nat.ble ((off + k) * i.size) data.length = true := by rw [hisz]; exact Nat.ble_eq_true_of_le hle
  simp only [evNews_rd hx, c1, c2, Bool.and_self, cond_true]
  rw [hisz, hd]

/-- An append to nil. -/
theorem app_nil_rd {P : Program} {t e sz : Nat} (he : ElemOk P t e sz) {G : AHeap} {n : Nat} {xs : List AV} {mx k off : Nat} {cap : Option Nat} {data : List AV} (hx : Rd (G mx) sz data)
    (hd : (data.drop (off * sz)).take (k * sz) = xs) (hle : (off + k) * sz ≤ data.length) (hk : 0 < k) (hlen : k ≤ 1073741824) :
    evApp P G n t t .nilSlice (.slice mx off k cap sz) = some (.slice n 0 k none sz, [mx], .new (.cells sz xs)) := by
  obtain ⟨i, hi, hisz, hib⟩ := he.i
  obtain ⟨z, hz, hzc⟩ := he.z
  have b1 : Nat.beq z.cells.length i.size = true := by rw [hzc, hisz]; exact Nat.beq_refl _
  have b2 : Nat.beq k 0 = false := beqF.2 (by omega)
  have b3 : Nat.ble i.bytes 65536 = true := Nat.ble_eq_true_of_le hib
  have b4 : Nat.ble k 1073741824 = true := Nat.ble_eq_true_of_le hlen
  have hnews := news_of he (cap := cap) hx hd hle hisz
  subst hisz
  unfold evApp
  simp only [he.t, hi, hz, b1, hnews, b2, b3, b4, Bool.not_true, cond_false, cond_true]

theorem app_nil {P : Program} {t e sz : Nat} (he : ElemOk P t e sz) {G : AHeap} {n : Nat} {xs : List AV} {mx k off : Nat} {cap : Option Nat} {data : List AV} (hx : G mx = some (.cells sz data))
    (hd : (data.drop (off * sz)).take (k * sz) = xs) (hle : (off + k) * sz ≤ data.length) (hk : 0 < k) (hlen : k ≤ 1073741824) :
    evApp P G n t t .nilSlice (.slice mx off k cap sz) = some (.slice n 0 k none sz, [mx], .new (.cells sz xs)) :=
  app_nil_rd he (.inl hx) hd hle hk hlen

/-- An append to what has no room. -/
theorem app_mv_rd {P : Program} {t e sz : Nat} (he : ElemOk P t e sz) {G : AHeap} {n id len : Nat} {cs xs : List AV} {mx k off : Nat} {cap : Option Nat} {data : List AV} (h4 : G id = some (.cells sz cs)) (h5 : cs.length = len * sz) (hx : Rd (G mx) sz data)
    (hd : (data.drop (off * sz)).take (k * sz) = xs) (hle : (off + k) * sz ≤ data.length) (hk : 0 < k) (hlen : len + k ≤ 1073741824) :
    evApp P G n t t (.slice id 0 len none sz) (.slice mx off k cap sz) = some (.slice n 0 (len + k) none sz, [id, mx], .mv id (.cells sz (cs ++ xs))) := by
  obtain ⟨i, hi, hisz, hib⟩ := he.i
  obtain ⟨z, hz, hzc⟩ := he.z
  have b1 : Nat.beq z.cells.length i.size = true := by rw [hzc, hisz]; exact Nat.beq_refl _
  have b2 : Nat.beq k 0 = false := beqF.2 (by omega)
  have b3 : Nat.ble i.bytes 65536 = true := Nat.ble_eq_true_of_le hib
  have hnews := news_of he (cap := cap) hx hd hle hisz
  have b4 : Nat.beq sz i.size = true := by rw [hisz]; exact Nat.beq_refl _
  have b5 : Nat.ble (len + k) 1073741824 = true := Nat.ble_eq_true_of_le hlen
  have b6 : Nat.ble ((0 + len) * sz) cs.length = true := by rw [Nat.zero_add, h5]; exact Nat.ble_eq_true_of_le (Nat.le_refl _)
  unfold evApp
  simp only [he.t, hi, hz, b1, hnews, b2, b3, h4, b4, b5, b6, Bool.not_true, Bool.and_self, cond_false, cond_true]
  rw [Nat.zero_mul, List.drop_zero, ← h5, List.take_length]

theorem app_mv {P : Program} {t e sz : Nat} (he : ElemOk P t e sz) {G : AHeap} {n id len : Nat} {cs xs : List AV} {mx k off : Nat} {cap : Option Nat} {data : List AV} (h4 : G id = some (.cells sz cs)) (h5 : cs.length = len * sz) (hx : G mx = some (.cells sz data))
    (hd : (data.drop (off * sz)).take (k * sz) = xs) (hle : (off + k) * sz ≤ data.length) (hk : 0 < k) (hlen : len + k ≤ 1073741824) :
    evApp P G n t t (.slice id 0 len none sz) (.slice mx off k cap sz) = some (.slice n 0 (len + k) none sz, [id, mx], .mv id (.cells sz (cs ++ xs))) :=
  app_mv_rd he h4 h5 (.inl hx) hd hle hk hlen

/-- An append to a slice of one's own. -/
theorem app_own {P : Program} {t e sz : Nat} (he : ElemOk P t e sz) {g : T AObj} {v : AV} {len n0 n : Nat} {cs xs : List AV} {mx k off : Nat} {cap : Option Nat} {data : List AV} (hv : Own n0 n g v sz len cs) (hx : g.get mx = some (.cells sz data))
    (hd : (data.drop (off * sz)).take (k * sz) = xs) (hle : (off + k) * sz ≤ data.length) (hk : 0 < k) (hlen : len + k ≤ 1073741824) :
    ∃ rd ef, evApp P g.get n t t v (.slice mx off k cap sz) = some (.slice n 0 (len + k) none sz, rd, ef) ∧ ef.next n = n + 1 ∧ (effT ef g n).get n = some (.cells sz (cs ++ xs)) ∧ (cs ++ xs).length = (len + k) * sz ∧
      (∀ i, i ≠ n → notOf v i → (effT ef g n).get i = g.get i) := by
  have hxl : xs.length = k * sz := by rw [← hd, List.length_take, List.length_drop]; rw [Nat.add_mul] at hle; omega
  rcases hv with ⟨rfl, rfl, rfl⟩ | ⟨id, rfl, h2, h3, h4, h5⟩
  · refine ⟨[mx], .new (.cells sz xs), ?_, rfl, ?_, ?_, ?_⟩
    · rw [app_nil he hx hd hle hk (by omega), Nat.zero_add]
    · simp [effT, T.get_set]
    · simp [hxl]
    · intro j hj _; simp only [effT, T.get_set, if_neg hj]
  · refine ⟨[id, mx], .mv id (.cells sz (cs ++ xs)), app_mv he h4 h5 hx hd hle hk hlen, rfl, ?_, ?_, ?_⟩
    · simp [effT, T.get_set]
    · rw [List.length_append, h5, hxl, Nat.add_mul]
    · intro j hj hno
      simp only [Ev.notOf] at hno
      simp only [effT, T.get_set, T.get_del, if_neg hj, if_neg hno]

/-- What is appended to nil whole. -/
theorem app_row {P : Program} {t e sz : Nat} (he : ElemOk P t e sz) {n n1 : Nat} {g : T AObj} {G : AHeap} {v : AV} {len : Nat} {cs : List AV} (hr : Row n g v sz len cs) (hG : ∀ id o l c s, v = .slice id o l c s → G id = g.get id) (hlen : len ≤ 1073741824) :
    ∃ x rd ef, evApp P G n1 t t .nilSlice v = some (x, rd, ef) ∧ ((ef = .none ∧ x = .nilSlice ∧ len = 0 ∧ cs = []) ∨ (ef = .new (.cells sz cs) ∧ x = .slice n1 0 len none sz ∧ cs.length = len * sz ∧ 0 < len)) := by
  obtain ⟨i, hi, hisz, hib⟩ := he.i
  obtain ⟨z, hz, hzc⟩ := he.z
  have b1 : Nat.beq z.cells.length i.size = true := by rw [hzc, hisz]; exact Nat.beq_refl _
  rcases hr with ⟨rfl, rfl, rfl⟩ | ⟨id, off, cap, data, rfl, h2, h3, h4, h5, h6⟩
  · refine ⟨.nilSlice, [], .none, ?_, .inl ⟨rfl, rfl, rfl, rfl⟩⟩
    unfold evApp
    simp only [he.t, hi, hz, b1, evNews, Nat.beq_refl, Bool.not_true, cond_false, cond_true]
  · have hg := hG id off len cap sz rfl
    rw [← hg] at h3
    have hcs : (data.drop (off * sz)).take (len * sz) = cs := by
      apply List.ext_getElem?
      intro j
      by_cases hj : j < len * sz
      · rw [List.getElem?_take, if_pos hj, List.getElem?_drop]
        have hx : cs[j]? = some cs[j] := List.getElem?_eq_getElem (by omega)
        rw [hx]; exact h5 j _ hx
      · rw [List.getElem?_eq_none (by simp; omega), List.getElem?_eq_none (by omega)]
    by_cases hl : len = 0
    · subst hl
      have : cs = [] := List.length_eq_zero_iff.1 (by omega)
      refine ⟨.nilSlice, [id], .none, ?_, .inl ⟨rfl, rfl, rfl, this⟩⟩
      have hnews := news_of he (cap := cap) h3 hcs h6 hisz
      unfold evApp
      simp only [he.t, hi, hz, b1, hnews, Nat.beq_refl, Bool.not_true, cond_false, cond_true]
    · refine ⟨.slice n1 0 len none sz, [id], .new (.cells sz cs), app_nil_rd he h3 hcs h6 (by omega) hlen, .inr ⟨rfl, rfl, h4, by omega⟩⟩

theorem build_1 {P : Program} {t e : Nat} (he : ElemOk P t e 1) (n : Nat) {x : AV} (h1 : x.one = true) (hc : x.cells = [x]) : evBuildSlice P n t 1 [(0, x)] = some (.slice n 0 1 (some 1) 1, .new (.cells 1 [x])) := by
  obtain ⟨z, hz, hzc⟩ := he.z
  obtain ⟨i, hi, hisz, hib⟩ := he.i
  have hs : sizeT P e = some 1 := by simp [sizeT, hi, hisz]
  simp only [evBuildSlice, he.t, hs, hz, hzc]
  simp [evFill, zrow, hzc, hc, spl, allOne, h1, beqD, bleD]
  rfl
theorem build_2 {P : Program} {t e : Nat} (he : ElemOk P t e 1) (n : Nat) {x y : AV} (h1 : x.one = true) (hc : x.cells = [x]) (h2 : y.one = true) (hc2 : y.cells = [y]) :
    evBuildSlice P n t 2 [(0, x), (1, y)] = some (.slice n 0 2 (some 2) 1, .new (.cells 1 [x, y])) := by
  obtain ⟨z, hz, hzc⟩ := he.z
  obtain ⟨i, hi, hisz, hib⟩ := he.i
  have hs : sizeT P e = some 1 := by simp [sizeT, hi, hisz]
  have hr : List.range 2 = [0, 1] := rfl
  simp only [evBuildSlice, he.t, hs, hz, hzc]
  simp [evFill, zrow, hzc, hc, hc2, spl, allOne, h1, h2, beqD, bleD, hr]
  rfl
theorem build25 (n : Nat) (x : Int) : evBuildSlice Tryz.prog n 25 1 [(0, .int .i64 x)] = some (.slice n 0 1 (some 1) 1, .new (.cells 1 [.int .i64 x])) := build_1 elem25 n rfl rfl
theorem build26 (n : Nat) (x : Bool) : evBuildSlice Tryz.prog n 26 1 [(0, .bool x)] = some (.slice n 0 1 (some 1) 1, .new (.cells 1 [.bool x])) := build_1 elem26 n rfl rfl
theorem ints_snoc (l : List Int) (x : Int) : ints l ++ [.int .i64 x] = ints (l ++ [x]) := by simp [ints]
theorem bools_snoc (l : List Bool) (x : Bool) : bools l ++ [.bool x] = bools (l ++ [x]) := by simp [bools]
theorem ints_length (l : List Int) : (ints l).length = l.length := by simp [ints]
theorem bools_length (l : List Bool) : (bools l).length = l.length := by simp [bools]
end Go.Ev

set_option linter.unusedSimpArgs false
set_option linter.unusedVariables false
set_option maxRecDepth 20000
namespace Go.Ev
open Go Proofs

/-- The places of a net's inputs. -/
def placesFrom : Nat → List Gate → List Int
  | _, [] => []
  | i, x :: xs => if x.op = 2 then (i : Int) :: placesFrom (i + 1) xs else placesFrom (i + 1) xs
def places (gs : List Gate) : List Int := placesFrom 0 gs
theorem placesFrom_length (gs : List Gate) : ∀ i, (placesFrom i gs).length ≤ gs.length := by
  induction gs with
  | nil => intro i; simp [placesFrom]
  | cons x xs ih => intro i; simp only [placesFrom]; have := ih (i + 1); split <;> simp <;> omega
theorem placesFrom_append (l r : List Gate) : ∀ i, placesFrom i (l ++ r) = placesFrom i l ++ placesFrom (i + l.length) r := by
  induction l with
  | nil => intro i; simp [placesFrom]
  | cons x xs ih =>
    intro i
    simp only [List.cons_append, placesFrom, ih (i + 1), List.length_cons]
    have e : i + (xs.length + 1) = i + 1 + xs.length := by omega
    rw [e]
    split <;> simp
theorem take_snoc' {α : Type} {l : List α} {i : Nat} {x : α} (h : l[i]? = some x) : l.take (i + 1) = l.take i ++ [x] := by
  rw [List.take_add_one, h]; rfl
theorem places_snoc {gs : List Gate} {i : Nat} {x : Gate} (h : gs[i]? = some x) : places (gs.take (i + 1)) = if x.op = 2 then places (gs.take i) ++ [(i : Int)] else places (gs.take i) := by
  have hl : i < gs.length := (List.getElem?_eq_some_iff.1 h).1
  rw [take_snoc' h, places, placesFrom_append]
  simp only [Nat.zero_add, List.length_take, Nat.min_eq_left (Nat.le_of_lt hl), placesFrom]
  split <;> simp [places]

theorem inputs_gives {fuel d : Nat} {g : T AObj} {n : Nat} {net : AV} {gs : List Gate} (hr : Row n g net 3 gs.length (gates gs)) (hf : gs.length + 1 < fuel) (hbig : gs.length < 1000000) :
    Gives Tryz.prog fuel (d + 1) 14 [.agg [net]] g n (fun x g' n' => Own n n' g' x 1 (places gs).length (ints (places gs)) ∧ Old n g g' ∧ n ≤ n') := by
  refine gives_ends 24 [.tmp 2] Tryz.func14 rfl rfl rfl ?_
  have hla := hr.evLen Tryz.underlying22 (P := Tryz.prog)
  have hb := box1 (n := n) hr.one
  simp only [e_seq, e_skip, e_ret, e_exit, e_block, e_region, e_cond, condQ_true, condQ_false, seqK_normal, seqK_ret, seqK_exit, loopK_normal, loopK_ret, loopK_exit, drawK_eq, blockQ_normal, blockQ_ret, blockQ_same, blockQ_other, steps_cons, steps_done, fits_some, blt_lt, pre_plain, pre_guardQ, guardV_some, guardQ_tt, guardQ_ff, guardQ_tf, guardQ_ft, guardQ_skip, List.getElem?_toArray, List.getElem?_cons_zero, List.getElem?_cons_succ, fits_none, evOp, evCall, evOpds, evBuiltin, opd_tmp, opd_int, opd_bool, opd_nil, ov_some, ove_some, oe_some, ose_some, after_val, after_skip, after_call, callQ_some, stepK_eq, opd_func,  putT_some, putT_none, effT_none, next_none, effT_new, effT_wr, effT_mv, next_new, next_wr, next_mv, Nat.reduceLT, Nat.reduceBEq, true_and, and_true, reduceIte, Nat.reduceEqDiff, eq_self, T.get_set, cond_true, cond_false, endR_ret, resQ_some, evResults, tup_one, tup_two, tup_three, fillT, load_same, load_ne, store_same, store_ne, AV.cells, allOne, one_int, one_bool, one_ptr, one_nil, one_slice, List.length_cons, List.length_nil, Nat.zero_add, Nat.reduceAdd, beqD, bleD, Nat.reduceLeDiff, Nat.le_refl, decide_true, decide_false, Bool.and_self, Bool.and_true, Bool.true_and, List.take_zero, List.take_succ_cons, List.drop_succ_cons, List.drop_zero, List.nil_append, List.append_nil, List.cons_append, List.getElem?_cons_zero, List.getElem?_cons_succ, agg3, agg4, agg22, agg25, size3, size4, size22, size51, alloc51, fieldAddr24, fieldAddr51, bin_lss, bin_leq, bin_gtr, bin_geq, bin_eql, bin_neq, bin_neqb, un_not, List.getElem?_toArray, ne_eq, not_false_eq_true, hla, hb]
  refine e_loop (fun k s => ∃ i m : Nat, ∃ tm : T AV, ∃ h : T AObj, ∃ v : AV, s = ⟨tm, h, m, []⟩ ∧ i + k = gs.length ∧ n + 1 ≤ m ∧ Old n g h ∧ h.get n = some (.cells 1 [net]) ∧ Own (n + 1) m h v 1 (places (gs.take i)).length (ints (places (gs.take i))) ∧
    tm.get 1 = some (.ptr n 0) ∧ tm.get 3 = some v ∧ tm.get 4 = some (.int .i64 (i : Int))) gs.length (by omega) ?_ ?_
  · refine ⟨0, n + 1, _, _, .nilSlice, rfl, ?_, ?_, ?_, ?_, ?_, ?_, ?_, ?_⟩
    · omega
    · omega
    · exact (Old.refl _ _).set (Nat.le_refl _) _
    · simp [T.get_set]
    · exact Own.nil _ _ _ _
    · simp [T.get_set]
    · simp [T.get_set]
    · simp [T.get_set]
  rintro k _ ⟨i, m, tm, h, v, rfl, hik, hm, ho, hn, hown, h1, h3, h4⟩
  have l22 := load22 hn
  by_cases hlt : i < gs.length
  · have hc : (i : Int) < (gs.length : Int) := by omega
    obtain ⟨x, hx⟩ : ∃ x, gs[i]? = some x := ⟨_, List.getElem?_eq_getElem hlt⟩
    obtain ⟨id, o, a1, a2, a3, a4⟩ := (hr.old (n' := m) ho (by omega)).gate hlt hx .i64
    have hs := bin_succ Tryz.prog 3 i (by omega)
    have hpl : (places (gs.take i)).length ≤ gs.length := by have := placesFrom_length (gs.take i) 0; simp [List.length_take] at this; simp only [places]; omega
    have hsn := places_snoc hx
    rcases bt (x.op == 2) with o2 | o2
    · have e2 : x.op = 2 := by simpa using o2
      rw [if_pos e2] at hsn
      have hk1 : Own (n + 1) (m + 1) (T.set (.cells 1 [.int .i64 (i : Int)]) h m) v 1 (places (gs.take i)).length (ints (places (gs.take i))) :=
        hown.keep (by omega) fun j hj hj2 => by rw [T.get_set, if_neg (by omega)]
      obtain ⟨rd, ef, p1, p2, p3, p4, p5⟩ := app_own elem25 (xs := [.int .i64 (i : Int)]) (mx := m) (k := 1) (off := 0) (cap := some 1) (data := [.int .i64 (i : Int)]) hk1 (by simp [T.get_set]) (by simp) (by simp) (by omega) (by omega)
      simp only [e_seq, e_skip, e_ret, e_exit, e_block, e_region, e_cond, condQ_true, condQ_false, seqK_normal, seqK_ret, seqK_exit, loopK_normal, loopK_ret, loopK_exit, drawK_eq, blockQ_normal, blockQ_ret, blockQ_same, blockQ_other, steps_cons, steps_done, fits_some, blt_lt, pre_plain, pre_guardQ, guardV_some, guardQ_tt, guardQ_ff, guardQ_tf, guardQ_ft, guardQ_skip, List.getElem?_toArray, List.getElem?_cons_zero, List.getElem?_cons_succ, fits_none, evOp, evCall, evOpds, evBuiltin, opd_tmp, opd_int, opd_bool, opd_nil, ov_some, ove_some, oe_some, ose_some, after_val, after_skip, after_call, callQ_some, stepK_eq, opd_func,  putT_some, putT_none, effT_none, next_none, effT_new, effT_wr, effT_mv, next_new, next_wr, next_mv, Nat.reduceLT, Nat.reduceBEq, true_and, and_true, reduceIte, Nat.reduceEqDiff, eq_self, T.get_set, cond_true, cond_false, endR_ret, resQ_some, evResults, tup_one, tup_two, tup_three, fillT, load_same, load_ne, store_same, store_ne, AV.cells, allOne, one_int, one_bool, one_ptr, one_nil, one_slice, List.length_cons, List.length_nil, Nat.zero_add, Nat.reduceAdd, beqD, bleD, Nat.reduceLeDiff, Nat.le_refl, decide_true, decide_false, Bool.and_self, Bool.and_true, Bool.true_and, List.take_zero, List.take_succ_cons, List.drop_succ_cons, List.drop_zero, List.nil_append, List.append_nil, List.cons_append, List.getElem?_cons_zero, List.getElem?_cons_succ, agg3, agg4, agg22, agg25, size3, size4, size22, size51, alloc51, fieldAddr24, fieldAddr51, bin_lss, bin_leq, bin_gtr, bin_geq, bin_eql, bin_neq, bin_neqb, un_not, List.getElem?_toArray, ne_eq, not_false_eq_true, hla, h1, h3, h4, l22, hc, a1, a3, a4, hs, o2, p1, p2, evParts, build25]
      refine ⟨k - 1, by omega, i + 1, _, _, _, .slice (m + 1) 0 ((places (gs.take i)).length + 1) none 1, rfl, by omega, by omega, ?_, ?_, ?_, by simp [T.get_set, h1], by simp [T.get_set], by simp [T.get_set]⟩
      · intro j hj; rw [p5 j (by omega) (hown.notOf (by omega)), T.get_set, if_neg (by omega)]; exact ho j hj
      · rw [p5 n (by omega) (hown.notOf (by omega)), T.get_set, if_neg (by omega)]; exact hn
      · rw [hsn, ← ints_snoc]
        have e : (places (gs.take i) ++ [(i : Int)]).length = (places (gs.take i)).length + 1 := by simp
        rw [e]
        exact Own.fresh (by omega) (by omega) p3 p4
    · have e2 : ¬ x.op = 2 := by simpa using o2
      rw [if_neg e2] at hsn
      simp only [e_seq, e_skip, e_ret, e_exit, e_block, e_region, e_cond, condQ_true, condQ_false, seqK_normal, seqK_ret, seqK_exit, loopK_normal, loopK_ret, loopK_exit, drawK_eq, blockQ_normal, blockQ_ret, blockQ_same, blockQ_other, steps_cons, steps_done, fits_some, blt_lt, pre_plain, pre_guardQ, guardV_some, guardQ_tt, guardQ_ff, guardQ_tf, guardQ_ft, guardQ_skip, List.getElem?_toArray, List.getElem?_cons_zero, List.getElem?_cons_succ, fits_none, evOp, evCall, evOpds, evBuiltin, opd_tmp, opd_int, opd_bool, opd_nil, ov_some, ove_some, oe_some, ose_some, after_val, after_skip, after_call, callQ_some, stepK_eq, opd_func,  putT_some, putT_none, effT_none, next_none, effT_new, effT_wr, effT_mv, next_new, next_wr, next_mv, Nat.reduceLT, Nat.reduceBEq, true_and, and_true, reduceIte, Nat.reduceEqDiff, eq_self, T.get_set, cond_true, cond_false, endR_ret, resQ_some, evResults, tup_one, tup_two, tup_three, fillT, load_same, load_ne, store_same, store_ne, AV.cells, allOne, one_int, one_bool, one_ptr, one_nil, one_slice, List.length_cons, List.length_nil, Nat.zero_add, Nat.reduceAdd, beqD, bleD, Nat.reduceLeDiff, Nat.le_refl, decide_true, decide_false, Bool.and_self, Bool.and_true, Bool.true_and, List.take_zero, List.take_succ_cons, List.drop_succ_cons, List.drop_zero, List.nil_append, List.append_nil, List.cons_append, List.getElem?_cons_zero, List.getElem?_cons_succ, agg3, agg4, agg22, agg25, size3, size4, size22, size51, alloc51, fieldAddr24, fieldAddr51, bin_lss, bin_leq, bin_gtr, bin_geq, bin_eql, bin_neq, bin_neqb, un_not, List.getElem?_toArray, ne_eq, not_false_eq_true, hla, h1, h3, h4, l22, hc, a1, a3, a4, hs, o2]
      refine ⟨k - 1, by omega, i + 1, _, _, _, v, rfl, by omega, by omega, ho, hn, ?_, by simp [T.get_set, h1], by simp [T.get_set, h3], by simp [T.get_set]⟩
      rw [hsn]; exact hown
  · have hc : ¬ (i : Int) < (gs.length : Int) := by omega
    simp only [e_seq, e_skip, e_ret, e_exit, e_block, e_region, e_cond, condQ_true, condQ_false, seqK_normal, seqK_ret, seqK_exit, loopK_normal, loopK_ret, loopK_exit, drawK_eq, blockQ_normal, blockQ_ret, blockQ_same, blockQ_other, steps_cons, steps_done, fits_some, blt_lt, pre_plain, pre_guardQ, guardV_some, guardQ_tt, guardQ_ff, guardQ_tf, guardQ_ft, guardQ_skip, List.getElem?_toArray, List.getElem?_cons_zero, List.getElem?_cons_succ, fits_none, evOp, evCall, evOpds, evBuiltin, opd_tmp, opd_int, opd_bool, opd_nil, ov_some, ove_some, oe_some, ose_some, after_val, after_skip, after_call, callQ_some, stepK_eq, opd_func,  putT_some, putT_none, effT_none, next_none, effT_new, effT_wr, effT_mv, next_new, next_wr, next_mv, Nat.reduceLT, Nat.reduceBEq, true_and, and_true, reduceIte, Nat.reduceEqDiff, eq_self, T.get_set, cond_true, cond_false, endR_ret, resQ_some, evResults, tup_one, tup_two, tup_three, fillT, load_same, load_ne, store_same, store_ne, AV.cells, allOne, one_int, one_bool, one_ptr, one_nil, one_slice, List.length_cons, List.length_nil, Nat.zero_add, Nat.reduceAdd, beqD, bleD, Nat.reduceLeDiff, Nat.le_refl, decide_true, decide_false, Bool.and_self, Bool.and_true, Bool.true_and, List.take_zero, List.take_succ_cons, List.drop_succ_cons, List.drop_zero, List.nil_append, List.append_nil, List.cons_append, List.getElem?_cons_zero, List.getElem?_cons_succ, agg3, agg4, agg22, agg25, size3, size4, size22, size51, alloc51, fieldAddr24, fieldAddr51, bin_lss, bin_leq, bin_gtr, bin_geq, bin_eql, bin_neq, bin_neqb, un_not, List.getElem?_toArray, ne_eq, not_false_eq_true, hla, h1, h3, h4, l22, hc]
    have e : gs.take i = gs := List.take_of_length_le (by omega)
    rw [e] at hown
    refine ⟨?_, ho, by omega⟩
    rcases hown with hown | ⟨id, q1, q2, q3⟩
    · exact .inl hown
    · exact .inr ⟨id, q1, by omega, q3⟩
end Go.Ev

/-! Arrays of bools that the code makes and fills; the values of a net. -/
set_option linter.unusedSimpArgs false
set_option linter.unusedVariables false
set_option maxRecDepth 20000
namespace Go.Ev
open Go Proofs

def arr (len : Nat) (f : Nat → Bool) : List AV := (List.range len).map fun j => .bool (f j)
def updf (f : Nat → Bool) (i : Nat) (b : Bool) : Nat → Bool := fun j => if j = i then b else f j

theorem arr_length (len : Nat) (f : Nat → Bool) : (arr len f).length = len := by simp [arr]
theorem arr_get {len : Nat} {f : Nat → Bool} {j : Nat} (h : j < len) : (arr len f)[j]? = some (.bool (f j)) := by
  simp [arr, List.getElem?_range h]
theorem arr_set {len : Nat} {f : Nat → Bool} {i : Nat} (b : Bool) : (arr len f).set i (.bool b) = arr len (updf f i b) := by
  apply List.ext_getElem?
  intro j
  by_cases hj : j < len
  · rw [arr_get hj, List.getElem?_set]
    simp only [updf, arr_length]
    by_cases h : i = j
    · subst h; simp [hj]
    · rw [if_neg h, if_neg (Ne.symm h), arr_get hj]
  · rw [List.getElem?_eq_none (by simp [arr_length]; omega), List.getElem?_eq_none (by simp [arr_length]; omega)]
theorem splice_one {α : Type} {l : List α} {i : Nat} (x : α) (h : i < l.length) : l.take i ++ [x] ++ l.drop (i + 1) = l.set i x := by
  rw [List.set_eq_take_append_cons_drop, if_pos h]; simp
theorem arr_bools (len : Nat) (f : Nat → Bool) : arr len f = bools ((List.range len).map f) := by simp [arr, bools]
theorem arr_congr {len : Nat} {f f' : Nat → Bool} (h : ∀ j, j < len → f j = f' j) : arr len f = arr len f' := by
  simp only [arr]
  apply List.map_congr_left
  intro j hj
  rw [h j (List.mem_range.1 hj)]

theorem store_arr {G : AHeap} {id i len : Nat} {f : Nat → Bool} (b : Bool) (h : G id = some (.cells 1 (arr len f))) (hi : i < len) : evStore Tryz.prog G 4 (.ptr id i) (.bool b) = some (id, .wr id (.cells 1 (arr len (updf f i b)))) := by
  have h1 : Nat.ble (i + 1) (arr len f).length = true := by rw [arr_length]; exact Nat.ble_eq_true_of_le hi
  simp only [evStore, h, size4, AV.cells, List.length_cons, List.length_nil, Nat.zero_add, Nat.beq_refl, h1, allOne, one_bool, cond_true, Bool.and_self]
  rw [splice_one _ (by rw [arr_length]; exact hi), arr_set]
theorem load_arr {G : AHeap} {id i len : Nat} {f : Nat → Bool} (h : G id = some (.cells 1 (arr len f))) (hi : i < len) : evLoad Tryz.prog G 4 (.ptr id i) = some (.bool (f i)) := by
  simp only [evLoad, h, agg4, arr_get hi]
theorem idx_arr {id len i : Nat} {c : Option Nat} (hi : i < len) (k : IntKind) : evIndexAddr Tryz.prog 26 (.slice id 0 len c 1) (.int k (i : Int)) = some (.ptr id i) := by
  have h1 : (i : Int) < (len : Int) := by omega
  simp only [evIndexAddr, Tryz.underlying26, size4, Nat.beq_refl, Int.natCast_nonneg, decide_true, h1, Bool.and_self, cond_true, Int.toNat_natCast, Nat.zero_add, Nat.mul_one]
theorem zero4 : zeroT Tryz.prog 4 = some (.bool false) := by
  have h : isAV (zeroT Tryz.prog 4) (.bool false) = true := by decide +kernel
  exact isAV_eq h
theorem info4 : (match Tryz.prog.info? 4 with | some i => Nat.beq i.size 1 && Nat.ble i.bytes 65536 | none => false) = true := by decide +kernel
theorem mk_arr2 (n l len : Nat) (hl : l ≤ len) (h : len ≤ 1048576) : evMakeSlice Tryz.prog n 26 (.int .i64 (l : Int)) (.int .i64 (len : Int)) = some (.slice n 0 l (some len) 1, .new (.cells 1 (arr len fun _ => false))) := by
  have hi := info4
  split at hi
  rotate_left
  · cases hi
  rename_i i h1
  simp only [Bool.and_eq_true, beqT] at hi
  have h2 : (len : Int) ≤ 1048576 := by omega
  have h3 : (l : Int) ≤ (len : Int) := by omega
  have hz : zrow [AV.bool false] len = arr len fun _ => false := by
    apply List.ext_getElem?
    intro j
    by_cases hj : j < len
    · rw [arr_get hj]
      simp [zrow, List.getElem?_range hj, Nat.mod_one]
    · rw [List.getElem?_eq_none (by simp [zrow]; omega), List.getElem?_eq_none (by simp [arr_length]; omega)]
  simp only [evMakeSlice, Tryz.underlying26, h1, zero4, Int.natCast_nonneg, h3, h2, hi.1, hi.2, AV.cells, List.length_cons, List.length_nil, Int.toNat_natCast, Nat.mul_one, allOne, one_bool, decide_true, Bool.and_self, cond_true, Nat.zero_add, hz]
  have : (Nat.beq len 0 || Nat.blt 0 1) = true := by rw [Bool.or_eq_true]; exact .inr rfl
  rw [this]; rfl
theorem mk_arr (n len : Nat) (h : len ≤ 1048576) : evMakeSlice Tryz.prog n 26 (.int .i64 (len : Int)) (.int .i64 (len : Int)) = some (.slice n 0 len (some len) 1, .new (.cells 1 (arr len fun _ => false))) := mk_arr2 n len len (Nat.le_refl _) h
theorem mk_arr0 (n len : Nat) (h : len ≤ 1048576) : evMakeSlice Tryz.prog n 26 (.int .i64 0) (.int .i64 (len : Int)) = some (.slice n 0 0 (some len) 1, .new (.cells 1 (arr len fun _ => false))) := mk_arr2 n 0 len (Nat.zero_le _) h
theorem row_arr {n id len : Nat} {g : T AObj} {c : Option Nat} {f : Nat → Bool} (hid : id < n) (h : g.get id = some (.cells 1 (arr len f))) : Row n g (.slice id 0 len c 1) 1 len (bools ((List.range len).map f)) :=
  .inr ⟨id, 0, c, _, rfl, hid, .inl h, by simp [bools], fun j x hx => by rw [← arr_bools] at hx; simpa using hx, by simp [arr_length]⟩

/-! ### The values of a net -/
def wireB (f : Nat → Bool) (w : Int) : Bool := f (w.toNat / 2) != (w.toNat % 2 == 1)
def gateB (inp : Nat → Bool) (f : Nat → Bool) (i : Nat) (x : Gate) : Bool := if x.op = 2 then inp i else if x.op = 3 then wireB f x.a && wireB f x.b else false
/-- The values of the first gates (of the others: false). -/
def valsTo (gs : List Gate) (inp : Nat → Bool) : Nat → (Nat → Bool)
  | 0 => fun _ => false
  | i + 1 => match gs[i]? with | some x => updf (valsTo gs inp i) i (gateB inp (valsTo gs inp i) i x) | none => valsTo gs inp i
theorem valsTo_succ {gs : List Gate} {inp : Nat → Bool} {i : Nat} {x : Gate} (h : gs[i]? = some x) : valsTo gs inp (i + 1) = updf (valsTo gs inp i) i (gateB inp (valsTo gs inp i) i x) := by
  simp only [valsTo, h]
def valsOf (gs : List Gate) (inp : Nat → Bool) : Nat → Bool := valsTo gs inp gs.length
theorem valsTo_over {gs : List Gate} {inp : Nat → Bool} : ∀ {i j : Nat}, i ≤ j → valsTo gs inp i j = false
  | 0, j, _ => rfl
  | i + 1, j, h => by
    have ih : valsTo gs inp i j = false := valsTo_over (by omega)
    cases hg : gs[i]? with
    | none => simp only [valsTo, hg, ih]
    | some x =>
      simp only [valsTo, hg, updf, ih]
      rw [if_neg (by omega)]
theorem valsTo_congr {gs : List Gate} {inp inp' : Nat → Bool} (h : ∀ i x, gs[i]? = some x → x.op = 2 → inp i = inp' i) : ∀ i, valsTo gs inp i = valsTo gs inp' i
  | 0 => rfl
  | i + 1 => by
    simp only [valsTo, valsTo_congr h i]
    split
    · rename_i x hx
      have : gateB inp (valsTo gs inp' i) i x = gateB inp' (valsTo gs inp' i) i x := by
        simp only [gateB]
        split
        · rename_i h2; exact h i x hx h2
        · rfl
      rw [this]
    · rfl

/-- A wire of a row of bits. -/
theorem wire_row {fuel d : Nat} {g : T AObj} {n len : Nat} {v : AV} {f : Nat → Bool} {w : Int} (hr : Row n g v 1 len (bools ((List.range len).map f))) (h0 : 0 ≤ w) (hw : w < 2 * len) (hbig : len < 1000000) :
    evFn Tryz.prog fuel (d + 1) (.fn 45) [v, .int .i64 w] g n = some (.bool (wireB f w), g, n) := by
  obtain ⟨k, rfl⟩ : ∃ k : Nat, w = k := ⟨w.toNat, by omega⟩
  have hk : k / 2 < len := by omega
  rcases hr with ⟨_, h, _⟩ | ⟨id, off, cap, data, rfl, h2, h3, h4, h5⟩
  · omega
  · have hb : bitsAt data off ((List.range len).map f) := by
      intro i b hi
      rw [Nat.mul_one]
      have := h5.1 i (.bool b) (by simp only [bools, List.getElem?_map] at hi ⊢; rw [hi]; rfl)
      simpa using this
    have hl : ((List.range len).map f).length = len := by simp
    have hv : ((List.range len).map f)[k / 2]? = some (f (k / 2)) := by simp [List.getElem?_range hk]
    have key := wire_gives (fuel := fuel) (d := d) (cap := cap) (n := n) h3 hb (w := k) (by omega) hv
    rw [hl] at key
    obtain ⟨x, g', n', e, rfl, rfl, rfl⟩ := key
    rw [e]
    have : (((k % 2 : Nat) : Int) == 1) = (k % 2 == 1) := by
      rcases Nat.mod_two_eq_zero_or_one k with h | h <;> rw [h] <;> rfl
    rw [this]
    simp only [wireB, Int.toNat_natCast]
end Go.Ev

set_option linter.unusedSimpArgs false
set_option linter.unusedVariables false
set_option maxRecDepth 20000
namespace Go.Ev
open Go Proofs
theorem ok4 : callOk Tryz.prog 4 = true := by decide +kernel
theorem ok5 : callOk Tryz.prog 5 = true := by decide +kernel
theorem ok6 : callOk Tryz.prog 6 = true := by decide +kernel
theorem ok7 : callOk Tryz.prog 7 = true := by decide +kernel
theorem ok8 : callOk Tryz.prog 8 = true := by decide +kernel
theorem ok9 : callOk Tryz.prog 9 = true := by decide +kernel
theorem ok10 : callOk Tryz.prog 10 = true := by decide +kernel
theorem ok13 : callOk Tryz.prog 13 = true := by decide +kernel
theorem ok14 : callOk Tryz.prog 14 = true := by decide +kernel
theorem ok15 : callOk Tryz.prog 15 = true := by decide +kernel
theorem ok16 : callOk Tryz.prog 16 = true := by decide +kernel
theorem ok17 : callOk Tryz.prog 17 = true := by decide +kernel
theorem ok19 : callOk Tryz.prog 19 = true := by decide +kernel
theorem ok20 : callOk Tryz.prog 20 = true := by decide +kernel
theorem ok34 : callOk Tryz.prog 34 = true := by decide +kernel
theorem ok35 : callOk Tryz.prog 35 = true := by decide +kernel
theorem ok36 : callOk Tryz.prog 36 = true := by decide +kernel
theorem ok37 : callOk Tryz.prog 37 = true := by decide +kernel
theorem ok38 : callOk Tryz.prog 38 = true := by decide +kernel
theorem ok39 : callOk Tryz.prog 39 = true := by decide +kernel
theorem ok44 : callOk Tryz.prog 44 = true := by decide +kernel
theorem ok45 : callOk Tryz.prog 45 = true := by decide +kernel
theorem ok60 : callOk Tryz.prog 60 = true := by decide +kernel

theorem agg24 : aggT Tryz.prog 24 = some true := by decide +kernel
theorem load24 {g : AHeap} {id : Nat} {v : AV} (h : g id = some (.cells 1 [v])) : evLoad Tryz.prog g 24 (.ptr id 0) = some (.agg [v]) := by
  simp only [evLoad, h, agg24, size24]
  rfl
theorem load_same_agg {P : Program} {g : T AObj} {m off sz : Nat} {data : List AV} {t : TypeId} (ha : aggT P t = some true) : evLoad P (T.set (.cells sz data) g m).get t (.ptr m off) = (match sizeT P t with | some s => bif Nat.ble (off + s) data.length then some (.agg ((data.drop off).take s)) else none | none => none) := by
  simp only [evLoad, T.get_set, reduceIte, ha]
  rfl
end Go.Ev
