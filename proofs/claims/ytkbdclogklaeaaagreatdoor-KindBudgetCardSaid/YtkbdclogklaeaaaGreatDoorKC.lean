/- PART OF THE PROOF OF KindBudget's CARD. The net's values and the next state, evaluated for all data. -/
import Derived.Test.YtkbdclogklaeaaaGreatDoorKB
set_option linter.unusedSimpArgs false
set_option linter.unusedVariables false

set_option linter.unusedSimpArgs false
set_option linter.unusedVariables false
set_option maxRecDepth 20000
namespace Go.Ev
open Go Proofs

/-- The input of a gate, when those of a list stand for the inputs in order. -/
def inpOf (gs : List Gate) (ins : List Bool) (i : Nat) : Bool := ins.getD (places (gs.take i)).length false

theorem eval_gives {fuel d : Nat} {g : T AObj} {n : Nat} {net iv : AV} {gs : List Gate} {ins : List Bool} (hr : Row n g net 3 gs.length (gates gs)) (hi : Row n g iv 1 ins.length (bools ins)) (hok : NetOk gs) (hlen : ins.length = (places gs).length) (hf : gs.length + 1 < fuel) (hbig : gs.length < 1000) :
    Gives Tryz.prog fuel (d + 2) 44 [.agg [net], iv] g n (fun x g' n' => (∃ id, x = .tuple [.slice id 0 gs.length (some gs.length) 1, .int .i64 0] ∧ n ≤ id ∧ id < n' ∧ g'.get id = some (.cells 1 (arr gs.length (valsOf gs (inpOf gs ins))))) ∧ Old n g g' ∧ n ≤ n') := by
  refine gives_ends 71 [.tmp 4, .tmp 5] Tryz.func44 rfl rfl rfl ?_
  have hla := hr.evLen Tryz.underlying22 (P := Tryz.prog)
  have hli := hi.evLen Tryz.underlying26 (P := Tryz.prog)
  have hb := box1 (n := n) hr.one
  have o1 : Old n g (T.set (.cells 1 [net]) g n) := (Old.refl _ _).set (Nat.le_refl _) _
  have hr1 := hr.old (n' := n + 1) o1 (by omega)
  simp only [e_seq, e_skip, e_ret, e_exit, e_block, e_region, e_cond, condQ_true, condQ_false, seqK_normal, seqK_ret, seqK_exit, loopK_normal, loopK_ret, loopK_exit, drawK_eq, blockQ_normal, blockQ_ret, blockQ_same, blockQ_other, steps_cons, steps_done, fits_some, blt_lt, pre_plain, pre_guardQ, guardV_some, guardQ_tt, guardQ_ff, guardQ_tf, guardQ_ft, guardQ_skip, List.getElem?_toArray, List.getElem?_cons_zero, List.getElem?_cons_succ, fits_none, evOp, evCall, evOpds, evBuiltin, opd_tmp, opd_int, opd_bool, opd_nil, ov_some, ove_some, oe_some, ose_some, after_val, after_skip, after_call, callQ_some, stepK_eq, opd_func,  putT_some, putT_none, effT_none, next_none, effT_new, effT_wr, effT_mv, next_new, next_wr, next_mv, Nat.reduceLT, Nat.reduceBEq, true_and, and_true, reduceIte, Nat.reduceEqDiff, eq_self, T.get_set, cond_true, cond_false, endR_ret, resQ_some, evResults, tup_one, tup_two, tup_three, fillT, load_same, load_ne, store_same, store_ne, AV.cells, allOne, one_int, one_bool, one_ptr, one_nil, one_slice, List.length_cons, List.length_nil, Nat.zero_add, Nat.reduceAdd, beqD, bleD, Nat.reduceLeDiff, Nat.le_refl, decide_true, decide_false, Bool.and_self, Bool.and_true, Bool.true_and, List.take_zero, List.take_succ_cons, List.drop_succ_cons, List.drop_zero, List.nil_append, List.append_nil, List.cons_append, List.getElem?_cons_zero, List.getElem?_cons_succ, agg3, agg4, agg22, agg25, size3, size4, size22, size51, alloc51, fieldAddr24, fieldAddr51, bin_lss, bin_leq, bin_gtr, bin_geq, bin_eql, bin_neq, bin_neqb, un_not, List.getElem?_toArray, ne_eq, not_false_eq_true, evParts, build25, build26, ok5, ok6, ok7, ok8, ok9, ok10, ok13, ok14, ok15, ok16, ok17, ok19, ok20, ok34, ok35, ok36, ok37, ok38, ok39, ok44, ok45, ok60, load_same_agg, agg24, size24, evExtract, agg51, hla, hb]
  refine callQ_gives (checkNet_gives hr1 (by omega) (by omega)) ?_
  rintro _ g2 n2 ⟨⟨e, rfl, he⟩, o2, l2⟩
  obtain rfl : e = 0 := he.2 hok
  have c2 : g2.get n = some (.cells 1 [net]) := by rw [o2 n (by omega), T.get_set, if_pos rfl]
  have hr2 := hr1.old (n' := n2) o2 (by omega)
  have l24 := load24 c2
  simp only [e_seq, e_skip, e_ret, e_exit, e_block, e_region, e_cond, condQ_true, condQ_false, seqK_normal, seqK_ret, seqK_exit, loopK_normal, loopK_ret, loopK_exit, drawK_eq, blockQ_normal, blockQ_ret, blockQ_same, blockQ_other, steps_cons, steps_done, fits_some, blt_lt, pre_plain, pre_guardQ, guardV_some, guardQ_tt, guardQ_ff, guardQ_tf, guardQ_ft, guardQ_skip, List.getElem?_toArray, List.getElem?_cons_zero, List.getElem?_cons_succ, fits_none, evOp, evCall, evOpds, evBuiltin, opd_tmp, opd_int, opd_bool, opd_nil, ov_some, ove_some, oe_some, ose_some, after_val, after_skip, after_call, callQ_some, stepK_eq, opd_func,  putT_some, putT_none, effT_none, next_none, effT_new, effT_wr, effT_mv, next_new, next_wr, next_mv, Nat.reduceLT, Nat.reduceBEq, true_and, and_true, reduceIte, Nat.reduceEqDiff, eq_self, T.get_set, cond_true, cond_false, endR_ret, resQ_some, evResults, tup_one, tup_two, tup_three, fillT, load_same, load_ne, store_same, store_ne, AV.cells, allOne, one_int, one_bool, one_ptr, one_nil, one_slice, List.length_cons, List.length_nil, Nat.zero_add, Nat.reduceAdd, beqD, bleD, Nat.reduceLeDiff, Nat.le_refl, decide_true, decide_false, Bool.and_self, Bool.and_true, Bool.true_and, List.take_zero, List.take_succ_cons, List.drop_succ_cons, List.drop_zero, List.nil_append, List.append_nil, List.cons_append, List.getElem?_cons_zero, List.getElem?_cons_succ, agg3, agg4, agg22, agg25, size3, size4, size22, size51, alloc51, fieldAddr24, fieldAddr51, bin_lss, bin_leq, bin_gtr, bin_geq, bin_eql, bin_neq, bin_neqb, un_not, List.getElem?_toArray, ne_eq, not_false_eq_true, evParts, build25, build26, ok5, ok6, ok7, ok8, ok9, ok10, ok13, ok14, ok15, ok16, ok17, ok19, ok20, ok34, ok35, ok36, ok37, ok38, ok39, ok44, ok45, ok60, load_same_agg, agg24, size24, evExtract, agg51, hla, hb, l24, bne_self_eq_false]
  refine callQ_gives (inputs_gives hr2 (by omega) (by omega)) ?_
  rintro pv g3 n3 ⟨hown, o3, l3⟩
  have c3 : g3.get n = some (.cells 1 [net]) := by rw [o3 n (by omega)]; exact c2
  have hr3 := hr2.old (n' := n3) o3 (by omega)
  have l22 := load22 c3
  have hlp := hown.row.evLen Tryz.underlying25 (P := Tryz.prog)
  have hne : ((((places gs).length : Nat) : Int) != ((ins.length : Nat) : Int)) = false := by simp [hlen]
  have hmk := mk_arr n3 gs.length (by omega)
  have O3 : Old n g g3 := (o1.trans (by omega) o2).trans (by omega) o3
  simp only [e_seq, e_skip, e_ret, e_exit, e_block, e_region, e_cond, condQ_true, condQ_false, seqK_normal, seqK_ret, seqK_exit, loopK_normal, loopK_ret, loopK_exit, drawK_eq, blockQ_normal, blockQ_ret, blockQ_same, blockQ_other, steps_cons, steps_done, fits_some, blt_lt, pre_plain, pre_guardQ, guardV_some, guardQ_tt, guardQ_ff, guardQ_tf, guardQ_ft, guardQ_skip, List.getElem?_toArray, List.getElem?_cons_zero, List.getElem?_cons_succ, fits_none, evOp, evCall, evOpds, evBuiltin, opd_tmp, opd_int, opd_bool, opd_nil, ov_some, ove_some, oe_some, ose_some, after_val, after_skip, after_call, callQ_some, stepK_eq, opd_func,  putT_some, putT_none, effT_none, next_none, effT_new, effT_wr, effT_mv, next_new, next_wr, next_mv, Nat.reduceLT, Nat.reduceBEq, true_and, and_true, reduceIte, Nat.reduceEqDiff, eq_self, T.get_set, cond_true, cond_false, endR_ret, resQ_some, evResults, tup_one, tup_two, tup_three, fillT, load_same, load_ne, store_same, store_ne, AV.cells, allOne, one_int, one_bool, one_ptr, one_nil, one_slice, List.length_cons, List.length_nil, Nat.zero_add, Nat.reduceAdd, beqD, bleD, Nat.reduceLeDiff, Nat.le_refl, decide_true, decide_false, Bool.and_self, Bool.and_true, Bool.true_and, List.take_zero, List.take_succ_cons, List.drop_succ_cons, List.drop_zero, List.nil_append, List.append_nil, List.cons_append, List.getElem?_cons_zero, List.getElem?_cons_succ, agg3, agg4, agg22, agg25, size3, size4, size22, size51, alloc51, fieldAddr24, fieldAddr51, bin_lss, bin_leq, bin_gtr, bin_geq, bin_eql, bin_neq, bin_neqb, un_not, List.getElem?_toArray, ne_eq, not_false_eq_true, evParts, build25, build26, ok5, ok6, ok7, ok8, ok9, ok10, ok13, ok14, ok15, ok16, ok17, ok19, ok20, ok34, ok35, ok36, ok37, ok38, ok39, ok44, ok45, ok60, load_same_agg, agg24, size24, evExtract, agg51, hla, hli, hb, l22, hlp, hne, hmk]
  refine e_loop (fun k s => ∃ i m : Nat, ∃ tm : T AV, ∃ h : T AObj, s = ⟨tm, h, m, []⟩ ∧ i + k = gs.length ∧ n3 + 1 ≤ m ∧ Old n g h ∧ h.get n = some (.cells 1 [net]) ∧ h.get n3 = some (.cells 1 (arr gs.length (valsTo gs (inpOf gs ins) i))) ∧
    tm.get 1 = some iv ∧ tm.get 2 = some (.ptr n 0) ∧ tm.get 7 = some (.slice n3 0 gs.length (some gs.length) 1) ∧ tm.get 8 = some (.int .i64 (((places (gs.take i)).length : Nat) : Int)) ∧ tm.get 9 = some (.int .i64 (i : Int))) gs.length (by omega) ?_ ?_
  · refine ⟨0, n3 + 1, _, _, rfl, ?_, ?_, ?_, ?_, ?_, ?_, ?_, ?_, ?_, ?_⟩
    · omega
    · omega
    · exact O3.set (by omega) _
    · rw [T.get_set, if_neg (by omega)]; exact c3
    · rw [T.get_set, if_pos rfl]; rfl
    · simp [T.get_set]
    · simp [T.get_set]
    · simp [T.get_set]
    · simp [T.get_set, places, placesFrom]
    · simp [T.get_set]
  rintro k _ ⟨i, m, tm, h, rfl, hik, hm, ho, hn, hv, t1, t2, t7, t8, t9⟩
  have l22 := load22 hn
  by_cases hlt : i < gs.length
  · have hc : (i : Int) < (gs.length : Int) := by omega
    obtain ⟨x, hx⟩ : ∃ x, gs[i]? = some x := ⟨_, List.getElem?_eq_getElem hlt⟩
    obtain ⟨id, o, a1, a2, a3, a4⟩ := (hr.old (n' := m) ho (by omega)).gate hlt hx .i64
    have hs := bin_succ Tryz.prog 3 i (by omega)
    have hnm : n ≠ m := by omega
    have hnm3 : n3 ≠ m := by omega
    have hn3 : n ≠ n3 := by omega
    have hgo := hok.2 i x hx
    have hidx := idx_arr (id := n3) (c := some gs.length) hlt .i64
    have hpl := places_snoc hx
    have hval := valsTo_succ (inp := inpOf gs ins) hx
    have good : ∀ (G : T AObj) (M : Nat) (tm : T AV), Old n g G → n3 + 1 ≤ M → G.get n = some (.cells 1 [net]) → G.get n3 = some (.cells 1 (arr gs.length (valsTo gs (inpOf gs ins) (i + 1)))) → tm.get 1 = some iv → tm.get 2 = some (.ptr n 0) →
        tm.get 7 = some (.slice n3 0 gs.length (some gs.length) 1) → tm.get 8 = some (.int .i64 (((places (gs.take (i + 1))).length : Nat) : Int)) → tm.get 9 = some (.int .i64 ((i + 1 : Nat) : Int)) →
        ∃ j, j < k ∧ ∃ i m : Nat, ∃ tm' : T AV, ∃ h : T AObj, (⟨tm, G, M, []⟩ : St) = ⟨tm', h, m, []⟩ ∧ i + j = gs.length ∧ n3 + 1 ≤ m ∧ Old n g h ∧ h.get n = some (.cells 1 [net]) ∧ h.get n3 = some (.cells 1 (arr gs.length (valsTo gs (inpOf gs ins) i))) ∧
          tm'.get 1 = some iv ∧ tm'.get 2 = some (.ptr n 0) ∧ tm'.get 7 = some (.slice n3 0 gs.length (some gs.length) 1) ∧ tm'.get 8 = some (.int .i64 (((places (gs.take i)).length : Nat) : Int)) ∧ tm'.get 9 = some (.int .i64 (i : Int)) :=
      fun G M tm h1 h2 h3 h4 h5 h6 h7 h8 h9 => ⟨k - 1, by omega, i + 1, M, tm, G, rfl, by omega, h2, h1, h3, h4, h5, h6, h7, h8, h9⟩
    have ho2 : ∀ a b, Old n g (T.set a (T.set b h m) m) := fun a b => (ho.set (by omega) _).set (by omega) _
    have ho3 : ∀ a b c, Old n g (T.set c (T.set a (T.set b h m) m) n3) := fun a b c => (ho2 a b).set (by omega) _
    rcases bt (x.op == 2) with o2 | o2
    · have e2 : x.op = 2 := by simpa using o2
      rw [if_pos e2] at hpl
      have hkl : (places (gs.take i)).length < ins.length := by
        have h1 : (places gs) = places (gs.take (i + 1)) ++ placesFrom (0 + (gs.take (i + 1)).length) (gs.drop (i + 1)) := by
          rw [places, places, ← placesFrom_append, List.take_append_drop]
        rw [hlen, h1, hpl]; simp
      obtain ⟨b, hbb⟩ : ∃ b, ins[(places (gs.take i)).length]? = some b := ⟨_, List.getElem?_eq_getElem hkl⟩
      obtain ⟨ia, oa, b1, b2, b3⟩ := (hi.old (n' := m) ho (by omega)).bit hkl hbb .i64
      have hiam : ia ≠ m := by omega
      have hst := store_arr b hv hlt
      have hpb : (places (gs.take i)).length ≤ i := Nat.le_trans (placesFrom_length _ 0) (by simp; omega)
      have hs8 := bin_succ Tryz.prog 3 (places (gs.take i)).length (by omega)
      have hin : inpOf gs ins i = b := by simp [inpOf, List.getD, hbb]
      simp only [e_seq, e_skip, e_ret, e_exit, e_block, e_region, e_cond, condQ_true, condQ_false, seqK_normal, seqK_ret, seqK_exit, loopK_normal, loopK_ret, loopK_exit, drawK_eq, blockQ_normal, blockQ_ret, blockQ_same, blockQ_other, steps_cons, steps_done, fits_some, blt_lt, pre_plain, pre_guardQ, guardV_some, guardQ_tt, guardQ_ff, guardQ_tf, guardQ_ft, guardQ_skip, List.getElem?_toArray, List.getElem?_cons_zero, List.getElem?_cons_succ, fits_none, evOp, evCall, evOpds, evBuiltin, opd_tmp, opd_int, opd_bool, opd_nil, ov_some, ove_some, oe_some, ose_some, after_val, after_skip, after_call, callQ_some, stepK_eq, opd_func,  putT_some, putT_none, effT_none, next_none, effT_new, effT_wr, effT_mv, next_new, next_wr, next_mv, Nat.reduceLT, Nat.reduceBEq, true_and, and_true, reduceIte, Nat.reduceEqDiff, eq_self, T.get_set, cond_true, cond_false, endR_ret, resQ_some, evResults, tup_one, tup_two, tup_three, fillT, load_same, load_ne, store_same, store_ne, AV.cells, allOne, one_int, one_bool, one_ptr, one_nil, one_slice, List.length_cons, List.length_nil, Nat.zero_add, Nat.reduceAdd, beqD, bleD, Nat.reduceLeDiff, Nat.le_refl, decide_true, decide_false, Bool.and_self, Bool.and_true, Bool.true_and, List.take_zero, List.take_succ_cons, List.drop_succ_cons, List.drop_zero, List.nil_append, List.append_nil, List.cons_append, List.getElem?_cons_zero, List.getElem?_cons_succ, agg3, agg4, agg22, agg25, size3, size4, size22, size51, alloc51, fieldAddr24, fieldAddr51, bin_lss, bin_leq, bin_gtr, bin_geq, bin_eql, bin_neq, bin_neqb, un_not, List.getElem?_toArray, ne_eq, not_false_eq_true, evParts, build25, build26, ok5, ok6, ok7, ok8, ok9, ok10, ok13, ok14, ok15, ok16, ok17, ok19, ok20, ok34, ok35, ok36, ok37, ok38, ok39, ok44, ok45, ok60, load_same_agg, agg24, size24, evExtract, agg51, hla, t1, t2, t7, t8, t9, l22, hc, a1, a3, hs, hs8, hnm, hnm3, hiam, o2, b1, b3, hidx, hst]
      refine good _ _ _ (ho3 _ _ _) ?_ ?_ ?_ ?_ ?_ ?_ ?_ ?_
      · omega
      · simp only [T.get_set, hn3, hnm, hn, reduceIte]
      · rw [T.get_set, if_pos rfl, hval]; simp only [gateB, e2, reduceIte, hin]
      · simp [T.get_set, t1]
      · simp [T.get_set, t2]
      · simp [T.get_set, t7]
      · simp [T.get_set, hpl]
      · simp [T.get_set]
    have e2 : ¬ x.op = 2 := by simpa using o2
    rw [if_neg e2] at hpl
    rcases bt (x.op == 3) with o3 | o3
    · have e3 : x.op = 3 := by simpa using o3
      have hgo' : 0 ≤ x.a ∧ 0 ≤ x.b ∧ x.a < 2 * i ∧ x.b < 2 * i := by simp [GateOk] at hgo; omega
      have hw : ∀ (w : Int) (G : T AObj) (M : Nat), 0 ≤ w → w < 2 * gs.length → n3 < M → G.get n3 = some (.cells 1 (arr gs.length (valsTo gs (inpOf gs ins) i))) → evFn Tryz.prog fuel (d + 1) (.fn 45) [.slice n3 0 gs.length (some gs.length) 1, .int .i64 w] G M = some (.bool (wireB (valsTo gs (inpOf gs ins) i) w), G, M) :=
        fun w G M h1 h2 h3 h4 => wire_row (row_arr h3 h4) h1 h2 (by omega)
      have wa := fun (G : T AObj) (M : Nat) => hw x.a G M (by omega) (by omega)
      have wb := fun (G : T AObj) (M : Nat) => hw x.b G M (by omega) (by omega)
      have hM : n3 < m + 1 := by omega
      have hst := fun b => store_arr b hv hlt
      have hB : gateB (inpOf gs ins) (valsTo gs (inpOf gs ins) i) i x = (wireB (valsTo gs (inpOf gs ins) i) x.a && wireB (valsTo gs (inpOf gs ins) i) x.b) := by simp [gateB, e3]
      rcases bt (wireB (valsTo gs (inpOf gs ins) i) x.a) with ea | ea
      · rcases bt (wireB (valsTo gs (inpOf gs ins) i) x.b) with eb | eb
        · simp only [e_seq, e_skip, e_ret, e_exit, e_block, e_region, e_cond, condQ_true, condQ_false, seqK_normal, seqK_ret, seqK_exit, loopK_normal, loopK_ret, loopK_exit, drawK_eq, blockQ_normal, blockQ_ret, blockQ_same, blockQ_other, steps_cons, steps_done, fits_some, blt_lt, pre_plain, pre_guardQ, guardV_some, guardQ_tt, guardQ_ff, guardQ_tf, guardQ_ft, guardQ_skip, List.getElem?_toArray, List.getElem?_cons_zero, List.getElem?_cons_succ, fits_none, evOp, evCall, evOpds, evBuiltin, opd_tmp, opd_int, opd_bool, opd_nil, ov_some, ove_some, oe_some, ose_some, after_val, after_skip, after_call, callQ_some, stepK_eq, opd_func,  putT_some, putT_none, effT_none, next_none, effT_new, effT_wr, effT_mv, next_new, next_wr, next_mv, Nat.reduceLT, Nat.reduceBEq, true_and, and_true, reduceIte, Nat.reduceEqDiff, eq_self, T.get_set, cond_true, cond_false, endR_ret, resQ_some, evResults, tup_one, tup_two, tup_three, fillT, load_same, load_ne, store_same, store_ne, AV.cells, allOne, one_int, one_bool, one_ptr, one_nil, one_slice, List.length_cons, List.length_nil, Nat.zero_add, Nat.reduceAdd, beqD, bleD, Nat.reduceLeDiff, Nat.le_refl, decide_true, decide_false, Bool.and_self, Bool.and_true, Bool.true_and, List.take_zero, List.take_succ_cons, List.drop_succ_cons, List.drop_zero, List.nil_append, List.append_nil, List.cons_append, List.getElem?_cons_zero, List.getElem?_cons_succ, agg3, agg4, agg22, agg25, size3, size4, size22, size51, alloc51, fieldAddr24, fieldAddr51, bin_lss, bin_leq, bin_gtr, bin_geq, bin_eql, bin_neq, bin_neqb, un_not, List.getElem?_toArray, ne_eq, not_false_eq_true, evParts, build25, build26, ok5, ok6, ok7, ok8, ok9, ok10, ok13, ok14, ok15, ok16, ok17, ok19, ok20, ok34, ok35, ok36, ok37, ok38, ok39, ok44, ok45, ok60, load_same_agg, agg24, size24, evExtract, agg51, hla, t1, t2, t7, t8, t9, l22, hc, a1, a3, hs, hnm, hnm3, o2, o3, hidx, hst, hv, wa, wb, hM, ea, eb]
          refine good _ _ _ (ho3 _ _ _) ?_ ?_ ?_ ?_ ?_ ?_ ?_ ?_
          · omega
          · simp only [T.get_set, hn3, hnm, hn, reduceIte]
          · rw [T.get_set, if_pos rfl, hval, hB, ea, eb]; rfl
          · simp [T.get_set, t1]
          · simp [T.get_set, t2]
          · simp [T.get_set, t7]
          · simp [T.get_set, hpl, t8]
          · simp [T.get_set]
        · simp only [e_seq, e_skip, e_ret, e_exit, e_block, e_region, e_cond, condQ_true, condQ_false, seqK_normal, seqK_ret, seqK_exit, loopK_normal, loopK_ret, loopK_exit, drawK_eq, blockQ_normal, blockQ_ret, blockQ_same, blockQ_other, steps_cons, steps_done, fits_some, blt_lt, pre_plain, pre_guardQ, guardV_some, guardQ_tt, guardQ_ff, guardQ_tf, guardQ_ft, guardQ_skip, List.getElem?_toArray, List.getElem?_cons_zero, List.getElem?_cons_succ, fits_none, evOp, evCall, evOpds, evBuiltin, opd_tmp, opd_int, opd_bool, opd_nil, ov_some, ove_some, oe_some, ose_some, after_val, after_skip, after_call, callQ_some, stepK_eq, opd_func,  putT_some, putT_none, effT_none, next_none, effT_new, effT_wr, effT_mv, next_new, next_wr, next_mv, Nat.reduceLT, Nat.reduceBEq, true_and, and_true, reduceIte, Nat.reduceEqDiff, eq_self, T.get_set, cond_true, cond_false, endR_ret, resQ_some, evResults, tup_one, tup_two, tup_three, fillT, load_same, load_ne, store_same, store_ne, AV.cells, allOne, one_int, one_bool, one_ptr, one_nil, one_slice, List.length_cons, List.length_nil, Nat.zero_add, Nat.reduceAdd, beqD, bleD, Nat.reduceLeDiff, Nat.le_refl, decide_true, decide_false, Bool.and_self, Bool.and_true, Bool.true_and, List.take_zero, List.take_succ_cons, List.drop_succ_cons, List.drop_zero, List.nil_append, List.append_nil, List.cons_append, List.getElem?_cons_zero, List.getElem?_cons_succ, agg3, agg4, agg22, agg25, size3, size4, size22, size51, alloc51, fieldAddr24, fieldAddr51, bin_lss, bin_leq, bin_gtr, bin_geq, bin_eql, bin_neq, bin_neqb, un_not, List.getElem?_toArray, ne_eq, not_false_eq_true, evParts, build25, build26, ok5, ok6, ok7, ok8, ok9, ok10, ok13, ok14, ok15, ok16, ok17, ok19, ok20, ok34, ok35, ok36, ok37, ok38, ok39, ok44, ok45, ok60, load_same_agg, agg24, size24, evExtract, agg51, hla, t1, t2, t7, t8, t9, l22, hc, a1, a3, hs, hnm, hnm3, o2, o3, hidx, hst, hv, wa, wb, hM, ea, eb]
          refine good _ _ _ (ho3 _ _ _) ?_ ?_ ?_ ?_ ?_ ?_ ?_ ?_
          · omega
          · simp only [T.get_set, hn3, hnm, hn, reduceIte]
          · rw [T.get_set, if_pos rfl, hval, hB, ea, eb]; rfl
          · simp [T.get_set, t1]
          · simp [T.get_set, t2]
          · simp [T.get_set, t7]
          · simp [T.get_set, hpl, t8]
          · simp [T.get_set]
      · simp only [e_seq, e_skip, e_ret, e_exit, e_block, e_region, e_cond, condQ_true, condQ_false, seqK_normal, seqK_ret, seqK_exit, loopK_normal, loopK_ret, loopK_exit, drawK_eq, blockQ_normal, blockQ_ret, blockQ_same, blockQ_other, steps_cons, steps_done, fits_some, blt_lt, pre_plain, pre_guardQ, guardV_some, guardQ_tt, guardQ_ff, guardQ_tf, guardQ_ft, guardQ_skip, List.getElem?_toArray, List.getElem?_cons_zero, List.getElem?_cons_succ, fits_none, evOp, evCall, evOpds, evBuiltin, opd_tmp, opd_int, opd_bool, opd_nil, ov_some, ove_some, oe_some, ose_some, after_val, after_skip, after_call, callQ_some, stepK_eq, opd_func,  putT_some, putT_none, effT_none, next_none, effT_new, effT_wr, effT_mv, next_new, next_wr, next_mv, Nat.reduceLT, Nat.reduceBEq, true_and, and_true, reduceIte, Nat.reduceEqDiff, eq_self, T.get_set, cond_true, cond_false, endR_ret, resQ_some, evResults, tup_one, tup_two, tup_three, fillT, load_same, load_ne, store_same, store_ne, AV.cells, allOne, one_int, one_bool, one_ptr, one_nil, one_slice, List.length_cons, List.length_nil, Nat.zero_add, Nat.reduceAdd, beqD, bleD, Nat.reduceLeDiff, Nat.le_refl, decide_true, decide_false, Bool.and_self, Bool.and_true, Bool.true_and, List.take_zero, List.take_succ_cons, List.drop_succ_cons, List.drop_zero, List.nil_append, List.append_nil, List.cons_append, List.getElem?_cons_zero, List.getElem?_cons_succ, agg3, agg4, agg22, agg25, size3, size4, size22, size51, alloc51, fieldAddr24, fieldAddr51, bin_lss, bin_leq, bin_gtr, bin_geq, bin_eql, bin_neq, bin_neqb, un_not, List.getElem?_toArray, ne_eq, not_false_eq_true, evParts, build25, build26, ok5, ok6, ok7, ok8, ok9, ok10, ok13, ok14, ok15, ok16, ok17, ok19, ok20, ok34, ok35, ok36, ok37, ok38, ok39, ok44, ok45, ok60, load_same_agg, agg24, size24, evExtract, agg51, hla, t1, t2, t7, t8, t9, l22, hc, a1, a3, hs, hnm, hnm3, o2, o3, hidx, hst, hv, wa, wb, hM, ea]
        refine good _ _ _ (ho3 _ _ _) ?_ ?_ ?_ ?_ ?_ ?_ ?_ ?_
        · omega
        · simp only [T.get_set, hn3, hnm, hn, reduceIte]
        · rw [T.get_set, if_pos rfl, hval, hB, ea]; rfl
        · simp [T.get_set, t1]
        · simp [T.get_set, t2]
        · simp [T.get_set, t7]
        · simp [T.get_set, hpl, t8]
        · simp [T.get_set]
    · have e3 : ¬ x.op = 3 := by simpa using o3
      simp only [e_seq, e_skip, e_ret, e_exit, e_block, e_region, e_cond, condQ_true, condQ_false, seqK_normal, seqK_ret, seqK_exit, loopK_normal, loopK_ret, loopK_exit, drawK_eq, blockQ_normal, blockQ_ret, blockQ_same, blockQ_other, steps_cons, steps_done, fits_some, blt_lt, pre_plain, pre_guardQ, guardV_some, guardQ_tt, guardQ_ff, guardQ_tf, guardQ_ft, guardQ_skip, List.getElem?_toArray, List.getElem?_cons_zero, List.getElem?_cons_succ, fits_none, evOp, evCall, evOpds, evBuiltin, opd_tmp, opd_int, opd_bool, opd_nil, ov_some, ove_some, oe_some, ose_some, after_val, after_skip, after_call, callQ_some, stepK_eq, opd_func,  putT_some, putT_none, effT_none, next_none, effT_new, effT_wr, effT_mv, next_new, next_wr, next_mv, Nat.reduceLT, Nat.reduceBEq, true_and, and_true, reduceIte, Nat.reduceEqDiff, eq_self, T.get_set, cond_true, cond_false, endR_ret, resQ_some, evResults, tup_one, tup_two, tup_three, fillT, load_same, load_ne, store_same, store_ne, AV.cells, allOne, one_int, one_bool, one_ptr, one_nil, one_slice, List.length_cons, List.length_nil, Nat.zero_add, Nat.reduceAdd, beqD, bleD, Nat.reduceLeDiff, Nat.le_refl, decide_true, decide_false, Bool.and_self, Bool.and_true, Bool.true_and, List.take_zero, List.take_succ_cons, List.drop_succ_cons, List.drop_zero, List.nil_append, List.append_nil, List.cons_append, List.getElem?_cons_zero, List.getElem?_cons_succ, agg3, agg4, agg22, agg25, size3, size4, size22, size51, alloc51, fieldAddr24, fieldAddr51, bin_lss, bin_leq, bin_gtr, bin_geq, bin_eql, bin_neq, bin_neqb, un_not, List.getElem?_toArray, ne_eq, not_false_eq_true, evParts, build25, build26, ok5, ok6, ok7, ok8, ok9, ok10, ok13, ok14, ok15, ok16, ok17, ok19, ok20, ok34, ok35, ok36, ok37, ok38, ok39, ok44, ok45, ok60, load_same_agg, agg24, size24, evExtract, agg51, hla, t1, t2, t7, t8, t9, l22, hc, a1, a3, hs, hnm, hnm3, o2, o3]
      refine good _ _ _ (ho2 _ _) ?_ ?_ ?_ ?_ ?_ ?_ ?_ ?_
      · omega
      · simp only [T.get_set, hnm, hn, reduceIte]
      · simp only [T.get_set, hnm3, reduceIte, hv, hval]
        have : arr gs.length (updf (valsTo gs (inpOf gs ins) i) i (gateB (inpOf gs ins) (valsTo gs (inpOf gs ins) i) i x)) = arr gs.length (valsTo gs (inpOf gs ins) i) := arr_congr fun j hj => by
          simp only [updf, gateB, e2, e3, if_false]
          split
          · rename_i e; subst e; exact (valsTo_over (Nat.le_refl _)).symm
          · rfl
        rw [this]
      · simp [T.get_set, t1]
      · simp [T.get_set, t2]
      · simp [T.get_set, t7]
      · simp [T.get_set, hpl, t8]
      · simp [T.get_set]
  · have hc : ¬ (i : Int) < (gs.length : Int) := by omega
    simp only [e_seq, e_skip, e_ret, e_exit, e_block, e_region, e_cond, condQ_true, condQ_false, seqK_normal, seqK_ret, seqK_exit, loopK_normal, loopK_ret, loopK_exit, drawK_eq, blockQ_normal, blockQ_ret, blockQ_same, blockQ_other, steps_cons, steps_done, fits_some, blt_lt, pre_plain, pre_guardQ, guardV_some, guardQ_tt, guardQ_ff, guardQ_tf, guardQ_ft, guardQ_skip, List.getElem?_toArray, List.getElem?_cons_zero, List.getElem?_cons_succ, fits_none, evOp, evCall, evOpds, evBuiltin, opd_tmp, opd_int, opd_bool, opd_nil, ov_some, ove_some, oe_some, ose_some, after_val, after_skip, after_call, callQ_some, stepK_eq, opd_func,  putT_some, putT_none, effT_none, next_none, effT_new, effT_wr, effT_mv, next_new, next_wr, next_mv, Nat.reduceLT, Nat.reduceBEq, true_and, and_true, reduceIte, Nat.reduceEqDiff, eq_self, T.get_set, cond_true, cond_false, endR_ret, resQ_some, evResults, tup_one, tup_two, tup_three, fillT, load_same, load_ne, store_same, store_ne, AV.cells, allOne, one_int, one_bool, one_ptr, one_nil, one_slice, List.length_cons, List.length_nil, Nat.zero_add, Nat.reduceAdd, beqD, bleD, Nat.reduceLeDiff, Nat.le_refl, decide_true, decide_false, Bool.and_self, Bool.and_true, Bool.true_and, List.take_zero, List.take_succ_cons, List.drop_succ_cons, List.drop_zero, List.nil_append, List.append_nil, List.cons_append, List.getElem?_cons_zero, List.getElem?_cons_succ, agg3, agg4, agg22, agg25, size3, size4, size22, size51, alloc51, fieldAddr24, fieldAddr51, bin_lss, bin_leq, bin_gtr, bin_geq, bin_eql, bin_neq, bin_neqb, un_not, List.getElem?_toArray, ne_eq, not_false_eq_true, evParts, build25, build26, ok5, ok6, ok7, ok8, ok9, ok10, ok13, ok14, ok15, ok16, ok17, ok19, ok20, ok34, ok35, ok36, ok37, ok38, ok39, ok44, ok45, ok60, load_same_agg, agg24, size24, evExtract, agg51, hla, t1, t2, t7, t8, t9, l22, hc]
    have e : i = gs.length := by omega
    subst e
    exact ⟨⟨n3, rfl, by omega, by omega, hv⟩, ho, by omega⟩
end Go.Ev

/-! Systems. -/
set_option linter.unusedSimpArgs false
set_option linter.unusedVariables false
set_option maxRecDepth 20000
namespace Go.Ev
open Go Proofs

theorem Own.mono {n0 n0' n n' : Nat} {g : T AObj} {v : AV} {sz len : Nat} {cs : List AV} (h : Own n0 n g v sz len cs) (h0 : n0' ≤ n0) (hn : n ≤ n') : Own n0' n' g v sz len cs := by
  rcases h with h | ⟨id, h1, h2, h3, h4⟩
  · exact .inl h
  · exact .inr ⟨id, h1, by omega, by omega, h4⟩

structure Sys where
  gs : List Gate
  now : List Int
  next : List Int
  ins : List Int
  init : List Bool
  ok : Int
  assume : Int

structure SysV where
  net : AV
  now : AV
  next : AV
  ins : AV
  init : AV

def SysV.cells (v : SysV) (S : Sys) : List AV := [v.net, v.now, v.next, v.ins, v.init, .int .i64 S.ok, .int .i64 S.assume]
def SysV.av (v : SysV) (S : Sys) : AV := .agg [v.net, v.now, v.next, v.ins, v.init, .int .i64 S.ok, .int .i64 S.assume]

structure SysAt (n : Nat) (g : T AObj) (v : SysV) (S : Sys) : Prop where
  net : Row n g v.net 3 S.gs.length (gates S.gs)
  now : Row n g v.now 1 S.now.length (ints S.now)
  next : Row n g v.next 1 S.next.length (ints S.next)
  ins : Row n g v.ins 1 S.ins.length (ints S.ins)
  init : Row n g v.init 1 S.init.length (bools S.init)

theorem SysAt.old {n n' : Nat} {g g' : T AObj} {v : SysV} {S : Sys} (h : SysAt n g v S) (ho : Old n g g') (hn : n ≤ n') : SysAt n' g' v S :=
  ⟨h.net.old ho hn, h.now.old ho hn, h.next.old ho hn, h.ins.old ho hn, h.init.old ho hn⟩

theorem box_sys {n m : Nat} {g : T AObj} {v : SysV} {S : Sys} (h : SysAt n g v S) : evBox m [v.net, v.now, v.next, v.ins, v.init, .int .i64 S.ok, .int .i64 S.assume] = some (.ptr m 0, .new (.cells 7 (v.cells S))) := by
  simp only [evBox, allOne, h.net.one, h.now.one, h.next.one, h.ins.one, h.init.one, one_int, cond_true]
  rfl

theorem Row.same {n : Nat} {g : T AObj} {v : AV} {sz len : Nat} {cs : List AV} (h : Row n g v sz len cs) : AV.same v v = true := by
  rcases h with ⟨rfl, _⟩ | ⟨id, off, cap, data, rfl, _⟩
  · rfl
  · cases cap <;> simp [AV.same]
theorem sys_same {n : Nat} {g : T AObj} {v : SysV} {S : Sys} (h : SysAt n g v S) : AV.sames (v.cells S) (v.cells S) = true := by
  simp only [SysV.cells, AV.sames, h.net.same, h.now.same, h.next.same, h.ins.same, h.init.same, cond_true]
  simp [AV.same]

theorem sys_load {g : AHeap} {id : Nat} {v : SysV} {S : Sys} (h : g id = some (.cells 7 (v.cells S))) :
    evLoad Tryz.prog g 22 (.ptr id 0) = some v.net ∧ evLoad Tryz.prog g 25 (.ptr id 1) = some v.now ∧ evLoad Tryz.prog g 25 (.ptr id 2) = some v.next ∧ evLoad Tryz.prog g 25 (.ptr id 3) = some v.ins ∧ evLoad Tryz.prog g 26 (.ptr id 4) = some v.init ∧
    evLoad Tryz.prog g 3 (.ptr id 5) = some (.int .i64 S.ok) ∧ evLoad Tryz.prog g 3 (.ptr id 6) = some (.int .i64 S.assume) ∧ evLoad Tryz.prog g 24 (.ptr id 0) = some (.agg [v.net]) ∧ evLoad Tryz.prog g 28 (.ptr id 0) = some (.agg [v.net, v.now, v.next, v.ins, v.init, .int .i64 S.ok, .int .i64 S.assume]) := by
  have a26 : aggT Tryz.prog 26 = some false := by decide +kernel
  have a28 : aggT Tryz.prog 28 = some true := by decide +kernel
  refine ⟨?_, ?_, ?_, ?_, ?_, ?_, ?_, ?_, ?_⟩ <;> simp only [evLoad, h, agg22, agg25, a26, agg3, agg24, a28, size24, size28, SysV.cells] <;> rfl

/-- A system that is good. -/
structure GoodSys (S : Sys) : Prop where
  net : NetOk S.gs
  next : S.next.length = S.now.length
  init : S.init.length = S.now.length
  outs : ∀ w ∈ S.next ++ [S.ok, S.assume], 0 ≤ w ∧ w < 2 * S.gs.length
  inps : ∀ w ∈ S.now ++ S.ins, 0 ≤ w ∧ w < 2 * S.gs.length ∧ w % 2 = 0 ∧ ∃ x, S.gs[w.toNat / 2]? = some x ∧ x.op = 2
  nodup : (S.now ++ S.ins).Nodup
  count : (places S.gs).length = (S.now ++ S.ins).length

/-- The first i writes of bits to places. -/
def wr (l : List Int) (bs : List Bool) (f : Nat → Bool) : Nat → (Nat → Bool)
  | 0 => f
  | i + 1 => match l[i]?, bs[i]? with | some w, some b => updf (wr l bs f i) (w.toNat / 2) b | _, _ => wr l bs f i
theorem wr_succ {l : List Int} {bs : List Bool} {f : Nat → Bool} {i : Nat} {w : Int} {b : Bool} (h1 : l[i]? = some w) (h2 : bs[i]? = some b) : wr l bs f (i + 1) = updf (wr l bs f i) (w.toNat / 2) b := by
  simp only [wr, h1, h2]
def want (S : Sys) (state bits : List Bool) : Nat → Bool := wr S.ins bits (wr S.now state (fun _ => false) state.length) bits.length
theorem wr_other {l : List Int} {bs : List Bool} {f : Nat → Bool} {j : Nat} (h : ∀ w ∈ l, w.toNat / 2 ≠ j) : ∀ i, wr l bs f i j = f j
  | 0 => rfl
  | i + 1 => by
    have ih := wr_other (bs := bs) (f := f) h i
    cases h1 : l[i]? with
    | none => simp only [wr, h1, ih]
    | some w =>
      cases h2 : bs[i]? with
      | none => simp only [wr, h1, h2, ih]
      | some b =>
        rw [wr_succ h1 h2]
        have hw : w ∈ l := List.mem_of_getElem? h1
        simp only [updf, if_neg (Ne.symm (h w hw)), ih]
theorem want_other {S : Sys} (hS : GoodSys S) {state bits : List Bool} {j : Nat} {x : Gate} (hj : S.gs[j]? = some x) (hx : x.op ≠ 2) : want S state bits j = false := by
  have key : ∀ w ∈ S.now ++ S.ins, w.toNat / 2 ≠ j := by
    intro w hw e
    obtain ⟨_, _, _, y, hy, h2⟩ := hS.inps w hw
    rw [e, hj] at hy
    cases hy
    exact hx h2
  rw [want, wr_other (fun w hw => key w (by simp [hw])), wr_other (fun w hw => key w (by simp [hw]))]

/-- A system's step: the state behind, ok, assume. -/
def stepB (S : Sys) (state bits : List Bool) : List Bool × Bool × Bool :=
  (S.next.map (wireB (valsOf S.gs (want S state bits))), wireB (valsOf S.gs (want S state bits)) S.ok, wireB (valsOf S.gs (want S state bits)) S.assume)

theorem placesFrom_get : ∀ (gs : List Gate) (i j : Nat) (w : Int), (placesFrom i gs)[j]? = some w → ∃ p x, w = ((i + p : Nat) : Int) ∧ gs[p]? = some x ∧ x.op = 2 ∧ (placesFrom i (gs.take p)).length = j
  | [], i, j, w, h => by simp [placesFrom] at h
  | y :: ys, i, j, w, h => by
    simp only [placesFrom] at h
    by_cases hy : y.op = 2
    · rw [if_pos hy] at h
      cases j with
      | zero => simp at h; exact ⟨0, y, by simp [h], rfl, hy, by simp [placesFrom]⟩
      | succ j =>
        simp at h
        obtain ⟨p, x, h1, h2, h3, h4⟩ := placesFrom_get ys (i + 1) j w h
        exact ⟨p + 1, x, by rw [h1]; omega, by simpa using h2, h3, by simp [placesFrom, hy, h4]⟩
    · rw [if_neg hy] at h
      obtain ⟨p, x, h1, h2, h3, h4⟩ := placesFrom_get ys (i + 1) j w h
      exact ⟨p + 1, x, by rw [h1]; omega, by simpa using h2, h3, by simp [placesFrom, hy, h4]⟩
theorem places_get {gs : List Gate} {j : Nat} {w : Int} (h : (places gs)[j]? = some w) : ∃ (p : Nat) (x : Gate), w = (p : Int) ∧ gs[p]? = some x ∧ x.op = 2 ∧ (places (gs.take p)).length = j := by
  obtain ⟨p, x, h1, h2, h3, h4⟩ := placesFrom_get gs 0 j w h
  exact ⟨p, x, by simpa using h1, h2, h3, h4⟩
theorem places_at {gs : List Gate} {i : Nat} {x : Gate} (h : gs[i]? = some x) (h2 : x.op = 2) : (places gs)[(places (gs.take i)).length]? = some (i : Int) := by
  have e : places gs = places (gs.take (i + 1)) ++ placesFrom (0 + (gs.take (i + 1)).length) (gs.drop (i + 1)) := by
    rw [places, places, ← placesFrom_append, List.take_append_drop]
  rw [e, places_snoc h, if_pos h2]
  simp
/-- The inputs, taken off in order. -/
def picked (gs : List Gate) (f : Nat → Bool) : List Bool := (places gs).map fun w => f w.toNat
theorem inpOf_picked {gs : List Gate} {f : Nat → Bool} {i : Nat} {x : Gate} (h : gs[i]? = some x) (h2 : x.op = 2) : inpOf gs (picked gs f) i = f i := by
  simp only [inpOf, picked, List.getD, List.getElem?_map, places_at h h2, Option.map_some, Option.getD_some, Int.toNat_natCast]
theorem vals_picked {gs : List Gate} {f : Nat → Bool} : valsOf gs (inpOf gs (picked gs f)) = valsOf gs f :=
  valsTo_congr (fun i x h h2 => inpOf_picked h h2) _
end Go.Ev

set_option linter.unusedSimpArgs false
set_option linter.unusedVariables false
set_option maxRecDepth 20000
namespace Go.Ev
open Go Proofs

theorem nat_of {w : Int} (h : 0 ≤ w) : ∃ k : Nat, w = (k : Int) := ⟨w.toNat, by omega⟩

theorem next_gives {fuel d : Nat} {g : T AObj} {n : Nat} {v : SysV} {S : Sys} {sv bv : AV} {state bits : List Bool} (hS : GoodSys S) (hv : SysAt n g v S) (hs : Row n g sv 1 state.length (bools state)) (hb : Row n g bv 1 bits.length (bools bits))
    (hsl : state.length = S.now.length) (hbl : bits.length = S.ins.length) (hf : 1100 < fuel) (hg : S.gs.length ≤ 400) (hnl : S.now.length ≤ 8) (hil : S.ins.length ≤ 3) :
    Gives Tryz.prog fuel (d + 3) 19 [v.av S, sv, bv] g n (fun x g' n' => (∃ ov, x = .tuple [ov, .bool (stepB S state bits).2.1, .bool (stepB S state bits).2.2] ∧ Own n n' g' ov 1 S.next.length (bools (stepB S state bits).1)) ∧ Old n g g' ∧ n ≤ n') := by
  refine gives_ends 112 [.tmp 6, .tmp 7, .tmp 8] Tryz.func19 rfl rfl rfl ?_
  have hla := hv.net.evLen Tryz.underlying22 (P := Tryz.prog)
  have hls := hs.evLen Tryz.underlying26 (P := Tryz.prog)
  have hlb := hb.evLen Tryz.underlying26 (P := Tryz.prog)
  have hln := hv.next.evLen Tryz.underlying25 (P := Tryz.prog)
  have hbox := box_sys (m := n) hv
  have hmk := mk_arr (n + 1) S.gs.length (by omega)
  have fa := fun (i : Nat) (h : i < 7) => fieldAddr28 n i h
  have f0 := fa 0 (by omega)
  have f1 := fa 1 (by omega)
  have f2 := fa 2 (by omega)
  have f3 := fa 3 (by omega)
  have f5 := fa 5 (by omega)
  have f6 := fa 6 (by omega)
  obtain ⟨q1, q2, q3, q4, q5, q6, q7, q8, q9⟩ := sys_load (g := (T.set (.cells 7 (v.cells S)) g n).get) (id := n) (v := v) (S := S) (by rw [T.get_set, if_pos rfl])
  simp only [SysV.av]
  simp only [e_seq, e_skip, e_ret, e_exit, e_block, e_region, e_cond, condQ_true, condQ_false, seqK_normal, seqK_ret, seqK_exit, loopK_normal, loopK_ret, loopK_exit, drawK_eq, blockQ_normal, blockQ_ret, blockQ_same, blockQ_other, steps_cons, steps_done, fits_some, blt_lt, pre_plain, pre_guardQ, guardV_some, guardQ_tt, guardQ_ff, guardQ_tf, guardQ_ft, guardQ_skip, List.getElem?_toArray, List.getElem?_cons_zero, List.getElem?_cons_succ, fits_none, evOp, evCall, evOpds, evBuiltin, opd_tmp, opd_int, opd_bool, opd_nil, ov_some, ove_some, oe_some, ose_some, after_val, after_skip, after_call, callQ_some, stepK_eq, opd_func,  putT_some, putT_none, effT_none, next_none, effT_new, effT_wr, effT_mv, next_new, next_wr, next_mv, Nat.reduceLT, Nat.reduceBEq, true_and, and_true, reduceIte, Nat.reduceEqDiff, eq_self, T.get_set, cond_true, cond_false, endR_ret, resQ_some, evResults, tup_one, tup_two, tup_three, fillT, load_same, load_ne, store_same, store_ne, AV.cells, allOne, one_int, one_bool, one_ptr, one_nil, one_slice, List.length_cons, List.length_nil, Nat.zero_add, Nat.reduceAdd, beqD, bleD, Nat.reduceLeDiff, Nat.le_refl, decide_true, decide_false, Bool.and_self, Bool.and_true, Bool.true_and, List.take_zero, List.take_succ_cons, List.drop_succ_cons, List.drop_zero, List.nil_append, List.append_nil, List.cons_append, List.getElem?_cons_zero, List.getElem?_cons_succ, agg3, agg4, agg22, agg25, size3, size4, size22, size51, alloc51, fieldAddr24, fieldAddr51, bin_lss, bin_leq, bin_gtr, bin_geq, bin_eql, bin_neq, bin_neqb, un_not, List.getElem?_toArray, ne_eq, not_false_eq_true, evParts, build25, build26, ok5, ok6, ok7, ok8, ok9, ok10, ok13, ok14, ok15, ok16, ok17, ok19, ok20, ok34, ok35, ok36, ok37, ok38, ok39, ok44, ok45, ok60, load_same_agg, agg24, size24, evExtract, agg51, hla, hbox, f0, q1, hmk]
  refine e_loop (fun k s => ∃ i m : Nat, ∃ tm : T AV, ∃ h : T AObj, s = ⟨tm, h, m, []⟩ ∧ i + k = state.length ∧ n + 2 ≤ m ∧ Old n g h ∧ h.get n = some (.cells 7 (v.cells S)) ∧ h.get (n + 1) = some (.cells 1 (arr S.gs.length (wr S.now state (fun _ => false) i))) ∧
    tm.get 1 = some sv ∧ tm.get 2 = some bv ∧ tm.get 3 = some (.ptr n 0) ∧ tm.get 9 = some (.slice (n + 1) 0 S.gs.length (some S.gs.length) 1) ∧ tm.get 10 = some (.int .i64 (i : Int))) state.length (by omega) ?_ ?_
  · refine ⟨0, n + 2, _, _, rfl, ?_, ?_, ?_, ?_, ?_, ?_, ?_, ?_, ?_, ?_⟩
    · omega
    · omega
    · exact ((Old.refl _ _).set (Nat.le_refl _) _).set (by omega) _
    · rw [T.get_set, if_neg (by omega), T.get_set, if_pos rfl]
    · rw [T.get_set, if_pos rfl]; rfl
    · simp [T.get_set]
    · simp [T.get_set]
    · simp [T.get_set]
    · simp [T.get_set]
    · simp [T.get_set]
  rintro k _ ⟨i, m, tm, h, rfl, hik, hm, ho, hn, hw, t1, t2, t3, t9, t10⟩
  by_cases hlt : i < state.length
  · have hc : (i : Int) < (state.length : Int) := by omega
    obtain ⟨w0, hw0⟩ : ∃ w, S.now[i]? = some w := ⟨_, List.getElem?_eq_getElem (by omega)⟩
    obtain ⟨b, hbb⟩ : ∃ b, state[i]? = some b := ⟨_, List.getElem?_eq_getElem hlt⟩
    obtain ⟨c0, c1, _⟩ := hS.inps w0 (List.mem_append_left _ (List.mem_of_getElem? hw0))
    have hwr := wr_succ (f := fun _ => false) hw0 hbb
    obtain ⟨w, rfl⟩ := nat_of c0
    obtain ⟨ia, oa, a1, a2, a3⟩ := (hv.now.old (n' := m) ho (by omega)).num (i := i) (by omega) hw0 .i64
    obtain ⟨ib, ob, b1, b2, b3⟩ := (hs.old (n' := m) ho (by omega)).bit hlt hbb .i64
    obtain ⟨q1, q2, q3, q4, q5, q6, q7, q8, q9⟩ := sys_load hn
    have hq := bin_quo2 Tryz.prog 3 w (by omega)
    have hwl : w / 2 < S.gs.length := by omega
    have hidx := idx_arr (id := n + 1) (c := some S.gs.length) hwl .i64
    have hst := store_arr b hw hwl
    have hs := bin_succ Tryz.prog 3 i (by omega)
    simp only [e_seq, e_skip, e_ret, e_exit, e_block, e_region, e_cond, condQ_true, condQ_false, seqK_normal, seqK_ret, seqK_exit, loopK_normal, loopK_ret, loopK_exit, drawK_eq, blockQ_normal, blockQ_ret, blockQ_same, blockQ_other, steps_cons, steps_done, fits_some, blt_lt, pre_plain, pre_guardQ, guardV_some, guardQ_tt, guardQ_ff, guardQ_tf, guardQ_ft, guardQ_skip, List.getElem?_toArray, List.getElem?_cons_zero, List.getElem?_cons_succ, fits_none, evOp, evCall, evOpds, evBuiltin, opd_tmp, opd_int, opd_bool, opd_nil, ov_some, ove_some, oe_some, ose_some, after_val, after_skip, after_call, callQ_some, stepK_eq, opd_func,  putT_some, putT_none, effT_none, next_none, effT_new, effT_wr, effT_mv, next_new, next_wr, next_mv, Nat.reduceLT, Nat.reduceBEq, true_and, and_true, reduceIte, Nat.reduceEqDiff, eq_self, T.get_set, cond_true, cond_false, endR_ret, resQ_some, evResults, tup_one, tup_two, tup_three, fillT, load_same, load_ne, store_same, store_ne, AV.cells, allOne, one_int, one_bool, one_ptr, one_nil, one_slice, List.length_cons, List.length_nil, Nat.zero_add, Nat.reduceAdd, beqD, bleD, Nat.reduceLeDiff, Nat.le_refl, decide_true, decide_false, Bool.and_self, Bool.and_true, Bool.true_and, List.take_zero, List.take_succ_cons, List.drop_succ_cons, List.drop_zero, List.nil_append, List.append_nil, List.cons_append, List.getElem?_cons_zero, List.getElem?_cons_succ, agg3, agg4, agg22, agg25, size3, size4, size22, size51, alloc51, fieldAddr24, fieldAddr51, bin_lss, bin_leq, bin_gtr, bin_geq, bin_eql, bin_neq, bin_neqb, un_not, List.getElem?_toArray, ne_eq, not_false_eq_true, evParts, build25, build26, ok5, ok6, ok7, ok8, ok9, ok10, ok13, ok14, ok15, ok16, ok17, ok19, ok20, ok34, ok35, ok36, ok37, ok38, ok39, ok44, ok45, ok60, load_same_agg, agg24, size24, evExtract, agg51, hls, t1, t2, t3, t9, t10, hc]
    refine (e_draw (bs := [0, 0, 2, 0, 14, 30, 62, 0, 0, 384, 896, 2047, 4095]) (perm := [0, 1, 2, 3, 4, 5, 6, 7, 8, 9, 10, 11, 12]) (planIs_eq (by decide +kernel))).2 ?_
    simp only [e_seq, e_skip, e_ret, e_exit, e_block, e_region, e_cond, condQ_true, condQ_false, seqK_normal, seqK_ret, seqK_exit, loopK_normal, loopK_ret, loopK_exit, drawK_eq, blockQ_normal, blockQ_ret, blockQ_same, blockQ_other, steps_cons, steps_done, fits_some, blt_lt, pre_plain, pre_guardQ, guardV_some, guardQ_tt, guardQ_ff, guardQ_tf, guardQ_ft, guardQ_skip, List.getElem?_toArray, List.getElem?_cons_zero, List.getElem?_cons_succ, fits_none, evOp, evCall, evOpds, evBuiltin, opd_tmp, opd_int, opd_bool, opd_nil, ov_some, ove_some, oe_some, ose_some, after_val, after_skip, after_call, callQ_some, stepK_eq, opd_func,  putT_some, putT_none, effT_none, next_none, effT_new, effT_wr, effT_mv, next_new, next_wr, next_mv, Nat.reduceLT, Nat.reduceBEq, true_and, and_true, reduceIte, Nat.reduceEqDiff, eq_self, T.get_set, cond_true, cond_false, endR_ret, resQ_some, evResults, tup_one, tup_two, tup_three, fillT, d_step, drawAt_eq, afterD_some, d_nil, List.getD_cons_zero, List.getD_cons_succ, List.getElem?_toArray, List.getElem?_cons_succ, List.getElem?_cons_zero, looks_plain, looks_guard, Option.bind_some, Option.toList_some, Op.operands, Call.operands, tmpsOf, restrict, idsOf, addrOf, memN, load_pre, store_pre, delAll, List.append_nil, beq_selfN, beqD, T.get_lf, Bool.not_false, Bool.not_true, decide_true, decide_false, drawOut_eq, drawOut_val, drawOut_skip, drawOut_call, drawCall_some, drawCall2_call, callD_eq, stayed, putBack, Array.toList_append, List.append_toArray, List.map_cons, List.map_nil, okSimple, hides, wOf, disj, tmpsApart, List.append_nil, List.nil_append, List.cons_append, Nat.testBit, Nat.reduceShiftRight, Nat.reduceAnd, Nat.reduceBNe, Option.isNone_none, Option.isNone_some, Bool.and_self, Bool.and_true, Bool.true_and, Nat.reduceAdd, load_same, load_ne, store_same, store_ne, AV.cells, allOne, one_int, one_bool, one_ptr, one_nil, one_slice, List.length_cons, List.length_nil, Nat.zero_add, Nat.reduceAdd, beqD, bleD, Nat.reduceLeDiff, Nat.le_refl, decide_true, decide_false, Bool.and_self, Bool.and_true, Bool.true_and, List.take_zero, List.take_succ_cons, List.drop_succ_cons, List.drop_zero, List.nil_append, List.append_nil, List.cons_append, List.getElem?_cons_zero, List.getElem?_cons_succ, agg3, agg4, agg22, agg25, size3, size4, size22, size51, alloc51, fieldAddr24, fieldAddr51, bin_lss, bin_leq, bin_gtr, bin_geq, bin_eql, bin_neq, bin_neqb, un_not, List.getElem?_toArray, ne_eq, not_false_eq_true, evParts, build25, build26, ok5, ok6, ok7, ok8, ok9, ok10, ok13, ok14, ok15, ok16, ok17, ok19, ok20, ok34, ok35, ok36, ok37, ok38, ok39, ok44, ok45, ok60, load_same_agg, agg24, size24, evExtract, agg51, t1, t2, t3, t9, t10, f1, q2, a1, a3, hq, b1, b3, hidx, hst, hs]
    refine ⟨k - 1, by omega, i + 1, _, _, _, rfl, ?_, ?_, ?_, ?_, ?_, ?_, ?_, ?_, ?_, ?_⟩
    · omega
    · omega
    · exact ho.set (by omega) _
    · rw [T.get_set, if_neg (by omega)]; exact hn
    · rw [T.get_set, if_pos rfl, hwr]; rfl
    · simp [T.get_set, t1]
    · simp [T.get_set, t2]
    · simp [T.get_set, t3]
    · simp [T.get_set, t9]
    · simp [T.get_set]
  have hc : ¬ (i : Int) < (state.length : Int) := by omega
  obtain rfl : i = state.length := by omega
  simp only [e_seq, e_skip, e_ret, e_exit, e_block, e_region, e_cond, condQ_true, condQ_false, seqK_normal, seqK_ret, seqK_exit, loopK_normal, loopK_ret, loopK_exit, drawK_eq, blockQ_normal, blockQ_ret, blockQ_same, blockQ_other, steps_cons, steps_done, fits_some, blt_lt, pre_plain, pre_guardQ, guardV_some, guardQ_tt, guardQ_ff, guardQ_tf, guardQ_ft, guardQ_skip, List.getElem?_toArray, List.getElem?_cons_zero, List.getElem?_cons_succ, fits_none, evOp, evCall, evOpds, evBuiltin, opd_tmp, opd_int, opd_bool, opd_nil, ov_some, ove_some, oe_some, ose_some, after_val, after_skip, after_call, callQ_some, stepK_eq, opd_func,  putT_some, putT_none, effT_none, next_none, effT_new, effT_wr, effT_mv, next_new, next_wr, next_mv, Nat.reduceLT, Nat.reduceBEq, true_and, and_true, reduceIte, Nat.reduceEqDiff, eq_self, T.get_set, cond_true, cond_false, endR_ret, resQ_some, evResults, tup_one, tup_two, tup_three, fillT, load_same, load_ne, store_same, store_ne, AV.cells, allOne, one_int, one_bool, one_ptr, one_nil, one_slice, List.length_cons, List.length_nil, Nat.zero_add, Nat.reduceAdd, beqD, bleD, Nat.reduceLeDiff, Nat.le_refl, decide_true, decide_false, Bool.and_self, Bool.and_true, Bool.true_and, List.take_zero, List.take_succ_cons, List.drop_succ_cons, List.drop_zero, List.nil_append, List.append_nil, List.cons_append, List.getElem?_cons_zero, List.getElem?_cons_succ, agg3, agg4, agg22, agg25, size3, size4, size22, size51, alloc51, fieldAddr24, fieldAddr51, bin_lss, bin_leq, bin_gtr, bin_geq, bin_eql, bin_neq, bin_neqb, un_not, List.getElem?_toArray, ne_eq, not_false_eq_true, evParts, build25, build26, ok5, ok6, ok7, ok8, ok9, ok10, ok13, ok14, ok15, ok16, ok17, ok19, ok20, ok34, ok35, ok36, ok37, ok38, ok39, ok44, ok45, ok60, load_same_agg, agg24, size24, evExtract, agg51, hls, t1, t2, t3, t9, t10, hc]
  refine e_loop (fun k s => ∃ i m : Nat, ∃ tm : T AV, ∃ h : T AObj, s = ⟨tm, h, m, []⟩ ∧ i + k = bits.length ∧ n + 2 ≤ m ∧ Old n g h ∧ h.get n = some (.cells 7 (v.cells S)) ∧ h.get (n + 1) = some (.cells 1 (arr S.gs.length (wr S.ins bits (wr S.now state (fun _ => false) state.length) i))) ∧
    tm.get 2 = some bv ∧ tm.get 3 = some (.ptr n 0) ∧ tm.get 9 = some (.slice (n + 1) 0 S.gs.length (some S.gs.length) 1) ∧ tm.get 11 = some (.int .i64 (i : Int))) bits.length (by omega) ?_ ?_
  · refine ⟨0, m, _, _, rfl, ?_, ?_, ?_, ?_, ?_, ?_, ?_, ?_, ?_⟩
    · omega
    · omega
    · exact ho
    · exact hn
    · exact hw
    · simp [T.get_set, t2]
    · simp [T.get_set, t3]
    · simp [T.get_set, t9]
    · simp [T.get_set]
  clear t1 t2 t3 t9 t10 hn hw hc
  rintro k _ ⟨i, m2, tm, h, rfl, hik, hm2, ho, hn, hw, t2, t3, t9, t11⟩
  by_cases hlt : i < bits.length
  · have hc : (i : Int) < (bits.length : Int) := by omega
    obtain ⟨w0, hw0⟩ : ∃ w, S.ins[i]? = some w := ⟨_, List.getElem?_eq_getElem (by omega)⟩
    obtain ⟨b, hbb⟩ : ∃ b, bits[i]? = some b := ⟨_, List.getElem?_eq_getElem hlt⟩
    obtain ⟨c0, c1, _⟩ := hS.inps w0 (List.mem_append_right _ (List.mem_of_getElem? hw0))
    have hwr := wr_succ (f := wr S.now state (fun _ => false) state.length) hw0 hbb
    obtain ⟨w, rfl⟩ := nat_of c0
    obtain ⟨ia, oa, a1, a2, a3⟩ := (hv.ins.old (n' := m2) ho (by omega)).num (i := i) (by omega) hw0 .i64
    obtain ⟨ib, ob, b1, b2, b3⟩ := (hb.old (n' := m2) ho (by omega)).bit hlt hbb .i64
    obtain ⟨q1, q2, q3, q4, q5, q6, q7, q8, q9⟩ := sys_load hn
    have hq := bin_quo2 Tryz.prog 3 w (by omega)
    have hwl : w / 2 < S.gs.length := by omega
    have hidx := idx_arr (id := n + 1) (c := some S.gs.length) hwl .i64
    have hst := store_arr b hw hwl
    have hs := bin_succ Tryz.prog 3 i (by omega)
    simp only [e_seq, e_skip, e_ret, e_exit, e_block, e_region, e_cond, condQ_true, condQ_false, seqK_normal, seqK_ret, seqK_exit, loopK_normal, loopK_ret, loopK_exit, drawK_eq, blockQ_normal, blockQ_ret, blockQ_same, blockQ_other, steps_cons, steps_done, fits_some, blt_lt, pre_plain, pre_guardQ, guardV_some, guardQ_tt, guardQ_ff, guardQ_tf, guardQ_ft, guardQ_skip, List.getElem?_toArray, List.getElem?_cons_zero, List.getElem?_cons_succ, fits_none, evOp, evCall, evOpds, evBuiltin, opd_tmp, opd_int, opd_bool, opd_nil, ov_some, ove_some, oe_some, ose_some, after_val, after_skip, after_call, callQ_some, stepK_eq, opd_func,  putT_some, putT_none, effT_none, next_none, effT_new, effT_wr, effT_mv, next_new, next_wr, next_mv, Nat.reduceLT, Nat.reduceBEq, true_and, and_true, reduceIte, Nat.reduceEqDiff, eq_self, T.get_set, cond_true, cond_false, endR_ret, resQ_some, evResults, tup_one, tup_two, tup_three, fillT, load_same, load_ne, store_same, store_ne, AV.cells, allOne, one_int, one_bool, one_ptr, one_nil, one_slice, List.length_cons, List.length_nil, Nat.zero_add, Nat.reduceAdd, beqD, bleD, Nat.reduceLeDiff, Nat.le_refl, decide_true, decide_false, Bool.and_self, Bool.and_true, Bool.true_and, List.take_zero, List.take_succ_cons, List.drop_succ_cons, List.drop_zero, List.nil_append, List.append_nil, List.cons_append, List.getElem?_cons_zero, List.getElem?_cons_succ, agg3, agg4, agg22, agg25, size3, size4, size22, size51, alloc51, fieldAddr24, fieldAddr51, bin_lss, bin_leq, bin_gtr, bin_geq, bin_eql, bin_neq, bin_neqb, un_not, List.getElem?_toArray, ne_eq, not_false_eq_true, evParts, build25, build26, ok5, ok6, ok7, ok8, ok9, ok10, ok13, ok14, ok15, ok16, ok17, ok19, ok20, ok34, ok35, ok36, ok37, ok38, ok39, ok44, ok45, ok60, load_same_agg, agg24, size24, evExtract, agg51, hlb, t2, t3, t9, t11, hc]
    refine (e_draw (bs := [0, 0, 2, 0, 14, 30, 62, 0, 0, 384, 896, 2047, 4095]) (perm := [0, 1, 2, 3, 4, 5, 6, 7, 8, 9, 10, 11, 12]) (planIs_eq (by decide +kernel))).2 ?_
    simp only [e_seq, e_skip, e_ret, e_exit, e_block, e_region, e_cond, condQ_true, condQ_false, seqK_normal, seqK_ret, seqK_exit, loopK_normal, loopK_ret, loopK_exit, drawK_eq, blockQ_normal, blockQ_ret, blockQ_same, blockQ_other, steps_cons, steps_done, fits_some, blt_lt, pre_plain, pre_guardQ, guardV_some, guardQ_tt, guardQ_ff, guardQ_tf, guardQ_ft, guardQ_skip, List.getElem?_toArray, List.getElem?_cons_zero, List.getElem?_cons_succ, fits_none, evOp, evCall, evOpds, evBuiltin, opd_tmp, opd_int, opd_bool, opd_nil, ov_some, ove_some, oe_some, ose_some, after_val, after_skip, after_call, callQ_some, stepK_eq, opd_func,  putT_some, putT_none, effT_none, next_none, effT_new, effT_wr, effT_mv, next_new, next_wr, next_mv, Nat.reduceLT, Nat.reduceBEq, true_and, and_true, reduceIte, Nat.reduceEqDiff, eq_self, T.get_set, cond_true, cond_false, endR_ret, resQ_some, evResults, tup_one, tup_two, tup_three, fillT, d_step, drawAt_eq, afterD_some, d_nil, List.getD_cons_zero, List.getD_cons_succ, List.getElem?_toArray, List.getElem?_cons_succ, List.getElem?_cons_zero, looks_plain, looks_guard, Option.bind_some, Option.toList_some, Op.operands, Call.operands, tmpsOf, restrict, idsOf, addrOf, memN, load_pre, store_pre, delAll, List.append_nil, beq_selfN, beqD, T.get_lf, Bool.not_false, Bool.not_true, decide_true, decide_false, drawOut_eq, drawOut_val, drawOut_skip, drawOut_call, drawCall_some, drawCall2_call, callD_eq, stayed, putBack, Array.toList_append, List.append_toArray, List.map_cons, List.map_nil, okSimple, hides, wOf, disj, tmpsApart, List.append_nil, List.nil_append, List.cons_append, Nat.testBit, Nat.reduceShiftRight, Nat.reduceAnd, Nat.reduceBNe, Option.isNone_none, Option.isNone_some, Bool.and_self, Bool.and_true, Bool.true_and, Nat.reduceAdd, load_same, load_ne, store_same, store_ne, AV.cells, allOne, one_int, one_bool, one_ptr, one_nil, one_slice, List.length_cons, List.length_nil, Nat.zero_add, Nat.reduceAdd, beqD, bleD, Nat.reduceLeDiff, Nat.le_refl, decide_true, decide_false, Bool.and_self, Bool.and_true, Bool.true_and, List.take_zero, List.take_succ_cons, List.drop_succ_cons, List.drop_zero, List.nil_append, List.append_nil, List.cons_append, List.getElem?_cons_zero, List.getElem?_cons_succ, agg3, agg4, agg22, agg25, size3, size4, size22, size51, alloc51, fieldAddr24, fieldAddr51, bin_lss, bin_leq, bin_gtr, bin_geq, bin_eql, bin_neq, bin_neqb, un_not, List.getElem?_toArray, ne_eq, not_false_eq_true, evParts, build25, build26, ok5, ok6, ok7, ok8, ok9, ok10, ok13, ok14, ok15, ok16, ok17, ok19, ok20, ok34, ok35, ok36, ok37, ok38, ok39, ok44, ok45, ok60, load_same_agg, agg24, size24, evExtract, agg51, t2, t3, t9, t11, f3, q4, a1, a3, hq, b1, b3, hidx, hst, hs]
    refine ⟨k - 1, by omega, i + 1, _, _, _, rfl, ?_, ?_, ?_, ?_, ?_, ?_, ?_, ?_, ?_⟩
    · omega
    · omega
    · exact ho.set (by omega) _
    · rw [T.get_set, if_neg (by omega)]; exact hn
    · rw [T.get_set, if_pos rfl, hwr]; rfl
    · simp [T.get_set, t2]
    · simp [T.get_set, t3]
    · simp [T.get_set, t9]
    · simp [T.get_set]
  have hc : ¬ (i : Int) < (bits.length : Int) := by omega
  obtain rfl : i = bits.length := by omega
  change h.get (n + 1) = some (.cells 1 (arr S.gs.length (want S state bits))) at hw
  obtain ⟨q1, q2, q3, q4, q5, q6, q7, q8, q9⟩ := sys_load hn
  simp only [e_seq, e_skip, e_ret, e_exit, e_block, e_region, e_cond, condQ_true, condQ_false, seqK_normal, seqK_ret, seqK_exit, loopK_normal, loopK_ret, loopK_exit, drawK_eq, blockQ_normal, blockQ_ret, blockQ_same, blockQ_other, steps_cons, steps_done, fits_some, blt_lt, pre_plain, pre_guardQ, guardV_some, guardQ_tt, guardQ_ff, guardQ_tf, guardQ_ft, guardQ_skip, List.getElem?_toArray, List.getElem?_cons_zero, List.getElem?_cons_succ, fits_none, evOp, evCall, evOpds, evBuiltin, opd_tmp, opd_int, opd_bool, opd_nil, ov_some, ove_some, oe_some, ose_some, after_val, after_skip, after_call, callQ_some, stepK_eq, opd_func,  putT_some, putT_none, effT_none, next_none, effT_new, effT_wr, effT_mv, next_new, next_wr, next_mv, Nat.reduceLT, Nat.reduceBEq, true_and, and_true, reduceIte, Nat.reduceEqDiff, eq_self, T.get_set, cond_true, cond_false, endR_ret, resQ_some, evResults, tup_one, tup_two, tup_three, fillT, load_same, load_ne, store_same, store_ne, AV.cells, allOne, one_int, one_bool, one_ptr, one_nil, one_slice, List.length_cons, List.length_nil, Nat.zero_add, Nat.reduceAdd, beqD, bleD, Nat.reduceLeDiff, Nat.le_refl, decide_true, decide_false, Bool.and_self, Bool.and_true, Bool.true_and, List.take_zero, List.take_succ_cons, List.drop_succ_cons, List.drop_zero, List.nil_append, List.append_nil, List.cons_append, List.getElem?_cons_zero, List.getElem?_cons_succ, agg3, agg4, agg22, agg25, size3, size4, size22, size51, alloc51, fieldAddr24, fieldAddr51, bin_lss, bin_leq, bin_gtr, bin_geq, bin_eql, bin_neq, bin_neqb, un_not, List.getElem?_toArray, ne_eq, not_false_eq_true, evParts, build25, build26, ok5, ok6, ok7, ok8, ok9, ok10, ok13, ok14, ok15, ok16, ok17, ok19, ok20, ok34, ok35, ok36, ok37, ok38, ok39, ok44, ok45, ok60, load_same_agg, agg24, size24, evExtract, agg51, hlb, t2, t3, t9, t11, hc, f0, q8]
  refine callQ_gives (inputs_gives (hv.net.old (n' := m2) ho (by omega)) (by omega) (by omega)) ?_
  rintro pv g3 n3 ⟨hown, o3, l3⟩
  have O3 : Old n g g3 := ho.trans (by omega) o3
  have c3 : g3.get n = some (.cells 7 (v.cells S)) := by rw [o3 n (by omega)]; exact hn
  have w3 : g3.get (n + 1) = some (.cells 1 (arr S.gs.length (want S state bits))) := by rw [o3 (n + 1) (by omega)]; exact hw
  have hlp := hown.row.evLen Tryz.underlying25 (P := Tryz.prog)
  have hpl : (places S.gs).length ≤ S.gs.length := placesFrom_length _ 0
  simp only [e_seq, e_skip, e_ret, e_exit, e_block, e_region, e_cond, condQ_true, condQ_false, seqK_normal, seqK_ret, seqK_exit, loopK_normal, loopK_ret, loopK_exit, drawK_eq, blockQ_normal, blockQ_ret, blockQ_same, blockQ_other, steps_cons, steps_done, fits_some, blt_lt, pre_plain, pre_guardQ, guardV_some, guardQ_tt, guardQ_ff, guardQ_tf, guardQ_ft, guardQ_skip, List.getElem?_toArray, List.getElem?_cons_zero, List.getElem?_cons_succ, fits_none, evOp, evCall, evOpds, evBuiltin, opd_tmp, opd_int, opd_bool, opd_nil, ov_some, ove_some, oe_some, ose_some, after_val, after_skip, after_call, callQ_some, stepK_eq, opd_func,  putT_some, putT_none, effT_none, next_none, effT_new, effT_wr, effT_mv, next_new, next_wr, next_mv, Nat.reduceLT, Nat.reduceBEq, true_and, and_true, reduceIte, Nat.reduceEqDiff, eq_self, T.get_set, cond_true, cond_false, endR_ret, resQ_some, evResults, tup_one, tup_two, tup_three, fillT, load_same, load_ne, store_same, store_ne, AV.cells, allOne, one_int, one_bool, one_ptr, one_nil, one_slice, List.length_cons, List.length_nil, Nat.zero_add, Nat.reduceAdd, beqD, bleD, Nat.reduceLeDiff, Nat.le_refl, decide_true, decide_false, Bool.and_self, Bool.and_true, Bool.true_and, List.take_zero, List.take_succ_cons, List.drop_succ_cons, List.drop_zero, List.nil_append, List.append_nil, List.cons_append, List.getElem?_cons_zero, List.getElem?_cons_succ, agg3, agg4, agg22, agg25, size3, size4, size22, size51, alloc51, fieldAddr24, fieldAddr51, bin_lss, bin_leq, bin_gtr, bin_geq, bin_eql, bin_neq, bin_neqb, un_not, List.getElem?_toArray, ne_eq, not_false_eq_true, evParts, build25, build26, ok5, ok6, ok7, ok8, ok9, ok10, ok13, ok14, ok15, ok16, ok17, ok19, ok20, ok34, ok35, ok36, ok37, ok38, ok39, ok44, ok45, ok60, load_same_agg, agg24, size24, evExtract, agg51, t2, t3, t9, t11]
  refine e_loop (fun k s => ∃ i m : Nat, ∃ tm : T AV, ∃ h : T AObj, ∃ lv : AV, s = ⟨tm, h, m, []⟩ ∧ i + k = (places S.gs).length ∧ n3 ≤ m ∧ Old n g h ∧ (∀ j, m2 ≤ j → j < n3 → h.get j = g3.get j) ∧ h.get n = some (.cells 7 (v.cells S)) ∧ h.get (n + 1) = some (.cells 1 (arr S.gs.length (want S state bits))) ∧
    Own n3 m h lv 1 i (bools ((picked S.gs (want S state bits)).take i)) ∧
    tm.get 3 = some (.ptr n 0) ∧ tm.get 9 = some (.slice (n + 1) 0 S.gs.length (some S.gs.length) 1) ∧ tm.get 12 = some lv ∧ tm.get 13 = some pv ∧ tm.get 14 = some (.int .i64 (i : Int))) (places S.gs).length (by omega) ?_ ?_
  · refine ⟨0, n3, _, _, .nilSlice, rfl, ?_, ?_, ?_, ?_, ?_, ?_, ?_, ?_, ?_, ?_, ?_, ?_⟩
    · omega
    · omega
    · exact O3
    · intro j _ _; rfl
    · exact c3
    · exact w3
    · exact Own.nil _ _ _ _
    · simp [T.get_set, t3]
    · simp [T.get_set, t9]
    · simp [T.get_set]
    · simp [T.get_set]
    · simp [T.get_set]
  clear t2 t3 t9 t11 hn hw hc
  rintro k _ ⟨i, m4, tm, h4, lv, rfl, hik, hm4, ho4, hkeep, hn, hw, hlv, t3, t9, t12, t13, t14⟩
  by_cases hlt : i < (places S.gs).length
  · have hc : (i : Int) < ((places S.gs).length : Int) := by omega
    obtain ⟨w0, hw0⟩ : ∃ w, (places S.gs)[i]? = some w := ⟨_, List.getElem?_eq_getElem hlt⟩
    obtain ⟨p, x, rfl, hx, hx2, hxl⟩ := places_get hw0
    have hpw : p < S.gs.length := (List.getElem?_eq_some_iff.1 hx).1
    have hpv : Row n3 h4 pv 1 (places S.gs).length (ints (places S.gs)) := (hown.keep (Nat.le_refl _) fun j h1 h2 => hkeep j h1 h2).row
    obtain ⟨ia, oa, a1, a2, a3⟩ := hpv.num hlt hw0 .i64
    have hidx := idx_arr (id := n + 1) (c := some S.gs.length) hpw .i64
    have hld := load_arr hw hpw
    have hs := bin_succ Tryz.prog 3 i (by omega)
    have hk1 : Own n3 (m4 + 1) (T.set (.cells 1 [.bool (want S state bits p)]) h4 m4) lv 1 i (bools ((picked S.gs (want S state bits)).take i)) :=
      hlv.keep (by omega) fun j hj hj2 => by rw [T.get_set, if_neg (by omega)]
    obtain ⟨rd, ef, p1, p2, p3, p4, p5⟩ := app_own elem26 (xs := [.bool (want S state bits p)]) (mx := m4) (k := 1) (off := 0) (cap := some 1) (data := [.bool (want S state bits p)]) hk1 (by simp [T.get_set]) (by simp) (by simp) (by omega) (by omega)
    have hpk : (picked S.gs (want S state bits)).take (i + 1) = (picked S.gs (want S state bits)).take i ++ [want S state bits p] := take_snoc' (by simp [picked, hw0])
    simp only [e_seq, e_skip, e_ret, e_exit, e_block, e_region, e_cond, condQ_true, condQ_false, seqK_normal, seqK_ret, seqK_exit, loopK_normal, loopK_ret, loopK_exit, drawK_eq, blockQ_normal, blockQ_ret, blockQ_same, blockQ_other, steps_cons, steps_done, fits_some, blt_lt, pre_plain, pre_guardQ, guardV_some, guardQ_tt, guardQ_ff, guardQ_tf, guardQ_ft, guardQ_skip, List.getElem?_toArray, List.getElem?_cons_zero, List.getElem?_cons_succ, fits_none, evOp, evCall, evOpds, evBuiltin, opd_tmp, opd_int, opd_bool, opd_nil, ov_some, ove_some, oe_some, ose_some, after_val, after_skip, after_call, callQ_some, stepK_eq, opd_func,  putT_some, putT_none, effT_none, next_none, effT_new, effT_wr, effT_mv, next_new, next_wr, next_mv, Nat.reduceLT, Nat.reduceBEq, true_and, and_true, reduceIte, Nat.reduceEqDiff, eq_self, T.get_set, cond_true, cond_false, endR_ret, resQ_some, evResults, tup_one, tup_two, tup_three, fillT, load_same, load_ne, store_same, store_ne, AV.cells, allOne, one_int, one_bool, one_ptr, one_nil, one_slice, List.length_cons, List.length_nil, Nat.zero_add, Nat.reduceAdd, beqD, bleD, Nat.reduceLeDiff, Nat.le_refl, decide_true, decide_false, Bool.and_self, Bool.and_true, Bool.true_and, List.take_zero, List.take_succ_cons, List.drop_succ_cons, List.drop_zero, List.nil_append, List.append_nil, List.cons_append, List.getElem?_cons_zero, List.getElem?_cons_succ, agg3, agg4, agg22, agg25, size3, size4, size22, size51, alloc51, fieldAddr24, fieldAddr51, bin_lss, bin_leq, bin_gtr, bin_geq, bin_eql, bin_neq, bin_neqb, un_not, List.getElem?_toArray, ne_eq, not_false_eq_true, evParts, build25, build26, ok5, ok6, ok7, ok8, ok9, ok10, ok13, ok14, ok15, ok16, ok17, ok19, ok20, ok34, ok35, ok36, ok37, ok38, ok39, ok44, ok45, ok60, load_same_agg, agg24, size24, evExtract, agg51, hlp, t3, t9, t12, t13, t14, hc, a1, a3, hidx, hld, hs, p1, p2]
    refine ⟨k - 1, by omega, i + 1, _, _, _, .slice (m4 + 1) 0 (i + 1) none 1, rfl, ?_, ?_, ?_, ?_, ?_, ?_, ?_, ?_, ?_, ?_, ?_, ?_⟩
    · omega
    · omega
    · intro j hj; rw [p5 j (by omega) (hlv.notOf (by omega)), T.get_set, if_neg (by omega)]; exact ho4 j hj
    · intro j hj hj2; rw [p5 j (by omega) (hlv.notOf (by omega)), T.get_set, if_neg (by omega)]; exact hkeep j hj hj2
    · rw [p5 n (by omega) (hlv.notOf (by omega)), T.get_set, if_neg (by omega)]; exact hn
    · rw [p5 (n + 1) (by omega) (hlv.notOf (by omega)), T.get_set, if_neg (by omega)]; exact hw
    · rw [hpk, ← bools_snoc]; exact Own.fresh (by omega) (by omega) p3 p4
    · simp [T.get_set, t3]
    · simp [T.get_set, t9]
    · simp [T.get_set]
    · simp [T.get_set, t13]
    · simp [T.get_set]
  have hc : ¬ (i : Int) < ((places S.gs).length : Int) := by omega
  obtain rfl : i = (places S.gs).length := by omega
  have hpt : (picked S.gs (want S state bits)).take (places S.gs).length = picked S.gs (want S state bits) := List.take_of_length_le (by simp [picked])
  rw [hpt] at hlv
  have hpll : (places S.gs).length = (picked S.gs (want S state bits)).length := by simp [picked]
  obtain ⟨q1, q2, q3, q4, q5, q6, q7, q8, q9⟩ := sys_load hn
  simp only [e_seq, e_skip, e_ret, e_exit, e_block, e_region, e_cond, condQ_true, condQ_false, seqK_normal, seqK_ret, seqK_exit, loopK_normal, loopK_ret, loopK_exit, drawK_eq, blockQ_normal, blockQ_ret, blockQ_same, blockQ_other, steps_cons, steps_done, fits_some, blt_lt, pre_plain, pre_guardQ, guardV_some, guardQ_tt, guardQ_ff, guardQ_tf, guardQ_ft, guardQ_skip, List.getElem?_toArray, List.getElem?_cons_zero, List.getElem?_cons_succ, fits_none, evOp, evCall, evOpds, evBuiltin, opd_tmp, opd_int, opd_bool, opd_nil, ov_some, ove_some, oe_some, ose_some, after_val, after_skip, after_call, callQ_some, stepK_eq, opd_func,  putT_some, putT_none, effT_none, next_none, effT_new, effT_wr, effT_mv, next_new, next_wr, next_mv, Nat.reduceLT, Nat.reduceBEq, true_and, and_true, reduceIte, Nat.reduceEqDiff, eq_self, T.get_set, cond_true, cond_false, endR_ret, resQ_some, evResults, tup_one, tup_two, tup_three, fillT, load_same, load_ne, store_same, store_ne, AV.cells, allOne, one_int, one_bool, one_ptr, one_nil, one_slice, List.length_cons, List.length_nil, Nat.zero_add, Nat.reduceAdd, beqD, bleD, Nat.reduceLeDiff, Nat.le_refl, decide_true, decide_false, Bool.and_self, Bool.and_true, Bool.true_and, List.take_zero, List.take_succ_cons, List.drop_succ_cons, List.drop_zero, List.nil_append, List.append_nil, List.cons_append, List.getElem?_cons_zero, List.getElem?_cons_succ, agg3, agg4, agg22, agg25, size3, size4, size22, size51, alloc51, fieldAddr24, fieldAddr51, bin_lss, bin_leq, bin_gtr, bin_geq, bin_eql, bin_neq, bin_neqb, un_not, List.getElem?_toArray, ne_eq, not_false_eq_true, evParts, build25, build26, ok5, ok6, ok7, ok8, ok9, ok10, ok13, ok14, ok15, ok16, ok17, ok19, ok20, ok34, ok35, ok36, ok37, ok38, ok39, ok44, ok45, ok60, load_same_agg, agg24, size24, evExtract, agg51, hlp, t3, t9, t12, t13, t14, hc, f0, q8]
  have hlr := hlv.row
  rw [hpll] at hlr
  refine callQ_gives (eval_gives (hv.net.old (n' := m4) ho4 (by omega)) hlr hS.net hpll.symm (by omega) (by omega)) ?_
  rintro _ g5 n5 ⟨⟨vi, rfl, v1, v2, v3⟩, o5, l5⟩
  rw [vals_picked] at v3
  have O5 : Old n g g5 := ho4.trans (by omega) o5
  have c5 : g5.get n = some (.cells 7 (v.cells S)) := by rw [o5 n (by omega)]; exact hn
  simp only [e_seq, e_skip, e_ret, e_exit, e_block, e_region, e_cond, condQ_true, condQ_false, seqK_normal, seqK_ret, seqK_exit, loopK_normal, loopK_ret, loopK_exit, drawK_eq, blockQ_normal, blockQ_ret, blockQ_same, blockQ_other, steps_cons, steps_done, fits_some, blt_lt, pre_plain, pre_guardQ, guardV_some, guardQ_tt, guardQ_ff, guardQ_tf, guardQ_ft, guardQ_skip, List.getElem?_toArray, List.getElem?_cons_zero, List.getElem?_cons_succ, fits_none, evOp, evCall, evOpds, evBuiltin, opd_tmp, opd_int, opd_bool, opd_nil, ov_some, ove_some, oe_some, ose_some, after_val, after_skip, after_call, callQ_some, stepK_eq, opd_func,  putT_some, putT_none, effT_none, next_none, effT_new, effT_wr, effT_mv, next_new, next_wr, next_mv, Nat.reduceLT, Nat.reduceBEq, true_and, and_true, reduceIte, Nat.reduceEqDiff, eq_self, T.get_set, cond_true, cond_false, endR_ret, resQ_some, evResults, tup_one, tup_two, tup_three, fillT, load_same, load_ne, store_same, store_ne, AV.cells, allOne, one_int, one_bool, one_ptr, one_nil, one_slice, List.length_cons, List.length_nil, Nat.zero_add, Nat.reduceAdd, beqD, bleD, Nat.reduceLeDiff, Nat.le_refl, decide_true, decide_false, Bool.and_self, Bool.and_true, Bool.true_and, List.take_zero, List.take_succ_cons, List.drop_succ_cons, List.drop_zero, List.nil_append, List.append_nil, List.cons_append, List.getElem?_cons_zero, List.getElem?_cons_succ, agg3, agg4, agg22, agg25, size3, size4, size22, size51, alloc51, fieldAddr24, fieldAddr51, bin_lss, bin_leq, bin_gtr, bin_geq, bin_eql, bin_neq, bin_neqb, un_not, List.getElem?_toArray, ne_eq, not_false_eq_true, evParts, build25, build26, ok5, ok6, ok7, ok8, ok9, ok10, ok13, ok14, ok15, ok16, ok17, ok19, ok20, ok34, ok35, ok36, ok37, ok38, ok39, ok44, ok45, ok60, load_same_agg, agg24, size24, evExtract, agg51, t3, t9, t12, t13, t14]
  have hV : ∀ (w : Int) (G : T AObj) (M : Nat), 0 ≤ w → w < 2 * S.gs.length → vi < M → G.get vi = some (.cells 1 (arr S.gs.length (valsOf S.gs (want S state bits)))) →
      evFn Tryz.prog fuel (d + 2) (.fn 45) [.slice vi 0 S.gs.length (some S.gs.length) 1, .int .i64 w] G M = some (.bool (wireB (valsOf S.gs (want S state bits)) w), G, M) :=
    fun w G M h1 h2 h3 h4 => wire_row (row_arr h3 h4) h1 h2 (by omega)
  refine e_loop (fun k s => ∃ i m : Nat, ∃ tm : T AV, ∃ h : T AObj, ∃ lv : AV, s = ⟨tm, h, m, []⟩ ∧ i + k = S.next.length ∧ n5 ≤ m ∧ Old n g h ∧ h.get n = some (.cells 7 (v.cells S)) ∧ h.get vi = some (.cells 1 (arr S.gs.length (valsOf S.gs (want S state bits)))) ∧
    Own n5 m h lv 1 i (bools ((stepB S state bits).1.take i)) ∧
    tm.get 3 = some (.ptr n 0) ∧ tm.get 15 = some (.slice vi 0 S.gs.length (some S.gs.length) 1) ∧ tm.get 17 = some lv ∧ tm.get 18 = some (.int .i64 (i : Int))) S.next.length (by have := hS.next; omega) ?_ ?_
  · refine ⟨0, n5, _, _, .nilSlice, rfl, ?_, ?_, ?_, ?_, ?_, ?_, ?_, ?_, ?_, ?_⟩
    · omega
    · omega
    · exact O5
    · exact c5
    · exact v3
    · exact Own.nil _ _ _ _
    · simp [T.get_set, t3]
    · simp [T.get_set]
    · simp [T.get_set]
    · simp [T.get_set]
  clear t3 t9 t12 t13 t14 hn hw hc
  rintro k _ ⟨i, m6, tm, h6, lv, rfl, hik, hm6, ho6, hn, hw, hlv, t3, t15, t17, t18⟩
  obtain ⟨q1, q2, q3, q4, q5, q6, q7, q8, q9⟩ := sys_load hn
  by_cases hlt : i < S.next.length
  · have hc : (i : Int) < (S.next.length : Int) := by omega
    obtain ⟨w, hw0⟩ : ∃ w, S.next[i]? = some w := ⟨_, List.getElem?_eq_getElem hlt⟩
    obtain ⟨c0, c1⟩ := hS.outs w (List.mem_append_left _ (List.mem_of_getElem? hw0))
    obtain ⟨ia, oa, a1, a2, a3⟩ := (hv.next.old (n' := m6) ho6 (by omega)).num hlt hw0 .i64
    have hcall := hV w h6 m6 c0 c1 (by omega) hw
    have hs := bin_succ Tryz.prog 3 i (by have := hS.next; omega)
    have hk1 : Own n5 (m6 + 1) (T.set (.cells 1 [.bool (wireB (valsOf S.gs (want S state bits)) w)]) h6 m6) lv 1 i (bools ((stepB S state bits).1.take i)) :=
      hlv.keep (by omega) fun j hj hj2 => by rw [T.get_set, if_neg (by omega)]
    obtain ⟨rd, ef, p1, p2, p3, p4, p5⟩ := app_own elem26 (xs := [.bool (wireB (valsOf S.gs (want S state bits)) w)]) (mx := m6) (k := 1) (off := 0) (cap := some 1) (data := [.bool (wireB (valsOf S.gs (want S state bits)) w)]) hk1 (by simp [T.get_set]) (by simp) (by simp) (by omega) (by have := hS.next; omega)
    have hpk : (stepB S state bits).1.take (i + 1) = (stepB S state bits).1.take i ++ [wireB (valsOf S.gs (want S state bits)) w] := take_snoc' (by simp [stepB, hw0])
    simp only [e_seq, e_skip, e_ret, e_exit, e_block, e_region, e_cond, condQ_true, condQ_false, seqK_normal, seqK_ret, seqK_exit, loopK_normal, loopK_ret, loopK_exit, drawK_eq, blockQ_normal, blockQ_ret, blockQ_same, blockQ_other, steps_cons, steps_done, fits_some, blt_lt, pre_plain, pre_guardQ, guardV_some, guardQ_tt, guardQ_ff, guardQ_tf, guardQ_ft, guardQ_skip, List.getElem?_toArray, List.getElem?_cons_zero, List.getElem?_cons_succ, fits_none, evOp, evCall, evOpds, evBuiltin, opd_tmp, opd_int, opd_bool, opd_nil, ov_some, ove_some, oe_some, ose_some, after_val, after_skip, after_call, callQ_some, stepK_eq, opd_func,  putT_some, putT_none, effT_none, next_none, effT_new, effT_wr, effT_mv, next_new, next_wr, next_mv, Nat.reduceLT, Nat.reduceBEq, true_and, and_true, reduceIte, Nat.reduceEqDiff, eq_self, T.get_set, cond_true, cond_false, endR_ret, resQ_some, evResults, tup_one, tup_two, tup_three, fillT, load_same, load_ne, store_same, store_ne, AV.cells, allOne, one_int, one_bool, one_ptr, one_nil, one_slice, List.length_cons, List.length_nil, Nat.zero_add, Nat.reduceAdd, beqD, bleD, Nat.reduceLeDiff, Nat.le_refl, decide_true, decide_false, Bool.and_self, Bool.and_true, Bool.true_and, List.take_zero, List.take_succ_cons, List.drop_succ_cons, List.drop_zero, List.nil_append, List.append_nil, List.cons_append, List.getElem?_cons_zero, List.getElem?_cons_succ, agg3, agg4, agg22, agg25, size3, size4, size22, size51, alloc51, fieldAddr24, fieldAddr51, bin_lss, bin_leq, bin_gtr, bin_geq, bin_eql, bin_neq, bin_neqb, un_not, List.getElem?_toArray, ne_eq, not_false_eq_true, evParts, build25, build26, ok5, ok6, ok7, ok8, ok9, ok10, ok13, ok14, ok15, ok16, ok17, ok19, ok20, ok34, ok35, ok36, ok37, ok38, ok39, ok44, ok45, ok60, load_same_agg, agg24, size24, evExtract, agg51, hln, t3, t15, t17, t18, hc, f2, q3, a1, a3, hcall, hs, p1, p2]
    refine ⟨k - 1, by omega, i + 1, _, _, _, .slice (m6 + 1) 0 (i + 1) none 1, rfl, ?_, ?_, ?_, ?_, ?_, ?_, ?_, ?_, ?_, ?_⟩
    · omega
    · omega
    · intro j hj; rw [p5 j (by omega) (hlv.notOf (by omega)), T.get_set, if_neg (by omega)]; exact ho6 j hj
    · rw [p5 n (by omega) (hlv.notOf (by omega)), T.get_set, if_neg (by omega)]; exact hn
    · rw [p5 vi (by omega) (hlv.notOf (by omega)), T.get_set, if_neg (by omega)]; exact hw
    · rw [hpk, ← bools_snoc]; exact Own.fresh (by omega) (by omega) p3 p4
    · simp [T.get_set, t3]
    · simp [T.get_set, t15]
    · simp [T.get_set]
    · simp [T.get_set]
  have hc : ¬ (i : Int) < (S.next.length : Int) := by omega
  obtain rfl : i = S.next.length := by omega
  have hpt : (stepB S state bits).1.take S.next.length = (stepB S state bits).1 := List.take_of_length_le (by simp [stepB])
  rw [hpt] at hlv
  obtain ⟨ok0, ok1⟩ := hS.outs S.ok (by simp)
  obtain ⟨as0, as1⟩ := hS.outs S.assume (by simp)
  have hok := fun (G : T AObj) (M : Nat) => hV S.ok G M ok0 ok1
  have has := fun (G : T AObj) (M : Nat) => hV S.assume G M as0 as1
  have hso : sameO (some (.cells 7 (v.cells S))) (some (.cells 7 (v.cells S))) = true := by simp [sameO, sys_same hv]
  have k1 : vi < m6 + 1 + 1 + 1 + 1 + 1 + 1 + 1 := by omega
  have k2 : vi < m6 + 1 + 1 + 1 + 1 + 1 + 1 + 1 + 1 := by omega
  simp only [e_seq, e_skip, e_ret, e_exit, e_block, e_region, e_cond, condQ_true, condQ_false, seqK_normal, seqK_ret, seqK_exit, loopK_normal, loopK_ret, loopK_exit, drawK_eq, blockQ_normal, blockQ_ret, blockQ_same, blockQ_other, steps_cons, steps_done, fits_some, blt_lt, pre_plain, pre_guardQ, guardV_some, guardQ_tt, guardQ_ff, guardQ_tf, guardQ_ft, guardQ_skip, List.getElem?_toArray, List.getElem?_cons_zero, List.getElem?_cons_succ, fits_none, evOp, evCall, evOpds, evBuiltin, opd_tmp, opd_int, opd_bool, opd_nil, ov_some, ove_some, oe_some, ose_some, after_val, after_skip, after_call, callQ_some, stepK_eq, opd_func,  putT_some, putT_none, effT_none, next_none, effT_new, effT_wr, effT_mv, next_new, next_wr, next_mv, Nat.reduceLT, Nat.reduceBEq, true_and, and_true, reduceIte, Nat.reduceEqDiff, eq_self, T.get_set, cond_true, cond_false, endR_ret, resQ_some, evResults, tup_one, tup_two, tup_three, fillT, load_same, load_ne, store_same, store_ne, AV.cells, allOne, one_int, one_bool, one_ptr, one_nil, one_slice, List.length_cons, List.length_nil, Nat.zero_add, Nat.reduceAdd, beqD, bleD, Nat.reduceLeDiff, Nat.le_refl, decide_true, decide_false, Bool.and_self, Bool.and_true, Bool.true_and, List.take_zero, List.take_succ_cons, List.drop_succ_cons, List.drop_zero, List.nil_append, List.append_nil, List.cons_append, List.getElem?_cons_zero, List.getElem?_cons_succ, agg3, agg4, agg22, agg25, size3, size4, size22, size51, alloc51, fieldAddr24, fieldAddr51, bin_lss, bin_leq, bin_gtr, bin_geq, bin_eql, bin_neq, bin_neqb, un_not, List.getElem?_toArray, ne_eq, not_false_eq_true, evParts, build25, build26, ok5, ok6, ok7, ok8, ok9, ok10, ok13, ok14, ok15, ok16, ok17, ok19, ok20, ok34, ok35, ok36, ok37, ok38, ok39, ok44, ok45, ok60, load_same_agg, agg24, size24, evExtract, agg51, hln, t3, t15, t17, t18, hc, f2, q3]
  refine (e_draw (bs := [0, 0, 0, 4, 14, 0, 0, 64, 254, 511, 1023, 2047]) (perm := [0, 1, 2, 3, 5, 6, 7, 4, 8, 9, 10, 11]) (planIs_eq (by decide +kernel))).2 ?_
  simp only [e_seq, e_skip, e_ret, e_exit, e_block, e_region, e_cond, condQ_true, condQ_false, seqK_normal, seqK_ret, seqK_exit, loopK_normal, loopK_ret, loopK_exit, drawK_eq, blockQ_normal, blockQ_ret, blockQ_same, blockQ_other, steps_cons, steps_done, fits_some, blt_lt, pre_plain, pre_guardQ, guardV_some, guardQ_tt, guardQ_ff, guardQ_tf, guardQ_ft, guardQ_skip, List.getElem?_toArray, List.getElem?_cons_zero, List.getElem?_cons_succ, fits_none, evOp, evCall, evOpds, evBuiltin, opd_tmp, opd_int, opd_bool, opd_nil, ov_some, ove_some, oe_some, ose_some, after_val, after_skip, after_call, callQ_some, stepK_eq, opd_func,  putT_some, putT_none, effT_none, next_none, effT_new, effT_wr, effT_mv, next_new, next_wr, next_mv, Nat.reduceLT, Nat.reduceBEq, true_and, and_true, reduceIte, Nat.reduceEqDiff, eq_self, T.get_set, cond_true, cond_false, endR_ret, resQ_some, evResults, tup_one, tup_two, tup_three, fillT, d_step, drawAt_eq, afterD_some, d_nil, List.getD_cons_zero, List.getD_cons_succ, List.getElem?_toArray, List.getElem?_cons_succ, List.getElem?_cons_zero, looks_plain, looks_guard, Option.bind_some, Option.toList_some, Op.operands, Call.operands, tmpsOf, restrict, idsOf, addrOf, memN, load_pre, store_pre, delAll, List.append_nil, beq_selfN, beqD, T.get_lf, Bool.not_false, Bool.not_true, decide_true, decide_false, drawOut_eq, drawOut_val, drawOut_skip, drawOut_call, drawCall_some, drawCall2_call, callD_eq, stayed, putBack, Array.toList_append, List.append_toArray, List.map_cons, List.map_nil, okSimple, hides, wOf, disj, tmpsApart, List.append_nil, List.nil_append, List.cons_append, Nat.testBit, Nat.reduceShiftRight, Nat.reduceAnd, Nat.reduceBNe, Option.isNone_none, Option.isNone_some, Bool.and_self, Bool.and_true, Bool.true_and, Nat.reduceAdd, load_same, load_ne, store_same, store_ne, AV.cells, allOne, one_int, one_bool, one_ptr, one_nil, one_slice, List.length_cons, List.length_nil, Nat.zero_add, Nat.reduceAdd, beqD, bleD, Nat.reduceLeDiff, Nat.le_refl, decide_true, decide_false, Bool.and_self, Bool.and_true, Bool.true_and, List.take_zero, List.take_succ_cons, List.drop_succ_cons, List.drop_zero, List.nil_append, List.append_nil, List.cons_append, List.getElem?_cons_zero, List.getElem?_cons_succ, agg3, agg4, agg22, agg25, size3, size4, size22, size51, alloc51, fieldAddr24, fieldAddr51, bin_lss, bin_leq, bin_gtr, bin_geq, bin_eql, bin_neq, bin_neqb, un_not, List.getElem?_toArray, ne_eq, not_false_eq_true, evParts, build25, build26, ok5, ok6, ok7, ok8, ok9, ok10, ok13, ok14, ok15, ok16, ok17, ok19, ok20, ok34, ok35, ok36, ok37, ok38, ok39, ok44, ok45, ok60, load_same_agg, agg24, size24, evExtract, agg51, t3, t15, t17, t18, f5, f6, q6, q7, hok, has, k1, k2, hw, hn, hso]
  exact ⟨⟨lv, rfl, hlv.mono (by omega) (by omega)⟩, ho6, by omega⟩
end Go.Ev

set_option linter.unusedSimpArgs false
set_option linter.unusedVariables false
set_option maxRecDepth 20000
namespace Go.Ev
open Go Proofs

theorem start_gives {fuel d : Nat} {g : T AObj} {n : Nat} {v : SysV} {S : Sys} (hv : SysAt n g v S) (hi : S.init.length ≤ 8) :
    Gives Tryz.prog fuel (d + 1) 35 [v.av S] g n (fun x g' n' => Own n n' g' x 1 S.init.length (bools S.init) ∧ Old n g g' ∧ n ≤ n') := by
  refine gives_ends 6 [.tmp 2] Tryz.func35 rfl rfl rfl ?_
  have hbox := box_sys (m := n) hv
  have f4 := fieldAddr28 n 4 (by omega)
  obtain ⟨q1, q2, q3, q4, q5, q6, q7, q8, q9⟩ := sys_load (g := (T.set (.cells 7 (v.cells S)) g n).get) (id := n) (v := v) (S := S) (by rw [T.get_set, if_pos rfl])
  have o1 : Old n g (T.set (.cells 7 (v.cells S)) g n) := (Old.refl _ _).set (Nat.le_refl _) _
  obtain ⟨x, rd, ef, p1, p2⟩ := app_row elem26 (n1 := n + 1) (hv.init.old (n' := n + 1) o1 (by omega)) (G := (T.set (.cells 7 (v.cells S)) g n).get) (fun _ _ _ _ _ _ => rfl) (by omega)
  simp only [SysV.av]
  rcases p2 with ⟨rfl, rfl, p3, p4⟩ | ⟨rfl, rfl, p3, p4⟩
  · simp only [e_seq, e_skip, e_ret, e_exit, e_block, e_region, e_cond, condQ_true, condQ_false, seqK_normal, seqK_ret, seqK_exit, loopK_normal, loopK_ret, loopK_exit, drawK_eq, blockQ_normal, blockQ_ret, blockQ_same, blockQ_other, steps_cons, steps_done, fits_some, blt_lt, pre_plain, pre_guardQ, guardV_some, guardQ_tt, guardQ_ff, guardQ_tf, guardQ_ft, guardQ_skip, List.getElem?_toArray, List.getElem?_cons_zero, List.getElem?_cons_succ, fits_none, evOp, evCall, evOpds, evBuiltin, opd_tmp, opd_int, opd_bool, opd_nil, ov_some, ove_some, oe_some, ose_some, after_val, after_skip, after_call, callQ_some, stepK_eq, opd_func,  putT_some, putT_none, effT_none, next_none, effT_new, effT_wr, effT_mv, next_new, next_wr, next_mv, Nat.reduceLT, Nat.reduceBEq, true_and, and_true, reduceIte, Nat.reduceEqDiff, eq_self, T.get_set, cond_true, cond_false, endR_ret, resQ_some, evResults, tup_one, tup_two, tup_three, fillT, load_same, load_ne, store_same, store_ne, AV.cells, allOne, one_int, one_bool, one_ptr, one_nil, one_slice, List.length_cons, List.length_nil, Nat.zero_add, Nat.reduceAdd, beqD, bleD, Nat.reduceLeDiff, Nat.le_refl, decide_true, decide_false, Bool.and_self, Bool.and_true, Bool.true_and, List.take_zero, List.take_succ_cons, List.drop_succ_cons, List.drop_zero, List.nil_append, List.append_nil, List.cons_append, List.getElem?_cons_zero, List.getElem?_cons_succ, agg3, agg4, agg22, agg25, size3, size4, size22, size51, alloc51, fieldAddr24, fieldAddr51, bin_lss, bin_leq, bin_gtr, bin_geq, bin_eql, bin_neq, bin_neqb, un_not, List.getElem?_toArray, ne_eq, not_false_eq_true, evParts, build25, build26, ok5, ok6, ok7, ok8, ok9, ok10, ok13, ok14, ok15, ok16, ok17, ok19, ok20, ok34, ok35, ok36, ok37, ok38, ok39, ok44, ok45, ok60, load_same_agg, agg24, size24, evExtract, agg51, hbox, f4, q5, p1]
    refine ⟨?_, o1, by omega⟩
    rw [p3, p4]; exact Own.nil _ _ _ _
  · simp only [e_seq, e_skip, e_ret, e_exit, e_block, e_region, e_cond, condQ_true, condQ_false, seqK_normal, seqK_ret, seqK_exit, loopK_normal, loopK_ret, loopK_exit, drawK_eq, blockQ_normal, blockQ_ret, blockQ_same, blockQ_other, steps_cons, steps_done, fits_some, blt_lt, pre_plain, pre_guardQ, guardV_some, guardQ_tt, guardQ_ff, guardQ_tf, guardQ_ft, guardQ_skip, List.getElem?_toArray, List.getElem?_cons_zero, List.getElem?_cons_succ, fits_none, evOp, evCall, evOpds, evBuiltin, opd_tmp, opd_int, opd_bool, opd_nil, ov_some, ove_some, oe_some, ose_some, after_val, after_skip, after_call, callQ_some, stepK_eq, opd_func,  putT_some, putT_none, effT_none, next_none, effT_new, effT_wr, effT_mv, next_new, next_wr, next_mv, Nat.reduceLT, Nat.reduceBEq, true_and, and_true, reduceIte, Nat.reduceEqDiff, eq_self, T.get_set, cond_true, cond_false, endR_ret, resQ_some, evResults, tup_one, tup_two, tup_three, fillT, load_same, load_ne, store_same, store_ne, AV.cells, allOne, one_int, one_bool, one_ptr, one_nil, one_slice, List.length_cons, List.length_nil, Nat.zero_add, Nat.reduceAdd, beqD, bleD, Nat.reduceLeDiff, Nat.le_refl, decide_true, decide_false, Bool.and_self, Bool.and_true, Bool.true_and, List.take_zero, List.take_succ_cons, List.drop_succ_cons, List.drop_zero, List.nil_append, List.append_nil, List.cons_append, List.getElem?_cons_zero, List.getElem?_cons_succ, agg3, agg4, agg22, agg25, size3, size4, size22, size51, alloc51, fieldAddr24, fieldAddr51, bin_lss, bin_leq, bin_gtr, bin_geq, bin_eql, bin_neq, bin_neqb, un_not, List.getElem?_toArray, ne_eq, not_false_eq_true, evParts, build25, build26, ok5, ok6, ok7, ok8, ok9, ok10, ok13, ok14, ok15, ok16, ok17, ok19, ok20, ok34, ok35, ok36, ok37, ok38, ok39, ok44, ok45, ok60, load_same_agg, agg24, size24, evExtract, agg51, hbox, f4, q5, p1]
    refine ⟨Own.fresh (by omega) (by omega) (by rw [T.get_set, if_pos rfl]) p3, o1.set (by omega) _, by omega⟩
end Go.Ev

set_option linter.unusedSimpArgs false
set_option linter.unusedVariables false
set_option maxRecDepth 20000
namespace Go.Ev
open Go Proofs

def bitB (n i : Nat) : Bool := (n / 2 ^ i) % 2 == 1
def bitI (n i : Nat) : Int := ((n / 2 ^ i % 2 : Nat) : Int)
def bitsB (n k : Nat) : List Bool := (List.range k).map (bitB n)
def bitsI (n k : Nat) : List Int := (List.range k).map (bitI n)
theorem bin_shr (n i : Nat) (hn : n < 16) (hi : i < 4) : evBin Tryz.prog .shr 3 (.int .i64 (n : Int)) (.int .i64 (i : Int)) = some (.int .i64 ((n / 2 ^ i : Nat) : Int)) := by
  have : ∀ n : Nat, n < 16 → ∀ i : Nat, i < 4 → isAV (evBin Tryz.prog .shr 3 (.int .i64 (n : Int)) (.int .i64 (i : Int))) (.int .i64 ((n / 2 ^ i : Nat) : Int)) = true := by decide +kernel
  exact isAV_eq (this n hn i hi)
theorem bin_and1 (m : Nat) (hm : m < 16) : evBin Tryz.prog .and 3 (.int .i64 (m : Int)) (.int .i64 1) = some (.int .i64 ((m % 2 : Nat) : Int)) := by
  have : ∀ m : Nat, m < 16 → isAV (evBin Tryz.prog .and 3 (.int .i64 (m : Int)) (.int .i64 1)) (.int .i64 ((m % 2 : Nat) : Int)) = true := by decide +kernel
  exact isAV_eq (this m hm)
theorem bitsB_succ (n k : Nat) : bitsB n (k + 1) = bitsB n k ++ [bitB n k] := by simp [bitsB, List.range_succ]
theorem bitsI_succ (n k : Nat) : bitsI n (k + 1) = bitsI n k ++ [bitI n k] := by simp [bitsI, List.range_succ]
theorem bitsB_length (n k : Nat) : (bitsB n k).length = k := by simp [bitsB]
theorem bitsI_length (n k : Nat) : (bitsI n k).length = k := by simp [bitsI]

theorem chk_load {g : AHeap} {id : Nat} {v : SysV} {S : Sys} {bud : AV} (h : g id = some (.cells 8 (v.cells S ++ [bud]))) :
    evLoad Tryz.prog g 22 (.ptr id 0) = some v.net ∧ evLoad Tryz.prog g 25 (.ptr id 1) = some v.now ∧ evLoad Tryz.prog g 25 (.ptr id 3) = some v.ins ∧ evLoad Tryz.prog g 28 (.ptr id 0) = some (.agg [v.net, v.now, v.next, v.ins, v.init, .int .i64 S.ok, .int .i64 S.assume]) := by
  have a28 : aggT Tryz.prog 28 = some true := by decide +kernel
  refine ⟨?_, ?_, ?_, ?_⟩ <;> simp only [evLoad, h, agg22, agg25, a28, size28, SysV.cells] <;> rfl

theorem pre_head {g : T AObj} {p : Nat} {l : List Nat} : preOf g (p :: l) p = g.get p := by simp only [preOf, memN, beq_selfN, cond_true]
theorem pre_snd {g : T AObj} {a p : Nat} {l : List Nat} : preOf g (a :: p :: l) p = g.get p := by
  simp only [preOf, memN, beq_selfN, cond_true]
  cases Nat.beq p a <;> rfl
theorem app26_nil1 (g : T AObj) (p n : Nat) (l : List Nat) (x : AV) : evApp Tryz.prog (preOf (T.set (.cells 1 [x]) g p) (p :: l)) n 26 26 .nilSlice (.slice p 0 1 (some 1) 1) = some (.slice n 0 1 none 1, [p], .new (.cells 1 [x])) :=
  app_nil elem26 (data := [x]) (by rw [pre_head, T.get_set, if_pos rfl]) (by simp) (by simp) (by omega) (by omega)
theorem app25_nil1 (g : T AObj) (p n : Nat) (l : List Nat) (x : AV) : evApp Tryz.prog (preOf (T.set (.cells 1 [x]) g p) (p :: l)) n 25 25 .nilSlice (.slice p 0 1 (some 1) 1) = some (.slice n 0 1 none 1, [p], .new (.cells 1 [x])) :=
  app_nil elem25 (data := [x]) (by rw [pre_head, T.get_set, if_pos rfl]) (by simp) (by simp) (by omega) (by omega)
theorem app26_mv1 {a len : Nat} {cs : List AV} (hl : cs.length = len) (hb : len < 1000) (g : T AObj) (p n : Nat) (l : List Nat) (x : AV) (hap : a ≠ p) (hg : g.get a = some (.cells 1 cs)) :
    evApp Tryz.prog (preOf (T.set (.cells 1 [x]) g p) (a :: p :: l)) n 26 26 (.slice a 0 len none 1) (.slice p 0 1 (some 1) 1) = some (.slice n 0 (len + 1) none 1, [a, p], .mv a (.cells 1 (cs ++ [x]))) :=
  app_mv elem26 (data := [x]) (by rw [pre_head, T.get_set, if_neg hap]; exact hg) (by omega) (by rw [pre_snd, T.get_set, if_pos rfl]) (by simp) (by simp) (by omega) (by omega)
theorem app25_mv1 {a len : Nat} {cs : List AV} (hl : cs.length = len) (hb : len < 1000) (g : T AObj) (p n : Nat) (l : List Nat) (x : AV) (hap : a ≠ p) (hg : g.get a = some (.cells 1 cs)) :
    evApp Tryz.prog (preOf (T.set (.cells 1 [x]) g p) (a :: p :: l)) n 25 25 (.slice a 0 len none 1) (.slice p 0 1 (some 1) 1) = some (.slice n 0 (len + 1) none 1, [a, p], .mv a (.cells 1 (cs ++ [x]))) :=
  app_mv elem25 (data := [x]) (by rw [pre_head, T.get_set, if_neg hap]; exact hg) (by omega) (by rw [pre_snd, T.get_set, if_pos rfl]) (by simp) (by simp) (by omega) (by omega)

theorem input_gives {fuel d : Nat} {g : T AObj} {n id k : Nat} {v : SysV} {S : Sys} {bud : AV} (hv : SysAt n g v S) (hid : id < n) (hg : g.get id = some (.cells 8 (v.cells S ++ [bud]))) (hil : S.ins.length ≤ 3) (hk : k < 16) (hf : 20 < fuel) :
    Gives Tryz.prog fuel (d + 1) 37 [.ptr id 0, .int .i64 (k : Int)] g n (fun x g' n' => (∃ lv tv, x = .tuple [lv, tv] ∧ Own n n' g' lv 1 S.ins.length (bools (bitsB k S.ins.length)) ∧ Own n n' g' tv 1 S.ins.length (ints (bitsI k S.ins.length))) ∧ Old n g g' ∧ n ≤ n') := by
  refine gives_ends 36 [.tmp 4, .tmp 5] Tryz.func37 rfl rfl rfl ?_
  have hli := hv.ins.evLen Tryz.underlying25 (P := Tryz.prog)
  have f3 := fieldAddr28 id 3 (by omega)
  obtain ⟨q1, q2, q3, q4⟩ := chk_load hg
  simp only [e_seq, e_skip, e_ret, e_exit, e_block, e_region, e_cond, condQ_true, condQ_false, seqK_normal, seqK_ret, seqK_exit, loopK_normal, loopK_ret, loopK_exit, drawK_eq, blockQ_normal, blockQ_ret, blockQ_same, blockQ_other, steps_cons, steps_done, fits_some, blt_lt, pre_plain, pre_guardQ, guardV_some, guardQ_tt, guardQ_ff, guardQ_tf, guardQ_ft, guardQ_skip, List.getElem?_toArray, List.getElem?_cons_zero, List.getElem?_cons_succ, fits_none, evOp, evCall, evOpds, evBuiltin, opd_tmp, opd_int, opd_bool, opd_nil, ov_some, ove_some, oe_some, ose_some, after_val, after_skip, after_call, callQ_some, stepK_eq, opd_func,  putT_some, putT_none, effT_none, next_none, effT_new, effT_wr, effT_mv, next_new, next_wr, next_mv, Nat.reduceLT, Nat.reduceBEq, true_and, and_true, reduceIte, Nat.reduceEqDiff, eq_self, T.get_set, cond_true, cond_false, endR_ret, resQ_some, evResults, tup_one, tup_two, tup_three, fillT, load_same, load_ne, store_same, store_ne, AV.cells, allOne, one_int, one_bool, one_ptr, one_nil, one_slice, List.length_cons, List.length_nil, Nat.zero_add, Nat.reduceAdd, beqD, bleD, Nat.reduceLeDiff, Nat.le_refl, decide_true, decide_false, Bool.and_self, Bool.and_true, Bool.true_and, List.take_zero, List.take_succ_cons, List.drop_succ_cons, List.drop_zero, List.nil_append, List.append_nil, List.cons_append, List.getElem?_cons_zero, List.getElem?_cons_succ, agg3, agg4, agg22, agg25, size3, size4, size22, size51, alloc51, fieldAddr24, fieldAddr51, bin_lss, bin_leq, bin_gtr, bin_geq, bin_eql, bin_neq, bin_neqb, un_not, List.getElem?_toArray, ne_eq, not_false_eq_true, evParts, build25, build26, ok5, ok6, ok7, ok8, ok9, ok10, ok13, ok14, ok15, ok16, ok17, ok19, ok20, ok34, ok35, ok36, ok37, ok38, ok39, ok44, ok45, ok60, load_same_agg, agg24, size24, evExtract, agg51, nilCheck_ptr, fieldAddr55, f3, q3, hli]
  refine e_loop (fun j s => ∃ i m : Nat, ∃ tm : T AV, ∃ h : T AObj, ∃ lv tv : AV, s = ⟨tm, h, m, []⟩ ∧ i + j = S.ins.length ∧ n ≤ m ∧ Old n g h ∧
    ((i = 0 ∧ lv = .nilSlice ∧ tv = .nilSlice) ∨ ∃ a b, lv = .slice a 0 i none 1 ∧ tv = .slice b 0 i none 1 ∧ a ≠ b ∧ n ≤ a ∧ a < m ∧ n ≤ b ∧ b < m ∧ h.get a = some (.cells 1 (bools (bitsB k i))) ∧ h.get b = some (.cells 1 (ints (bitsI k i)))) ∧
    tm.get 1 = some (.int .i64 (k : Int)) ∧ tm.get 6 = some lv ∧ tm.get 7 = some tv ∧ tm.get 14 = some (.int .i64 (S.ins.length : Int)) ∧ tm.get 15 = some (.int .i64 (i : Int))) S.ins.length (by omega) ?_ ?_
  · refine ⟨0, n, _, _, .nilSlice, .nilSlice, rfl, ?_, ?_, ?_, ?_, ?_, ?_, ?_, ?_, ?_⟩
    · omega
    · omega
    · exact Old.refl _ _
    · exact .inl ⟨rfl, rfl, rfl⟩
    · simp [T.get_set]
    · simp [T.get_set]
    · simp [T.get_set]
    · simp [T.get_set]
    · simp [T.get_set]
  rintro j _ ⟨i, m, tm, h, lv, tv, rfl, hij, hm, ho, hcase, t1, t6, t7, t14, t15⟩
  by_cases hlt : i < S.ins.length
  · have hc : (i : Int) < (S.ins.length : Int) := by omega
    have hs := bin_succ Tryz.prog 3 i (by omega)
    have b1 := bin_shr k i hk (by omega)
    have b2 := bin_and1 (k / 2 ^ i) (Nat.lt_of_le_of_lt (Nat.div_le_self _ _) hk)
    have hB : (bitI k i == 1) = bitB k i := by
      simp only [bitB, bitI]
      rcases Nat.mod_two_eq_zero_or_one (k / 2 ^ i) with e | e <;> rw [e] <;> rfl
    have hI : ((k / 2 ^ i % 2 : Nat) : Int) = bitI k i := rfl
    rcases hcase with ⟨rfl, rfl, rfl⟩ | ⟨a, b, rfl, rfl, hab, ha1, ha2, hb1, hb2, hA, hB2⟩
    · simp only [e_seq, e_skip, e_ret, e_exit, e_block, e_region, e_cond, condQ_true, condQ_false, seqK_normal, seqK_ret, seqK_exit, loopK_normal, loopK_ret, loopK_exit, drawK_eq, blockQ_normal, blockQ_ret, blockQ_same, blockQ_other, steps_cons, steps_done, fits_some, blt_lt, pre_plain, pre_guardQ, guardV_some, guardQ_tt, guardQ_ff, guardQ_tf, guardQ_ft, guardQ_skip, List.getElem?_toArray, List.getElem?_cons_zero, List.getElem?_cons_succ, fits_none, evOp, evCall, evOpds, evBuiltin, opd_tmp, opd_int, opd_bool, opd_nil, ov_some, ove_some, oe_some, ose_some, after_val, after_skip, after_call, callQ_some, stepK_eq, opd_func,  putT_some, putT_none, effT_none, next_none, effT_new, effT_wr, effT_mv, next_new, next_wr, next_mv, Nat.reduceLT, Nat.reduceBEq, true_and, and_true, reduceIte, Nat.reduceEqDiff, eq_self, T.get_set, cond_true, cond_false, endR_ret, resQ_some, evResults, tup_one, tup_two, tup_three, fillT, load_same, load_ne, store_same, store_ne, AV.cells, allOne, one_int, one_bool, one_ptr, one_nil, one_slice, List.length_cons, List.length_nil, Nat.zero_add, Nat.reduceAdd, beqD, bleD, Nat.reduceLeDiff, Nat.le_refl, decide_true, decide_false, Bool.and_self, Bool.and_true, Bool.true_and, List.take_zero, List.take_succ_cons, List.drop_succ_cons, List.drop_zero, List.nil_append, List.append_nil, List.cons_append, List.getElem?_cons_zero, List.getElem?_cons_succ, agg3, agg4, agg22, agg25, size3, size4, size22, size51, alloc51, fieldAddr24, fieldAddr51, bin_lss, bin_leq, bin_gtr, bin_geq, bin_eql, bin_neq, bin_neqb, un_not, List.getElem?_toArray, ne_eq, not_false_eq_true, evParts, build25, build26, ok5, ok6, ok7, ok8, ok9, ok10, ok13, ok14, ok15, ok16, ok17, ok19, ok20, ok34, ok35, ok36, ok37, ok38, ok39, ok44, ok45, ok60, load_same_agg, agg24, size24, evExtract, agg51, t1, t6, t7, t14, t15, hc]
      refine (e_draw (bs := [0, 0, 0, 6, 14, 30, 62, 127, 0, 0, 0, 1536, 3584, 7680, 16383, 32767, 65535]) (perm := [0, 1, 2, 3, 4, 5, 6, 7, 8, 9, 10, 11, 12, 13, 14, 15, 16]) (planIs_eq (by decide +kernel))).2 ?_
      simp only [e_seq, e_skip, e_ret, e_exit, e_block, e_region, e_cond, condQ_true, condQ_false, seqK_normal, seqK_ret, seqK_exit, loopK_normal, loopK_ret, loopK_exit, drawK_eq, blockQ_normal, blockQ_ret, blockQ_same, blockQ_other, steps_cons, steps_done, fits_some, blt_lt, pre_plain, pre_guardQ, guardV_some, guardQ_tt, guardQ_ff, guardQ_tf, guardQ_ft, guardQ_skip, List.getElem?_toArray, List.getElem?_cons_zero, List.getElem?_cons_succ, fits_none, evOp, evCall, evOpds, evBuiltin, opd_tmp, opd_int, opd_bool, opd_nil, ov_some, ove_some, oe_some, ose_some, after_val, after_skip, after_call, callQ_some, stepK_eq, opd_func,  putT_some, putT_none, effT_none, next_none, effT_new, effT_wr, effT_mv, next_new, next_wr, next_mv, Nat.reduceLT, Nat.reduceBEq, true_and, and_true, reduceIte, Nat.reduceEqDiff, eq_self, T.get_set, cond_true, cond_false, endR_ret, resQ_some, evResults, tup_one, tup_two, tup_three, fillT, d_step, drawAt_eq, afterD_some, d_nil, List.getD_cons_zero, List.getD_cons_succ, List.getElem?_toArray, List.getElem?_cons_succ, List.getElem?_cons_zero, looks_plain, looks_guard, Option.bind_some, Option.toList_some, Op.operands, Call.operands, tmpsOf, restrict, idsOf, addrOf, memN, load_pre, store_pre, delAll, List.append_nil, beq_selfN, beqD, T.get_lf, Bool.not_false, Bool.not_true, decide_true, decide_false, drawOut_eq, drawOut_val, drawOut_skip, drawOut_call, drawCall_some, drawCall2_call, callD_eq, stayed, putBack, Array.toList_append, List.append_toArray, List.map_cons, List.map_nil, okSimple, hides, wOf, disj, tmpsApart, List.append_nil, List.nil_append, List.cons_append, Nat.testBit, Nat.reduceShiftRight, Nat.reduceAnd, Nat.reduceBNe, Option.isNone_none, Option.isNone_some, Bool.and_self, Bool.and_true, Bool.true_and, Nat.reduceAdd, load_same, load_ne, store_same, store_ne, AV.cells, allOne, one_int, one_bool, one_ptr, one_nil, one_slice, List.length_cons, List.length_nil, Nat.zero_add, Nat.reduceAdd, beqD, bleD, Nat.reduceLeDiff, Nat.le_refl, decide_true, decide_false, Bool.and_self, Bool.and_true, Bool.true_and, List.take_zero, List.take_succ_cons, List.drop_succ_cons, List.drop_zero, List.nil_append, List.append_nil, List.cons_append, List.getElem?_cons_zero, List.getElem?_cons_succ, agg3, agg4, agg22, agg25, size3, size4, size22, size51, alloc51, fieldAddr24, fieldAddr51, bin_lss, bin_leq, bin_gtr, bin_geq, bin_eql, bin_neq, bin_neqb, un_not, List.getElem?_toArray, ne_eq, not_false_eq_true, evParts, build25, build26, ok5, ok6, ok7, ok8, ok9, ok10, ok13, ok14, ok15, ok16, ok17, ok19, ok20, ok34, ok35, ok36, ok37, ok38, ok39, ok44, ok45, ok60, load_same_agg, agg24, size24, evExtract, agg51, t1, t6, t7, t14, t15, b1, b2, hB, hI, app26_nil1, app25_nil1, Nat.add_assoc, hs]
      refine ⟨by simp <;> omega, j - 1, by omega, 1, _, _, _, .slice (m + 7) 0 1 none 1, .slice (m + 14) 0 1 none 1, rfl, ?_, ?_, ?_, .inr ⟨m + 7, m + 14, rfl, rfl, ?_, ?_, ?_, ?_, ?_, ?_, ?_⟩, ?_, ?_, ?_, ?_, ?_⟩
      · omega
      · omega
      · exact (((ho.set (by omega) _).set (by omega) _).set (by omega) _).set (by omega) _
      · omega
      · omega
      · omega
      · omega
      · omega
      · simp [T.get_set, bitsB, bools]
      · simp [T.get_set, bitsI, ints]
      · simp [T.get_set, t1]
      · simp [T.get_set]
      · simp [T.get_set]
      · simp [T.get_set, t14]
      · simp [T.get_set]
    · have hnA : ∀ k, (a = m + k) = False := fun k => by simp; omega
      have hnB : ∀ k, (b = m + k) = False := fun k => by simp; omega
      have hA1 := app26_mv1 (a := a) (len := i) (cs := bools (bitsB k i)) (by simp [bools, bitsB]) (by omega)
      have hB1 := app25_mv1 (a := b) (len := i) (cs := ints (bitsI k i)) (by simp [ints, bitsI]) (by omega)
      have hba : b ≠ a := Ne.symm hab
      simp only [e_seq, e_skip, e_ret, e_exit, e_block, e_region, e_cond, condQ_true, condQ_false, seqK_normal, seqK_ret, seqK_exit, loopK_normal, loopK_ret, loopK_exit, drawK_eq, blockQ_normal, blockQ_ret, blockQ_same, blockQ_other, steps_cons, steps_done, fits_some, blt_lt, pre_plain, pre_guardQ, guardV_some, guardQ_tt, guardQ_ff, guardQ_tf, guardQ_ft, guardQ_skip, List.getElem?_toArray, List.getElem?_cons_zero, List.getElem?_cons_succ, fits_none, evOp, evCall, evOpds, evBuiltin, opd_tmp, opd_int, opd_bool, opd_nil, ov_some, ove_some, oe_some, ose_some, after_val, after_skip, after_call, callQ_some, stepK_eq, opd_func,  putT_some, putT_none, effT_none, next_none, effT_new, effT_wr, effT_mv, next_new, next_wr, next_mv, Nat.reduceLT, Nat.reduceBEq, true_and, and_true, reduceIte, Nat.reduceEqDiff, eq_self, T.get_set, cond_true, cond_false, endR_ret, resQ_some, evResults, tup_one, tup_two, tup_three, fillT, load_same, load_ne, store_same, store_ne, AV.cells, allOne, one_int, one_bool, one_ptr, one_nil, one_slice, List.length_cons, List.length_nil, Nat.zero_add, Nat.reduceAdd, beqD, bleD, Nat.reduceLeDiff, Nat.le_refl, decide_true, decide_false, Bool.and_self, Bool.and_true, Bool.true_and, List.take_zero, List.take_succ_cons, List.drop_succ_cons, List.drop_zero, List.nil_append, List.append_nil, List.cons_append, List.getElem?_cons_zero, List.getElem?_cons_succ, agg3, agg4, agg22, agg25, size3, size4, size22, size51, alloc51, fieldAddr24, fieldAddr51, bin_lss, bin_leq, bin_gtr, bin_geq, bin_eql, bin_neq, bin_neqb, un_not, List.getElem?_toArray, ne_eq, not_false_eq_true, evParts, build25, build26, ok5, ok6, ok7, ok8, ok9, ok10, ok13, ok14, ok15, ok16, ok17, ok19, ok20, ok34, ok35, ok36, ok37, ok38, ok39, ok44, ok45, ok60, load_same_agg, agg24, size24, evExtract, agg51, t1, t6, t7, t14, t15, hc]
      refine (e_draw (bs := [0, 0, 0, 6, 14, 30, 62, 127, 0, 0, 0, 1536, 3584, 7680, 16383, 32767, 65535]) (perm := [0, 1, 2, 3, 4, 5, 6, 7, 8, 9, 10, 11, 12, 13, 14, 15, 16]) (planIs_eq (by decide +kernel))).2 ?_
      simp only [e_seq, e_skip, e_ret, e_exit, e_block, e_region, e_cond, condQ_true, condQ_false, seqK_normal, seqK_ret, seqK_exit, loopK_normal, loopK_ret, loopK_exit, drawK_eq, blockQ_normal, blockQ_ret, blockQ_same, blockQ_other, steps_cons, steps_done, fits_some, blt_lt, pre_plain, pre_guardQ, guardV_some, guardQ_tt, guardQ_ff, guardQ_tf, guardQ_ft, guardQ_skip, List.getElem?_toArray, List.getElem?_cons_zero, List.getElem?_cons_succ, fits_none, evOp, evCall, evOpds, evBuiltin, opd_tmp, opd_int, opd_bool, opd_nil, ov_some, ove_some, oe_some, ose_some, after_val, after_skip, after_call, callQ_some, stepK_eq, opd_func,  putT_some, putT_none, effT_none, next_none, effT_new, effT_wr, effT_mv, next_new, next_wr, next_mv, Nat.reduceLT, Nat.reduceBEq, true_and, and_true, reduceIte, Nat.reduceEqDiff, eq_self, T.get_set, cond_true, cond_false, endR_ret, resQ_some, evResults, tup_one, tup_two, tup_three, fillT, d_step, drawAt_eq, afterD_some, d_nil, List.getD_cons_zero, List.getD_cons_succ, List.getElem?_toArray, List.getElem?_cons_succ, List.getElem?_cons_zero, looks_plain, looks_guard, Option.bind_some, Option.toList_some, Op.operands, Call.operands, tmpsOf, restrict, idsOf, addrOf, memN, load_pre, store_pre, delAll, List.append_nil, beq_selfN, beqD, T.get_lf, Bool.not_false, Bool.not_true, decide_true, decide_false, drawOut_eq, drawOut_val, drawOut_skip, drawOut_call, drawCall_some, drawCall2_call, callD_eq, stayed, putBack, Array.toList_append, List.append_toArray, List.map_cons, List.map_nil, okSimple, hides, wOf, disj, tmpsApart, List.append_nil, List.nil_append, List.cons_append, Nat.testBit, Nat.reduceShiftRight, Nat.reduceAnd, Nat.reduceBNe, Option.isNone_none, Option.isNone_some, Bool.and_self, Bool.and_true, Bool.true_and, Nat.reduceAdd, load_same, load_ne, store_same, store_ne, AV.cells, allOne, one_int, one_bool, one_ptr, one_nil, one_slice, List.length_cons, List.length_nil, Nat.zero_add, Nat.reduceAdd, beqD, bleD, Nat.reduceLeDiff, Nat.le_refl, decide_true, decide_false, Bool.and_self, Bool.and_true, Bool.true_and, List.take_zero, List.take_succ_cons, List.drop_succ_cons, List.drop_zero, List.nil_append, List.append_nil, List.cons_append, List.getElem?_cons_zero, List.getElem?_cons_succ, agg3, agg4, agg22, agg25, size3, size4, size22, size51, alloc51, fieldAddr24, fieldAddr51, bin_lss, bin_leq, bin_gtr, bin_geq, bin_eql, bin_neq, bin_neqb, un_not, List.getElem?_toArray, ne_eq, not_false_eq_true, evParts, build25, build26, ok5, ok6, ok7, ok8, ok9, ok10, ok13, ok14, ok15, ok16, ok17, ok19, ok20, ok34, ok35, ok36, ok37, ok38, ok39, ok44, ok45, ok60, load_same_agg, agg24, size24, evExtract, agg51, t1, t6, t7, t14, t15, b1, b2, hB, hI, hA1, hB1, Nat.add_assoc, hnA, hnB, hA, hB2, hab, hba, T.get_del, hs]
      refine ⟨by simp <;> omega, j - 1, by omega, i + 1, _, _, _, .slice (m + 7) 0 (i + 1) none 1, .slice (m + 14) 0 (i + 1) none 1, rfl, ?_, ?_, ?_, .inr ⟨m + 7, m + 14, rfl, rfl, ?_, ?_, ?_, ?_, ?_, ?_, ?_⟩, ?_, ?_, ?_, ?_, ?_⟩
      · omega
      · omega
      · exact (((((ho.set (by omega) _).del (by omega)).set (by omega) _).set (by omega) _).del (by omega)).set (by omega) _
      · omega
      · omega
      · omega
      · omega
      · omega
      · have e1 : m + 7 ≠ m + 14 := by omega
        have e2 : m + 7 ≠ b := by omega
        have e3 : m + 7 ≠ m + 13 := by omega
        simp only [T.get_set, T.get_del, if_neg e1, if_neg e2, if_neg e3, reduceIte, bitsB_succ, bools_snoc]
      · simp only [T.get_set, reduceIte, bitsI_succ, ints_snoc]
      · simp [T.get_set, t1]
      · simp [T.get_set]
      · simp [T.get_set]
      · simp [T.get_set, t14]
      · simp [T.get_set]
  · have hc : ¬ (i : Int) < (S.ins.length : Int) := by omega
    obtain rfl : i = S.ins.length := by omega
    simp only [e_seq, e_skip, e_ret, e_exit, e_block, e_region, e_cond, condQ_true, condQ_false, seqK_normal, seqK_ret, seqK_exit, loopK_normal, loopK_ret, loopK_exit, drawK_eq, blockQ_normal, blockQ_ret, blockQ_same, blockQ_other, steps_cons, steps_done, fits_some, blt_lt, pre_plain, pre_guardQ, guardV_some, guardQ_tt, guardQ_ff, guardQ_tf, guardQ_ft, guardQ_skip, List.getElem?_toArray, List.getElem?_cons_zero, List.getElem?_cons_succ, fits_none, evOp, evCall, evOpds, evBuiltin, opd_tmp, opd_int, opd_bool, opd_nil, ov_some, ove_some, oe_some, ose_some, after_val, after_skip, after_call, callQ_some, stepK_eq, opd_func,  putT_some, putT_none, effT_none, next_none, effT_new, effT_wr, effT_mv, next_new, next_wr, next_mv, Nat.reduceLT, Nat.reduceBEq, true_and, and_true, reduceIte, Nat.reduceEqDiff, eq_self, T.get_set, cond_true, cond_false, endR_ret, resQ_some, evResults, tup_one, tup_two, tup_three, fillT, load_same, load_ne, store_same, store_ne, AV.cells, allOne, one_int, one_bool, one_ptr, one_nil, one_slice, List.length_cons, List.length_nil, Nat.zero_add, Nat.reduceAdd, beqD, bleD, Nat.reduceLeDiff, Nat.le_refl, decide_true, decide_false, Bool.and_self, Bool.and_true, Bool.true_and, List.take_zero, List.take_succ_cons, List.drop_succ_cons, List.drop_zero, List.nil_append, List.append_nil, List.cons_append, List.getElem?_cons_zero, List.getElem?_cons_succ, agg3, agg4, agg22, agg25, size3, size4, size22, size51, alloc51, fieldAddr24, fieldAddr51, bin_lss, bin_leq, bin_gtr, bin_geq, bin_eql, bin_neq, bin_neqb, un_not, List.getElem?_toArray, ne_eq, not_false_eq_true, evParts, build25, build26, ok5, ok6, ok7, ok8, ok9, ok10, ok13, ok14, ok15, ok16, ok17, ok19, ok20, ok34, ok35, ok36, ok37, ok38, ok39, ok44, ok45, ok60, load_same_agg, agg24, size24, evExtract, agg51, t1, t6, t7, t14, t15, hc]
    refine ⟨⟨lv, tv, rfl, ?_, ?_⟩, ho, hm⟩
    · rcases hcase with ⟨h0, rfl, rfl⟩ | ⟨a, b, rfl, rfl, hab, ha1, ha2, hb1, hb2, hA, hB2⟩
      · rw [h0]; exact Own.nil _ _ _ _
      · exact Own.fresh ha1 ha2 hA (by simp [bools, bitsB])
    · rcases hcase with ⟨h0, rfl, rfl⟩ | ⟨a, b, rfl, rfl, hab, ha1, ha2, hb1, hb2, hA, hB2⟩
      · rw [h0]; exact Own.nil _ _ _ _
      · exact Own.fresh hb1 hb2 hB2 (by simp [ints, bitsI])
end Go.Ev
