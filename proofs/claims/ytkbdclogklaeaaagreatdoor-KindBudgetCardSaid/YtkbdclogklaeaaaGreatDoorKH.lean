/- PART OF THE PROOF OF KindBudget's CARD. The search over the states, evaluated for all data. -/
import Derived.Test.YtkbdclogklaeaaaGreatDoorKG
set_option linter.unusedSimpArgs false
set_option linter.unusedVariables false

set_option linter.unusedSimpArgs false
set_option linter.unusedVariables false
set_option maxRecDepth 20000
namespace Go.Ev
open Go Proofs

theorem opd_neg1 (tm : T AV) : evOpd tm (.const (.int .i64 (-1))) = some (.int .i64 (-1)) := rfl

theorem store33 {G : AHeap} {n : Nat} {a b c x y z : AV} (h : G n = some (.cells 3 [a, b, c])) (hx : x.one = true) (hy : y.one = true) (hz : z.one = true) : evStore Tryz.prog G 33 (.ptr n 0) (.agg [x, y, z]) = some (n, .wr n (.cells 3 [x, y, z])) := by
  simp [evStore, h, size33, cells_agg, allOne, hx, hy, hz, beqD, bleD]
theorem load33 {G : AHeap} {n : Nat} {a b c : AV} (h : G n = some (.cells 3 [a, b, c])) : evLoad Tryz.prog G 33 (.ptr n 0) = some (.agg [a, b, c]) := by
  simp [evLoad, h, size33, agg33, bleD]
theorem vo_load {G : AHeap} {m : Nat} {a : AV} {x : Visit} (h : G m = some (.cells 4 (vcells a x))) : evLoad Tryz.prog G 26 (.ptr m (0 + 0)) = some a ∧ evLoad Tryz.prog G 3 (.ptr m (0 + 3)) = some (.int .i64 (x.tick : Int)) := by
  constructor <;> simp [evLoad, h, agg26, agg3, vcells]
theorem divM {i j M : Nat} (h : j < M) : (i * M + j) / M = i ∧ (i * M + j) % M = j := by
  constructor
  · rw [Nat.mul_comm, Nat.mul_add_div (by omega), Nat.div_eq_of_lt h, Nat.add_zero]
  · rw [Nat.mul_comm, Nat.mul_add_mod, Nat.mod_eq_of_lt h]
theorem min_run (a b : Int) : ∃ r : Int, evMin Tryz.prog false [.int .i64 a, .int .i64 b] = some (.int .i64 r) := by
  have e : evMin Tryz.prog false [.int .i64 a, .int .i64 b] = if b < a then some (.int .i64 b) else some (.int .i64 a) := by
    show evPure Tryz.prog (Builtin.min2 (.int .i64 a) (.int .i64 b)) = _
    simp only [Builtin.min2]
    split <;> rfl
  rw [e]
  split
  · exact ⟨b, rfl⟩
  · exact ⟨a, rfl⟩
theorem keys_snoc (L : List Visit) (x : Visit) : keysOf (L ++ [x]) = keysOf L ++ [((keyN x.st : Nat) : Int)] := by simp [keysOf]
theorem badAt_eq {S : Sys} {p i j : Nat} {x : Visit} (h1 : p / nIn S = i) (h2 : p % nIn S = j) (hx : (lst S p)[i]? = some x) : badAt S p = ((stp S x j).2.2 && !(stp S x j).2.1) := by
  simp only [badAt, h1, h2, hx]
theorem lst_succ {S : Sys} {p i j : Nat} (h1 : p / nIn S = i) (h2 : p % nIn S = j) : lst S (p + 1) = grow S (lst S p) i j := by
  simp only [lst, h1, h2]
theorem grow_not {S : Sys} {L : List Visit} {i j : Nat} {x : Visit} (hx : L[i]? = some x) (h : (stp S x j).2.2 = false ∨ ∃ y ∈ L, y.st = (stp S x j).1) : grow S L i j = L := by
  unfold grow
  rw [hx]
  simp only []
  rw [if_neg]
  rintro ⟨h1, h2⟩
  rcases h with h | ⟨y, hy, e⟩
  · rw [h] at h1; cases h1
  · exact h2 y hy e
theorem grow_yes {S : Sys} {L : List Visit} {i j : Nat} {x : Visit} (hx : L[i]? = some x) (h : (stp S x j).2.2 = true) (h2 : ∀ y ∈ L, y.st ≠ (stp S x j).1) : grow S L i j = L ++ [⟨(stp S x j).1, (i : Int), j, x.tick + 1⟩] := by
  unfold grow
  rw [hx]
  simp only []
  rw [if_pos ⟨h, h2⟩]
theorem no_more {S : Sys} {i : Nat} (h : (lst S (i * nIn S)).length ≤ i) : ∀ d, lst S (i * nIn S + d) = lst S (i * nIn S)
  | 0 => rfl
  | d + 1 => by
    have ih := no_more h d
    show grow S (lst S (i * nIn S + d)) ((i * nIn S + d) / nIn S) ((i * nIn S + d) % nIn S) = _
    rw [ih]
    have hge : i ≤ (i * nIn S + d) / nIn S := by
      rw [Nat.le_div_iff_mul_le (nIn_pos S)]; omega
    unfold grow
    rw [List.getElem?_eq_none (by omega)]
theorem none_bad {S : Sys} {i : Nat} (h : (lst S (i * nIn S)).length ≤ i) (hb : ∀ q, q < i * nIn S → badAt S q = false) : ∀ p, badAt S p = false := by
  intro p
  by_cases hp : p < i * nIn S
  · exact hb p hp
  · obtain ⟨e, rfl⟩ := Nat.exists_eq_add_of_le (Nat.le_of_not_lt hp)
    have hge : i ≤ (i * nIn S + e) / nIn S := by
      rw [Nat.le_div_iff_mul_le (nIn_pos S)]; omega
    simp only [badAt, no_more h e]
    rw [List.getElem?_eq_none (by omega)]

set_option maxHeartbeats 16000000 in
theorem wide_gives {fuel d : Nat} {g : T AObj} {n c : Nat} {v : SysV} {S : Sys} {bud : AV} {k : Int} (hS : GoodSys S) (hv : SysAt n g v S) (hcn : c < n) (hgc : g.get c = some (.cells 8 (v.cells S ++ [bud])))
    (hf : 1100 < fuel) (hg : S.gs.length ≤ 400) (hnl : S.now.length ≤ 8) (hil : S.ins.length ≤ 3) (hk : 0 ≤ k) (hk5 : k ≤ 5) :
    Gives Tryz.prog fuel (d + 3) 17 [.ptr c 0, .int .i64 k] g n (fun x g' n' => (∃ what K tv, x = .agg [.int .i64 what, .int .i64 K, tv] ∧ WideSaid S (n + 1) n' g' k what K tv ∧ tv.one = true) ∧ Old n g g' ∧ n ≤ n') := by
  refine gives_ends 122 [.cell 4 33] Tryz.func17 rfl rfl rfl ?_
  have o1 : Old n g (T.set (.cells 3 [.int .i64 0, .int .i64 0, .nilSlice]) g n) := (Old.refl _ _).set (Nat.le_refl _) _
  have hv1 := hv.old (n' := n + 1) o1 (by omega)
  have c1 : (T.set (.cells 3 [.int .i64 0, .int .i64 0, .nilSlice]) g n).get c = some (.cells 8 (v.cells S ++ [bud])) := by rw [o1 c hcn]; exact hgc
  obtain ⟨q1, q2, q3, q4⟩ := chk_load c1
  simp only [e_seq, e_skip, e_ret, e_exit, e_block, e_region, e_cond, condQ_true, condQ_false, seqK_normal, seqK_ret, seqK_exit, loopK_normal, loopK_ret, loopK_exit, drawK_eq, blockQ_normal, blockQ_ret, blockQ_same, blockQ_other, steps_cons, steps_done, fits_some, blt_lt, pre_plain, pre_guardQ, guardV_some, guardQ_tt, guardQ_ff, guardQ_tf, guardQ_ft, guardQ_skip, List.getElem?_toArray, List.getElem?_cons_zero, List.getElem?_cons_succ, fits_none, evOp, evCall, evOpds, evBuiltin, opd_tmp, opd_int, opd_bool, opd_nil, ov_some, ove_some, oe_some, ose_some, after_val, after_skip, after_call, callQ_some, stepK_eq, opd_func,  putT_some, putT_none, effT_none, next_none, effT_new, effT_wr, effT_mv, next_new, next_wr, next_mv, Nat.reduceLT, Nat.reduceBEq, true_and, and_true, reduceIte, Nat.reduceEqDiff, eq_self, T.get_set, cond_true, cond_false, endR_ret, resQ_some, evResults, tup_one, tup_two, tup_three, fillT, load_same, load_ne, store_same, store_ne, AV.cells, allOne, one_int, one_bool, one_ptr, one_nil, one_slice, List.length_cons, List.length_nil, Nat.zero_add, Nat.reduceAdd, beqD, bleD, Nat.reduceLeDiff, Nat.le_refl, decide_true, decide_false, Bool.and_self, Bool.and_true, Bool.true_and, List.take_zero, List.take_succ_cons, List.drop_succ_cons, List.drop_zero, List.nil_append, List.append_nil, List.cons_append, List.getElem?_cons_zero, List.getElem?_cons_succ, agg3, agg4, agg22, agg25, size3, size4, size22, size51, alloc51, fieldAddr24, fieldAddr51, bin_lss, bin_leq, bin_gtr, bin_geq, bin_eql, bin_neq, bin_neqb, un_not, List.getElem?_toArray, ne_eq, not_false_eq_true, evParts, build25, build26, ok5, ok6, ok7, ok8, ok9, ok10, ok13, ok14, ok15, ok16, ok17, ok19, ok20, ok34, ok35, ok36, ok37, ok38, ok39, ok44, ok45, ok60, load_same_agg, agg24, size24, evExtract, agg51, alloc33, nilCheck_ptr, fieldAddr55, q4]
  refine callQ_gives (start_gives hv1 (by have := hS.init; omega)) ?_
  rintro sv g2 n2 ⟨hsv, o2, l2⟩
  have hrow := hsv.row
  have hsc := len_cells hrow.lenIs
  have hb2 := build99_2 (a := sv) (-1) hsc
  have hb1 := build100 n2 (a := sv) (-1) 0 0 hrow.one
  have hH : ∃ H, H = T.set (seenMap []) (T.set (.cells 4 [sv, .int .i64 (-1), .int .i64 0, .int .i64 0]) g2 n2) (n2 + 1) := ⟨_, rfl⟩
  obtain ⟨H, hHd⟩ := hH
  have hidx : evIndexAddr Tryz.prog 100 (.slice n2 0 1 (some 1) 4) (.int .i64 0) = some (.ptr n2 0) := by simp [evIndexAddr, Tryz.underlying100, size99, Nat.beq]
  have f0 := fieldAddr99 n2 0 0 (by omega)
  have hn21 : n2 ≠ n2 + 1 := by omega
  have hrow2 : Row (n2 + 2) H sv 1 S.init.length (bools S.init) := by
    rw [hHd]; exact hrow.old (((Old.refl _ _).set (Nat.le_refl _) _).set (by omega) _) (by omega)
  have hkey := key_row (fuel := fuel) (d := d + 1) (n := n2 + 2) hrow2 (by have := hS.init; omega) (by omega)
  rw [hHd] at hkey
  have hins := update_not (G := (T.set (seenMap []) (T.set (.cells 4 [sv, .int .i64 (-1), .int .i64 0, .int .i64 0]) g2 n2) (n2 + 1)).get) (id := n2 + 1) (K := []) (w := ((keyN S.init : Nat) : Int)) (by simp) (by rw [T.get_set, if_pos rfl])
  rw [List.nil_append] at hins
  simp only [e_seq, e_skip, e_ret, e_exit, e_block, e_region, e_cond, condQ_true, condQ_false, seqK_normal, seqK_ret, seqK_exit, loopK_normal, loopK_ret, loopK_exit, drawK_eq, blockQ_normal, blockQ_ret, blockQ_same, blockQ_other, steps_cons, steps_done, fits_some, blt_lt, pre_plain, pre_guardQ, guardV_some, guardQ_tt, guardQ_ff, guardQ_tf, guardQ_ft, guardQ_skip, List.getElem?_toArray, List.getElem?_cons_zero, List.getElem?_cons_succ, fits_none, evOp, evCall, evOpds, evBuiltin, opd_tmp, opd_int, opd_bool, opd_nil, ov_some, ove_some, oe_some, ose_some, after_val, after_skip, after_call, callQ_some, stepK_eq, opd_func,  putT_some, putT_none, effT_none, next_none, effT_new, effT_wr, effT_mv, next_new, next_wr, next_mv, Nat.reduceLT, Nat.reduceBEq, true_and, and_true, reduceIte, Nat.reduceEqDiff, eq_self, T.get_set, cond_true, cond_false, endR_ret, resQ_some, evResults, tup_one, tup_two, tup_three, fillT, load_same, load_ne, store_same, store_ne, AV.cells, allOne, one_int, one_bool, one_ptr, one_nil, one_slice, List.length_cons, List.length_nil, Nat.zero_add, Nat.reduceAdd, beqD, bleD, Nat.reduceLeDiff, Nat.le_refl, decide_true, decide_false, Bool.and_self, Bool.and_true, Bool.true_and, List.take_zero, List.take_succ_cons, List.drop_succ_cons, List.drop_zero, List.nil_append, List.append_nil, List.cons_append, List.getElem?_cons_zero, List.getElem?_cons_succ, agg3, agg4, agg22, agg25, size3, size4, size22, size51, alloc51, fieldAddr24, fieldAddr51, bin_lss, bin_leq, bin_gtr, bin_geq, bin_eql, bin_neq, bin_neqb, un_not, List.getElem?_toArray, ne_eq, not_false_eq_true, evParts, build25, build26, ok5, ok6, ok7, ok8, ok9, ok10, ok13, ok14, ok15, ok16, ok17, ok19, ok20, ok34, ok35, ok36, ok37, ok38, ok39, ok44, ok45, ok60, load_same_agg, agg24, size24, evExtract, agg51, opd_neg1, hb2, hb1, makeMap_eq, hidx, f0, hn21, hkey, agg26, hins]
  have hM0 : 0 < nIn S := nIn_pos S
  have hM8 : nIn S ≤ 8 := Nat.pow_le_pow_right (by omega) (show S.ins.length ≤ 3 by omega)
  have hres : ∀ (what K : Int) (tv : AV) (G : T AObj) (M : Nat), Old n g G → n ≤ M → WideSaid S (n + 1) M G k what K tv → tv.one = true → (∃ what' K' tv', AV.agg [.int .i64 what, .int .i64 K, tv] = .agg [.int .i64 what', .int .i64 K', tv'] ∧ WideSaid S (n + 1) M G k what' K' tv' ∧ tv'.one = true) ∧ Old n g G ∧ n ≤ M :=
    fun what K tv G M h1 h2 h3 h4 => ⟨⟨what, K, tv, rfl, h3, h4⟩, h1, h2⟩
  refine e_loop (fun q s => ∃ i m : Nat, ∃ tm : T AV, ∃ h : T AObj, ∃ lv : AV, ∃ av : List AV, s = ⟨tm, h, m, []⟩ ∧ i + q = 256 ∧ i ≤ (lst S (i * nIn S)).length ∧ n2 + 2 ≤ m ∧ Old n g h ∧ h.get n = some (.cells 3 [.int .i64 0, .int .i64 0, .nilSlice]) ∧
    WideMem S (n + 1) (n2 + 1) h m lv av (lst S (i * nIn S)) ∧ (∀ q, q < i * nIn S → badAt S q = false) ∧
    tm.get 0 = some (.ptr c 0) ∧ tm.get 1 = some (.int .i64 k) ∧ tm.get 4 = some (.ptr n 0) ∧ tm.get 5 = some lv ∧ tm.get 6 = some (.map (n2 + 1)) ∧ tm.get 7 = some (.int .i64 (i : Int))) 256 (by omega) ?_ ?_
  · refine ⟨0, n2 + 2, _, _, .slice n2 0 1 (some 1) 4, [sv], rfl, by omega, by omega, by omega, ?_, ?_, ?_, ?_, ?_, ?_, ?_, ?_, ?_, ?_⟩
    · exact (((o1.trans (by omega) o2).set (by omega) _).set (by omega) _).set (by omega) _
    · rw [T.get_set, if_neg (by omega), T.get_set, if_neg (by omega), T.get_set, if_neg (by omega), o2 n (by omega), T.get_set, if_pos rfl]
    · rw [Nat.zero_mul]
      refine ⟨⟨n2, some 1, rfl, .inr rfl, by omega, by omega, by omega, ?_, ?_⟩, rfl, ?_, ?_, ?_⟩
      · rw [T.get_set, if_neg (by omega), T.get_set, if_neg (by omega), T.get_set, if_pos rfl]; rfl
      · intro j a ha i o l c s e
        have hj : j = 0 := by have := (List.getElem?_eq_some_iff.1 ha).1; simp at this; omega
        subst hj; simp at ha; subst ha
        have := hrow.id_lt e; omega
      · intro j a x ha hx
        have hj : j = 0 := by have := (List.getElem?_eq_some_iff.1 ha).1; simp at this; omega
        subst hj; simp at ha; subst ha
        simp [lst] at hx; subst hx
        refine hrow.keep (fun id o l c s e => ?_) (by omega)
        have := hrow.id_lt e
        rw [T.get_set, if_neg (by omega), T.get_set, if_neg (by omega), T.get_set, if_neg (by omega)]
      · rw [T.get_set, if_pos rfl]; rfl
      · intro j a ha i o l c s e
        have hj : j = 0 := by have := (List.getElem?_eq_some_iff.1 ha).1; simp at this; omega
        subst hj; simp at ha; subst ha
        have := hrow.id_lt e; omega
    · intro q hq; omega
    all_goals simp [T.get_set]
  clear hHd hkey hins q1 q2 q3 q4 hb1 hb2 hrow2 f0 hidx hn21
  rintro q _ ⟨i, m, tm, h, lv, av, rfl, hiq, hil2, hm, ho, hn, hw, hnb, t0, t1, t4, t5, t6, t7⟩
  have hshort := lst_short hS (i * nIn S) hnl
  have hlv := hw.vis
  have hll := len_run (P := Tryz.prog) (g := h.get) Tryz.underlying100 hlv.len
  by_cases hlt : i < (lst S (i * nIn S)).length
  · have hc : (i : Int) < (((lst S (i * nIn S)).length : Nat) : Int) := by omega
    obtain ⟨x, hx⟩ : ∃ x, (lst S (i * nIn S))[i]? = some x := ⟨_, List.getElem?_eq_getElem hlt⟩
    obtain ⟨a0, ha0⟩ : ∃ a, av[i]? = some a := ⟨_, List.getElem?_eq_getElem (by have := hw.len; omega)⟩
    obtain ⟨a, ia, oa, b1, b2, b3, b4, b5, b6, b7, b8⟩ := hlv.at' i x hx
    have haa : a = a0 := by
      obtain ⟨id, cc, e1, e2, e3, e4, e5, e6, e7⟩ := hw.lv
      have hlr : Row m h lv 4 (lst S (i * nIn S)).length (vrow av (lst S (i * nIn S))) := .inr ⟨id, 0, cc, _, e1, e4, .inl e6, vrow_len hw.len, fun j x hx => by simpa using hx, by rw [vrow_len hw.len, Nat.zero_add]; exact Nat.le_refl _⟩
      obtain ⟨id', o', data, g1, g2, g3, g4⟩ := hlr.at hlt Tryz.underlying100 size99 .i64
      rw [b1] at g1
      cases g1
      have := g4 0 a0 (by omega) (vrow_get ha0 hx 0 a0 (by omega) rfl)
      rw [evLoad_rd g3 agg26, this] at b3
      exact (Option.some.inj b3).symm
    subst haa
    have hsh := bin_shl2 S.ins.length (by omega)
    have hs := bin_succ Tryz.prog 3 i (by omega)
    have c2 : h.get c = some (.cells 8 (v.cells S ++ [bud])) := by rw [ho c hcn]; exact hgc
    have cm : c ≠ m := by omega
    obtain ⟨q1, q2, q3, q4⟩ := chk_load c2
    have fc3 := fieldAddr28 c 3 (by omega)
    have hli := hv.ins.evLen Tryz.underlying25 (P := Tryz.prog)
    simp only [e_seq, e_skip, e_ret, e_exit, e_block, e_region, e_cond, condQ_true, condQ_false, seqK_normal, seqK_ret, seqK_exit, loopK_normal, loopK_ret, loopK_exit, drawK_eq, blockQ_normal, blockQ_ret, blockQ_same, blockQ_other, steps_cons, steps_done, fits_some, blt_lt, pre_plain, pre_guardQ, guardV_some, guardQ_tt, guardQ_ff, guardQ_tf, guardQ_ft, guardQ_skip, List.getElem?_toArray, List.getElem?_cons_zero, List.getElem?_cons_succ, fits_none, evOp, evCall, evOpds, evBuiltin, opd_tmp, opd_int, opd_bool, opd_nil, ov_some, ove_some, oe_some, ose_some, after_val, after_skip, after_call, callQ_some, stepK_eq, opd_func,  putT_some, putT_none, effT_none, next_none, effT_new, effT_wr, effT_mv, next_new, next_wr, next_mv, Nat.reduceLT, Nat.reduceBEq, true_and, and_true, reduceIte, Nat.reduceEqDiff, eq_self, T.get_set, cond_true, cond_false, endR_ret, resQ_some, evResults, tup_one, tup_two, tup_three, fillT, load_same, load_ne, store_same, store_ne, AV.cells, allOne, one_int, one_bool, one_ptr, one_nil, one_slice, List.length_cons, List.length_nil, Nat.zero_add, Nat.reduceAdd, beqD, bleD, Nat.reduceLeDiff, Nat.le_refl, decide_true, decide_false, Bool.and_self, Bool.and_true, Bool.true_and, List.take_zero, List.take_succ_cons, List.drop_succ_cons, List.drop_zero, List.nil_append, List.append_nil, List.cons_append, List.getElem?_cons_zero, List.getElem?_cons_succ, agg3, agg4, agg22, agg25, size3, size4, size22, size51, alloc51, fieldAddr24, fieldAddr51, bin_lss, bin_leq, bin_gtr, bin_geq, bin_eql, bin_neq, bin_neqb, un_not, List.getElem?_toArray, ne_eq, not_false_eq_true, evParts, build25, build26, ok5, ok6, ok7, ok8, ok9, ok10, ok13, ok14, ok15, ok16, ok17, ok19, ok20, ok34, ok35, ok36, ok37, ok38, ok39, ok44, ok45, ok60, load_same_agg, agg24, size24, evExtract, agg51, t0, t1, t4, t5, t6, t7, hll, hc, b1, b7, alloc99, size99, b8.one, nilCheck_ptr, fieldAddr55, fc3, cm, q3, hli, hsh]
    have hH : ∃ H, H = T.set (.cells 4 [a, .int .i64 x.frm, .int .i64 (x.inp : Int), .int .i64 (x.tick : Int)]) (T.set (.cells 4 [.nilSlice, .int .i64 0, .int .i64 0, .int .i64 0]) h m) m := ⟨_, rfl⟩
    obtain ⟨H, hHd⟩ := hH
    have hHo : Old m h H := by rw [hHd]; exact ((Old.refl _ _).set (Nat.le_refl _) _).set (Nat.le_refl _) _
    have hHm : H.get m = some (.cells 4 (vcells a x)) := by rw [hHd, T.get_set, if_pos rfl]; rfl
    rw [← hHd]
    clear hHd q1 q2 q3 q4
    have hw1 : WideMem S (n + 1) (n2 + 1) H (m + 1) lv av (lst S (i * nIn S + 0)) := hw.old (by omega) hHo (by omega)
    have hlvm : notOf lv m := by
      obtain ⟨id, cc, e1, _, _, e4, _⟩ := hw.lv
      rw [e1]; simp only [notOf]; omega
    refine e_loop (fun q' s => ∃ j m' : Nat, ∃ tm : T AV, ∃ h' : T AObj, ∃ lv : AV, ∃ av : List AV, s = ⟨tm, h', m', []⟩ ∧ j + q' = nIn S ∧ m + 1 ≤ m' ∧ Old n g h' ∧ h'.get n = some (.cells 3 [.int .i64 0, .int .i64 0, .nilSlice]) ∧ h'.get m = some (.cells 4 (vcells a x)) ∧
      WideMem S (n + 1) (n2 + 1) h' m' lv av (lst S (i * nIn S + j)) ∧ av[i]? = some a ∧ notOf lv m ∧ (∀ q, q < i * nIn S + j → badAt S q = false) ∧
      tm.get 0 = some (.ptr c 0) ∧ tm.get 1 = some (.int .i64 k) ∧ tm.get 4 = some (.ptr n 0) ∧ tm.get 5 = some lv ∧ tm.get 6 = some (.map (n2 + 1)) ∧ tm.get 7 = some (.int .i64 (i : Int)) ∧ tm.get 8 = some (.ptr m 0) ∧
      tm.get 45 = some (.int .i64 ((nIn S : Nat) : Int)) ∧ tm.get 46 = some (.int .i64 (j : Int))) (nIn S) (by omega) ?_ ?_
    · refine ⟨0, m + 1, _, _, lv, av, rfl, by omega, by omega, ho.trans (by omega) hHo, by rw [hHo n (by omega)]; exact hn, hHm, hw1, ha0, hlvm, by simpa using hnb, ?_, ?_, ?_, ?_, ?_, ?_, ?_, ?_, ?_⟩
      all_goals (try simp [T.get_set, t0, t1, t4, t5, t6, t7])
      rfl
    clear t0 t1 t4 t5 t6 t7 hw1 hHm hHo hll hlv hw hnb hn ho b1 b2 b3 b4 b5 b6 b7 ha0 hlvm c2
    rintro q' _ ⟨j, m', tm, h', lv, av, rfl, hjq, hm', ho, hn, hvo, hw, hai, hlvm, hnb, t0, t1, t4, t5, t6, t7, t8, t45, t46⟩
    by_cases hj : j < nIn S
    · obtain ⟨hdiv, hmod⟩ := divM (i := i) hj
      have hcj : (j : Int) < ((nIn S : Nat) : Int) := by omega
      have hxp : (lst S (i * nIn S + j))[i]? = some x := lst_keep (Nat.le_add_right _ _) hx
      have ok := lstOk hS (i * nIn S + j)
      have hxl : x.st.length = S.now.length := ok.len x (List.mem_of_getElem? hxp)
      have hsj := bin_succ Tryz.prog 3 j (by omega)
      have cc : h'.get c = some (.cells 8 (v.cells S ++ [bud])) := by rw [ho c hcn]; exact hgc
      simp only [e_seq, e_skip, e_ret, e_exit, e_block, e_region, e_cond, condQ_true, condQ_false, seqK_normal, seqK_ret, seqK_exit, loopK_normal, loopK_ret, loopK_exit, drawK_eq, blockQ_normal, blockQ_ret, blockQ_same, blockQ_other, steps_cons, steps_done, fits_some, blt_lt, pre_plain, pre_guardQ, guardV_some, guardQ_tt, guardQ_ff, guardQ_tf, guardQ_ft, guardQ_skip, List.getElem?_toArray, List.getElem?_cons_zero, List.getElem?_cons_succ, fits_none, evOp, evCall, evOpds, evBuiltin, opd_tmp, opd_int, opd_bool, opd_nil, ov_some, ove_some, oe_some, ose_some, after_val, after_skip, after_call, callQ_some, stepK_eq, opd_func,  putT_some, putT_none, effT_none, next_none, effT_new, effT_wr, effT_mv, next_new, next_wr, next_mv, Nat.reduceLT, Nat.reduceBEq, true_and, and_true, reduceIte, Nat.reduceEqDiff, eq_self, T.get_set, cond_true, cond_false, endR_ret, resQ_some, evResults, tup_one, tup_two, tup_three, fillT, load_same, load_ne, store_same, store_ne, AV.cells, allOne, one_int, one_bool, one_ptr, one_nil, one_slice, List.length_cons, List.length_nil, Nat.zero_add, Nat.reduceAdd, beqD, bleD, Nat.reduceLeDiff, Nat.le_refl, decide_true, decide_false, Bool.and_self, Bool.and_true, Bool.true_and, List.take_zero, List.take_succ_cons, List.drop_succ_cons, List.drop_zero, List.nil_append, List.append_nil, List.cons_append, List.getElem?_cons_zero, List.getElem?_cons_succ, agg3, agg4, agg22, agg25, size3, size4, size22, size51, alloc51, fieldAddr24, fieldAddr51, bin_lss, bin_leq, bin_gtr, bin_geq, bin_eql, bin_neq, bin_neqb, un_not, List.getElem?_toArray, ne_eq, not_false_eq_true, evParts, build25, build26, ok5, ok6, ok7, ok8, ok9, ok10, ok13, ok14, ok15, ok16, ok17, ok19, ok20, ok34, ok35, ok36, ok37, ok38, ok39, ok44, ok45, ok60, load_same_agg, agg24, size24, evExtract, agg51, t0, t1, t4, t5, t6, t7, t8, t45, t46, hcj]
      refine callQ_gives (input_gives (hv.old (n' := m') ho (by omega)) (by omega) cc hil (by omega) (by omega)) ?_
      rintro _ g5 n5 ⟨⟨lv5, tv5, rfl, hb5, _⟩, o5, l5⟩
      have O5 : Old n g g5 := ho.trans (by omega) o5
      have cc5 : g5.get c = some (.cells 8 (v.cells S ++ [bud])) := by rw [O5 c hcn]; exact hgc
      have vo5 : g5.get m = some (.cells 4 (vcells a x)) := by rw [o5 m (by omega)]; exact hvo
      obtain ⟨q1, q2, q3, q4⟩ := chk_load cc5
      obtain ⟨u1, u2⟩ := vo_load vo5
      have fm0 := fieldAddr99 m 0 0 (by omega)
      have fm3 := fieldAddr99 m 0 3 (by omega)
      simp only [e_seq, e_skip, e_ret, e_exit, e_block, e_region, e_cond, condQ_true, condQ_false, seqK_normal, seqK_ret, seqK_exit, loopK_normal, loopK_ret, loopK_exit, drawK_eq, blockQ_normal, blockQ_ret, blockQ_same, blockQ_other, steps_cons, steps_done, fits_some, blt_lt, pre_plain, pre_guardQ, guardV_some, guardQ_tt, guardQ_ff, guardQ_tf, guardQ_ft, guardQ_skip, List.getElem?_toArray, List.getElem?_cons_zero, List.getElem?_cons_succ, fits_none, evOp, evCall, evOpds, evBuiltin, opd_tmp, opd_int, opd_bool, opd_nil, ov_some, ove_some, oe_some, ose_some, after_val, after_skip, after_call, callQ_some, stepK_eq, opd_func,  putT_some, putT_none, effT_none, next_none, effT_new, effT_wr, effT_mv, next_new, next_wr, next_mv, Nat.reduceLT, Nat.reduceBEq, true_and, and_true, reduceIte, Nat.reduceEqDiff, eq_self, T.get_set, cond_true, cond_false, endR_ret, resQ_some, evResults, tup_one, tup_two, tup_three, fillT, load_same, load_ne, store_same, store_ne, AV.cells, allOne, one_int, one_bool, one_ptr, one_nil, one_slice, List.length_cons, List.length_nil, Nat.zero_add, Nat.reduceAdd, beqD, bleD, Nat.reduceLeDiff, Nat.le_refl, decide_true, decide_false, Bool.and_self, Bool.and_true, Bool.true_and, List.take_zero, List.take_succ_cons, List.drop_succ_cons, List.drop_zero, List.nil_append, List.append_nil, List.cons_append, List.getElem?_cons_zero, List.getElem?_cons_succ, agg3, agg4, agg22, agg25, size3, size4, size22, size51, alloc51, fieldAddr24, fieldAddr51, bin_lss, bin_leq, bin_gtr, bin_geq, bin_eql, bin_neq, bin_neqb, un_not, List.getElem?_toArray, ne_eq, not_false_eq_true, evParts, build25, build26, ok5, ok6, ok7, ok8, ok9, ok10, ok13, ok14, ok15, ok16, ok17, ok19, ok20, ok34, ok35, ok36, ok37, ok38, ok39, ok44, ok45, ok60, load_same_agg, agg24, size24, evExtract, agg51, t0, t1, t4, t5, t6, t7, t8, t45, t46]
      refine (e_draw (bs := [0, 1, 3, 7, 0, 16, 0, 127, 255, 511, 511, 511, 1023, 6143, 16383]) (perm := [0, 1, 2, 3, 4, 5, 6, 7, 8, 9, 10, 11, 12, 13, 14]) (planIs_eq (by decide +kernel))).2 ?_
      simp only [e_seq, e_skip, e_ret, e_exit, e_block, e_region, e_cond, condQ_true, condQ_false, seqK_normal, seqK_ret, seqK_exit, loopK_normal, loopK_ret, loopK_exit, drawK_eq, blockQ_normal, blockQ_ret, blockQ_same, blockQ_other, steps_cons, steps_done, fits_some, blt_lt, pre_plain, pre_guardQ, guardV_some, guardQ_tt, guardQ_ff, guardQ_tf, guardQ_ft, guardQ_skip, List.getElem?_toArray, List.getElem?_cons_zero, List.getElem?_cons_succ, fits_none, evOp, evCall, evOpds, evBuiltin, opd_tmp, opd_int, opd_bool, opd_nil, ov_some, ove_some, oe_some, ose_some, after_val, after_skip, after_call, callQ_some, stepK_eq, opd_func,  putT_some, putT_none, effT_none, next_none, effT_new, effT_wr, effT_mv, next_new, next_wr, next_mv, Nat.reduceLT, Nat.reduceBEq, true_and, and_true, reduceIte, Nat.reduceEqDiff, eq_self, T.get_set, cond_true, cond_false, endR_ret, resQ_some, evResults, tup_one, tup_two, tup_three, fillT, d_step, drawAt_eq, afterD_some, d_nil, List.getD_cons_zero, List.getD_cons_succ, List.getElem?_toArray, List.getElem?_cons_succ, List.getElem?_cons_zero, looks_plain, looks_guard, Option.bind_some, Option.toList_some, Op.operands, Call.operands, tmpsOf, restrict, idsOf_cons, idsOf_nil, idsT_some, idsV_ptr, idsV_slice, idsV_map, idsV_nil, idsV_int, idsV_bool, idsV_agg, idsV_tuple, idsV_func, addrOf, memN, load_pre, store_pre, delAll, List.append_nil, beq_selfN, beqD, T.get_lf, Bool.not_false, Bool.not_true, decide_true, decide_false, drawOut_eq, drawOut_val, drawOut_skip, drawOut_call, drawCall_some, drawCall2_call, callD_eq, stayed, putBack, Array.toList_append, List.append_toArray, List.map_cons, List.map_nil, okSimple, hides, wOf, disj, disj_one, memN_app, eq_add_pos, add_pos_eq, Bool.or_false, Bool.false_or, Bool.or_true, Bool.or_self, tmpsApart, List.append_nil, List.nil_append, List.cons_append, Nat.testBit, Nat.reduceShiftRight, Nat.reduceAnd, Nat.reduceBNe, Option.isNone_none, Option.isNone_some, Bool.and_self, Bool.and_true, Bool.true_and, Nat.reduceAdd, load_same, load_ne, store_same, store_ne, AV.cells, allOne, one_int, one_bool, one_ptr, one_nil, one_slice, List.length_cons, List.length_nil, Nat.zero_add, Nat.reduceAdd, beqD, bleD, Nat.reduceLeDiff, Nat.le_refl, decide_true, decide_false, Bool.and_self, Bool.and_true, Bool.true_and, List.take_zero, List.take_succ_cons, List.drop_succ_cons, List.drop_zero, List.nil_append, List.append_nil, List.cons_append, List.getElem?_cons_zero, List.getElem?_cons_succ, agg3, agg4, agg22, agg25, size3, size4, size22, size51, alloc51, fieldAddr24, fieldAddr51, bin_lss, bin_leq, bin_gtr, bin_geq, bin_eql, bin_neq, bin_neqb, un_not, List.getElem?_toArray, ne_eq, not_false_eq_true, evParts, build25, build26, ok5, ok6, ok7, ok8, ok9, ok10, ok13, ok14, ok15, ok16, ok17, ok19, ok20, ok34, ok35, ok36, ok37, ok38, ok39, ok44, ok45, ok60, load_same_agg, agg24, size24, evExtract, agg51, t0, t1, t4, t5, t6, t7, t8, t45, t46, nilCheck_ptr, fieldAddr55, q4, fm0, u1, Nat.add_assoc]
      have ra : Row (n5 + 7) g5 a 1 x.st.length (bools x.st) := (hw.rows i a x hai hxp).old o5 (by omega)
      have hbl : (bitsB j S.ins.length).length = S.ins.length := bitsB_length _ _
      have rb : Row (n5 + 7) g5 lv5 1 (bitsB j S.ins.length).length (bools (bitsB j S.ins.length)) := by rw [hbl]; exact hb5.row.old (Old.refl _ _) (by omega)
      refine callQ_gives (step_gives hS (hv.old (n' := n5 + 7) O5 (by omega)) ra rb hxl hbl hf hg hnl hil) ?_
      rintro _ g6 n6 ⟨⟨ov, rfl, hov, hovn⟩, o6, l6⟩
      change Row n6 g6 ov 1 S.next.length (bools (stp S x j).1) at hov
      have O6 : Old n g g6 := O5.trans (by omega) o6
      have cc6 : g6.get c = some (.cells 8 (v.cells S ++ [bud])) := by rw [O6 c hcn]; exact hgc
      have vo6 : g6.get m = some (.cells 4 (vcells a x)) := by rw [o6 m (by omega)]; exact vo5
      have hn6 : g6.get n = some (.cells 3 [.int .i64 0, .int .i64 0, .nilSlice]) := by rw [o6 n (by omega), o5 n (by omega)]; exact hn
      have hw6 : WideMem S (n + 1) (n2 + 1) g6 n6 lv av (lst S (i * nIn S + j)) := hw.old (by omega) ((o5.trans (Nat.le_refl _) (o6.less (by omega)))) (by omega)
      obtain ⟨w1, w2⟩ := vo_load vo6
      clear q1 q2 q3 q4 u1 u2
      obtain ⟨q1, q2, q3, q4⟩ := chk_load cc6
      have hstl : (stp S x j).1.length = S.next.length := by simp [stp, stepB]
      have hbad := badAt_eq hdiv hmod hxp
      have hsuc := lst_succ (S := S) hdiv hmod
      have fin : ∀ (G : T AObj) (M : Nat) (tm : T AV) (lv' : AV) (av' : List AV), m + 1 ≤ M → Old n g G → G.get n = some (.cells 3 [.int .i64 0, .int .i64 0, .nilSlice]) → G.get m = some (.cells 4 (vcells a x)) → WideMem S (n + 1) (n2 + 1) G M lv' av' (lst S (i * nIn S + j + 1)) → av'[i]? = some a → notOf lv' m → badAt S (i * nIn S + j) = false →
          tm.get 0 = some (.ptr c 0) → tm.get 1 = some (.int .i64 k) → tm.get 4 = some (.ptr n 0) → tm.get 5 = some lv' → tm.get 6 = some (.map (n2 + 1)) → tm.get 7 = some (.int .i64 (i : Int)) → tm.get 8 = some (.ptr m 0) → tm.get 45 = some (.int .i64 ((nIn S : Nat) : Int)) → tm.get 46 = some (.int .i64 ((j + 1 : Nat) : Int)) →
          ∃ q'', q'' < q' ∧ ∃ j m' : Nat, ∃ tm' : T AV, ∃ h' : T AObj, ∃ lv : AV, ∃ av : List AV, (⟨tm, G, M, []⟩ : St) = ⟨tm', h', m', []⟩ ∧ j + q'' = nIn S ∧ m + 1 ≤ m' ∧ Old n g h' ∧ h'.get n = some (.cells 3 [.int .i64 0, .int .i64 0, .nilSlice]) ∧ h'.get m = some (.cells 4 (vcells a x)) ∧
            WideMem S (n + 1) (n2 + 1) h' m' lv av (lst S (i * nIn S + j)) ∧ av[i]? = some a ∧ notOf lv m ∧ (∀ q, q < i * nIn S + j → badAt S q = false) ∧
            tm'.get 0 = some (.ptr c 0) ∧ tm'.get 1 = some (.int .i64 k) ∧ tm'.get 4 = some (.ptr n 0) ∧ tm'.get 5 = some lv ∧ tm'.get 6 = some (.map (n2 + 1)) ∧ tm'.get 7 = some (.int .i64 (i : Int)) ∧ tm'.get 8 = some (.ptr m 0) ∧
            tm'.get 45 = some (.int .i64 ((nIn S : Nat) : Int)) ∧ tm'.get 46 = some (.int .i64 (j : Int)) := by
        intro G M tm lv' av' e1 e2 e3 e4 e5 e6 e7 e8 f1 f2 f3 f4 f5 f6 f7 f8 f9
        refine ⟨q' - 1, by omega, j + 1, M, tm, G, lv', av', rfl, by omega, e1, e2, e3, e4, e5, e6, e7, fun q hq => ?_, f1, f2, f3, f4, f5, f6, f7, f8, f9⟩
        by_cases hq2 : q = i * nIn S + j
        · rw [hq2]; exact e8
        · exact hnb q (by omega)
      have or6 : Old n6 g6 g6 := Old.refl _ _
      have z10 : ((1 : Int) == 0) = false := rfl
      have z00 : ((0 : Int) == 0) = true := rfl
      rcases bt ((stp S x j).2.2) with za | za <;> (have za' := za; unfold stp at za')
      · rcases bt ((stp S x j).2.1) with zo | zo <;> (have zo' := zo; unfold stp at zo')
        · -- all is well
          have hb0 : badAt S (i * nIn S + j) = false := by rw [hbad, za, zo]; rfl
          have hkey := fun (G : T AObj) (M : Nat) (hG : Old n6 g6 G) (hM : n6 ≤ M) => key_row (fuel := fuel) (d := d + 1) (n := M) (v := ov) (bs := (stp S x j).1) (g := G) (by rw [hstl]; exact hov.old hG hM) (by rw [hstl, hS.next]; omega) (by omega)
          by_cases hin : ∃ y ∈ lst S (i * nIn S + j), y.st = (stp S x j).1
          · have hmem : ((keyN (stp S x j).1 : Nat) : Int) ∈ keysOf (lst S (i * nIn S + j)) := (keys_mem ok.len (by rw [hstl, hS.next])).2 hin
            have hlk := lookup_in hmem hw6.map
            have hgr : lst S (i * nIn S + j + 1) = lst S (i * nIn S + j) := by rw [hsuc]; exact grow_not hxp (.inr hin)
            simp only [e_seq, e_skip, e_ret, e_exit, e_block, e_region, e_cond, condQ_true, condQ_false, seqK_normal, seqK_ret, seqK_exit, loopK_normal, loopK_ret, loopK_exit, drawK_eq, blockQ_normal, blockQ_ret, blockQ_same, blockQ_other, steps_cons, steps_done, fits_some, blt_lt, pre_plain, pre_guardQ, guardV_some, guardQ_tt, guardQ_ff, guardQ_tf, guardQ_ft, guardQ_skip, List.getElem?_toArray, List.getElem?_cons_zero, List.getElem?_cons_succ, fits_none, evOp, evCall, evOpds, evBuiltin, opd_tmp, opd_int, opd_bool, opd_nil, ov_some, ove_some, oe_some, ose_some, after_val, after_skip, after_call, callQ_some, stepK_eq, opd_func,  putT_some, putT_none, effT_none, next_none, effT_new, effT_wr, effT_mv, next_new, next_wr, next_mv, Nat.reduceLT, Nat.reduceBEq, true_and, and_true, reduceIte, Nat.reduceEqDiff, eq_self, T.get_set, cond_true, cond_false, endR_ret, resQ_some, evResults, tup_one, tup_two, tup_three, fillT, d_step, drawAt_eq, afterD_some, d_nil, List.getD_cons_zero, List.getD_cons_succ, List.getElem?_toArray, List.getElem?_cons_succ, List.getElem?_cons_zero, looks_plain, looks_guard, Option.bind_some, Option.toList_some, Op.operands, Call.operands, tmpsOf, restrict, idsOf_cons, idsOf_nil, idsT_some, idsV_ptr, idsV_slice, idsV_map, idsV_nil, idsV_int, idsV_bool, idsV_agg, idsV_tuple, idsV_func, addrOf, memN, load_pre, store_pre, delAll, List.append_nil, beq_selfN, beqD, T.get_lf, Bool.not_false, Bool.not_true, decide_true, decide_false, drawOut_eq, drawOut_val, drawOut_skip, drawOut_call, drawCall_some, drawCall2_call, callD_eq, stayed, putBack, Array.toList_append, List.append_toArray, List.map_cons, List.map_nil, okSimple, hides, wOf, disj, disj_one, memN_app, eq_add_pos, add_pos_eq, Bool.or_false, Bool.false_or, Bool.or_true, Bool.or_self, tmpsApart, List.append_nil, List.nil_append, List.cons_append, Nat.testBit, Nat.reduceShiftRight, Nat.reduceAnd, Nat.reduceBNe, Option.isNone_none, Option.isNone_some, Bool.and_self, Bool.and_true, Bool.true_and, Nat.reduceAdd, load_same, load_ne, store_same, store_ne, AV.cells, allOne, one_int, one_bool, one_ptr, one_nil, one_slice, List.length_cons, List.length_nil, Nat.zero_add, Nat.reduceAdd, beqD, bleD, Nat.reduceLeDiff, Nat.le_refl, decide_true, decide_false, Bool.and_self, Bool.and_true, Bool.true_and, List.take_zero, List.take_succ_cons, List.drop_succ_cons, List.drop_zero, List.nil_append, List.append_nil, List.cons_append, List.getElem?_cons_zero, List.getElem?_cons_succ, agg3, agg4, agg22, agg25, size3, size4, size22, size51, alloc51, fieldAddr24, fieldAddr51, bin_lss, bin_leq, bin_gtr, bin_geq, bin_eql, bin_neq, bin_neqb, un_not, List.getElem?_toArray, ne_eq, not_false_eq_true, evParts, build25, build26, ok5, ok6, ok7, ok8, ok9, ok10, ok13, ok14, ok15, ok16, ok17, ok19, ok20, ok34, ok35, ok36, ok37, ok38, ok39, ok44, ok45, ok60, load_same_agg, agg24, size24, evExtract, agg51, t0, t1, t4, t5, t6, t7, t8, t45, t46, callD_eq, za', zo', or6, Nat.le_add_right, Nat.add_assoc, Bool.not_true, Bool.not_false, hkey, hlk, hsj, z10]
            refine fin _ _ _ lv av ?_ O6 hn6 vo6 ?_ hai hlvm hb0 ?_ ?_ ?_ ?_ ?_ ?_ ?_ ?_ ?_
            · omega
            · rw [hgr]; exact hw6.old (by omega) (Old.refl _ _) (by omega)
            all_goals simp [T.get_set, t0, t1, t4, t5, t6, t7, t8, t45, t46]
          · have hnmem : ((keyN (stp S x j).1 : Nat) : Int) ∉ keysOf (lst S (i * nIn S + j)) := fun hm => hin ((keys_mem ok.len (by rw [hstl, hS.next])).1 hm)
            have hnew : ∀ y ∈ lst S (i * nIn S + j), y.st ≠ (stp S x j).1 := fun y hy e => hin ⟨y, hy, e⟩
            have hlk := lookup_not hnmem hw6.map
            have hup := update_not hnmem hw6.map
            have hgr : lst S (i * nIn S + j + 1) = lst S (i * nIn S + j) ++ [⟨(stp S x j).1, (i : Int), j, x.tick + 1⟩] := by rw [hsuc]; exact grow_yes hxp za hnew
            have hLs := lst_short hS (i * nIn S + j) hnl
            have htk : x.tick < 1000 := by
              have h1 := (path_runs ok (Nat.lt_succ_self i) hxp).2
              have h2 := backOf_len ok.frm (Nat.lt_succ_self i)
              omega
            have hts := bin_succ Tryz.prog 3 x.tick (by omega)
            have hoc := len_cells hov.lenIs
            have hb99 := build99 (a := ov) (i : Int) (j : Int) ((x.tick + 1 : Nat) : Int) hoc
            have hb100 := fun M => build100 M (a := ov) (i : Int) (j : Int) ((x.tick + 1 : Nat) : Int) hov.one
            have msm : m ≠ n2 + 1 := by omega
            obtain ⟨lid, lc, rfl, hlc, hl1, hl2, hl3, hl4, hl5⟩ := hw.lv
            have hl4' : g6.get lid = some (.cells 4 (vrow av (lst S (i * nIn S + j)))) := by rw [o6 lid (by omega), o5 lid hl2]; exact hl4
            have hap := app_full elem100 (g := T.set (.cells 4 [ov, .int .i64 (i : Int), .int .i64 (j : Int), .int .i64 ((x.tick + 1 : Nat) : Int)]) (T.set (seenMap (keysOf (lst S (i * nIn S + j)) ++ [((keyN (stp S x j).1 : Nat) : Int)])) g6 (n2 + 1)) (n6 + 8)) (n := n6 + 9) (id := lid) (len := (lst S (i * nIn S + j)).length) (c := lc)
              (cs := vrow av (lst S (i * nIn S + j))) (xs := [ov, .int .i64 (i : Int), .int .i64 (j : Int), .int .i64 ((x.tick + 1 : Nat) : Int)]) (mx := n6 + 8) (k := 1) (off := 0) (cap := some 1) (data := [ov, .int .i64 (i : Int), .int .i64 (j : Int), .int .i64 ((x.tick + 1 : Nat) : Int)])
              hlc (by rw [T.get_set, if_neg (by omega), T.get_set, if_neg hl3]; exact hl4') (vrow_len hw.len) (by rw [T.get_set, if_pos rfl]) (by simp) (by simp) (by omega) (by omega)
            obtain ⟨rd, ef, p1, p2, p3, p4, p5⟩ := hap
            have hmid : m ≠ lid := by simpa [notOf] using hlvm
            have G0 : ∀ z, z ≠ n6 + 9 → z ≠ lid → z ≠ n6 + 8 → z ≠ n2 + 1 → (effT ef (T.set (.cells 4 [ov, .int .i64 (i : Int), .int .i64 (j : Int), .int .i64 ((x.tick + 1 : Nat) : Int)]) (T.set (seenMap (keysOf (lst S (i * nIn S + j)) ++ [((keyN (stp S x j).1 : Nat) : Int)])) g6 (n2 + 1)) (n6 + 8)) (n6 + 9)).get z = g6.get z :=
              fun z z1 z2 z3 z4 => by rw [p5 z z1 z2, T.get_set, if_neg z3, T.get_set, if_neg z4]
            simp only [e_seq, e_skip, e_ret, e_exit, e_block, e_region, e_cond, condQ_true, condQ_false, seqK_normal, seqK_ret, seqK_exit, loopK_normal, loopK_ret, loopK_exit, drawK_eq, blockQ_normal, blockQ_ret, blockQ_same, blockQ_other, steps_cons, steps_done, fits_some, blt_lt, pre_plain, pre_guardQ, guardV_some, guardQ_tt, guardQ_ff, guardQ_tf, guardQ_ft, guardQ_skip, List.getElem?_toArray, List.getElem?_cons_zero, List.getElem?_cons_succ, fits_none, evOp, evCall, evOpds, evBuiltin, opd_tmp, opd_int, opd_bool, opd_nil, ov_some, ove_some, oe_some, ose_some, after_val, after_skip, after_call, callQ_some, stepK_eq, opd_func,  putT_some, putT_none, effT_none, next_none, effT_new, effT_wr, effT_mv, next_new, next_wr, next_mv, Nat.reduceLT, Nat.reduceBEq, true_and, and_true, reduceIte, Nat.reduceEqDiff, eq_self, T.get_set, cond_true, cond_false, endR_ret, resQ_some, evResults, tup_one, tup_two, tup_three, fillT, d_step, drawAt_eq, afterD_some, d_nil, List.getD_cons_zero, List.getD_cons_succ, List.getElem?_toArray, List.getElem?_cons_succ, List.getElem?_cons_zero, looks_plain, looks_guard, Option.bind_some, Option.toList_some, Op.operands, Call.operands, tmpsOf, restrict, idsOf_cons, idsOf_nil, idsT_some, idsV_ptr, idsV_slice, idsV_map, idsV_nil, idsV_int, idsV_bool, idsV_agg, idsV_tuple, idsV_func, addrOf, memN, load_pre, store_pre, delAll, List.append_nil, beq_selfN, beqD, T.get_lf, Bool.not_false, Bool.not_true, decide_true, decide_false, drawOut_eq, drawOut_val, drawOut_skip, drawOut_call, drawCall_some, drawCall2_call, callD_eq, stayed, putBack, Array.toList_append, List.append_toArray, List.map_cons, List.map_nil, okSimple, hides, wOf, disj, disj_one, memN_app, eq_add_pos, add_pos_eq, Bool.or_false, Bool.false_or, Bool.or_true, Bool.or_self, tmpsApart, List.append_nil, List.nil_append, List.cons_append, Nat.testBit, Nat.reduceShiftRight, Nat.reduceAnd, Nat.reduceBNe, Option.isNone_none, Option.isNone_some, Bool.and_self, Bool.and_true, Bool.true_and, Nat.reduceAdd, load_same, load_ne, store_same, store_ne, AV.cells, allOne, one_int, one_bool, one_ptr, one_nil, one_slice, List.length_cons, List.length_nil, Nat.zero_add, Nat.reduceAdd, beqD, bleD, Nat.reduceLeDiff, Nat.le_refl, decide_true, decide_false, Bool.and_self, Bool.and_true, Bool.true_and, List.take_zero, List.take_succ_cons, List.drop_succ_cons, List.drop_zero, List.nil_append, List.append_nil, List.cons_append, List.getElem?_cons_zero, List.getElem?_cons_succ, agg3, agg4, agg22, agg25, size3, size4, size22, size51, alloc51, fieldAddr24, fieldAddr51, bin_lss, bin_leq, bin_gtr, bin_geq, bin_eql, bin_neq, bin_neqb, un_not, List.getElem?_toArray, ne_eq, not_false_eq_true, evParts, build25, build26, ok5, ok6, ok7, ok8, ok9, ok10, ok13, ok14, ok15, ok16, ok17, ok19, ok20, ok34, ok35, ok36, ok37, ok38, ok39, ok44, ok45, ok60, load_same_agg, agg24, size24, evExtract, agg51, t0, t1, t4, t5, t6, t7, t8, t45, t46, callD_eq, za', zo', or6, Nat.le_add_right, Nat.add_assoc, Bool.not_true, Bool.not_false, hkey, hlk, hsj, z00, hup, fm3, msm, w2, hts, hb99, hb100, p1, p2]
            refine fin _ _ _ (.slice (n6 + 9) 0 ((lst S (i * nIn S + j)).length + 1) none 4) (av ++ [ov]) ?_ ?_ ?_ ?_ ?_ ?_ ?_ hb0 ?_ ?_ ?_ ?_ ?_ ?_ ?_ ?_ ?_
            · omega
            · intro z hz; rw [G0 z (by omega) (by omega) (by omega) (by omega)]; exact O6 z hz
            · rw [G0 n (by omega) (by omega) (by omega) (by omega)]; exact hn6
            · rw [G0 m (by omega) hmid (by omega) msm]; exact vo6
            · rw [hgr]
              refine ⟨⟨n6 + 9, none, ?_, .inl rfl, by omega, by omega, by omega, ?_, ?_⟩, ?_, ?_, ?_, ?_⟩
              · simp
              · rw [p3, vrow_snoc _ _ hw.len]; rfl
              · intro jj a' ha' z o l c' s e
                by_cases hjj : jj < av.length
                · rw [List.getElem?_append_left hjj] at ha'
                  obtain ⟨y, hy⟩ : ∃ y, (lst S (i * nIn S + j))[jj]? = some y := ⟨_, List.getElem?_eq_getElem (by have := hw.len; omega)⟩
                  have := (hw6.rows jj a' y ha' hy).id_lt e
                  omega
                · rw [List.getElem?_append_right (by omega)] at ha'
                  have hj0 : jj - av.length = 0 := by have := (List.getElem?_eq_some_iff.1 ha').1; simp at this; omega
                  rw [hj0] at ha'; simp at ha'; subst ha'
                  have := hov.id_lt e; omega
              · simp [hw.len]
              · intro jj a' y ha' hy
                by_cases hjj : jj < av.length
                · rw [List.getElem?_append_left hjj] at ha'
                  rw [List.getElem?_append_left (by have := hw.len; omega)] at hy
                  have hr := hw6.rows jj a' y ha' hy
                  refine hr.keep (fun z o l c' s e => ?_) (by omega)
                  have h1 := hr.id_lt e
                  exact G0 z (by omega) (hl5 jj a' ha' z o l c' s e) (by omega) (hw.away jj a' ha' z o l c' s e)
                · rw [List.getElem?_append_right (by omega)] at ha'
                  have hj0 : jj - av.length = 0 := by have := (List.getElem?_eq_some_iff.1 ha').1; simp at this; omega
                  rw [List.getElem?_append_right (by have := hw.len; omega)] at hy
                  have hj1 : jj - (lst S (i * nIn S + j)).length = 0 := by have := hw.len; omega
                  rw [hj0] at ha'; rw [hj1] at hy
                  simp at ha' hy; subst ha'; subst hy
                  rw [show (stp S x j).1.length = S.next.length from hstl]
                  refine hov.keep (fun z o l c' s e => ?_) (by omega)
                  have h1 := hov.id_lt e
                  have h2 := hovn z o l c' s e
                  exact G0 z (by omega) (by omega) (by omega) (by omega)
              · rw [p5 (n2 + 1) (by omega) (Ne.symm hl3), T.get_set, if_neg (by omega), T.get_set, if_pos rfl, keys_snoc]
              · intro jj a' ha' z o l c' s e
                by_cases hjj : jj < av.length
                · rw [List.getElem?_append_left hjj] at ha'
                  exact hw.away jj a' ha' z o l c' s e
                · rw [List.getElem?_append_right (by omega)] at ha'
                  have hj0 : jj - av.length = 0 := by have := (List.getElem?_eq_some_iff.1 ha').1; simp at this; omega
                  rw [hj0] at ha'; simp at ha'; subst ha'
                  have := hovn z o l c' s e; omega
            · rw [List.getElem?_append_left (by have := (List.getElem?_eq_some_iff.1 hai).1; omega)]; exact hai
            · simp only [notOf]; omega
            all_goals simp [T.get_set, t0, t1, t4, t5, t6, t7, t8, t45, t46]
        · -- a bad tick
          have hb1 : badAt S (i * nIn S + j) = true := by rw [hbad, za, zo]; rfl
          rcases bt (decide (k < (x.tick : Int))) with zk | zk
          · have hb33 := build33_2 3 k
            have hst := store33 (G := g6.get) (n := n) (x := .int .i64 3) (y := .int .i64 k) (z := .nilSlice) hn6 rfl rfl rfl
            simp only [e_seq, e_skip, e_ret, e_exit, e_block, e_region, e_cond, condQ_true, condQ_false, seqK_normal, seqK_ret, seqK_exit, loopK_normal, loopK_ret, loopK_exit, drawK_eq, blockQ_normal, blockQ_ret, blockQ_same, blockQ_other, steps_cons, steps_done, fits_some, blt_lt, pre_plain, pre_guardQ, guardV_some, guardQ_tt, guardQ_ff, guardQ_tf, guardQ_ft, guardQ_skip, List.getElem?_toArray, List.getElem?_cons_zero, List.getElem?_cons_succ, fits_none, evOp, evCall, evOpds, evBuiltin, opd_tmp, opd_int, opd_bool, opd_nil, ov_some, ove_some, oe_some, ose_some, after_val, after_skip, after_call, callQ_some, stepK_eq, opd_func,  putT_some, putT_none, effT_none, next_none, effT_new, effT_wr, effT_mv, next_new, next_wr, next_mv, Nat.reduceLT, Nat.reduceBEq, true_and, and_true, reduceIte, Nat.reduceEqDiff, eq_self, T.get_set, cond_true, cond_false, endR_ret, resQ_some, evResults, tup_one, tup_two, tup_three, fillT, d_step, drawAt_eq, afterD_some, d_nil, List.getD_cons_zero, List.getD_cons_succ, List.getElem?_toArray, List.getElem?_cons_succ, List.getElem?_cons_zero, looks_plain, looks_guard, Option.bind_some, Option.toList_some, Op.operands, Call.operands, tmpsOf, restrict, idsOf_cons, idsOf_nil, idsT_some, idsV_ptr, idsV_slice, idsV_map, idsV_nil, idsV_int, idsV_bool, idsV_agg, idsV_tuple, idsV_func, addrOf, memN, load_pre, store_pre, delAll, List.append_nil, beq_selfN, beqD, T.get_lf, Bool.not_false, Bool.not_true, decide_true, decide_false, drawOut_eq, drawOut_val, drawOut_skip, drawOut_call, drawCall_some, drawCall2_call, callD_eq, stayed, putBack, Array.toList_append, List.append_toArray, List.map_cons, List.map_nil, okSimple, hides, wOf, disj, disj_one, memN_app, eq_add_pos, add_pos_eq, Bool.or_false, Bool.false_or, Bool.or_true, Bool.or_self, tmpsApart, List.append_nil, List.nil_append, List.cons_append, Nat.testBit, Nat.reduceShiftRight, Nat.reduceAnd, Nat.reduceBNe, Option.isNone_none, Option.isNone_some, Bool.and_self, Bool.and_true, Bool.true_and, Nat.reduceAdd, load_same, load_ne, store_same, store_ne, AV.cells, allOne, one_int, one_bool, one_ptr, one_nil, one_slice, List.length_cons, List.length_nil, Nat.zero_add, Nat.reduceAdd, beqD, bleD, Nat.reduceLeDiff, Nat.le_refl, decide_true, decide_false, Bool.and_self, Bool.and_true, Bool.true_and, List.take_zero, List.take_succ_cons, List.drop_succ_cons, List.drop_zero, List.nil_append, List.append_nil, List.cons_append, List.getElem?_cons_zero, List.getElem?_cons_succ, agg3, agg4, agg22, agg25, size3, size4, size22, size51, alloc51, fieldAddr24, fieldAddr51, bin_lss, bin_leq, bin_gtr, bin_geq, bin_eql, bin_neq, bin_neqb, un_not, List.getElem?_toArray, ne_eq, not_false_eq_true, evParts, build25, build26, ok5, ok6, ok7, ok8, ok9, ok10, ok13, ok14, ok15, ok16, ok17, ok19, ok20, ok34, ok35, ok36, ok37, ok38, ok39, ok44, ok45, ok60, load_same_agg, agg24, size24, evExtract, agg51, t0, t1, t4, t5, t6, t7, t8, t45, t46, callD_eq, za', zo', Nat.add_assoc, Bool.not_true, Bool.not_false, fm3, w2, zk, hb33, hst, agg33, size33]
            refine hres 3 k .nilSlice _ _ (O6.set (Nat.le_refl _) _) (by omega) (.inr (.inl ⟨rfl, rfl, rfl⟩)) rfl
          · have hkt : (x.tick : Int) ≤ k := by simpa using zk
            have hso : sameO (some (.cells 4 (vcells a x))) (some (.cells 4 (vcells a x))) = true := by
              have := (hw6.rows i a x hai hxp).same
              simp [sameO, vcells, AV.sames, AV.same, this]
            simp only [e_seq, e_skip, e_ret, e_exit, e_block, e_region, e_cond, condQ_true, condQ_false, seqK_normal, seqK_ret, seqK_exit, loopK_normal, loopK_ret, loopK_exit, drawK_eq, blockQ_normal, blockQ_ret, blockQ_same, blockQ_other, steps_cons, steps_done, fits_some, blt_lt, pre_plain, pre_guardQ, guardV_some, guardQ_tt, guardQ_ff, guardQ_tf, guardQ_ft, guardQ_skip, List.getElem?_toArray, List.getElem?_cons_zero, List.getElem?_cons_succ, fits_none, evOp, evCall, evOpds, evBuiltin, opd_tmp, opd_int, opd_bool, opd_nil, ov_some, ove_some, oe_some, ose_some, after_val, after_skip, after_call, callQ_some, stepK_eq, opd_func,  putT_some, putT_none, effT_none, next_none, effT_new, effT_wr, effT_mv, next_new, next_wr, next_mv, Nat.reduceLT, Nat.reduceBEq, true_and, and_true, reduceIte, Nat.reduceEqDiff, eq_self, T.get_set, cond_true, cond_false, endR_ret, resQ_some, evResults, tup_one, tup_two, tup_three, fillT, d_step, drawAt_eq, afterD_some, d_nil, List.getD_cons_zero, List.getD_cons_succ, List.getElem?_toArray, List.getElem?_cons_succ, List.getElem?_cons_zero, looks_plain, looks_guard, Option.bind_some, Option.toList_some, Op.operands, Call.operands, tmpsOf, restrict, idsOf_cons, idsOf_nil, idsT_some, idsV_ptr, idsV_slice, idsV_map, idsV_nil, idsV_int, idsV_bool, idsV_agg, idsV_tuple, idsV_func, addrOf, memN, load_pre, store_pre, delAll, List.append_nil, beq_selfN, beqD, T.get_lf, Bool.not_false, Bool.not_true, decide_true, decide_false, drawOut_eq, drawOut_val, drawOut_skip, drawOut_call, drawCall_some, drawCall2_call, callD_eq, stayed, putBack, Array.toList_append, List.append_toArray, List.map_cons, List.map_nil, okSimple, hides, wOf, disj, disj_one, memN_app, eq_add_pos, add_pos_eq, Bool.or_false, Bool.false_or, Bool.or_true, Bool.or_self, tmpsApart, List.append_nil, List.nil_append, List.cons_append, Nat.testBit, Nat.reduceShiftRight, Nat.reduceAnd, Nat.reduceBNe, Option.isNone_none, Option.isNone_some, Bool.and_self, Bool.and_true, Bool.true_and, Nat.reduceAdd, load_same, load_ne, store_same, store_ne, AV.cells, allOne, one_int, one_bool, one_ptr, one_nil, one_slice, List.length_cons, List.length_nil, Nat.zero_add, Nat.reduceAdd, beqD, bleD, Nat.reduceLeDiff, Nat.le_refl, decide_true, decide_false, Bool.and_self, Bool.and_true, Bool.true_and, List.take_zero, List.take_succ_cons, List.drop_succ_cons, List.drop_zero, List.nil_append, List.append_nil, List.cons_append, List.getElem?_cons_zero, List.getElem?_cons_succ, agg3, agg4, agg22, agg25, size3, size4, size22, size51, alloc51, fieldAddr24, fieldAddr51, bin_lss, bin_leq, bin_gtr, bin_geq, bin_eql, bin_neq, bin_neqb, un_not, List.getElem?_toArray, ne_eq, not_false_eq_true, evParts, build25, build26, ok5, ok6, ok7, ok8, ok9, ok10, ok13, ok14, ok15, ok16, ok17, ok19, ok20, ok34, ok35, ok36, ok37, ok38, ok39, ok44, ok45, ok60, load_same_agg, agg24, size24, evExtract, agg51, t0, t1, t4, t5, t6, t7, t8, t45, t46, callD_eq, za', zo', Nat.add_assoc, Bool.not_true, Bool.not_false, fm3, w2, zk]
            refine (e_draw (bs := [0, 1, 0, 0, 0, 0, 60, 127, 255]) (perm := [0, 1, 2, 3, 4, 5, 6, 7, 8]) (planIs_eq (by decide +kernel))).2 ?_
            simp only [e_seq, e_skip, e_ret, e_exit, e_block, e_region, e_cond, condQ_true, condQ_false, seqK_normal, seqK_ret, seqK_exit, loopK_normal, loopK_ret, loopK_exit, drawK_eq, blockQ_normal, blockQ_ret, blockQ_same, blockQ_other, steps_cons, steps_done, fits_some, blt_lt, pre_plain, pre_guardQ, guardV_some, guardQ_tt, guardQ_ff, guardQ_tf, guardQ_ft, guardQ_skip, List.getElem?_toArray, List.getElem?_cons_zero, List.getElem?_cons_succ, fits_none, evOp, evCall, evOpds, evBuiltin, opd_tmp, opd_int, opd_bool, opd_nil, ov_some, ove_some, oe_some, ose_some, after_val, after_skip, after_call, callQ_some, stepK_eq, opd_func,  putT_some, putT_none, effT_none, next_none, effT_new, effT_wr, effT_mv, next_new, next_wr, next_mv, Nat.reduceLT, Nat.reduceBEq, true_and, and_true, reduceIte, Nat.reduceEqDiff, eq_self, T.get_set, cond_true, cond_false, endR_ret, resQ_some, evResults, tup_one, tup_two, tup_three, fillT, d_step, drawAt_eq, afterD_some, d_nil, List.getD_cons_zero, List.getD_cons_succ, List.getElem?_toArray, List.getElem?_cons_succ, List.getElem?_cons_zero, looks_plain, looks_guard, Option.bind_some, Option.toList_some, Op.operands, Call.operands, tmpsOf, restrict, idsOf_cons, idsOf_nil, idsT_some, idsV_ptr, idsV_slice, idsV_map, idsV_nil, idsV_int, idsV_bool, idsV_agg, idsV_tuple, idsV_func, addrOf, memN, load_pre, store_pre, delAll, List.append_nil, beq_selfN, beqD, T.get_lf, Bool.not_false, Bool.not_true, decide_true, decide_false, drawOut_eq, drawOut_val, drawOut_skip, drawOut_call, drawCall_some, drawCall2_call, callD_eq, stayed, putBack, Array.toList_append, List.append_toArray, List.map_cons, List.map_nil, okSimple, hides, wOf, disj, disj_one, memN_app, eq_add_pos, add_pos_eq, Bool.or_false, Bool.false_or, Bool.or_true, Bool.or_self, tmpsApart, List.append_nil, List.nil_append, List.cons_append, Nat.testBit, Nat.reduceShiftRight, Nat.reduceAnd, Nat.reduceBNe, Option.isNone_none, Option.isNone_some, Bool.and_self, Bool.and_true, Bool.true_and, Nat.reduceAdd, load_same, load_ne, store_same, store_ne, AV.cells, allOne, one_int, one_bool, one_ptr, one_nil, one_slice, List.length_cons, List.length_nil, Nat.zero_add, Nat.reduceAdd, beqD, bleD, Nat.reduceLeDiff, Nat.le_refl, decide_true, decide_false, Bool.and_self, Bool.and_true, Bool.true_and, List.take_zero, List.take_succ_cons, List.drop_succ_cons, List.drop_zero, List.nil_append, List.append_nil, List.cons_append, List.getElem?_cons_zero, List.getElem?_cons_succ, agg3, agg4, agg22, agg25, size3, size4, size22, size51, alloc51, fieldAddr24, fieldAddr51, bin_lss, bin_leq, bin_gtr, bin_geq, bin_eql, bin_neq, bin_neqb, un_not, List.getElem?_toArray, ne_eq, not_false_eq_true, evParts, build25, build26, ok5, ok6, ok7, ok8, ok9, ok10, ok13, ok14, ok15, ok16, ok17, ok19, ok20, ok34, ok35, ok36, ok37, ok38, ok39, ok44, ok45, ok60, load_same_agg, agg24, size24, evExtract, agg51, t0, t1, t4, t5, t6, t7, t8, t45, t46, callD_eq, za', zo', Nat.add_assoc, Bool.not_true, Bool.not_false, fm3, w2, zk]
            have hin8 : ∀ y ∈ lst S (i * nIn S + j), y.inp < 8 := fun y hy => by have := ok.inp y hy; omega
            refine callQ_gives (trace_gives (hv.old (n' := n6 + 14) O6 (by omega)) (by omega) cc6 (hw6.vis.old (Old.refl _ _) (by omega)) ok.frm (List.getElem?_eq_some_iff.1 hxp).1 (by omega) hin8 hf (by have := lst_short hS (i * nIn S + j) hnl; omega) hil) ?_
            rintro tv g7 n7 ⟨htr, o7, l7⟩
            have vo7 : g7.get m = some (.cells 4 (vcells a x)) := by rw [o7 m (by omega)]; exact vo6
            have hn7 : g7.get n = some (.cells 3 [.int .i64 0, .int .i64 0, .nilSlice]) := by rw [o7 n (by omega)]; exact hn6
            have hb33 := build33 2 (x.tick : Int) (len_cells htr.len)
            have hst := store33 (G := g7.get) (n := n) (x := .int .i64 2) (y := .int .i64 (x.tick : Int)) (z := tv) hn7 rfl rfl (len_one htr.len)
            simp only [e_seq, e_skip, e_ret, e_exit, e_block, e_region, e_cond, condQ_true, condQ_false, seqK_normal, seqK_ret, seqK_exit, loopK_normal, loopK_ret, loopK_exit, drawK_eq, blockQ_normal, blockQ_ret, blockQ_same, blockQ_other, steps_cons, steps_done, fits_some, blt_lt, pre_plain, pre_guardQ, guardV_some, guardQ_tt, guardQ_ff, guardQ_tf, guardQ_ft, guardQ_skip, List.getElem?_toArray, List.getElem?_cons_zero, List.getElem?_cons_succ, fits_none, evOp, evCall, evOpds, evBuiltin, opd_tmp, opd_int, opd_bool, opd_nil, ov_some, ove_some, oe_some, ose_some, after_val, after_skip, after_call, callQ_some, stepK_eq, opd_func,  putT_some, putT_none, effT_none, next_none, effT_new, effT_wr, effT_mv, next_new, next_wr, next_mv, Nat.reduceLT, Nat.reduceBEq, true_and, and_true, reduceIte, Nat.reduceEqDiff, eq_self, T.get_set, cond_true, cond_false, endR_ret, resQ_some, evResults, tup_one, tup_two, tup_three, fillT, d_step, drawAt_eq, afterD_some, d_nil, List.getD_cons_zero, List.getD_cons_succ, List.getElem?_toArray, List.getElem?_cons_succ, List.getElem?_cons_zero, looks_plain, looks_guard, Option.bind_some, Option.toList_some, Op.operands, Call.operands, tmpsOf, restrict, idsOf_cons, idsOf_nil, idsT_some, idsV_ptr, idsV_slice, idsV_map, idsV_nil, idsV_int, idsV_bool, idsV_agg, idsV_tuple, idsV_func, addrOf, memN, load_pre, store_pre, delAll, List.append_nil, beq_selfN, beqD, T.get_lf, Bool.not_false, Bool.not_true, decide_true, decide_false, drawOut_eq, drawOut_val, drawOut_skip, drawOut_call, drawCall_some, drawCall2_call, callD_eq, stayed, putBack, Array.toList_append, List.append_toArray, List.map_cons, List.map_nil, okSimple, hides, wOf, disj, disj_one, memN_app, eq_add_pos, add_pos_eq, Bool.or_false, Bool.false_or, Bool.or_true, Bool.or_self, tmpsApart, List.append_nil, List.nil_append, List.cons_append, Nat.testBit, Nat.reduceShiftRight, Nat.reduceAnd, Nat.reduceBNe, Option.isNone_none, Option.isNone_some, Bool.and_self, Bool.and_true, Bool.true_and, Nat.reduceAdd, load_same, load_ne, store_same, store_ne, AV.cells, allOne, one_int, one_bool, one_ptr, one_nil, one_slice, List.length_cons, List.length_nil, Nat.zero_add, Nat.reduceAdd, beqD, bleD, Nat.reduceLeDiff, Nat.le_refl, decide_true, decide_false, Bool.and_self, Bool.and_true, Bool.true_and, List.take_zero, List.take_succ_cons, List.drop_succ_cons, List.drop_zero, List.nil_append, List.append_nil, List.cons_append, List.getElem?_cons_zero, List.getElem?_cons_succ, agg3, agg4, agg22, agg25, size3, size4, size22, size51, alloc51, fieldAddr24, fieldAddr51, bin_lss, bin_leq, bin_gtr, bin_geq, bin_eql, bin_neq, bin_neqb, un_not, List.getElem?_toArray, ne_eq, not_false_eq_true, evParts, build25, build26, ok5, ok6, ok7, ok8, ok9, ok10, ok13, ok14, ok15, ok16, ok17, ok19, ok20, ok34, ok35, ok36, ok37, ok38, ok39, ok44, ok45, ok60, load_same_agg, agg24, size24, evExtract, agg51, t0, t1, t4, t5, t6, t7, t8, t45, t46, callD_eq, za', zo', Nat.add_assoc, Bool.not_true, Bool.not_false, fm3, w2, zk, vo7, vo6, hso, hb33, hst, agg33, size33]
            refine hres 2 (x.tick : Int) tv _ _ ((O6.trans (by omega) o7).set (Nat.le_refl _) _) (by omega) (.inl ⟨rfl, i * nIn S + j, x, hb1, hnb, by rw [hdiv]; exact hxp, rfl, hkt, ?_⟩) (len_one htr.len)
            rw [hdiv, hmod]
            have hh : ∀ M, n7 ≤ M → Rows (n + 1) M (T.set (.cells 3 [.int .i64 2, .int .i64 (x.tick : Int), tv]) g7 n) tv ((j :: backOf (lst S (i * nIn S + j)) i).reverse.map fun k => bitsI k S.ins.length) := fun M hM =>
              ⟨htr.len, fun z l hl => by
                obtain ⟨a', id, o, h1, h2, h3, h4, h5, h6⟩ := (htr.set (m := n) (by omega)).at' z l hl
                exact ⟨a', id, o, h1, by omega, h3, h4.keep (fun _ _ _ _ _ _ => rfl) hM, by omega, fun i o l c s e => by have := h6 i o l c s e; omega⟩⟩
            exact hh _ (by omega)
      · -- not assumed
        have hb0 : badAt S (i * nIn S + j) = false := by rw [hbad, za]; rfl
        have hgr : lst S (i * nIn S + j + 1) = lst S (i * nIn S + j) := by rw [hsuc]; exact grow_not hxp (.inl za)
        simp only [e_seq, e_skip, e_ret, e_exit, e_block, e_region, e_cond, condQ_true, condQ_false, seqK_normal, seqK_ret, seqK_exit, loopK_normal, loopK_ret, loopK_exit, drawK_eq, blockQ_normal, blockQ_ret, blockQ_same, blockQ_other, steps_cons, steps_done, fits_some, blt_lt, pre_plain, pre_guardQ, guardV_some, guardQ_tt, guardQ_ff, guardQ_tf, guardQ_ft, guardQ_skip, List.getElem?_toArray, List.getElem?_cons_zero, List.getElem?_cons_succ, fits_none, evOp, evCall, evOpds, evBuiltin, opd_tmp, opd_int, opd_bool, opd_nil, ov_some, ove_some, oe_some, ose_some, after_val, after_skip, after_call, callQ_some, stepK_eq, opd_func,  putT_some, putT_none, effT_none, next_none, effT_new, effT_wr, effT_mv, next_new, next_wr, next_mv, Nat.reduceLT, Nat.reduceBEq, true_and, and_true, reduceIte, Nat.reduceEqDiff, eq_self, T.get_set, cond_true, cond_false, endR_ret, resQ_some, evResults, tup_one, tup_two, tup_three, fillT, d_step, drawAt_eq, afterD_some, d_nil, List.getD_cons_zero, List.getD_cons_succ, List.getElem?_toArray, List.getElem?_cons_succ, List.getElem?_cons_zero, looks_plain, looks_guard, Option.bind_some, Option.toList_some, Op.operands, Call.operands, tmpsOf, restrict, idsOf_cons, idsOf_nil, idsT_some, idsV_ptr, idsV_slice, idsV_map, idsV_nil, idsV_int, idsV_bool, idsV_agg, idsV_tuple, idsV_func, addrOf, memN, load_pre, store_pre, delAll, List.append_nil, beq_selfN, beqD, T.get_lf, Bool.not_false, Bool.not_true, decide_true, decide_false, drawOut_eq, drawOut_val, drawOut_skip, drawOut_call, drawCall_some, drawCall2_call, callD_eq, stayed, putBack, Array.toList_append, List.append_toArray, List.map_cons, List.map_nil, okSimple, hides, wOf, disj, disj_one, memN_app, eq_add_pos, add_pos_eq, Bool.or_false, Bool.false_or, Bool.or_true, Bool.or_self, tmpsApart, List.append_nil, List.nil_append, List.cons_append, Nat.testBit, Nat.reduceShiftRight, Nat.reduceAnd, Nat.reduceBNe, Option.isNone_none, Option.isNone_some, Bool.and_self, Bool.and_true, Bool.true_and, Nat.reduceAdd, load_same, load_ne, store_same, store_ne, AV.cells, allOne, one_int, one_bool, one_ptr, one_nil, one_slice, List.length_cons, List.length_nil, Nat.zero_add, Nat.reduceAdd, beqD, bleD, Nat.reduceLeDiff, Nat.le_refl, decide_true, decide_false, Bool.and_self, Bool.and_true, Bool.true_and, List.take_zero, List.take_succ_cons, List.drop_succ_cons, List.drop_zero, List.nil_append, List.append_nil, List.cons_append, List.getElem?_cons_zero, List.getElem?_cons_succ, agg3, agg4, agg22, agg25, size3, size4, size22, size51, alloc51, fieldAddr24, fieldAddr51, bin_lss, bin_leq, bin_gtr, bin_geq, bin_eql, bin_neq, bin_neqb, un_not, List.getElem?_toArray, ne_eq, not_false_eq_true, evParts, build25, build26, ok5, ok6, ok7, ok8, ok9, ok10, ok13, ok14, ok15, ok16, ok17, ok19, ok20, ok34, ok35, ok36, ok37, ok38, ok39, ok44, ok45, ok60, load_same_agg, agg24, size24, evExtract, agg51, t0, t1, t4, t5, t6, t7, t8, t45, t46, callD_eq, za', Nat.le_add_right, Nat.add_assoc, Bool.not_true, Bool.not_false, hsj]
        refine fin _ _ _ lv av ?_ O6 hn6 vo6 ?_ hai hlvm hb0 ?_ ?_ ?_ ?_ ?_ ?_ ?_ ?_ ?_
        · omega
        · rw [hgr]; exact hw6.old (by omega) (Old.refl _ _) (by omega)
        all_goals simp [T.get_set, t0, t1, t4, t5, t6, t7, t8, t45, t46]
    · have hcj : ¬ (j : Int) < ((nIn S : Nat) : Int) := by omega
      obtain rfl : j = nIn S := by omega
      have hs := bin_succ Tryz.prog 3 i (by omega)
      have e1 : i * nIn S + nIn S = (i + 1) * nIn S := by rw [Nat.add_mul, Nat.one_mul]
      rw [e1] at hw hnb
      simp only [e_seq, e_skip, e_ret, e_exit, e_block, e_region, e_cond, condQ_true, condQ_false, seqK_normal, seqK_ret, seqK_exit, loopK_normal, loopK_ret, loopK_exit, drawK_eq, blockQ_normal, blockQ_ret, blockQ_same, blockQ_other, steps_cons, steps_done, fits_some, blt_lt, pre_plain, pre_guardQ, guardV_some, guardQ_tt, guardQ_ff, guardQ_tf, guardQ_ft, guardQ_skip, List.getElem?_toArray, List.getElem?_cons_zero, List.getElem?_cons_succ, fits_none, evOp, evCall, evOpds, evBuiltin, opd_tmp, opd_int, opd_bool, opd_nil, ov_some, ove_some, oe_some, ose_some, after_val, after_skip, after_call, callQ_some, stepK_eq, opd_func,  putT_some, putT_none, effT_none, next_none, effT_new, effT_wr, effT_mv, next_new, next_wr, next_mv, Nat.reduceLT, Nat.reduceBEq, true_and, and_true, reduceIte, Nat.reduceEqDiff, eq_self, T.get_set, cond_true, cond_false, endR_ret, resQ_some, evResults, tup_one, tup_two, tup_three, fillT, load_same, load_ne, store_same, store_ne, AV.cells, allOne, one_int, one_bool, one_ptr, one_nil, one_slice, List.length_cons, List.length_nil, Nat.zero_add, Nat.reduceAdd, beqD, bleD, Nat.reduceLeDiff, Nat.le_refl, decide_true, decide_false, Bool.and_self, Bool.and_true, Bool.true_and, List.take_zero, List.take_succ_cons, List.drop_succ_cons, List.drop_zero, List.nil_append, List.append_nil, List.cons_append, List.getElem?_cons_zero, List.getElem?_cons_succ, agg3, agg4, agg22, agg25, size3, size4, size22, size51, alloc51, fieldAddr24, fieldAddr51, bin_lss, bin_leq, bin_gtr, bin_geq, bin_eql, bin_neq, bin_neqb, un_not, List.getElem?_toArray, ne_eq, not_false_eq_true, evParts, build25, build26, ok5, ok6, ok7, ok8, ok9, ok10, ok13, ok14, ok15, ok16, ok17, ok19, ok20, ok34, ok35, ok36, ok37, ok38, ok39, ok44, ok45, ok60, load_same_agg, agg24, size24, evExtract, agg51, t0, t1, t4, t5, t6, t7, t8, t45, t46, hcj, hs]
      refine ⟨q - 1, by omega, i + 1, _, _, _, lv, av, rfl, by omega, ?_, by omega, ho, hn, hw, hnb, ?_, ?_, ?_, ?_, ?_, ?_⟩
      · have : (lst S ((i + 1) * nIn S))[i]? = some x := lst_keep (by rw [← e1]; exact Nat.le_add_right _ _) hx
        exact (List.getElem?_eq_some_iff.1 this).1
      all_goals simp [T.get_set, t0, t1, t4, t5, t6]
  have hc : ¬ (i : Int) < (((lst S (i * nIn S)).length : Nat) : Int) := by omega
  have hi : i = (lst S (i * nIn S)).length := by omega
  have hpos : 0 < (lst S (i * nIn S)).length := (List.getElem?_eq_some_iff.1 (lst_root S (i * nIn S))).1
  obtain ⟨y, hy⟩ : ∃ y, (lst S (i * nIn S))[(lst S (i * nIn S)).length - 1]? = some y := ⟨_, List.getElem?_eq_getElem (by omega)⟩
  obtain ⟨a, ia, oa, b1, b2, b3, b4, b5, b6, b7, b8⟩ := hlv.at' _ y hy
  have hpr := bin_pred Tryz.prog 3 (lst S (i * nIn S)).length (by omega)
  have e2 : (((lst S (i * nIn S)).length : Nat) : Int) - 1 = (((lst S (i * nIn S)).length - 1 : Nat) : Int) := by omega
  rw [e2] at hpr
  have f3 := fieldAddr99 ia oa 3 (by omega)
  obtain ⟨r, hr⟩ := min_run k (y.tick : Int)
  have hb33 := build33_2 1 r
  have hst := store33 (G := h.get) (n := n) (x := .int .i64 1) (y := .int .i64 r) (z := .nilSlice) hn rfl rfl rfl
  simp only [e_seq, e_skip, e_ret, e_exit, e_block, e_region, e_cond, condQ_true, condQ_false, seqK_normal, seqK_ret, seqK_exit, loopK_normal, loopK_ret, loopK_exit, drawK_eq, blockQ_normal, blockQ_ret, blockQ_same, blockQ_other, steps_cons, steps_done, fits_some, blt_lt, pre_plain, pre_guardQ, guardV_some, guardQ_tt, guardQ_ff, guardQ_tf, guardQ_ft, guardQ_skip, List.getElem?_toArray, List.getElem?_cons_zero, List.getElem?_cons_succ, fits_none, evOp, evCall, evOpds, evBuiltin, opd_tmp, opd_int, opd_bool, opd_nil, ov_some, ove_some, oe_some, ose_some, after_val, after_skip, after_call, callQ_some, stepK_eq, opd_func,  putT_some, putT_none, effT_none, next_none, effT_new, effT_wr, effT_mv, next_new, next_wr, next_mv, Nat.reduceLT, Nat.reduceBEq, true_and, and_true, reduceIte, Nat.reduceEqDiff, eq_self, T.get_set, cond_true, cond_false, endR_ret, resQ_some, evResults, tup_one, tup_two, tup_three, fillT, load_same, load_ne, store_same, store_ne, AV.cells, allOne, one_int, one_bool, one_ptr, one_nil, one_slice, List.length_cons, List.length_nil, Nat.zero_add, Nat.reduceAdd, beqD, bleD, Nat.reduceLeDiff, Nat.le_refl, decide_true, decide_false, Bool.and_self, Bool.and_true, Bool.true_and, List.take_zero, List.take_succ_cons, List.drop_succ_cons, List.drop_zero, List.nil_append, List.append_nil, List.cons_append, List.getElem?_cons_zero, List.getElem?_cons_succ, agg3, agg4, agg22, agg25, size3, size4, size22, size51, alloc51, fieldAddr24, fieldAddr51, bin_lss, bin_leq, bin_gtr, bin_geq, bin_eql, bin_neq, bin_neqb, un_not, List.getElem?_toArray, ne_eq, not_false_eq_true, evParts, build25, build26, ok5, ok6, ok7, ok8, ok9, ok10, ok13, ok14, ok15, ok16, ok17, ok19, ok20, ok34, ok35, ok36, ok37, ok38, ok39, ok44, ok45, ok60, load_same_agg, agg24, size24, evExtract, agg51, t0, t1, t4, t5, t6, t7, hll, hc, hpr, b1, f3, b6, hr, hb33, hst, agg33, size33]
  refine hres 1 r .nilSlice _ _ (ho.set (Nat.le_refl _) _) (by omega) (.inr (.inr ⟨rfl, rfl, none_bad (by omega) hnb⟩)) rfl
end Go.Ev

set_option linter.unusedSimpArgs false
set_option linter.unusedVariables false
set_option maxRecDepth 20000
namespace Go.Ev
open Go Proofs

theorem max_run (a b : Int) : ∃ r : Int, evMin Tryz.prog true [.int .i64 a, .int .i64 b] = some (.int .i64 r) := by
  have e : evMin Tryz.prog true [.int .i64 a, .int .i64 b] = if b > a then some (.int .i64 b) else some (.int .i64 a) := by
    show evPure Tryz.prog (Builtin.max2 (.int .i64 a) (.int .i64 b)) = _
    simp only [Builtin.max2]
    split <;> rfl
  rw [e]
  split
  · exact ⟨b, rfl⟩
  · exact ⟨a, rfl⟩
theorem size55 : sizeT Tryz.prog 55 = some 8 := by decide +kernel
theorem zero55 : zeroT Tryz.prog 55 = some (.agg [.nilSlice, .nilSlice, .nilSlice, .nilSlice, .nilSlice, .int .i64 0, .int .i64 0, .int .i64 0]) := by
  have h : isAV (zeroT Tryz.prog 55) (.agg [.nilSlice, .nilSlice, .nilSlice, .nilSlice, .nilSlice, .int .i64 0, .int .i64 0, .int .i64 0]) = true := by decide +kernel
  exact isAV_eq h
def pl55 (P : Program) (t : Nat) : Bool := match placesT P t with | some pl => (match pl 0, pl 1 with | some (a, b), some (c, e) => Nat.beq a 0 && Nat.beq b 7 && Nat.beq c 7 && Nat.beq e 1 | _, _ => false) | none => false
theorem places55 : ∃ pl, placesT Tryz.prog 55 = some pl ∧ pl 0 = some (0, 7) ∧ pl 1 = some (7, 1) := by
  have h : pl55 Tryz.prog 55 = true := by decide +kernel
  unfold pl55 at h
  split at h
  · rename_i pl hp
    split at h
    · rename_i a b c e h0 h1
      simp only [Bool.and_eq_true, beqT] at h
      refine ⟨pl, hp, by rw [h0, h.1.1.1, h.1.1.2], by rw [h1, h.1.2, h.2]⟩
    · cases h
  · cases h
theorem build55 (a b c e f : AV) (o s r : Int) : evBuild Tryz.prog 55 [(0, .agg [a, b, c, e, f, .int .i64 o, .int .i64 s]), (1, .int .i64 r)] = some (.agg [a, b, c, e, f, .int .i64 o, .int .i64 s, .int .i64 r]) := by
  obtain ⟨pl, h1, h2, h3⟩ := places55
  simp only [evBuild, h1, zero55, evFill, cells_int, cells_agg, h2, h3]
  simp [spl, beqD, bleD]

theorem kcheck_gives {fuel d : Nat} {g : T AObj} {n : Nat} {v : SysV} {S : Sys} {k bud : Int} (hS : GoodSys S) (hv : SysAt n g v S) (hf : 1100 < fuel) (hg : S.gs.length ≤ 400) (hnl : S.now.length ≤ 8) (hil : S.ins.length ≤ 3) (hk : 0 ≤ k) (hk5 : k ≤ 5) :
    Gives Tryz.prog fuel (d + 4) 7 [v.av S, .int .i64 k, .int .i64 bud] g n (fun x g' n' => (∃ what K tv, x = .tuple [.agg [.int .i64 what, .int .i64 K, tv], .int .i64 0] ∧ WideSaid S n n' g' k what K tv ∧ tv.one = true) ∧ Old n g g' ∧ n ≤ n') := by
  refine gives_ends 33 [.cell 6 33, .tmp 7] Tryz.func7 rfl rfl rfl ?_
  have hbox := box_sys (m := n) hv
  have o1 : Old n g (T.set (.cells 3 [.int .i64 0, .int .i64 0, .nilSlice]) (T.set (.cells 7 (v.cells S)) g n) (n + 1)) := ((Old.refl _ _).set (Nat.le_refl _) _).set (by omega) _
  have c1 : (T.set (.cells 3 [.int .i64 0, .int .i64 0, .nilSlice]) (T.set (.cells 7 (v.cells S)) g n) (n + 1)).get n = some (.cells 7 (v.cells S)) := by rw [T.get_set, if_neg (by omega), T.get_set, if_pos rfl]
  obtain ⟨q1, q2, q3, q4, q5, q6, q7, q8, q9⟩ := sys_load c1
  simp only [SysV.av]
  simp only [e_seq, e_skip, e_ret, e_exit, e_block, e_region, e_cond, condQ_true, condQ_false, seqK_normal, seqK_ret, seqK_exit, loopK_normal, loopK_ret, loopK_exit, drawK_eq, blockQ_normal, blockQ_ret, blockQ_same, blockQ_other, steps_cons, steps_done, fits_some, blt_lt, pre_plain, pre_guardQ, guardV_some, guardQ_tt, guardQ_ff, guardQ_tf, guardQ_ft, guardQ_skip, List.getElem?_toArray, List.getElem?_cons_zero, List.getElem?_cons_succ, fits_none, evOp, evCall, evOpds, evBuiltin, opd_tmp, opd_int, opd_bool, opd_nil, ov_some, ove_some, oe_some, ose_some, after_val, after_skip, after_call, callQ_some, stepK_eq, opd_func,  putT_some, putT_none, effT_none, next_none, effT_new, effT_wr, effT_mv, next_new, next_wr, next_mv, Nat.reduceLT, Nat.reduceBEq, true_and, and_true, reduceIte, Nat.reduceEqDiff, eq_self, T.get_set, cond_true, cond_false, endR_ret, resQ_some, evResults, tup_one, tup_two, tup_three, fillT, load_same, load_ne, store_same, store_ne, AV.cells, allOne, one_int, one_bool, one_ptr, one_nil, one_slice, List.length_cons, List.length_nil, Nat.zero_add, Nat.reduceAdd, beqD, bleD, Nat.reduceLeDiff, Nat.le_refl, decide_true, decide_false, Bool.and_self, Bool.and_true, Bool.true_and, List.take_zero, List.take_succ_cons, List.drop_succ_cons, List.drop_zero, List.nil_append, List.append_nil, List.cons_append, List.getElem?_cons_zero, List.getElem?_cons_succ, agg3, agg4, agg22, agg25, size3, size4, size22, size51, alloc51, fieldAddr24, fieldAddr51, bin_lss, bin_leq, bin_gtr, bin_geq, bin_eql, bin_neq, bin_neqb, un_not, List.getElem?_toArray, ne_eq, not_false_eq_true, evParts, build25, build26, ok5, ok6, ok7, ok8, ok9, ok10, ok13, ok14, ok15, ok16, ok17, ok19, ok20, ok34, ok35, ok36, ok37, ok38, ok39, ok44, ok45, ok60, load_same_agg, agg24, size24, evExtract, agg51, hbox, alloc33, q9]
  refine callQ_gives (fits_gives hS (hv.old (n' := n + 2) o1 (by omega)) hf hg hnl hil) ?_
  rintro _ g2 n2 ⟨rfl, o2, l2⟩
  have O2 : Old n g g2 := o1.trans (by omega) o2
  have c2 : g2.get n = some (.cells 7 (v.cells S)) := by rw [o2 n (by omega)]; exact c1
  have r2 : g2.get (n + 1) = some (.cells 3 [.int .i64 0, .int .i64 0, .nilSlice]) := by rw [o2 (n + 1) (by omega), T.get_set, if_pos rfl]
  clear q1 q2 q3 q4 q5 q6 q7 q8 q9
  obtain ⟨q1, q2, q3, q4, q5, q6, q7, q8, q9⟩ := sys_load c2
  have z0 : decide (k < 0) = false := by simp; omega
  have z1 : decide (20 < k) = false := by simp; omega
  obtain ⟨r, hr⟩ := max_run 0 bud
  have hb55 := build55 v.net v.now v.next v.ins v.init S.ok S.assume r
  have hbx : evBox n2 [v.net, v.now, v.next, v.ins, v.init, .int .i64 S.ok, .int .i64 S.assume, .int .i64 r] = some (.ptr n2 0, .new (.cells 8 (v.cells S ++ [.int .i64 r]))) := by
    simp only [evBox, allOne, hv.net.one, hv.now.one, hv.next.one, hv.ins.one, hv.init.one, one_int, cond_true]
    rfl
  simp only [e_seq, e_skip, e_ret, e_exit, e_block, e_region, e_cond, condQ_true, condQ_false, seqK_normal, seqK_ret, seqK_exit, loopK_normal, loopK_ret, loopK_exit, drawK_eq, blockQ_normal, blockQ_ret, blockQ_same, blockQ_other, steps_cons, steps_done, fits_some, blt_lt, pre_plain, pre_guardQ, guardV_some, guardQ_tt, guardQ_ff, guardQ_tf, guardQ_ft, guardQ_skip, List.getElem?_toArray, List.getElem?_cons_zero, List.getElem?_cons_succ, fits_none, evOp, evCall, evOpds, evBuiltin, opd_tmp, opd_int, opd_bool, opd_nil, ov_some, ove_some, oe_some, ose_some, after_val, after_skip, after_call, callQ_some, stepK_eq, opd_func,  putT_some, putT_none, effT_none, next_none, effT_new, effT_wr, effT_mv, next_new, next_wr, next_mv, Nat.reduceLT, Nat.reduceBEq, true_and, and_true, reduceIte, Nat.reduceEqDiff, eq_self, T.get_set, cond_true, cond_false, endR_ret, resQ_some, evResults, tup_one, tup_two, tup_three, fillT, load_same, load_ne, store_same, store_ne, AV.cells, allOne, one_int, one_bool, one_ptr, one_nil, one_slice, List.length_cons, List.length_nil, Nat.zero_add, Nat.reduceAdd, beqD, bleD, Nat.reduceLeDiff, Nat.le_refl, decide_true, decide_false, Bool.and_self, Bool.and_true, Bool.true_and, List.take_zero, List.take_succ_cons, List.drop_succ_cons, List.drop_zero, List.nil_append, List.append_nil, List.cons_append, List.getElem?_cons_zero, List.getElem?_cons_succ, agg3, agg4, agg22, agg25, size3, size4, size22, size51, alloc51, fieldAddr24, fieldAddr51, bin_lss, bin_leq, bin_gtr, bin_geq, bin_eql, bin_neq, bin_neqb, un_not, List.getElem?_toArray, ne_eq, not_false_eq_true, evParts, build25, build26, ok5, ok6, ok7, ok8, ok9, ok10, ok13, ok14, ok15, ok16, ok17, ok19, ok20, ok34, ok35, ok36, ok37, ok38, ok39, ok44, ok45, ok60, load_same_agg, agg24, size24, evExtract, agg51, q9, z0, z1, hr, hb55, hbx, Bool.not_true]
  have o3 : Old n2 g2 (T.set (.cells 8 (v.cells S ++ [.int .i64 r])) g2 n2) := (Old.refl _ _).set (Nat.le_refl _) _
  have O3 := O2.trans (by omega) o3
  have c3 : (T.set (.cells 8 (v.cells S ++ [.int .i64 r])) g2 n2).get n2 = some (.cells 8 (v.cells S ++ [.int .i64 r])) := by rw [T.get_set, if_pos rfl]
  refine callQ_gives (small_gives hv.now.lenIs hv.ins.lenIs hv.net.lenIs hnl hil hg c3) ?_
  rintro _ g4 n4 ⟨rfl, rfl, rfl⟩
  simp only [e_seq, e_skip, e_ret, e_exit, e_block, e_region, e_cond, condQ_true, condQ_false, seqK_normal, seqK_ret, seqK_exit, loopK_normal, loopK_ret, loopK_exit, drawK_eq, blockQ_normal, blockQ_ret, blockQ_same, blockQ_other, steps_cons, steps_done, fits_some, blt_lt, pre_plain, pre_guardQ, guardV_some, guardQ_tt, guardQ_ff, guardQ_tf, guardQ_ft, guardQ_skip, List.getElem?_toArray, List.getElem?_cons_zero, List.getElem?_cons_succ, fits_none, evOp, evCall, evOpds, evBuiltin, opd_tmp, opd_int, opd_bool, opd_nil, ov_some, ove_some, oe_some, ose_some, after_val, after_skip, after_call, callQ_some, stepK_eq, opd_func,  putT_some, putT_none, effT_none, next_none, effT_new, effT_wr, effT_mv, next_new, next_wr, next_mv, Nat.reduceLT, Nat.reduceBEq, true_and, and_true, reduceIte, Nat.reduceEqDiff, eq_self, T.get_set, cond_true, cond_false, endR_ret, resQ_some, evResults, tup_one, tup_two, tup_three, fillT, load_same, load_ne, store_same, store_ne, AV.cells, allOne, one_int, one_bool, one_ptr, one_nil, one_slice, List.length_cons, List.length_nil, Nat.zero_add, Nat.reduceAdd, beqD, bleD, Nat.reduceLeDiff, Nat.le_refl, decide_true, decide_false, Bool.and_self, Bool.and_true, Bool.true_and, List.take_zero, List.take_succ_cons, List.drop_succ_cons, List.drop_zero, List.nil_append, List.append_nil, List.cons_append, List.getElem?_cons_zero, List.getElem?_cons_succ, agg3, agg4, agg22, agg25, size3, size4, size22, size51, alloc51, fieldAddr24, fieldAddr51, bin_lss, bin_leq, bin_gtr, bin_geq, bin_eql, bin_neq, bin_neqb, un_not, List.getElem?_toArray, ne_eq, not_false_eq_true, evParts, build25, build26, ok5, ok6, ok7, ok8, ok9, ok10, ok13, ok14, ok15, ok16, ok17, ok19, ok20, ok34, ok35, ok36, ok37, ok38, ok39, ok44, ok45, ok60, load_same_agg, agg24, size24, evExtract, agg51]
  refine callQ_gives (wide_gives (bud := .int .i64 r) hS (hv.old (n' := n2 + 1) O3 (by omega)) (by omega) c3 hf hg hnl hil hk hk5) ?_
  rintro _ g5 n5 ⟨⟨what, K, tv, rfl, hw, h1⟩, o5, l5⟩
  have r5 : g5.get (n + 1) = some (.cells 3 [.int .i64 0, .int .i64 0, .nilSlice]) := by rw [o5 (n + 1) (by omega), o3 (n + 1) (by omega)]; exact r2
  have hst := store33 (G := g5.get) (n := n + 1) (x := .int .i64 what) (y := .int .i64 K) (z := tv) r5 rfl rfl h1
  simp only [e_seq, e_skip, e_ret, e_exit, e_block, e_region, e_cond, condQ_true, condQ_false, seqK_normal, seqK_ret, seqK_exit, loopK_normal, loopK_ret, loopK_exit, drawK_eq, blockQ_normal, blockQ_ret, blockQ_same, blockQ_other, steps_cons, steps_done, fits_some, blt_lt, pre_plain, pre_guardQ, guardV_some, guardQ_tt, guardQ_ff, guardQ_tf, guardQ_ft, guardQ_skip, List.getElem?_toArray, List.getElem?_cons_zero, List.getElem?_cons_succ, fits_none, evOp, evCall, evOpds, evBuiltin, opd_tmp, opd_int, opd_bool, opd_nil, ov_some, ove_some, oe_some, ose_some, after_val, after_skip, after_call, callQ_some, stepK_eq, opd_func,  putT_some, putT_none, effT_none, next_none, effT_new, effT_wr, effT_mv, next_new, next_wr, next_mv, Nat.reduceLT, Nat.reduceBEq, true_and, and_true, reduceIte, Nat.reduceEqDiff, eq_self, T.get_set, cond_true, cond_false, endR_ret, resQ_some, evResults, tup_one, tup_two, tup_three, fillT, load_same, load_ne, store_same, store_ne, AV.cells, allOne, one_int, one_bool, one_ptr, one_nil, one_slice, List.length_cons, List.length_nil, Nat.zero_add, Nat.reduceAdd, beqD, bleD, Nat.reduceLeDiff, Nat.le_refl, decide_true, decide_false, Bool.and_self, Bool.and_true, Bool.true_and, List.take_zero, List.take_succ_cons, List.drop_succ_cons, List.drop_zero, List.nil_append, List.append_nil, List.cons_append, List.getElem?_cons_zero, List.getElem?_cons_succ, agg3, agg4, agg22, agg25, size3, size4, size22, size51, alloc51, fieldAddr24, fieldAddr51, bin_lss, bin_leq, bin_gtr, bin_geq, bin_eql, bin_neq, bin_neqb, un_not, List.getElem?_toArray, ne_eq, not_false_eq_true, evParts, build25, build26, ok5, ok6, ok7, ok8, ok9, ok10, ok13, ok14, ok15, ok16, ok17, ok19, ok20, ok34, ok35, ok36, ok37, ok38, ok39, ok44, ok45, ok60, load_same_agg, agg24, size24, evExtract, agg51, hst, agg33, size33]
  refine ⟨⟨what, K, tv, rfl, ?_, h1⟩, ((O3.trans (by omega) o5).set (by omega) _), by omega⟩
  rcases hw with ⟨e, p, y, w1, w2, w3, w4, w5, w6⟩ | h | h
  · refine .inl ⟨e, p, y, w1, w2, w3, w4, w5, ?_⟩
    have w7 := w6.set (m := n + 1) (o := .cells 3 [.int .i64 what, .int .i64 K, tv]) (by omega)
    exact ⟨w7.len, fun i l hl => by
      obtain ⟨a, id, o, h1, h2, h3, h4, h5, h6⟩ := w7.at' i l hl
      exact ⟨a, id, o, h1, h2, h3, h4, by omega, fun i o l c s e => by have := h6 i o l c s e; omega⟩⟩
  · exact .inr (.inl h)
  · exact .inr (.inr h)
end Go.Ev
