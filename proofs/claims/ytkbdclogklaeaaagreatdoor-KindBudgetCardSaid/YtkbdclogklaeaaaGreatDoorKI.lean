/- PART OF THE PROOF OF KindBudget's CARD. The reference's search, evaluated for all data. -/
import Derived.Test.YtkbdclogklaeaaaGreatDoorKH
set_option linter.unusedSimpArgs false
set_option linter.unusedVariables false

set_option linter.unusedSimpArgs false
set_option linter.unusedVariables false
set_option maxRecDepth 20000
namespace Go.Ev
open Go Proofs

/-- A cut: what holds behind the first part, when that comes to its end. -/
def onlyN (R : St → Prop) : Ex → St → Prop
  | .normal, s => R s
  | _, _ => False
theorem onlyN_normal {R : St → Prop} {s : St} : onlyN R .normal s = R s := rfl
theorem ends_cut {P : Program} {call : CallT} {nt fuel : Nat} {rd : Option Nat} {a b : Code} {s : St} {Q : Ex → St → Prop} (R : St → Prop) (h1 : Ends P call nt fuel rd a s (onlyN R)) (h2 : ∀ s1, R s1 → Ends P call nt fuel rd b s1 Q) : Ends P call nt fuel rd (.seq a b) s Q := by
  refine e_seq.2 (h1.mono fun ex s1 h => ?_)
  cases ex with
  | normal => exact h2 s1 h
  | ret => exact h.elim
  | exit i => exact h.elim

/-- What Reach tells of the first bad tick. -/
def BadVar (S : Sys) (p : Nat) (bad : Int) : Prop :=
  (∃ q y, q < p ∧ badAt S q = true ∧ (∀ r, r < q → badAt S r = false) ∧ (lst S q)[q / nIn S]? = some y ∧ bad = (y.tick : Int)) ∨ (bad = -1 ∧ ∀ q, q < p → badAt S q = false)
theorem BadVar.zero (S : Sys) : BadVar S 0 (-1) := .inr ⟨rfl, fun q hq => by omega⟩
theorem BadVar.next {S : Sys} {p : Nat} {bad : Int} (h : BadVar S p bad) (hb : badAt S p = false) : BadVar S (p + 1) bad := by
  rcases h with ⟨q, y, h1, h2⟩ | ⟨h1, h2⟩
  · exact .inl ⟨q, y, by omega, h2⟩
  · refine .inr ⟨h1, fun q hq => ?_⟩
    by_cases e : q = p
    · rw [e]; exact hb
    · exact h2 q (by omega)
theorem BadVar.keep {S : Sys} {p : Nat} {bad : Int} (h : BadVar S p bad) (h0 : 0 ≤ bad) : BadVar S (p + 1) bad := by
  rcases h with ⟨q, y, h1, h2⟩ | ⟨h1, h2⟩
  · exact .inl ⟨q, y, by omega, h2⟩
  · omega
theorem BadVar.first {S : Sys} {p : Nat} {bad : Int} (h : BadVar S p bad) (h0 : bad < 0) (hb : badAt S p = true) {y : Visit} (hy : (lst S p)[p / nIn S]? = some y) : BadVar S (p + 1) (y.tick : Int) := by
  rcases h with ⟨q, y', h1, h2, h3, h4, h5⟩ | ⟨h1, h2⟩
  · omega
  · exact .inl ⟨p, y, by omega, hb, h2, hy, rfl⟩

/-- The memory of Reach. -/
structure RMem (n : Nat) (h : T AObj) (m : Nat) (lv : AV) (sv : List AV) (L : List Visit) : Prop where
  lv : ∃ id c, lv = .slice id 0 L.length c 1 ∧ (c = none ∨ c = some L.length) ∧ n ≤ id ∧ id < m ∧ h.get id = some (.cells 1 sv) ∧ ∀ (j : Nat) a, sv[j]? = some a → ∀ i o l c s, a = .slice i o l c s → i ≠ id
  len : sv.length = L.length
  rows : ∀ (j : Nat) a x, sv[j]? = some a → L[j]? = some x → Row m h a 1 x.st.length (bools x.st)
theorem RMem.old {n : Nat} {h h' : T AObj} {m m' : Nat} {lv : AV} {sv : List AV} {L : List Visit} (w : RMem n h m lv sv L) (ho : Old m h h') (hm : m ≤ m') : RMem n h' m' lv sv L := by
  obtain ⟨id, c, h1, h2, h3, h4, h6, h7⟩ := w.lv
  exact ⟨⟨id, c, h1, h2, h3, by omega, by rw [ho id h4]; exact h6, h7⟩, w.len, fun j a x ha hx => (w.rows j a x ha hx).old ho hm⟩
/-- A store beside it. -/
theorem RMem.set {n : Nat} {h : T AObj} {m io : Nat} {lv : AV} {sv : List AV} {L : List Visit} {o : AObj} (w : RMem n h m lv sv L) (h1 : notOf lv io) (h2 : ∀ (j : Nat) a, sv[j]? = some a → ∀ i o l c s, a = .slice i o l c s → i ≠ io) : RMem n (T.set o h io) m lv sv L := by
  obtain ⟨id, c, rfl, k2, k3, k4, k6, k7⟩ := w.lv
  simp only [notOf] at h1
  refine ⟨⟨id, c, rfl, k2, k3, k4, by rw [T.get_set, if_neg (Ne.symm h1)]; exact k6, k7⟩, w.len, fun j a x ha hx => (w.rows j a x ha hx).keep (fun i o l c s e => ?_) (Nat.le_refl _)⟩
  rw [T.get_set, if_neg (h2 j a ha i o l c s e)]
theorem size57 : sizeT Tryz.prog 57 = some 1 := by decide +kernel
theorem len57 {m n : Nat} {h : T AObj} {lv : AV} {sv : List AV} {L : List Visit} (w : RMem n h m lv sv L) (G : AHeap) : evLen Tryz.prog G 57 lv = some (.int .i64 ((L.length : Nat) : Int)) := by
  obtain ⟨id, c, rfl, _⟩ := w.lv
  simp [evLen, Tryz.underlying57]
/-- The j-th state. -/
theorem RMem.at {n : Nat} {h : T AObj} {m : Nat} {lv : AV} {sv : List AV} {L : List Visit} (w : RMem n h m lv sv L) {j : Nat} {x : Visit} (hx : L[j]? = some x) :
    ∃ a id, sv[j]? = some a ∧ evIndexAddr Tryz.prog 57 lv (.int .i64 (j : Int)) = some (.ptr id j) ∧ id < m ∧ evLoad Tryz.prog h.get 26 (.ptr id j) = some a ∧ Row m h a 1 x.st.length (bools x.st) := by
  have hj : j < L.length := (List.getElem?_eq_some_iff.1 hx).1
  obtain ⟨id, c, rfl, k2, k3, k4, k6, k7⟩ := w.lv
  obtain ⟨a, ha⟩ : ∃ a, sv[j]? = some a := ⟨_, List.getElem?_eq_getElem (by have := w.len; omega)⟩
  refine ⟨a, id, ha, ?_, k4, load_cell k6 agg26 ha, w.rows j a x ha hx⟩
  have h1 : (j : Int) < (L.length : Int) := by omega
  simp only [evIndexAddr, Tryz.underlying57, size26, Nat.beq_refl, Int.natCast_nonneg, decide_true, h1, Bool.and_self, cond_true, Int.toNat_natCast, Nat.zero_add, Nat.mul_one]

/-! ### Counting by bits -/
def carry (j k : Nat) : Nat → Bool := fun i => if i < k then false else bitB j i
theorem carry_zero (j : Nat) : carry j 0 = bitB j := by funext i; simp [carry]
theorem carry_succ (j k : Nat) : updf (carry j k) k false = carry j (k + 1) := by
  funext i; simp only [updf, carry]
  by_cases h1 : i = k
  · subst h1; simp
  · by_cases h2 : i < k
    · rw [if_neg h1, if_pos h2, if_pos (by omega)]
    · rw [if_neg h1, if_neg h2, if_neg (by omega)]
theorem count_up : ∀ j, j < 8 → ∀ k, k < 3 → (∀ i, i < k → bitB j i = true) → bitB j k = false → ∀ i, i < 3 → (if i = k then true else if i < k then false else bitB j i) = bitB (j + 1) i := by decide +kernel
theorem count_less : ∀ m, m ≤ 3 → ∀ j, j < 2 ^ m → ∀ k, k < m → bitB j k = false → j + 1 < 2 ^ m := by decide +kernel
theorem count_end : ∀ m, m ≤ 3 → ∀ j, j < 2 ^ m → (∀ i, i < m → bitB j i = true) → j + 1 = 2 ^ m := by decide +kernel
theorem carry_next {j k m : Nat} (hm : m ≤ 3) (hj : j < 2 ^ m) (hk : k < m) (h1 : ∀ i, i < k → bitB j i = true) (h2 : bitB j k = false) : arr m (updf (carry j k) k true) = arr m (bitB (j + 1)) := by
  have h8 : j < 8 := Nat.lt_of_lt_of_le hj (Nat.pow_le_pow_right (by omega) hm)
  refine arr_congr fun i hi => ?_
  rw [← count_up j h8 k (by omega) h1 h2 i (by omega)]
  simp only [updf, carry]
theorem bitB_zero (m : Nat) : arr m (bitB 0) = arr m (fun _ => false) := arr_congr fun i _ => by simp [bitB]
theorem bitsB_arr (j m : Nat) : bitsB j m = (List.range m).map (bitB j) := rfl
theorem build57 (n : Nat) {x : AV} (h1 : x.one = true) (hc : x.cells = [x]) : evBuildSlice Tryz.prog n 57 1 [(0, x)] = some (.slice n 0 1 (some 1) 1, .new (.cells 1 [x])) := build_1 elem57 n h1 hc
end Go.Ev

set_option linter.unusedSimpArgs false
set_option linter.unusedVariables false
set_option maxRecDepth 20000
namespace Go.Ev
open Go Proofs

/-- Ticks by levels. -/
def Levels (L : List Visit) (frm to t : Nat) : Prop := ∀ (idx : Nat) x, L[idx]? = some x → (frm ≤ idx → idx < to → x.tick = t) ∧ (to ≤ idx → x.tick = t + 1)

set_option maxHeartbeats 16000000 in
theorem reach_gives {fuel d : Nat} {g : T AObj} {n : Nat} {v : SysV} {S : Sys} (hS : GoodSys S) (hv : SysAt n g v S) (hf : 1100 < fuel) (hg : S.gs.length ≤ 400) (hnl : S.now.length ≤ 8) (hil : S.ins.length ≤ 3) :
    Gives Tryz.prog fuel (d + 4) 8 [v.av S, .int .i64 300] g n (fun x g' n' => (∃ bad st : Int, x = .tuple [.int .i64 bad, .int .i64 st] ∧ ((∃ p y, badAt S p = true ∧ (∀ q, q < p → badAt S q = false) ∧ (lst S p)[p / nIn S]? = some y ∧ bad = (y.tick : Int)) ∨ (bad = -1 ∧ ∀ p, badAt S p = false))) ∧ Old n g g' ∧ n ≤ n') := by
  refine gives_ends 115 [.tmp 4, .tmp 5] Tryz.func8 rfl rfl rfl ?_
  have hbox := box_sys (m := n) hv
  have f3 := fieldAddr28 n 3 (by omega)
  have f4 := fieldAddr28 n 4 (by omega)
  have hli := hv.ins.evLen Tryz.underlying25 (P := Tryz.prog)
  obtain ⟨q1, q2, q3, q4, q5, q6, q7, q8, q9⟩ := sys_load (g := (T.set (.cells 7 (v.cells S)) g n).get) (id := n) (v := v) (S := S) (by rw [T.get_set, if_pos rfl])
  have o1 : Old n g (T.set (.cells 7 (v.cells S)) g n) := (Old.refl _ _).set (Nat.le_refl _) _
  have hb57 := build57 (n + 1) hv.init.one (len_cells hv.init.lenIs)
  simp only [SysV.av]
  simp only [e_seq, e_skip, e_ret, e_exit, e_block, e_region, e_cond, condQ_true, condQ_false, seqK_normal, seqK_ret, seqK_exit, loopK_normal, loopK_ret, loopK_exit, drawK_eq, blockQ_normal, blockQ_ret, blockQ_same, blockQ_other, steps_cons, steps_done, fits_some, blt_lt, pre_plain, pre_guardQ, guardV_some, guardQ_tt, guardQ_ff, guardQ_tf, guardQ_ft, guardQ_skip, List.getElem?_toArray, List.getElem?_cons_zero, List.getElem?_cons_succ, fits_none, evOp, evCall, evOpds, evBuiltin, opd_tmp, opd_int, opd_bool, opd_nil, ov_some, ove_some, oe_some, ose_some, after_val, after_skip, after_call, callQ_some, stepK_eq, opd_func,  putT_some, putT_none, effT_none, next_none, effT_new, effT_wr, effT_mv, next_new, next_wr, next_mv, Nat.reduceLT, Nat.reduceBEq, true_and, and_true, reduceIte, Nat.reduceEqDiff, eq_self, T.get_set, cond_true, cond_false, endR_ret, resQ_some, evResults, tup_one, tup_two, tup_three, fillT, load_same, load_ne, store_same, store_ne, AV.cells, allOne, one_int, one_bool, one_ptr, one_nil, one_slice, List.length_cons, List.length_nil, Nat.zero_add, Nat.reduceAdd, beqD, bleD, Nat.reduceLeDiff, Nat.le_refl, decide_true, decide_false, Bool.and_self, Bool.and_true, Bool.true_and, List.take_zero, List.take_succ_cons, List.drop_succ_cons, List.drop_zero, List.nil_append, List.append_nil, List.cons_append, List.getElem?_cons_zero, List.getElem?_cons_succ, agg3, agg4, agg22, agg25, size3, size4, size22, size51, alloc51, fieldAddr24, fieldAddr51, bin_lss, bin_leq, bin_gtr, bin_geq, bin_eql, bin_neq, bin_neqb, un_not, List.getElem?_toArray, ne_eq, not_false_eq_true, evParts, build25, build26, ok5, ok6, ok7, ok8, ok9, ok10, ok13, ok14, ok15, ok16, ok17, ok19, ok20, ok34, ok35, ok36, ok37, ok38, ok39, ok44, ok45, ok60, load_same_agg, agg24, size24, evExtract, agg51, hbox, f4, q5, hb57, opd_neg1]
  have hM0 : 0 < nIn S := nIn_pos S
  have hM8 : nIn S ≤ 8 := Nat.pow_le_pow_right (by omega) (show S.ins.length ≤ 3 by omega)
  refine e_loop (fun q s => ∃ i m t : Nat, ∃ bad : Int, ∃ tm : T AV, ∃ h : T AObj, ∃ lv : AV, ∃ sv : List AV, s = ⟨tm, h, m, []⟩ ∧ i + q = 256 ∧ i ≤ (lst S (i * nIn S)).length ∧ n + 2 ≤ m ∧ Old n g h ∧ h.get n = some (.cells 7 (v.cells S)) ∧
    RMem (n + 1) h m lv sv (lst S (i * nIn S)) ∧ BadVar S (i * nIn S) bad ∧ t ≤ i ∧ (∀ (idx : Nat) x, (lst S (i * nIn S))[idx]? = some x → i ≤ idx → x.tick = t) ∧
    tm.get 1 = some (.int .i64 300) ∧ tm.get 2 = some (.ptr n 0) ∧ tm.get 6 = some lv ∧ tm.get 7 = some (.int .i64 (i : Int)) ∧ tm.get 8 = some (.int .i64 bad) ∧ tm.get 9 = some (.int .i64 (t : Int))) 256 (by omega) ?_ ?_
  · refine ⟨0, n + 2, 0, -1, _, _, .slice (n + 1) 0 1 (some 1) 1, [v.init], rfl, by omega, by omega, by omega, o1.set (by omega) _, ?_, ?_, ?_, by omega, ?_, ?_, ?_, ?_, ?_, ?_, ?_⟩
    · rw [T.get_set, if_neg (by omega), T.get_set, if_pos rfl]
    · rw [Nat.zero_mul]
      refine ⟨⟨n + 1, some 1, rfl, .inr rfl, by omega, by omega, by rw [T.get_set, if_pos rfl], ?_⟩, rfl, ?_⟩
      · intro j a ha i o l c s e
        have hj : j = 0 := by have := (List.getElem?_eq_some_iff.1 ha).1; simp at this; omega
        subst hj; simp at ha; subst ha
        have := hv.init.id_lt e; omega
      · intro j a x ha hx
        have hj : j = 0 := by have := (List.getElem?_eq_some_iff.1 ha).1; simp at this; omega
        subst hj; simp at ha; subst ha
        simp [lst] at hx; subst hx
        exact hv.init.old (o1.set (by omega) _) (by omega)
    · rw [Nat.zero_mul]; exact BadVar.zero S
    · intro idx x hx _
      have hj : idx = 0 := by have := (List.getElem?_eq_some_iff.1 hx).1; simp [lst] at this; omega
      subst hj; simp [lst] at hx; subst hx; rfl
    all_goals simp [T.get_set]
  clear q1 q2 q3 q4 q5 q6 q7 q8 q9
  rintro q _ ⟨i0, m0, t, bad0, tm, h0, lv0, sv0, rfl, hiq, hil2, hm0, ho0, hn0, hw0, hbv0, hti, htk, t1, t2, t6, t7, t8, t9⟩
  have hshort := lst_short hS (i0 * nIn S) hnl
  have hll := len57 hw0
  by_cases hlt : i0 < (lst S (i0 * nIn S)).length
  · have hc : (i0 : Int) < (((lst S (i0 * nIn S)).length : Nat) : Int) := by omega
    have hst := bin_succ Tryz.prog 3 t (by omega)
    simp only [e_seq, e_skip, e_ret, e_exit, e_block, e_region, e_cond, condQ_true, condQ_false, seqK_normal, seqK_ret, seqK_exit, loopK_normal, loopK_ret, loopK_exit, drawK_eq, blockQ_normal, blockQ_ret, blockQ_same, blockQ_other, steps_cons, steps_done, fits_some, blt_lt, pre_plain, pre_guardQ, guardV_some, guardQ_tt, guardQ_ff, guardQ_tf, guardQ_ft, guardQ_skip, List.getElem?_toArray, List.getElem?_cons_zero, List.getElem?_cons_succ, fits_none, evOp, evCall, evOpds, evBuiltin, opd_tmp, opd_int, opd_bool, opd_nil, ov_some, ove_some, oe_some, ose_some, after_val, after_skip, after_call, callQ_some, stepK_eq, opd_func,  putT_some, putT_none, effT_none, next_none, effT_new, effT_wr, effT_mv, next_new, next_wr, next_mv, Nat.reduceLT, Nat.reduceBEq, true_and, and_true, reduceIte, Nat.reduceEqDiff, eq_self, T.get_set, cond_true, cond_false, endR_ret, resQ_some, evResults, tup_one, tup_two, tup_three, fillT, load_same, load_ne, store_same, store_ne, AV.cells, allOne, one_int, one_bool, one_ptr, one_nil, one_slice, List.length_cons, List.length_nil, Nat.zero_add, Nat.reduceAdd, beqD, bleD, Nat.reduceLeDiff, Nat.le_refl, decide_true, decide_false, Bool.and_self, Bool.and_true, Bool.true_and, List.take_zero, List.take_succ_cons, List.drop_succ_cons, List.drop_zero, List.nil_append, List.append_nil, List.cons_append, List.getElem?_cons_zero, List.getElem?_cons_succ, agg3, agg4, agg22, agg25, size3, size4, size22, size51, alloc51, fieldAddr24, fieldAddr51, bin_lss, bin_leq, bin_gtr, bin_geq, bin_eql, bin_neq, bin_neqb, un_not, List.getElem?_toArray, ne_eq, not_false_eq_true, evParts, build25, build26, ok5, ok6, ok7, ok8, ok9, ok10, ok13, ok14, ok15, ok16, ok17, ok19, ok20, ok34, ok35, ok36, ok37, ok38, ok39, ok44, ok45, ok60, load_same_agg, agg24, size24, evExtract, agg51, t1, t2, t6, t7, t8, t9, hll, hc]
    have hto : ∃ to, to = (lst S (i0 * nIn S)).length := ⟨_, rfl⟩
    obtain ⟨to, hto⟩ := hto
    refine e_loop (fun q1 s => ∃ i m : Nat, ∃ bad : Int, ∃ tm : T AV, ∃ h : T AObj, ∃ lv : AV, ∃ sv : List AV, s = ⟨tm, h, m, []⟩ ∧ i + q1 = to ∧ i0 ≤ i ∧ n + 2 ≤ m ∧ Old n g h ∧ h.get n = some (.cells 7 (v.cells S)) ∧
      RMem (n + 1) h m lv sv (lst S (i * nIn S)) ∧ BadVar S (i * nIn S) bad ∧ Levels (lst S (i * nIn S)) i0 to t ∧
      tm.get 1 = some (.int .i64 300) ∧ tm.get 2 = some (.ptr n 0) ∧ tm.get 6 = some lv ∧ tm.get 8 = some (.int .i64 bad) ∧ tm.get 9 = some (.int .i64 (t : Int)) ∧ tm.get 10 = some (.int .i64 (to : Int)) ∧ tm.get 11 = some (.int .i64 (i : Int))) (to - i0) (by omega) ?_ ?_
    · refine ⟨i0, m0, bad0, _, h0, lv0, sv0, rfl, by omega, by omega, hm0, ho0, hn0, hw0, hbv0, fun idx x hx => ⟨fun h1 _ => htk idx x hx h1, fun h1 => ?_⟩, ?_, ?_, ?_, ?_, ?_, ?_, ?_⟩
      · have := (List.getElem?_eq_some_iff.1 hx).1; omega
      all_goals simp [T.get_set, t1, t2, t6, t7, t8, t9, hto]
    clear t1 t2 t6 t7 t8 t9
    rintro q1 _ ⟨i, m, bad, tm, h, lv, sv, rfl, hiq1, hi0, hm, ho, hn, hw, hbv, hlev, t1, t2, t6, t8, t9, t10, t11⟩
    by_cases hlt1 : i < to
    · have hc1 : (i : Int) < (to : Int) := by omega
      obtain ⟨q1', q2', q3', q4', q5', q6', q7', q8', q9'⟩ := sys_load hn
      have hmk := mk_arr m S.ins.length (by omega)
      have hil' : i < (lst S (i * nIn S)).length := by
        have h1 : (lst S (i0 * nIn S))[i]? = some (lst S (i0 * nIn S))[i] := List.getElem?_eq_getElem (by omega)
        exact (List.getElem?_eq_some_iff.1 (lst_keep (Nat.mul_le_mul_right _ hi0) h1)).1
      obtain ⟨x, hx⟩ : ∃ x, (lst S (i * nIn S))[i]? = some x := ⟨_, List.getElem?_eq_getElem hil'⟩
      have hs := bin_succ Tryz.prog 3 i (by omega)
      simp only [e_seq, e_skip, e_ret, e_exit, e_block, e_region, e_cond, condQ_true, condQ_false, seqK_normal, seqK_ret, seqK_exit, loopK_normal, loopK_ret, loopK_exit, drawK_eq, blockQ_normal, blockQ_ret, blockQ_same, blockQ_other, steps_cons, steps_done, fits_some, blt_lt, pre_plain, pre_guardQ, guardV_some, guardQ_tt, guardQ_ff, guardQ_tf, guardQ_ft, guardQ_skip, List.getElem?_toArray, List.getElem?_cons_zero, List.getElem?_cons_succ, fits_none, evOp, evCall, evOpds, evBuiltin, opd_tmp, opd_int, opd_bool, opd_nil, ov_some, ove_some, oe_some, ose_some, after_val, after_skip, after_call, callQ_some, stepK_eq, opd_func,  putT_some, putT_none, effT_none, next_none, effT_new, effT_wr, effT_mv, next_new, next_wr, next_mv, Nat.reduceLT, Nat.reduceBEq, true_and, and_true, reduceIte, Nat.reduceEqDiff, eq_self, T.get_set, cond_true, cond_false, endR_ret, resQ_some, evResults, tup_one, tup_two, tup_three, fillT, load_same, load_ne, store_same, store_ne, AV.cells, allOne, one_int, one_bool, one_ptr, one_nil, one_slice, List.length_cons, List.length_nil, Nat.zero_add, Nat.reduceAdd, beqD, bleD, Nat.reduceLeDiff, Nat.le_refl, decide_true, decide_false, Bool.and_self, Bool.and_true, Bool.true_and, List.take_zero, List.take_succ_cons, List.drop_succ_cons, List.drop_zero, List.nil_append, List.append_nil, List.cons_append, List.getElem?_cons_zero, List.getElem?_cons_succ, agg3, agg4, agg22, agg25, size3, size4, size22, size51, alloc51, fieldAddr24, fieldAddr51, bin_lss, bin_leq, bin_gtr, bin_geq, bin_eql, bin_neq, bin_neqb, un_not, List.getElem?_toArray, ne_eq, not_false_eq_true, evParts, build25, build26, ok5, ok6, ok7, ok8, ok9, ok10, ok13, ok14, ok15, ok16, ok17, ok19, ok20, ok34, ok35, ok36, ok37, ok38, ok39, ok44, ok45, ok60, load_same_agg, agg24, size24, evExtract, agg51, t1, t2, t6, t8, t9, t10, t11, hc1, f3, q4', hli, hmk]
      have hw1 : RMem (n + 1) (T.set (.cells 1 (arr S.ins.length fun _ => false)) h m) (m + 1) lv sv (lst S (i * nIn S + 0)) := hw.old ((Old.refl _ _).set (Nat.le_refl _) _) (by omega)
      have hsm : ∀ (j : Nat) a, sv[j]? = some a → ∀ i o l c s, a = .slice i o l c s → i ≠ m := fun j a ha i' o l c s e => by
        obtain ⟨y, hy⟩ : ∃ y, (lst S (i * nIn S))[j]? = some y := ⟨_, List.getElem?_eq_getElem (by have := hw.len; have := (List.getElem?_eq_some_iff.1 ha).1; omega)⟩
        have := (hw.rows j a y ha hy).id_lt e
        omega
      have hlm : notOf lv m := by
        obtain ⟨id, cc, e1, _, _, e4, _⟩ := hw.lv
        rw [e1]; simp only [notOf]; omega
      refine e_loop (fun q2 s => ∃ j m' : Nat, ∃ bad : Int, ∃ tm : T AV, ∃ h' : T AObj, ∃ lv : AV, ∃ sv : List AV, s = ⟨tm, h', m', []⟩ ∧ j + q2 + 1 = nIn S ∧ m + 1 ≤ m' ∧ Old n g h' ∧ h'.get n = some (.cells 7 (v.cells S)) ∧ h'.get m = some (.cells 1 (arr S.ins.length (bitB j))) ∧
        RMem (n + 1) h' m' lv sv (lst S (i * nIn S + j)) ∧ (∀ (j : Nat) a, sv[j]? = some a → ∀ i o l c s, a = .slice i o l c s → i ≠ m) ∧ notOf lv m ∧ BadVar S (i * nIn S + j) bad ∧ Levels (lst S (i * nIn S + j)) i0 to t ∧
        tm.get 1 = some (.int .i64 300) ∧ tm.get 2 = some (.ptr n 0) ∧ tm.get 6 = some lv ∧ tm.get 8 = some (.int .i64 bad) ∧ tm.get 9 = some (.int .i64 (t : Int)) ∧ tm.get 10 = some (.int .i64 (to : Int)) ∧ tm.get 11 = some (.int .i64 (i : Int)) ∧
        tm.get 12 = some (.slice m 0 S.ins.length (some S.ins.length) 1)) (nIn S - 1) (by omega) ?_ ?_
      · refine ⟨0, m + 1, bad, _, _, lv, sv, rfl, by omega, by omega, ho.set (by omega) _, ?_, ?_, hw1, hsm, hlm, hbv, hlev, ?_, ?_, ?_, ?_, ?_, ?_, ?_, ?_⟩
        · rw [T.get_set, if_neg (by omega)]; exact hn
        · rw [T.get_set, if_pos rfl, bitB_zero]
        all_goals simp [T.get_set, t1, t2, t6, t8, t9, t10, t11]
      clear t1 t2 t6 t8 t9 t10 t11 hw1 hsm hlm hw hlev hbv hn ho q1' q2' q3' q4' q5' q6' q7' q8' q9'
      rintro q2 _ ⟨j, m', bad, tm, h', lv, sv, rfl, hjq, hm', ho, hn, hio, hw, hsm, hlm, hbv, hlev, t1, t2, t6, t8, t9, t10, t11, t12⟩
      have hj : j < nIn S := by omega
      obtain ⟨hdiv, hmod⟩ := divM (i := i) hj
      have hxp : (lst S (i * nIn S + j))[i]? = some x := lst_keep (Nat.le_add_right _ _) hx
      have ok := lstOk hS (i * nIn S + j)
      have hxl : x.st.length = S.now.length := ok.len x (List.mem_of_getElem? hxp)
      obtain ⟨a, lid, ha, a1, a2, a3, a4⟩ := hw.at hxp
      obtain ⟨u1, u2, u3, u4, u5, u6, u7, u8, u9⟩ := sys_load hn
      have hbl : (bitsB j S.ins.length).length = S.ins.length := bitsB_length _ _
      have rb : Row m' h' (.slice m 0 S.ins.length (some S.ins.length) 1) 1 S.ins.length (bools (bitsB j S.ins.length)) := row_arr (by omega) hio
      simp only [e_seq, e_skip, e_ret, e_exit, e_block, e_region, e_cond, condQ_true, condQ_false, seqK_normal, seqK_ret, seqK_exit, loopK_normal, loopK_ret, loopK_exit, drawK_eq, blockQ_normal, blockQ_ret, blockQ_same, blockQ_other, steps_cons, steps_done, fits_some, blt_lt, pre_plain, pre_guardQ, guardV_some, guardQ_tt, guardQ_ff, guardQ_tf, guardQ_ft, guardQ_skip, List.getElem?_toArray, List.getElem?_cons_zero, List.getElem?_cons_succ, fits_none, evOp, evCall, evOpds, evBuiltin, opd_tmp, opd_int, opd_bool, opd_nil, ov_some, ove_some, oe_some, ose_some, after_val, after_skip, after_call, callQ_some, stepK_eq, opd_func,  putT_some, putT_none, effT_none, next_none, effT_new, effT_wr, effT_mv, next_new, next_wr, next_mv, Nat.reduceLT, Nat.reduceBEq, true_and, and_true, reduceIte, Nat.reduceEqDiff, eq_self, T.get_set, cond_true, cond_false, endR_ret, resQ_some, evResults, tup_one, tup_two, tup_three, fillT, load_same, load_ne, store_same, store_ne, AV.cells, allOne, one_int, one_bool, one_ptr, one_nil, one_slice, List.length_cons, List.length_nil, Nat.zero_add, Nat.reduceAdd, beqD, bleD, Nat.reduceLeDiff, Nat.le_refl, decide_true, decide_false, Bool.and_self, Bool.and_true, Bool.true_and, List.take_zero, List.take_succ_cons, List.drop_succ_cons, List.drop_zero, List.nil_append, List.append_nil, List.cons_append, List.getElem?_cons_zero, List.getElem?_cons_succ, agg3, agg4, agg22, agg25, size3, size4, size22, size51, alloc51, fieldAddr24, fieldAddr51, bin_lss, bin_leq, bin_gtr, bin_geq, bin_eql, bin_neq, bin_neqb, un_not, List.getElem?_toArray, ne_eq, not_false_eq_true, evParts, build25, build26, ok5, ok6, ok7, ok8, ok9, ok10, ok13, ok14, ok15, ok16, ok17, ok19, ok20, ok34, ok35, ok36, ok37, ok38, ok39, ok44, ok45, ok60, load_same_agg, agg24, size24, evExtract, agg51]
      refine (e_draw (bs := [0, 0, 0, 6, 14, 0, 63, 127, 255, 255, 255, 511, 3071, 8191]) (perm := [0, 1, 2, 3, 4, 5, 6, 7, 8, 9, 10, 11, 12, 13]) (planIs_eq (by decide +kernel))).2 ?_
      refine draws_mono (R := fun d => ∃ (tm : T AV) (g6 : T AObj) (n6 : Nat) (ov : AV), d = ⟨tm, g6, n6, d.done⟩ ∧ m' ≤ n6 ∧ Old m' h' g6 ∧ Own m' n6 g6 ov 1 S.next.length (bools (stp S x j).1) ∧
        tm.get 1 = some (.int .i64 300) ∧ tm.get 2 = some (.ptr n 0) ∧ tm.get 6 = some lv ∧ tm.get 8 = some (.int .i64 bad) ∧ tm.get 9 = some (.int .i64 (t : Int)) ∧ tm.get 10 = some (.int .i64 (to : Int)) ∧ tm.get 11 = some (.int .i64 (i : Int)) ∧
        tm.get 12 = some (.slice m 0 S.ins.length (some S.ins.length) 1) ∧ tm.get 13 = some ov ∧ tm.get 14 = some (.bool (stp S x j).2.1) ∧ tm.get 15 = some (.bool (stp S x j).2.2)) ?_ ?_
      · simp only [e_seq, e_skip, e_ret, e_exit, e_block, e_region, e_cond, condQ_true, condQ_false, seqK_normal, seqK_ret, seqK_exit, loopK_normal, loopK_ret, loopK_exit, drawK_eq, blockQ_normal, blockQ_ret, blockQ_same, blockQ_other, steps_cons, steps_done, fits_some, blt_lt, pre_plain, pre_guardQ, guardV_some, guardQ_tt, guardQ_ff, guardQ_tf, guardQ_ft, guardQ_skip, List.getElem?_toArray, List.getElem?_cons_zero, List.getElem?_cons_succ, fits_none, evOp, evCall, evOpds, evBuiltin, opd_tmp, opd_int, opd_bool, opd_nil, ov_some, ove_some, oe_some, ose_some, after_val, after_skip, after_call, callQ_some, stepK_eq, opd_func,  putT_some, putT_none, effT_none, next_none, effT_new, effT_wr, effT_mv, next_new, next_wr, next_mv, Nat.reduceLT, Nat.reduceBEq, true_and, and_true, reduceIte, Nat.reduceEqDiff, eq_self, T.get_set, cond_true, cond_false, endR_ret, resQ_some, evResults, tup_one, tup_two, tup_three, fillT, d_step, drawAt_eq, afterD_some, d_nil, List.getD_cons_zero, List.getD_cons_succ, List.getElem?_toArray, List.getElem?_cons_succ, List.getElem?_cons_zero, looks_plain, looks_guard, Option.bind_some, Option.toList_some, Op.operands, Call.operands, tmpsOf, restrict, idsOf_cons, idsOf_nil, idsT_some, idsV_ptr, idsV_slice, idsV_map, idsV_nil, idsV_int, idsV_bool, idsV_agg, idsV_tuple, idsV_func, addrOf, memN, load_pre, store_pre, delAll, List.append_nil, beq_selfN, beqD, T.get_lf, Bool.not_false, Bool.not_true, decide_true, decide_false, drawOut_eq, drawOut_val, drawOut_skip, drawOut_call, drawCall_some, drawCall2_call, callD_eq, stayed, putBack, Array.toList_append, List.append_toArray, List.map_cons, List.map_nil, okSimple, hides, wOf, disj, disj_one, memN_app, eq_add_pos, add_pos_eq, Bool.or_false, Bool.false_or, Bool.or_true, Bool.or_self, tmpsApart, List.append_nil, List.nil_append, List.cons_append, Nat.testBit, Nat.reduceShiftRight, Nat.reduceAnd, Nat.reduceBNe, Option.isNone_none, Option.isNone_some, Bool.and_self, Bool.and_true, Bool.true_and, Nat.reduceAdd, load_same, load_ne, store_same, store_ne, AV.cells, allOne, one_int, one_bool, one_ptr, one_nil, one_slice, List.length_cons, List.length_nil, Nat.zero_add, Nat.reduceAdd, beqD, bleD, Nat.reduceLeDiff, Nat.le_refl, decide_true, decide_false, Bool.and_self, Bool.and_true, Bool.true_and, List.take_zero, List.take_succ_cons, List.drop_succ_cons, List.drop_zero, List.nil_append, List.append_nil, List.cons_append, List.getElem?_cons_zero, List.getElem?_cons_succ, agg3, agg4, agg22, agg25, size3, size4, size22, size51, alloc51, fieldAddr24, fieldAddr51, bin_lss, bin_leq, bin_gtr, bin_geq, bin_eql, bin_neq, bin_neqb, un_not, List.getElem?_toArray, ne_eq, not_false_eq_true, evParts, build25, build26, ok5, ok6, ok7, ok8, ok9, ok10, ok13, ok14, ok15, ok16, ok17, ok19, ok20, ok34, ok35, ok36, ok37, ok38, ok39, ok44, ok45, ok60, load_same_agg, agg24, size24, evExtract, agg51, t1, t2, t6, t8, t9, t10, t11, t12, u9, a1, a3, Nat.add_assoc]
        refine callQ_gives (next_gives hS (hv.old (n' := m' + 6) ho (by omega)) (a4.old (Old.refl _ _) (by omega)) (by rw [hbl]; exact rb.old (Old.refl _ _) (by omega)) hxl hbl hf hg hnl hil) ?_
        rintro _ g6 n6 ⟨⟨ov, rfl, hov⟩, o6, l6⟩
        simp only [e_seq, e_skip, e_ret, e_exit, e_block, e_region, e_cond, condQ_true, condQ_false, seqK_normal, seqK_ret, seqK_exit, loopK_normal, loopK_ret, loopK_exit, drawK_eq, blockQ_normal, blockQ_ret, blockQ_same, blockQ_other, steps_cons, steps_done, fits_some, blt_lt, pre_plain, pre_guardQ, guardV_some, guardQ_tt, guardQ_ff, guardQ_tf, guardQ_ft, guardQ_skip, List.getElem?_toArray, List.getElem?_cons_zero, List.getElem?_cons_succ, fits_none, evOp, evCall, evOpds, evBuiltin, opd_tmp, opd_int, opd_bool, opd_nil, ov_some, ove_some, oe_some, ose_some, after_val, after_skip, after_call, callQ_some, stepK_eq, opd_func,  putT_some, putT_none, effT_none, next_none, effT_new, effT_wr, effT_mv, next_new, next_wr, next_mv, Nat.reduceLT, Nat.reduceBEq, true_and, and_true, reduceIte, Nat.reduceEqDiff, eq_self, T.get_set, cond_true, cond_false, endR_ret, resQ_some, evResults, tup_one, tup_two, tup_three, fillT, d_step, drawAt_eq, afterD_some, d_nil, List.getD_cons_zero, List.getD_cons_succ, List.getElem?_toArray, List.getElem?_cons_succ, List.getElem?_cons_zero, looks_plain, looks_guard, Option.bind_some, Option.toList_some, Op.operands, Call.operands, tmpsOf, restrict, idsOf_cons, idsOf_nil, idsT_some, idsV_ptr, idsV_slice, idsV_map, idsV_nil, idsV_int, idsV_bool, idsV_agg, idsV_tuple, idsV_func, addrOf, memN, load_pre, store_pre, delAll, List.append_nil, beq_selfN, beqD, T.get_lf, Bool.not_false, Bool.not_true, decide_true, decide_false, drawOut_eq, drawOut_val, drawOut_skip, drawOut_call, drawCall_some, drawCall2_call, callD_eq, stayed, putBack, Array.toList_append, List.append_toArray, List.map_cons, List.map_nil, okSimple, hides, wOf, disj, disj_one, memN_app, eq_add_pos, add_pos_eq, Bool.or_false, Bool.false_or, Bool.or_true, Bool.or_self, tmpsApart, List.append_nil, List.nil_append, List.cons_append, Nat.testBit, Nat.reduceShiftRight, Nat.reduceAnd, Nat.reduceBNe, Option.isNone_none, Option.isNone_some, Bool.and_self, Bool.and_true, Bool.true_and, Nat.reduceAdd, load_same, load_ne, store_same, store_ne, AV.cells, allOne, one_int, one_bool, one_ptr, one_nil, one_slice, List.length_cons, List.length_nil, Nat.zero_add, Nat.reduceAdd, beqD, bleD, Nat.reduceLeDiff, Nat.le_refl, decide_true, decide_false, Bool.and_self, Bool.and_true, Bool.true_and, List.take_zero, List.take_succ_cons, List.drop_succ_cons, List.drop_zero, List.nil_append, List.append_nil, List.cons_append, List.getElem?_cons_zero, List.getElem?_cons_succ, agg3, agg4, agg22, agg25, size3, size4, size22, size51, alloc51, fieldAddr24, fieldAddr51, bin_lss, bin_leq, bin_gtr, bin_geq, bin_eql, bin_neq, bin_neqb, un_not, List.getElem?_toArray, ne_eq, not_false_eq_true, evParts, build25, build26, ok5, ok6, ok7, ok8, ok9, ok10, ok13, ok14, ok15, ok16, ok17, ok19, ok20, ok34, ok35, ok36, ok37, ok38, ok39, ok44, ok45, ok60, load_same_agg, agg24, size24, evExtract, agg51, t1, t2, t6, t8, t9, t10, t11, t12, callD_eq, Nat.add_assoc]
        refine ⟨_, g6, _, ov, rfl, by omega, o6.less (by omega), hov.mono (by omega) (by omega), ?_, ?_, ?_, ?_, ?_, ?_, ?_, ?_, ?_, ?_, ?_⟩
        all_goals simp [T.get_set, t1, t2, t6, t8, t9, t10, t11, t12, stp]
      clear u1 u2 u3 u4 u5 u6 u7 u8 u9 t1 t2 t6 t8 t9 t10 t11 t12
      rintro ⟨tm0, g60, n60, dn⟩ ⟨tm, g6, n6, ov, e, hn6, o6, hov, t1, t2, t6, t8, t9, t10, t11, t12, t13, t14, t15⟩
      simp only [DSt.mk.injEq, and_true] at e
      obtain ⟨rfl, rfl, rfl⟩ := e
      simp only [drawK_eq, seqK_normal]
      have hstl : (stp S x j).1.length = S.next.length := by simp [stp, stepB]
      have hbad := badAt_eq hdiv hmod hxp
      have hsuc := lst_succ (S := S) hdiv hmod
      have hxt : x.tick = t := (hlev i x hxp).1 hi0 hlt1
      refine ends_cut (fun s => ∃ (tm : T AV) (bad2 : Int), s = ⟨tm, g60, n60, []⟩ ∧ BadVar S (i * nIn S + j + 1) bad2 ∧ tm.get 1 = some (.int .i64 300) ∧ tm.get 2 = some (.ptr n 0) ∧ tm.get 6 = some lv ∧ tm.get 8 = some (.int .i64 bad2) ∧ tm.get 9 = some (.int .i64 (t : Int)) ∧ tm.get 10 = some (.int .i64 (to : Int)) ∧ tm.get 11 = some (.int .i64 (i : Int)) ∧
        tm.get 12 = some (.slice m 0 S.ins.length (some S.ins.length) 1) ∧ tm.get 13 = some ov ∧ tm.get 15 = some (.bool (stp S x j).2.2)) ?_ ?_
      · rcases bt ((stp S x j).2.2) with za | za
        · rcases bt ((stp S x j).2.1) with zo | zo
          · have hb0 : badAt S (i * nIn S + j) = false := by rw [hbad, za, zo]; rfl
            simp only [e_seq, e_skip, e_ret, e_exit, e_block, e_region, e_cond, condQ_true, condQ_false, seqK_normal, seqK_ret, seqK_exit, loopK_normal, loopK_ret, loopK_exit, drawK_eq, blockQ_normal, blockQ_ret, blockQ_same, blockQ_other, steps_cons, steps_done, fits_some, blt_lt, pre_plain, pre_guardQ, guardV_some, guardQ_tt, guardQ_ff, guardQ_tf, guardQ_ft, guardQ_skip, List.getElem?_toArray, List.getElem?_cons_zero, List.getElem?_cons_succ, fits_none, evOp, evCall, evOpds, evBuiltin, opd_tmp, opd_int, opd_bool, opd_nil, ov_some, ove_some, oe_some, ose_some, after_val, after_skip, after_call, callQ_some, stepK_eq, opd_func,  putT_some, putT_none, effT_none, next_none, effT_new, effT_wr, effT_mv, next_new, next_wr, next_mv, Nat.reduceLT, Nat.reduceBEq, true_and, and_true, reduceIte, Nat.reduceEqDiff, eq_self, T.get_set, cond_true, cond_false, endR_ret, resQ_some, evResults, tup_one, tup_two, tup_three, fillT, load_same, load_ne, store_same, store_ne, AV.cells, allOne, one_int, one_bool, one_ptr, one_nil, one_slice, List.length_cons, List.length_nil, Nat.zero_add, Nat.reduceAdd, beqD, bleD, Nat.reduceLeDiff, Nat.le_refl, decide_true, decide_false, Bool.and_self, Bool.and_true, Bool.true_and, List.take_zero, List.take_succ_cons, List.drop_succ_cons, List.drop_zero, List.nil_append, List.append_nil, List.cons_append, List.getElem?_cons_zero, List.getElem?_cons_succ, agg3, agg4, agg22, agg25, size3, size4, size22, size51, alloc51, fieldAddr24, fieldAddr51, bin_lss, bin_leq, bin_gtr, bin_geq, bin_eql, bin_neq, bin_neqb, un_not, List.getElem?_toArray, ne_eq, not_false_eq_true, evParts, build25, build26, ok5, ok6, ok7, ok8, ok9, ok10, ok13, ok14, ok15, ok16, ok17, ok19, ok20, ok34, ok35, ok36, ok37, ok38, ok39, ok44, ok45, ok60, load_same_agg, agg24, size24, evExtract, agg51, t1, t2, t6, t8, t9, t10, t11, t12, t13, t14, t15, za, zo, Bool.not_true, Bool.not_false, onlyN_normal]
            refine ⟨_, bad, rfl, hbv.next hb0, ?_, ?_, ?_, ?_, ?_, ?_, ?_, ?_, ?_, ?_⟩
            all_goals simp [T.get_set, t1, t2, t6, t8, t9, t10, t11, t12, t13, t14, t15, za]
          · have hb1 : badAt S (i * nIn S + j) = true := by rw [hbad, za, zo]; rfl
            rcases bt (decide (bad < 0)) with zb | zb
            · have hfst := hbv.first (by simpa using zb) hb1 (y := x) (by rw [hdiv]; exact hxp)
              rw [hxt] at hfst
              simp only [e_seq, e_skip, e_ret, e_exit, e_block, e_region, e_cond, condQ_true, condQ_false, seqK_normal, seqK_ret, seqK_exit, loopK_normal, loopK_ret, loopK_exit, drawK_eq, blockQ_normal, blockQ_ret, blockQ_same, blockQ_other, steps_cons, steps_done, fits_some, blt_lt, pre_plain, pre_guardQ, guardV_some, guardQ_tt, guardQ_ff, guardQ_tf, guardQ_ft, guardQ_skip, List.getElem?_toArray, List.getElem?_cons_zero, List.getElem?_cons_succ, fits_none, evOp, evCall, evOpds, evBuiltin, opd_tmp, opd_int, opd_bool, opd_nil, ov_some, ove_some, oe_some, ose_some, after_val, after_skip, after_call, callQ_some, stepK_eq, opd_func,  putT_some, putT_none, effT_none, next_none, effT_new, effT_wr, effT_mv, next_new, next_wr, next_mv, Nat.reduceLT, Nat.reduceBEq, true_and, and_true, reduceIte, Nat.reduceEqDiff, eq_self, T.get_set, cond_true, cond_false, endR_ret, resQ_some, evResults, tup_one, tup_two, tup_three, fillT, load_same, load_ne, store_same, store_ne, AV.cells, allOne, one_int, one_bool, one_ptr, one_nil, one_slice, List.length_cons, List.length_nil, Nat.zero_add, Nat.reduceAdd, beqD, bleD, Nat.reduceLeDiff, Nat.le_refl, decide_true, decide_false, Bool.and_self, Bool.and_true, Bool.true_and, List.take_zero, List.take_succ_cons, List.drop_succ_cons, List.drop_zero, List.nil_append, List.append_nil, List.cons_append, List.getElem?_cons_zero, List.getElem?_cons_succ, agg3, agg4, agg22, agg25, size3, size4, size22, size51, alloc51, fieldAddr24, fieldAddr51, bin_lss, bin_leq, bin_gtr, bin_geq, bin_eql, bin_neq, bin_neqb, un_not, List.getElem?_toArray, ne_eq, not_false_eq_true, evParts, build25, build26, ok5, ok6, ok7, ok8, ok9, ok10, ok13, ok14, ok15, ok16, ok17, ok19, ok20, ok34, ok35, ok36, ok37, ok38, ok39, ok44, ok45, ok60, load_same_agg, agg24, size24, evExtract, agg51, t1, t2, t6, t8, t9, t10, t11, t12, t13, t14, t15, za, zo, zb, Bool.not_true, Bool.not_false, onlyN_normal]
              refine ⟨_, (t : Int), rfl, hfst, ?_, ?_, ?_, ?_, ?_, ?_, ?_, ?_, ?_, ?_⟩
              all_goals simp [T.get_set, t1, t2, t6, t8, t9, t10, t11, t12, t13, t14, t15, za]
            · simp only [e_seq, e_skip, e_ret, e_exit, e_block, e_region, e_cond, condQ_true, condQ_false, seqK_normal, seqK_ret, seqK_exit, loopK_normal, loopK_ret, loopK_exit, drawK_eq, blockQ_normal, blockQ_ret, blockQ_same, blockQ_other, steps_cons, steps_done, fits_some, blt_lt, pre_plain, pre_guardQ, guardV_some, guardQ_tt, guardQ_ff, guardQ_tf, guardQ_ft, guardQ_skip, List.getElem?_toArray, List.getElem?_cons_zero, List.getElem?_cons_succ, fits_none, evOp, evCall, evOpds, evBuiltin, opd_tmp, opd_int, opd_bool, opd_nil, ov_some, ove_some, oe_some, ose_some, after_val, after_skip, after_call, callQ_some, stepK_eq, opd_func,  putT_some, putT_none, effT_none, next_none, effT_new, effT_wr, effT_mv, next_new, next_wr, next_mv, Nat.reduceLT, Nat.reduceBEq, true_and, and_true, reduceIte, Nat.reduceEqDiff, eq_self, T.get_set, cond_true, cond_false, endR_ret, resQ_some, evResults, tup_one, tup_two, tup_three, fillT, load_same, load_ne, store_same, store_ne, AV.cells, allOne, one_int, one_bool, one_ptr, one_nil, one_slice, List.length_cons, List.length_nil, Nat.zero_add, Nat.reduceAdd, beqD, bleD, Nat.reduceLeDiff, Nat.le_refl, decide_true, decide_false, Bool.and_self, Bool.and_true, Bool.true_and, List.take_zero, List.take_succ_cons, List.drop_succ_cons, List.drop_zero, List.nil_append, List.append_nil, List.cons_append, List.getElem?_cons_zero, List.getElem?_cons_succ, agg3, agg4, agg22, agg25, size3, size4, size22, size51, alloc51, fieldAddr24, fieldAddr51, bin_lss, bin_leq, bin_gtr, bin_geq, bin_eql, bin_neq, bin_neqb, un_not, List.getElem?_toArray, ne_eq, not_false_eq_true, evParts, build25, build26, ok5, ok6, ok7, ok8, ok9, ok10, ok13, ok14, ok15, ok16, ok17, ok19, ok20, ok34, ok35, ok36, ok37, ok38, ok39, ok44, ok45, ok60, load_same_agg, agg24, size24, evExtract, agg51, t1, t2, t6, t8, t9, t10, t11, t12, t13, t14, t15, za, zo, zb, Bool.not_true, Bool.not_false, onlyN_normal]
              refine ⟨_, bad, rfl, hbv.keep (by simpa using zb), ?_, ?_, ?_, ?_, ?_, ?_, ?_, ?_, ?_, ?_⟩
              all_goals simp [T.get_set, t1, t2, t6, t8, t9, t10, t11, t12, t13, t14, t15, za]
        · have hb0 : badAt S (i * nIn S + j) = false := by rw [hbad, za]; rfl
          simp only [e_seq, e_skip, e_ret, e_exit, e_block, e_region, e_cond, condQ_true, condQ_false, seqK_normal, seqK_ret, seqK_exit, loopK_normal, loopK_ret, loopK_exit, drawK_eq, blockQ_normal, blockQ_ret, blockQ_same, blockQ_other, steps_cons, steps_done, fits_some, blt_lt, pre_plain, pre_guardQ, guardV_some, guardQ_tt, guardQ_ff, guardQ_tf, guardQ_ft, guardQ_skip, List.getElem?_toArray, List.getElem?_cons_zero, List.getElem?_cons_succ, fits_none, evOp, evCall, evOpds, evBuiltin, opd_tmp, opd_int, opd_bool, opd_nil, ov_some, ove_some, oe_some, ose_some, after_val, after_skip, after_call, callQ_some, stepK_eq, opd_func,  putT_some, putT_none, effT_none, next_none, effT_new, effT_wr, effT_mv, next_new, next_wr, next_mv, Nat.reduceLT, Nat.reduceBEq, true_and, and_true, reduceIte, Nat.reduceEqDiff, eq_self, T.get_set, cond_true, cond_false, endR_ret, resQ_some, evResults, tup_one, tup_two, tup_three, fillT, load_same, load_ne, store_same, store_ne, AV.cells, allOne, one_int, one_bool, one_ptr, one_nil, one_slice, List.length_cons, List.length_nil, Nat.zero_add, Nat.reduceAdd, beqD, bleD, Nat.reduceLeDiff, Nat.le_refl, decide_true, decide_false, Bool.and_self, Bool.and_true, Bool.true_and, List.take_zero, List.take_succ_cons, List.drop_succ_cons, List.drop_zero, List.nil_append, List.append_nil, List.cons_append, List.getElem?_cons_zero, List.getElem?_cons_succ, agg3, agg4, agg22, agg25, size3, size4, size22, size51, alloc51, fieldAddr24, fieldAddr51, bin_lss, bin_leq, bin_gtr, bin_geq, bin_eql, bin_neq, bin_neqb, un_not, List.getElem?_toArray, ne_eq, not_false_eq_true, evParts, build25, build26, ok5, ok6, ok7, ok8, ok9, ok10, ok13, ok14, ok15, ok16, ok17, ok19, ok20, ok34, ok35, ok36, ok37, ok38, ok39, ok44, ok45, ok60, load_same_agg, agg24, size24, evExtract, agg51, t1, t2, t6, t8, t9, t10, t11, t12, t13, t14, t15, za, Bool.not_true, Bool.not_false, onlyN_normal]
          refine ⟨_, bad, rfl, hbv.next hb0, ?_, ?_, ?_, ?_, ?_, ?_, ?_, ?_, ?_, ?_⟩
          all_goals simp [T.get_set, t1, t2, t6, t8, t9, t10, t11, t12, t13, t14, t15, za]
      clear t1 t2 t6 t8 t9 t10 t11 t12 t13 t14 t15 hbv
      rintro _ ⟨tm, bad2, rfl, hbv, t1, t2, t6, t8, t9, t10, t11, t12, t13, t15⟩
      have hw6 : RMem (n + 1) g60 n60 lv sv (lst S (i * nIn S + j)) := hw.old o6 (by omega)
      have O6 : Old n g g60 := ho.trans (by omega) o6
      have hn6' : g60.get n = some (.cells 7 (v.cells S)) := by rw [o6 n (by omega)]; exact hn
      have hio6 : g60.get m = some (.cells 1 (arr S.ins.length (bitB j))) := by rw [o6 m (by omega)]; exact hio
      refine ends_cut (fun s => ∃ (M : Nat) (tm : T AV) (G : T AObj) (lv : AV) (sv : List AV), s = ⟨tm, G, M, []⟩ ∧ m + 1 ≤ M ∧ Old n g G ∧ G.get n = some (.cells 7 (v.cells S)) ∧ G.get m = some (.cells 1 (arr S.ins.length (bitB j))) ∧
        RMem (n + 1) G M lv sv (lst S (i * nIn S + j + 1)) ∧ (∀ (j : Nat) a, sv[j]? = some a → ∀ i o l c s, a = .slice i o l c s → i ≠ m) ∧ notOf lv m ∧ Levels (lst S (i * nIn S + j + 1)) i0 to t ∧ tm.get 1 = some (.int .i64 300) ∧ tm.get 2 = some (.ptr n 0) ∧ tm.get 6 = some lv ∧ tm.get 8 = some (.int .i64 bad2) ∧ tm.get 9 = some (.int .i64 (t : Int)) ∧ tm.get 10 = some (.int .i64 (to : Int)) ∧ tm.get 11 = some (.int .i64 (i : Int)) ∧
        tm.get 12 = some (.slice m 0 S.ins.length (some S.ins.length) 1)) ?_ ?_
      · rcases bt ((stp S x j).2.2) with za | za
        · have hL := lst_short hS (i * nIn S + j) hnl
          have hll := len57 hw6
          simp only [e_seq, e_skip, e_ret, e_exit, e_block, e_region, e_cond, condQ_true, condQ_false, seqK_normal, seqK_ret, seqK_exit, loopK_normal, loopK_ret, loopK_exit, drawK_eq, blockQ_normal, blockQ_ret, blockQ_same, blockQ_other, steps_cons, steps_done, fits_some, blt_lt, pre_plain, pre_guardQ, guardV_some, guardQ_tt, guardQ_ff, guardQ_tf, guardQ_ft, guardQ_skip, List.getElem?_toArray, List.getElem?_cons_zero, List.getElem?_cons_succ, fits_none, evOp, evCall, evOpds, evBuiltin, opd_tmp, opd_int, opd_bool, opd_nil, ov_some, ove_some, oe_some, ose_some, after_val, after_skip, after_call, callQ_some, stepK_eq, opd_func,  putT_some, putT_none, effT_none, next_none, effT_new, effT_wr, effT_mv, next_new, next_wr, next_mv, Nat.reduceLT, Nat.reduceBEq, true_and, and_true, reduceIte, Nat.reduceEqDiff, eq_self, T.get_set, cond_true, cond_false, endR_ret, resQ_some, evResults, tup_one, tup_two, tup_three, fillT, load_same, load_ne, store_same, store_ne, AV.cells, allOne, one_int, one_bool, one_ptr, one_nil, one_slice, List.length_cons, List.length_nil, Nat.zero_add, Nat.reduceAdd, beqD, bleD, Nat.reduceLeDiff, Nat.le_refl, decide_true, decide_false, Bool.and_self, Bool.and_true, Bool.true_and, List.take_zero, List.take_succ_cons, List.drop_succ_cons, List.drop_zero, List.nil_append, List.append_nil, List.cons_append, List.getElem?_cons_zero, List.getElem?_cons_succ, agg3, agg4, agg22, agg25, size3, size4, size22, size51, alloc51, fieldAddr24, fieldAddr51, bin_lss, bin_leq, bin_gtr, bin_geq, bin_eql, bin_neq, bin_neqb, un_not, List.getElem?_toArray, ne_eq, not_false_eq_true, evParts, build25, build26, ok5, ok6, ok7, ok8, ok9, ok10, ok13, ok14, ok15, ok16, ok17, ok19, ok20, ok34, ok35, ok36, ok37, ok38, ok39, ok44, ok45, ok60, load_same_agg, agg24, size24, evExtract, agg51, t1, t2, t6, t8, t9, t10, t11, t12, t13, t15, za]
          refine e_loop (fun q3 s => ∃ (kx M : Nat) (tm : T AV) (b : Bool), s = ⟨tm, g60, M, []⟩ ∧ kx + q3 = (lst S (i * nIn S + j)).length ∧ n60 ≤ M ∧ (b = true → ∃ y ∈ lst S (i * nIn S + j), y.st = (stp S x j).1) ∧ (b = false → ∀ (idx : Nat) y, idx < kx → (lst S (i * nIn S + j))[idx]? = some y → y.st ≠ (stp S x j).1) ∧
            tm.get 1 = some (.int .i64 300) ∧ tm.get 2 = some (.ptr n 0) ∧ tm.get 6 = some lv ∧ tm.get 8 = some (.int .i64 bad2) ∧ tm.get 9 = some (.int .i64 (t : Int)) ∧ tm.get 10 = some (.int .i64 (to : Int)) ∧ tm.get 11 = some (.int .i64 (i : Int)) ∧
            tm.get 12 = some (.slice m 0 S.ins.length (some S.ins.length) 1) ∧ tm.get 13 = some ov ∧ tm.get 16 = some (.bool b) ∧ tm.get 17 = some (.int .i64 (kx : Int))) (lst S (i * nIn S + j)).length (by omega) ?_ ?_
          · refine ⟨0, n60, _, false, rfl, by omega, by omega, (fun h => by cases h), (fun _ idx y h => by omega), ?_, ?_, ?_, ?_, ?_, ?_, ?_, ?_, ?_, ?_, ?_⟩
            all_goals simp [T.get_set, t1, t2, t6, t8, t9, t10, t11, t12, t13]
          clear t1 t2 t6 t8 t9 t10 t11 t12 t13 t15
          rintro q3 _ ⟨kx, M, tm, b, rfl, hkq, hM, hbt, hbf, t1, t2, t6, t8, t9, t10, t11, t12, t13, t16, t17⟩
          have hext : ∀ (tm : T AV), (∃ y ∈ lst S (i * nIn S + j), y.st = (stp S x j).1) → ∀ M, n60 ≤ M → tm.get 1 = some (.int .i64 300) → tm.get 2 = some (.ptr n 0) → tm.get 6 = some lv → tm.get 8 = some (.int .i64 bad2) → tm.get 9 = some (.int .i64 (t : Int)) → tm.get 10 = some (.int .i64 (to : Int)) → tm.get 11 = some (.int .i64 (i : Int)) →
              tm.get 12 = some (.slice m 0 S.ins.length (some S.ins.length) 1) → ∃ (M' : Nat) (tm' : T AV) (G : T AObj) (lv : AV) (sv : List AV), (⟨tm, g60, M, []⟩ : St) = ⟨tm', G, M', []⟩ ∧ m + 1 ≤ M' ∧ Old n g G ∧ G.get n = some (.cells 7 (v.cells S)) ∧ G.get m = some (.cells 1 (arr S.ins.length (bitB j))) ∧
              RMem (n + 1) G M' lv sv (lst S (i * nIn S + j + 1)) ∧ (∀ (j : Nat) a, sv[j]? = some a → ∀ i o l c s, a = .slice i o l c s → i ≠ m) ∧ notOf lv m ∧ Levels (lst S (i * nIn S + j + 1)) i0 to t ∧ tm'.get 1 = some (.int .i64 300) ∧ tm'.get 2 = some (.ptr n 0) ∧ tm'.get 6 = some lv ∧ tm'.get 8 = some (.int .i64 bad2) ∧ tm'.get 9 = some (.int .i64 (t : Int)) ∧ tm'.get 10 = some (.int .i64 (to : Int)) ∧ tm'.get 11 = some (.int .i64 (i : Int)) ∧
            tm'.get 12 = some (.slice m 0 S.ins.length (some S.ins.length) 1) := by
            intro tm hy M hM k1 k2 k3 k4 k5 k6 k7 k8
            have hgr : lst S (i * nIn S + j + 1) = lst S (i * nIn S + j) := by rw [hsuc]; exact grow_not hxp (.inr hy)
            exact ⟨M, tm, g60, lv, sv, rfl, by omega, O6, hn6', hio6, by rw [hgr]; exact hw6.old (Old.refl _ _) hM, hsm, hlm, by rw [hgr]; exact hlev, k1, k2, k3, k4, k5, k6, k7, k8⟩
          by_cases hkx : kx < (lst S (i * nIn S + j)).length
          · have hck : (kx : Int) < (((lst S (i * nIn S + j)).length : Nat) : Int) := by omega
            cases b with
            | true =>
              simp only [e_seq, e_skip, e_ret, e_exit, e_block, e_region, e_cond, condQ_true, condQ_false, seqK_normal, seqK_ret, seqK_exit, loopK_normal, loopK_ret, loopK_exit, drawK_eq, blockQ_normal, blockQ_ret, blockQ_same, blockQ_other, steps_cons, steps_done, fits_some, blt_lt, pre_plain, pre_guardQ, guardV_some, guardQ_tt, guardQ_ff, guardQ_tf, guardQ_ft, guardQ_skip, List.getElem?_toArray, List.getElem?_cons_zero, List.getElem?_cons_succ, fits_none, evOp, evCall, evOpds, evBuiltin, opd_tmp, opd_int, opd_bool, opd_nil, ov_some, ove_some, oe_some, ose_some, after_val, after_skip, after_call, callQ_some, stepK_eq, opd_func,  putT_some, putT_none, effT_none, next_none, effT_new, effT_wr, effT_mv, next_new, next_wr, next_mv, Nat.reduceLT, Nat.reduceBEq, true_and, and_true, reduceIte, Nat.reduceEqDiff, eq_self, T.get_set, cond_true, cond_false, endR_ret, resQ_some, evResults, tup_one, tup_two, tup_three, fillT, load_same, load_ne, store_same, store_ne, AV.cells, allOne, one_int, one_bool, one_ptr, one_nil, one_slice, List.length_cons, List.length_nil, Nat.zero_add, Nat.reduceAdd, beqD, bleD, Nat.reduceLeDiff, Nat.le_refl, decide_true, decide_false, Bool.and_self, Bool.and_true, Bool.true_and, List.take_zero, List.take_succ_cons, List.drop_succ_cons, List.drop_zero, List.nil_append, List.append_nil, List.cons_append, List.getElem?_cons_zero, List.getElem?_cons_succ, agg3, agg4, agg22, agg25, size3, size4, size22, size51, alloc51, fieldAddr24, fieldAddr51, bin_lss, bin_leq, bin_gtr, bin_geq, bin_eql, bin_neq, bin_neqb, un_not, List.getElem?_toArray, ne_eq, not_false_eq_true, evParts, build25, build26, ok5, ok6, ok7, ok8, ok9, ok10, ok13, ok14, ok15, ok16, ok17, ok19, ok20, ok34, ok35, ok36, ok37, ok38, ok39, ok44, ok45, ok60, load_same_agg, agg24, size24, evExtract, agg51, t1, t2, t6, t8, t9, t10, t11, t12, t13, t16, t17, hll, hck, Bool.not_true, onlyN_normal]
              refine hext _ (hbt rfl) _ (by omega) ?_ ?_ ?_ ?_ ?_ ?_ ?_ ?_
              all_goals simp [T.get_set, t1, t2, t6, t8, t9, t10, t11, t12, t13, t16, t17]
            | false =>
              obtain ⟨y, hy⟩ : ∃ y, (lst S (i * nIn S + j))[kx]? = some y := ⟨_, List.getElem?_eq_getElem hkx⟩
              obtain ⟨ak, ik, d1, d2, d3, d4, d5⟩ := hw6.at hy
              have hyl : y.st.length = (stp S x j).1.length := by rw [ok.len y (List.mem_of_getElem? hy), hstl, hS.next]
              have hsk := bin_succ Tryz.prog 3 kx (by omega)
              simp only [e_seq, e_skip, e_ret, e_exit, e_block, e_region, e_cond, condQ_true, condQ_false, seqK_normal, seqK_ret, seqK_exit, loopK_normal, loopK_ret, loopK_exit, drawK_eq, blockQ_normal, blockQ_ret, blockQ_same, blockQ_other, steps_cons, steps_done, fits_some, blt_lt, pre_plain, pre_guardQ, guardV_some, guardQ_tt, guardQ_ff, guardQ_tf, guardQ_ft, guardQ_skip, List.getElem?_toArray, List.getElem?_cons_zero, List.getElem?_cons_succ, fits_none, evOp, evCall, evOpds, evBuiltin, opd_tmp, opd_int, opd_bool, opd_nil, ov_some, ove_some, oe_some, ose_some, after_val, after_skip, after_call, callQ_some, stepK_eq, opd_func,  putT_some, putT_none, effT_none, next_none, effT_new, effT_wr, effT_mv, next_new, next_wr, next_mv, Nat.reduceLT, Nat.reduceBEq, true_and, and_true, reduceIte, Nat.reduceEqDiff, eq_self, T.get_set, cond_true, cond_false, endR_ret, resQ_some, evResults, tup_one, tup_two, tup_three, fillT, load_same, load_ne, store_same, store_ne, AV.cells, allOne, one_int, one_bool, one_ptr, one_nil, one_slice, List.length_cons, List.length_nil, Nat.zero_add, Nat.reduceAdd, beqD, bleD, Nat.reduceLeDiff, Nat.le_refl, decide_true, decide_false, Bool.and_self, Bool.and_true, Bool.true_and, List.take_zero, List.take_succ_cons, List.drop_succ_cons, List.drop_zero, List.nil_append, List.append_nil, List.cons_append, List.getElem?_cons_zero, List.getElem?_cons_succ, agg3, agg4, agg22, agg25, size3, size4, size22, size51, alloc51, fieldAddr24, fieldAddr51, bin_lss, bin_leq, bin_gtr, bin_geq, bin_eql, bin_neq, bin_neqb, un_not, List.getElem?_toArray, ne_eq, not_false_eq_true, evParts, build25, build26, ok5, ok6, ok7, ok8, ok9, ok10, ok13, ok14, ok15, ok16, ok17, ok19, ok20, ok34, ok35, ok36, ok37, ok38, ok39, ok44, ok45, ok60, load_same_agg, agg24, size24, evExtract, agg51, t1, t2, t6, t8, t9, t10, t11, t12, t13, t16, t17, hll, hck, Bool.not_false, d2, d4]
              refine callQ_gives (same_gives (d5.old (Old.refl _ _) hM) (by rw [hstl]; exact hov.row.old (Old.refl _ _) hM) hyl (by rw [hyl, hstl, hS.next]; omega) (by rw [hyl, hstl, hS.next]; omega)) ?_
              rintro _ g7 n7 ⟨rfl, rfl, l7⟩
              simp only [e_seq, e_skip, e_ret, e_exit, e_block, e_region, e_cond, condQ_true, condQ_false, seqK_normal, seqK_ret, seqK_exit, loopK_normal, loopK_ret, loopK_exit, drawK_eq, blockQ_normal, blockQ_ret, blockQ_same, blockQ_other, steps_cons, steps_done, fits_some, blt_lt, pre_plain, pre_guardQ, guardV_some, guardQ_tt, guardQ_ff, guardQ_tf, guardQ_ft, guardQ_skip, List.getElem?_toArray, List.getElem?_cons_zero, List.getElem?_cons_succ, fits_none, evOp, evCall, evOpds, evBuiltin, opd_tmp, opd_int, opd_bool, opd_nil, ov_some, ove_some, oe_some, ose_some, after_val, after_skip, after_call, callQ_some, stepK_eq, opd_func,  putT_some, putT_none, effT_none, next_none, effT_new, effT_wr, effT_mv, next_new, next_wr, next_mv, Nat.reduceLT, Nat.reduceBEq, true_and, and_true, reduceIte, Nat.reduceEqDiff, eq_self, T.get_set, cond_true, cond_false, endR_ret, resQ_some, evResults, tup_one, tup_two, tup_three, fillT, load_same, load_ne, store_same, store_ne, AV.cells, allOne, one_int, one_bool, one_ptr, one_nil, one_slice, List.length_cons, List.length_nil, Nat.zero_add, Nat.reduceAdd, beqD, bleD, Nat.reduceLeDiff, Nat.le_refl, decide_true, decide_false, Bool.and_self, Bool.and_true, Bool.true_and, List.take_zero, List.take_succ_cons, List.drop_succ_cons, List.drop_zero, List.nil_append, List.append_nil, List.cons_append, List.getElem?_cons_zero, List.getElem?_cons_succ, agg3, agg4, agg22, agg25, size3, size4, size22, size51, alloc51, fieldAddr24, fieldAddr51, bin_lss, bin_leq, bin_gtr, bin_geq, bin_eql, bin_neq, bin_neqb, un_not, List.getElem?_toArray, ne_eq, not_false_eq_true, evParts, build25, build26, ok5, ok6, ok7, ok8, ok9, ok10, ok13, ok14, ok15, ok16, ok17, ok19, ok20, ok34, ok35, ok36, ok37, ok38, ok39, ok44, ok45, ok60, load_same_agg, agg24, size24, evExtract, agg51, t1, t2, t6, t8, t9, t10, t11, t12, t13, t16, t17, hsk]
              refine ⟨q3 - 1, by omega, kx + 1, _, _, decide (y.st = (stp S x j).1), rfl, by omega, by omega, (fun h => ⟨y, List.mem_of_getElem? hy, by simpa using h⟩), fun h idx z hz hz2 => ?_, ?_, ?_, ?_, ?_, ?_, ?_, ?_, ?_, ?_, ?_, ?_⟩
              · by_cases hik : idx = kx
                · subst hik; rw [hy] at hz2; cases hz2; simpa using h
                · exact hbf rfl idx z (by omega) hz2
              all_goals simp [T.get_set, t1, t2, t6, t8, t9, t10, t11, t12, t13, t16, t17]
          have hck : ¬ (kx : Int) < (((lst S (i * nIn S + j)).length : Nat) : Int) := by omega
          cases b with
          | true =>
            simp only [e_seq, e_skip, e_ret, e_exit, e_block, e_region, e_cond, condQ_true, condQ_false, seqK_normal, seqK_ret, seqK_exit, loopK_normal, loopK_ret, loopK_exit, drawK_eq, blockQ_normal, blockQ_ret, blockQ_same, blockQ_other, steps_cons, steps_done, fits_some, blt_lt, pre_plain, pre_guardQ, guardV_some, guardQ_tt, guardQ_ff, guardQ_tf, guardQ_ft, guardQ_skip, List.getElem?_toArray, List.getElem?_cons_zero, List.getElem?_cons_succ, fits_none, evOp, evCall, evOpds, evBuiltin, opd_tmp, opd_int, opd_bool, opd_nil, ov_some, ove_some, oe_some, ose_some, after_val, after_skip, after_call, callQ_some, stepK_eq, opd_func,  putT_some, putT_none, effT_none, next_none, effT_new, effT_wr, effT_mv, next_new, next_wr, next_mv, Nat.reduceLT, Nat.reduceBEq, true_and, and_true, reduceIte, Nat.reduceEqDiff, eq_self, T.get_set, cond_true, cond_false, endR_ret, resQ_some, evResults, tup_one, tup_two, tup_three, fillT, load_same, load_ne, store_same, store_ne, AV.cells, allOne, one_int, one_bool, one_ptr, one_nil, one_slice, List.length_cons, List.length_nil, Nat.zero_add, Nat.reduceAdd, beqD, bleD, Nat.reduceLeDiff, Nat.le_refl, decide_true, decide_false, Bool.and_self, Bool.and_true, Bool.true_and, List.take_zero, List.take_succ_cons, List.drop_succ_cons, List.drop_zero, List.nil_append, List.append_nil, List.cons_append, List.getElem?_cons_zero, List.getElem?_cons_succ, agg3, agg4, agg22, agg25, size3, size4, size22, size51, alloc51, fieldAddr24, fieldAddr51, bin_lss, bin_leq, bin_gtr, bin_geq, bin_eql, bin_neq, bin_neqb, un_not, List.getElem?_toArray, ne_eq, not_false_eq_true, evParts, build25, build26, ok5, ok6, ok7, ok8, ok9, ok10, ok13, ok14, ok15, ok16, ok17, ok19, ok20, ok34, ok35, ok36, ok37, ok38, ok39, ok44, ok45, ok60, load_same_agg, agg24, size24, evExtract, agg51, t1, t2, t6, t8, t9, t10, t11, t12, t13, t16, t17, hll, hck, Bool.not_true, onlyN_normal]
            refine hext _ (hbt rfl) _ (by omega) ?_ ?_ ?_ ?_ ?_ ?_ ?_ ?_
            all_goals simp [T.get_set, t1, t2, t6, t8, t9, t10, t11, t12, t13, t16, t17]
          | false =>
            have hnew : ∀ y ∈ lst S (i * nIn S + j), y.st ≠ (stp S x j).1 := fun y hy => by
              obtain ⟨idx, hidx, e⟩ := List.getElem_of_mem hy
              exact hbf rfl idx y (by omega) (by rw [List.getElem?_eq_getElem hidx, e])
            have hgr : lst S (i * nIn S + j + 1) = lst S (i * nIn S + j) ++ [⟨(stp S x j).1, (i : Int), j, x.tick + 1⟩] := by rw [hsuc]; exact grow_yes hxp za hnew
            have hb57 := build57 M hov.row.one (len_cells hov.row.lenIs)
            obtain ⟨id, lc, rfl, hlc, hl1, hl2, hl4, hl5⟩ := hw.lv
            have hl4' : g60.get id = some (.cells 1 sv) := by rw [o6 id hl2]; exact hl4
            obtain ⟨rd, ef, p1, p2, p3, p4, p5⟩ := app_full elem57 (g := T.set (.cells 1 [ov]) g60 M) (n := M + 1) (id := id) (len := (lst S (i * nIn S + j)).length) (c := lc) (cs := sv) (xs := [ov]) (mx := M) (k := 1) (off := 0) (cap := some 1) (data := [ov])
              hlc (by rw [T.get_set, if_neg (by omega)]; exact hl4') (by rw [hw.len, Nat.mul_one]) (by rw [T.get_set, if_pos rfl]) (by simp) (by simp) (by omega) (by omega)
            have hmid : m ≠ id := by simpa [notOf] using hlm
            have G0 : ∀ z, z ≠ M + 1 → z ≠ id → z ≠ M → (effT ef (T.set (.cells 1 [ov]) g60 M) (M + 1)).get z = g60.get z := fun z z1 z2 z3 => by rw [p5 z z1 z2, T.get_set, if_neg z3]
            have hl57 : ∀ (G : AHeap) (a b c : Nat), evLen Tryz.prog G 57 (.slice a 0 b none c) = some (.int .i64 (b : Int)) := fun G a b c => by simp [evLen, Tryz.underlying57]
            have z300 : decide ((300 : Int) < (((lst S (i * nIn S + j)).length + 1 : Nat) : Int)) = false := by simp; omega
            simp only [e_seq, e_skip, e_ret, e_exit, e_block, e_region, e_cond, condQ_true, condQ_false, seqK_normal, seqK_ret, seqK_exit, loopK_normal, loopK_ret, loopK_exit, drawK_eq, blockQ_normal, blockQ_ret, blockQ_same, blockQ_other, steps_cons, steps_done, fits_some, blt_lt, pre_plain, pre_guardQ, guardV_some, guardQ_tt, guardQ_ff, guardQ_tf, guardQ_ft, guardQ_skip, List.getElem?_toArray, List.getElem?_cons_zero, List.getElem?_cons_succ, fits_none, evOp, evCall, evOpds, evBuiltin, opd_tmp, opd_int, opd_bool, opd_nil, ov_some, ove_some, oe_some, ose_some, after_val, after_skip, after_call, callQ_some, stepK_eq, opd_func,  putT_some, putT_none, effT_none, next_none, effT_new, effT_wr, effT_mv, next_new, next_wr, next_mv, Nat.reduceLT, Nat.reduceBEq, true_and, and_true, reduceIte, Nat.reduceEqDiff, eq_self, T.get_set, cond_true, cond_false, endR_ret, resQ_some, evResults, tup_one, tup_two, tup_three, fillT, load_same, load_ne, store_same, store_ne, AV.cells, allOne, one_int, one_bool, one_ptr, one_nil, one_slice, List.length_cons, List.length_nil, Nat.zero_add, Nat.reduceAdd, beqD, bleD, Nat.reduceLeDiff, Nat.le_refl, decide_true, decide_false, Bool.and_self, Bool.and_true, Bool.true_and, List.take_zero, List.take_succ_cons, List.drop_succ_cons, List.drop_zero, List.nil_append, List.append_nil, List.cons_append, List.getElem?_cons_zero, List.getElem?_cons_succ, agg3, agg4, agg22, agg25, size3, size4, size22, size51, alloc51, fieldAddr24, fieldAddr51, bin_lss, bin_leq, bin_gtr, bin_geq, bin_eql, bin_neq, bin_neqb, un_not, List.getElem?_toArray, ne_eq, not_false_eq_true, evParts, build25, build26, ok5, ok6, ok7, ok8, ok9, ok10, ok13, ok14, ok15, ok16, ok17, ok19, ok20, ok34, ok35, ok36, ok37, ok38, ok39, ok44, ok45, ok60, load_same_agg, agg24, size24, evExtract, agg51, t1, t2, t6, t8, t9, t10, t11, t12, t13, t16, t17, hll, hck, Bool.not_false, onlyN_normal, hb57, p1, p2, hl57, z300]
            refine ⟨_, _, _, .slice (M + 1) 0 ((lst S (i * nIn S + j)).length + 1) none 1, sv ++ [ov], rfl, by omega, ?_, ?_, ?_, ?_, ?_, ?_, ?_, ?_, ?_, ?_, ?_, ?_, ?_, ?_, ?_⟩
            · intro z hz; rw [G0 z (by omega) (by omega) (by omega)]; exact O6 z hz
            · rw [G0 n (by omega) (by omega) (by omega)]; exact hn6'
            · rw [G0 m (by omega) hmid (by omega)]; exact hio6
            · rw [hgr]
              have hovid : ∀ z o l c s, ov = .slice z o l c s → m' ≤ z ∧ z < n60 := fun z o l c s e => by
                rcases hov with ⟨h1, _⟩ | ⟨i1, h1, h2, h3, _⟩
                · rw [h1] at e; cases e
                · rw [h1] at e; cases e; exact ⟨h2, h3⟩
              refine ⟨⟨M + 1, none, by simp, .inl rfl, by omega, by omega, p3, ?_⟩, by simp [hw.len], ?_⟩
              · intro jj a' ha' z o l c' s e
                by_cases hjj : jj < sv.length
                · rw [List.getElem?_append_left hjj] at ha'
                  obtain ⟨y, hy⟩ : ∃ y, (lst S (i * nIn S + j))[jj]? = some y := ⟨_, List.getElem?_eq_getElem (by have := hw.len; omega)⟩
                  have := (hw6.rows jj a' y ha' hy).id_lt e
                  omega
                · rw [List.getElem?_append_right (by omega)] at ha'
                  have hj0 : jj - sv.length = 0 := by have := (List.getElem?_eq_some_iff.1 ha').1; simp at this; omega
                  rw [hj0] at ha'; simp at ha'; subst ha'
                  have := hovid _ _ _ _ _ e; omega
              · intro jj a' y ha' hy
                by_cases hjj : jj < sv.length
                · rw [List.getElem?_append_left hjj] at ha'
                  rw [List.getElem?_append_left (by have := hw.len; omega)] at hy
                  have hr := hw6.rows jj a' y ha' hy
                  refine hr.keep (fun z o l c' s e => ?_) (by omega)
                  have h1 := hr.id_lt e
                  exact G0 z (by omega) (hl5 jj a' ha' z o l c' s e) (by omega)
                · rw [List.getElem?_append_right (by omega)] at ha'
                  have hj0 : jj - sv.length = 0 := by have := (List.getElem?_eq_some_iff.1 ha').1; simp at this; omega
                  rw [List.getElem?_append_right (by have := hw.len; omega)] at hy
                  have hj1 : jj - (lst S (i * nIn S + j)).length = 0 := by have := hw.len; omega
                  rw [hj0] at ha'; rw [hj1] at hy
                  simp at ha' hy; subst ha'; subst hy
                  rw [show (stp S x j).1.length = S.next.length from hstl]
                  refine hov.row.keep (fun z o l c' s e => ?_) (by omega)
                  have h1 := hovid _ _ _ _ _ e
                  exact G0 z (by omega) (by omega) (by omega)
            · intro jj a' ha' z o l c' s e
              by_cases hjj : jj < sv.length
              · rw [List.getElem?_append_left hjj] at ha'
                exact hsm jj a' ha' z o l c' s e
              · rw [List.getElem?_append_right (by omega)] at ha'
                have hj0 : jj - sv.length = 0 := by have := (List.getElem?_eq_some_iff.1 ha').1; simp at this; omega
                rw [hj0] at ha'; simp at ha'; subst ha'
                rcases hov with ⟨h1, _⟩ | ⟨i1, h1, h2, h3, _⟩
                · rw [h1] at e; cases e
                · rw [h1] at e; cases e; omega
            · simp only [notOf]; omega
            · rw [hgr]
              intro idx y hy
              by_cases hidx : idx < (lst S (i * nIn S + j)).length
              · rw [List.getElem?_append_left hidx] at hy; exact hlev idx y hy
              · rw [List.getElem?_append_right (by omega)] at hy
                have hj1 : idx - (lst S (i * nIn S + j)).length = 0 := by have := (List.getElem?_eq_some_iff.1 hy).1; simp at this; omega
                rw [hj1] at hy; simp at hy; subst hy
                refine ⟨fun _ h2 => ?_, fun _ => by rw [← hxt]⟩
                have h3 : (lst S (i0 * nIn S)).length ≤ (lst S (i * nIn S + j)).length := by
                  have hle : i0 * nIn S ≤ i * nIn S + j := Nat.le_trans (Nat.mul_le_mul_right _ hi0) (Nat.le_add_right _ _)
                  have hlast : (lst S (i0 * nIn S))[(lst S (i0 * nIn S)).length - 1]? = some (lst S (i0 * nIn S))[(lst S (i0 * nIn S)).length - 1] := List.getElem?_eq_getElem (by omega)
                  have := (List.getElem?_eq_some_iff.1 (lst_keep hle hlast)).1
                  omega
                omega
            all_goals simp [T.get_set, t1, t2, t6, t8, t9, t10, t11, t12, t13, t16, t17]
        · have hgr : lst S (i * nIn S + j + 1) = lst S (i * nIn S + j) := by rw [hsuc]; exact grow_not hxp (.inl za)
          simp only [e_seq, e_skip, e_ret, e_exit, e_block, e_region, e_cond, condQ_true, condQ_false, seqK_normal, seqK_ret, seqK_exit, loopK_normal, loopK_ret, loopK_exit, drawK_eq, blockQ_normal, blockQ_ret, blockQ_same, blockQ_other, steps_cons, steps_done, fits_some, blt_lt, pre_plain, pre_guardQ, guardV_some, guardQ_tt, guardQ_ff, guardQ_tf, guardQ_ft, guardQ_skip, List.getElem?_toArray, List.getElem?_cons_zero, List.getElem?_cons_succ, fits_none, evOp, evCall, evOpds, evBuiltin, opd_tmp, opd_int, opd_bool, opd_nil, ov_some, ove_some, oe_some, ose_some, after_val, after_skip, after_call, callQ_some, stepK_eq, opd_func,  putT_some, putT_none, effT_none, next_none, effT_new, effT_wr, effT_mv, next_new, next_wr, next_mv, Nat.reduceLT, Nat.reduceBEq, true_and, and_true, reduceIte, Nat.reduceEqDiff, eq_self, T.get_set, cond_true, cond_false, endR_ret, resQ_some, evResults, tup_one, tup_two, tup_three, fillT, load_same, load_ne, store_same, store_ne, AV.cells, allOne, one_int, one_bool, one_ptr, one_nil, one_slice, List.length_cons, List.length_nil, Nat.zero_add, Nat.reduceAdd, beqD, bleD, Nat.reduceLeDiff, Nat.le_refl, decide_true, decide_false, Bool.and_self, Bool.and_true, Bool.true_and, List.take_zero, List.take_succ_cons, List.drop_succ_cons, List.drop_zero, List.nil_append, List.append_nil, List.cons_append, List.getElem?_cons_zero, List.getElem?_cons_succ, agg3, agg4, agg22, agg25, size3, size4, size22, size51, alloc51, fieldAddr24, fieldAddr51, bin_lss, bin_leq, bin_gtr, bin_geq, bin_eql, bin_neq, bin_neqb, un_not, List.getElem?_toArray, ne_eq, not_false_eq_true, evParts, build25, build26, ok5, ok6, ok7, ok8, ok9, ok10, ok13, ok14, ok15, ok16, ok17, ok19, ok20, ok34, ok35, ok36, ok37, ok38, ok39, ok44, ok45, ok60, load_same_agg, agg24, size24, evExtract, agg51, t1, t2, t6, t8, t9, t10, t11, t12, t13, t15, za, onlyN_normal]
          refine ⟨_, _, g60, lv, sv, rfl, by omega, O6, hn6', hio6, by rw [hgr]; exact hw6, hsm, hlm, by rw [hgr]; exact hlev, ?_, ?_, ?_, ?_, ?_, ?_, ?_, ?_⟩
          all_goals simp [T.get_set, t1, t2, t6, t8, t9, t10, t11, t12]
      clear t1 t2 t6 t8 t9 t10 t11 t12 t13 t15 hw6 hsm hlm hlev O6 hn6' hio6 hw
      rintro _ ⟨M, tm, G, lv, sv, rfl, hM, ho, hn, hio, hw, hsm, hlm, hlev, t1, t2, t6, t8, t9, t10, t11, t12⟩
      simp only [e_seq, e_skip, e_ret, e_exit, e_block, e_region, e_cond, condQ_true, condQ_false, seqK_normal, seqK_ret, seqK_exit, loopK_normal, loopK_ret, loopK_exit, drawK_eq, blockQ_normal, blockQ_ret, blockQ_same, blockQ_other, steps_cons, steps_done, fits_some, blt_lt, pre_plain, pre_guardQ, guardV_some, guardQ_tt, guardQ_ff, guardQ_tf, guardQ_ft, guardQ_skip, List.getElem?_toArray, List.getElem?_cons_zero, List.getElem?_cons_succ, fits_none, evOp, evCall, evOpds, evBuiltin, opd_tmp, opd_int, opd_bool, opd_nil, ov_some, ove_some, oe_some, ose_some, after_val, after_skip, after_call, callQ_some, stepK_eq, opd_func,  putT_some, putT_none, effT_none, next_none, effT_new, effT_wr, effT_mv, next_new, next_wr, next_mv, Nat.reduceLT, Nat.reduceBEq, true_and, and_true, reduceIte, Nat.reduceEqDiff, eq_self, T.get_set, cond_true, cond_false, endR_ret, resQ_some, evResults, tup_one, tup_two, tup_three, fillT, load_same, load_ne, store_same, store_ne, AV.cells, allOne, one_int, one_bool, one_ptr, one_nil, one_slice, List.length_cons, List.length_nil, Nat.zero_add, Nat.reduceAdd, beqD, bleD, Nat.reduceLeDiff, Nat.le_refl, decide_true, decide_false, Bool.and_self, Bool.and_true, Bool.true_and, List.take_zero, List.take_succ_cons, List.drop_succ_cons, List.drop_zero, List.nil_append, List.append_nil, List.cons_append, List.getElem?_cons_zero, List.getElem?_cons_succ, agg3, agg4, agg22, agg25, size3, size4, size22, size51, alloc51, fieldAddr24, fieldAddr51, bin_lss, bin_leq, bin_gtr, bin_geq, bin_eql, bin_neq, bin_neqb, un_not, List.getElem?_toArray, ne_eq, not_false_eq_true, evParts, build25, build26, ok5, ok6, ok7, ok8, ok9, ok10, ok13, ok14, ok15, ok16, ok17, ok19, ok20, ok34, ok35, ok36, ok37, ok38, ok39, ok44, ok45, ok60, load_same_agg, agg24, size24, evExtract, agg51, t1, t2, t6, t8, t9, t10, t11, t12]
      have hl12 : ∀ (G : AHeap), evLen Tryz.prog G 26 (.slice m 0 S.ins.length (some S.ins.length) 1) = some (.int .i64 (S.ins.length : Int)) := fun G => by simp [evLen, Tryz.underlying26]
      refine e_loop (fun q3 s => ∃ (kx : Nat) (tm : T AV) (G : T AObj), s = ⟨tm, G, M, []⟩ ∧ kx + q3 = S.ins.length ∧ Old n g G ∧ G.get n = some (.cells 7 (v.cells S)) ∧ G.get m = some (.cells 1 (arr S.ins.length (carry j kx))) ∧ (∀ b, b < kx → bitB j b = true) ∧
        RMem (n + 1) G M lv sv (lst S (i * nIn S + j + 1)) ∧
        tm.get 1 = some (.int .i64 300) ∧ tm.get 2 = some (.ptr n 0) ∧ tm.get 6 = some lv ∧ tm.get 8 = some (.int .i64 bad2) ∧ tm.get 9 = some (.int .i64 (t : Int)) ∧ tm.get 10 = some (.int .i64 (to : Int)) ∧ tm.get 11 = some (.int .i64 (i : Int)) ∧
        tm.get 12 = some (.slice m 0 S.ins.length (some S.ins.length) 1) ∧ tm.get 18 = some (.int .i64 (kx : Int))) S.ins.length (by omega) ?_ ?_
      · refine ⟨0, _, G, rfl, by omega, ho, hn, by rw [carry_zero]; exact hio, fun b hb => by omega, hw, ?_, ?_, ?_, ?_, ?_, ?_, ?_, ?_, ?_⟩
        all_goals simp [T.get_set, t1, t2, t6, t8, t9, t10, t11, t12]
      clear t1 t2 t6 t8 t9 t10 t11 t12 ho hn hio hw
      rintro q3 _ ⟨kx, tm, G, rfl, hkq, ho, hn, hio, hones, hw, t1, t2, t6, t8, t9, t10, t11, t12, t18⟩
      by_cases hkx : kx < S.ins.length
      · have hck : (kx : Int) < (S.ins.length : Int) := by omega
        have hidx := idx_arr (id := m) (c := some S.ins.length) hkx .i64
        have hld := load_arr hio hkx
        have hcv : carry j kx kx = bitB j kx := by simp [carry]
        rw [hcv] at hld
        have hsk := bin_succ Tryz.prog 3 kx (by omega)
        rcases bt (bitB j kx) with zb | zb
        · have hst := store_arr false hio hkx
          rw [carry_succ] at hst
          simp only [e_seq, e_skip, e_ret, e_exit, e_block, e_region, e_cond, condQ_true, condQ_false, seqK_normal, seqK_ret, seqK_exit, loopK_normal, loopK_ret, loopK_exit, drawK_eq, blockQ_normal, blockQ_ret, blockQ_same, blockQ_other, steps_cons, steps_done, fits_some, blt_lt, pre_plain, pre_guardQ, guardV_some, guardQ_tt, guardQ_ff, guardQ_tf, guardQ_ft, guardQ_skip, List.getElem?_toArray, List.getElem?_cons_zero, List.getElem?_cons_succ, fits_none, evOp, evCall, evOpds, evBuiltin, opd_tmp, opd_int, opd_bool, opd_nil, ov_some, ove_some, oe_some, ose_some, after_val, after_skip, after_call, callQ_some, stepK_eq, opd_func,  putT_some, putT_none, effT_none, next_none, effT_new, effT_wr, effT_mv, next_new, next_wr, next_mv, Nat.reduceLT, Nat.reduceBEq, true_and, and_true, reduceIte, Nat.reduceEqDiff, eq_self, T.get_set, cond_true, cond_false, endR_ret, resQ_some, evResults, tup_one, tup_two, tup_three, fillT, load_same, load_ne, store_same, store_ne, AV.cells, allOne, one_int, one_bool, one_ptr, one_nil, one_slice, List.length_cons, List.length_nil, Nat.zero_add, Nat.reduceAdd, beqD, bleD, Nat.reduceLeDiff, Nat.le_refl, decide_true, decide_false, Bool.and_self, Bool.and_true, Bool.true_and, List.take_zero, List.take_succ_cons, List.drop_succ_cons, List.drop_zero, List.nil_append, List.append_nil, List.cons_append, List.getElem?_cons_zero, List.getElem?_cons_succ, agg3, agg4, agg22, agg25, size3, size4, size22, size51, alloc51, fieldAddr24, fieldAddr51, bin_lss, bin_leq, bin_gtr, bin_geq, bin_eql, bin_neq, bin_neqb, un_not, List.getElem?_toArray, ne_eq, not_false_eq_true, evParts, build25, build26, ok5, ok6, ok7, ok8, ok9, ok10, ok13, ok14, ok15, ok16, ok17, ok19, ok20, ok34, ok35, ok36, ok37, ok38, ok39, ok44, ok45, ok60, load_same_agg, agg24, size24, evExtract, agg51, t1, t2, t6, t8, t9, t10, t11, t12, t18, hl12, hck, hidx, hld, zb, hst, hsk]
          refine ⟨q3 - 1, by omega, kx + 1, _, _, rfl, by omega, ho.set (by omega) _, ?_, ?_, fun b hb => ?_, hw.set hlm hsm, ?_, ?_, ?_, ?_, ?_, ?_, ?_, ?_, ?_⟩
          · rw [T.get_set, if_neg (by omega)]; exact hn
          · rw [T.get_set, if_pos rfl]
          · by_cases e : b = kx
            · rw [e]; exact zb
            · exact hones b (by omega)
          all_goals simp [T.get_set, t1, t2, t6, t8, t9, t10, t11, t12]
        · have hst := store_arr true hio hkx
          rw [carry_next hil hj hkx hones zb] at hst
          have hless := count_less S.ins.length hil j hj kx hkx zb
          have hne : ((kx : Int) == (S.ins.length : Int)) = false := by simp; omega
          simp only [e_seq, e_skip, e_ret, e_exit, e_block, e_region, e_cond, condQ_true, condQ_false, seqK_normal, seqK_ret, seqK_exit, loopK_normal, loopK_ret, loopK_exit, drawK_eq, blockQ_normal, blockQ_ret, blockQ_same, blockQ_other, steps_cons, steps_done, fits_some, blt_lt, pre_plain, pre_guardQ, guardV_some, guardQ_tt, guardQ_ff, guardQ_tf, guardQ_ft, guardQ_skip, List.getElem?_toArray, List.getElem?_cons_zero, List.getElem?_cons_succ, fits_none, evOp, evCall, evOpds, evBuiltin, opd_tmp, opd_int, opd_bool, opd_nil, ov_some, ove_some, oe_some, ose_some, after_val, after_skip, after_call, callQ_some, stepK_eq, opd_func,  putT_some, putT_none, effT_none, next_none, effT_new, effT_wr, effT_mv, next_new, next_wr, next_mv, Nat.reduceLT, Nat.reduceBEq, true_and, and_true, reduceIte, Nat.reduceEqDiff, eq_self, T.get_set, cond_true, cond_false, endR_ret, resQ_some, evResults, tup_one, tup_two, tup_three, fillT, load_same, load_ne, store_same, store_ne, AV.cells, allOne, one_int, one_bool, one_ptr, one_nil, one_slice, List.length_cons, List.length_nil, Nat.zero_add, Nat.reduceAdd, beqD, bleD, Nat.reduceLeDiff, Nat.le_refl, decide_true, decide_false, Bool.and_self, Bool.and_true, Bool.true_and, List.take_zero, List.take_succ_cons, List.drop_succ_cons, List.drop_zero, List.nil_append, List.append_nil, List.cons_append, List.getElem?_cons_zero, List.getElem?_cons_succ, agg3, agg4, agg22, agg25, size3, size4, size22, size51, alloc51, fieldAddr24, fieldAddr51, bin_lss, bin_leq, bin_gtr, bin_geq, bin_eql, bin_neq, bin_neqb, un_not, List.getElem?_toArray, ne_eq, not_false_eq_true, evParts, build25, build26, ok5, ok6, ok7, ok8, ok9, ok10, ok13, ok14, ok15, ok16, ok17, ok19, ok20, ok34, ok35, ok36, ok37, ok38, ok39, ok44, ok45, ok60, load_same_agg, agg24, size24, evExtract, agg51, t1, t2, t6, t8, t9, t10, t11, t12, t18, hl12, hck, hidx, hld, zb, hst, hne]
          refine ⟨q2 - 1, by have : nIn S = 2 ^ S.ins.length := rfl; omega, j + 1, _, bad2, _, _, lv, sv, rfl, ?_, hM, ho.set (by omega) _, ?_, ?_, hw.set hlm hsm, hsm, hlm, hbv, hlev, ?_, ?_, ?_, ?_, ?_, ?_, ?_, ?_⟩
          · have : nIn S = 2 ^ S.ins.length := rfl; omega
          · rw [T.get_set, if_neg (by omega)]; exact hn
          · rw [T.get_set, if_pos rfl]
          all_goals simp [T.get_set, t1, t2, t6, t8, t9, t10, t11, t12]
      · have hck : ¬ (kx : Int) < (S.ins.length : Int) := by omega
        obtain rfl : kx = S.ins.length := by omega
        have hend := count_end S.ins.length hil j hj hones
        have e1 : i * nIn S + j + 1 = (i + 1) * nIn S := by
          have h2 : nIn S = 2 ^ S.ins.length := rfl
          rw [Nat.add_mul, Nat.one_mul]; omega
        rw [e1] at hw hbv hlev
        have heq : ((S.ins.length : Int) == (S.ins.length : Int)) = true := by simp
        simp only [e_seq, e_skip, e_ret, e_exit, e_block, e_region, e_cond, condQ_true, condQ_false, seqK_normal, seqK_ret, seqK_exit, loopK_normal, loopK_ret, loopK_exit, drawK_eq, blockQ_normal, blockQ_ret, blockQ_same, blockQ_other, steps_cons, steps_done, fits_some, blt_lt, pre_plain, pre_guardQ, guardV_some, guardQ_tt, guardQ_ff, guardQ_tf, guardQ_ft, guardQ_skip, List.getElem?_toArray, List.getElem?_cons_zero, List.getElem?_cons_succ, fits_none, evOp, evCall, evOpds, evBuiltin, opd_tmp, opd_int, opd_bool, opd_nil, ov_some, ove_some, oe_some, ose_some, after_val, after_skip, after_call, callQ_some, stepK_eq, opd_func,  putT_some, putT_none, effT_none, next_none, effT_new, effT_wr, effT_mv, next_new, next_wr, next_mv, Nat.reduceLT, Nat.reduceBEq, true_and, and_true, reduceIte, Nat.reduceEqDiff, eq_self, T.get_set, cond_true, cond_false, endR_ret, resQ_some, evResults, tup_one, tup_two, tup_three, fillT, load_same, load_ne, store_same, store_ne, AV.cells, allOne, one_int, one_bool, one_ptr, one_nil, one_slice, List.length_cons, List.length_nil, Nat.zero_add, Nat.reduceAdd, beqD, bleD, Nat.reduceLeDiff, Nat.le_refl, decide_true, decide_false, Bool.and_self, Bool.and_true, Bool.true_and, List.take_zero, List.take_succ_cons, List.drop_succ_cons, List.drop_zero, List.nil_append, List.append_nil, List.cons_append, List.getElem?_cons_zero, List.getElem?_cons_succ, agg3, agg4, agg22, agg25, size3, size4, size22, size51, alloc51, fieldAddr24, fieldAddr51, bin_lss, bin_leq, bin_gtr, bin_geq, bin_eql, bin_neq, bin_neqb, un_not, List.getElem?_toArray, ne_eq, not_false_eq_true, evParts, build25, build26, ok5, ok6, ok7, ok8, ok9, ok10, ok13, ok14, ok15, ok16, ok17, ok19, ok20, ok34, ok35, ok36, ok37, ok38, ok39, ok44, ok45, ok60, load_same_agg, agg24, size24, evExtract, agg51, t1, t2, t6, t8, t9, t10, t11, t12, t18, hl12, hck, heq, hs]
        refine ⟨q1 - 1, by omega, i + 1, M, bad2, _, G, lv, sv, rfl, by omega, by omega, by omega, ho, hn, hw, hbv, hlev, ?_, ?_, ?_, ?_, ?_, ?_, ?_⟩
        all_goals simp [T.get_set, t1, t2, t6, t8, t9, t10]
    · have hc1 : ¬ (i : Int) < (to : Int) := by omega
      obtain rfl : i = to := by omega
      simp only [e_seq, e_skip, e_ret, e_exit, e_block, e_region, e_cond, condQ_true, condQ_false, seqK_normal, seqK_ret, seqK_exit, loopK_normal, loopK_ret, loopK_exit, drawK_eq, blockQ_normal, blockQ_ret, blockQ_same, blockQ_other, steps_cons, steps_done, fits_some, blt_lt, pre_plain, pre_guardQ, guardV_some, guardQ_tt, guardQ_ff, guardQ_tf, guardQ_ft, guardQ_skip, List.getElem?_toArray, List.getElem?_cons_zero, List.getElem?_cons_succ, fits_none, evOp, evCall, evOpds, evBuiltin, opd_tmp, opd_int, opd_bool, opd_nil, ov_some, ove_some, oe_some, ose_some, after_val, after_skip, after_call, callQ_some, stepK_eq, opd_func,  putT_some, putT_none, effT_none, next_none, effT_new, effT_wr, effT_mv, next_new, next_wr, next_mv, Nat.reduceLT, Nat.reduceBEq, true_and, and_true, reduceIte, Nat.reduceEqDiff, eq_self, T.get_set, cond_true, cond_false, endR_ret, resQ_some, evResults, tup_one, tup_two, tup_three, fillT, load_same, load_ne, store_same, store_ne, AV.cells, allOne, one_int, one_bool, one_ptr, one_nil, one_slice, List.length_cons, List.length_nil, Nat.zero_add, Nat.reduceAdd, beqD, bleD, Nat.reduceLeDiff, Nat.le_refl, decide_true, decide_false, Bool.and_self, Bool.and_true, Bool.true_and, List.take_zero, List.take_succ_cons, List.drop_succ_cons, List.drop_zero, List.nil_append, List.append_nil, List.cons_append, List.getElem?_cons_zero, List.getElem?_cons_succ, agg3, agg4, agg22, agg25, size3, size4, size22, size51, alloc51, fieldAddr24, fieldAddr51, bin_lss, bin_leq, bin_gtr, bin_geq, bin_eql, bin_neq, bin_neqb, un_not, List.getElem?_toArray, ne_eq, not_false_eq_true, evParts, build25, build26, ok5, ok6, ok7, ok8, ok9, ok10, ok13, ok14, ok15, ok16, ok17, ok19, ok20, ok34, ok35, ok36, ok37, ok38, ok39, ok44, ok45, ok60, load_same_agg, agg24, size24, evExtract, agg51, t1, t2, t6, t8, t9, t10, t11, hc1, hst]
      have hge : i ≤ (lst S (i * nIn S)).length := by
        have hle : i0 * nIn S ≤ i * nIn S := Nat.mul_le_mul_right _ hi0
        have hlast : (lst S (i0 * nIn S))[(lst S (i0 * nIn S)).length - 1]? = some (lst S (i0 * nIn S))[(lst S (i0 * nIn S)).length - 1] := List.getElem?_eq_getElem (by omega)
        have := (List.getElem?_eq_some_iff.1 (lst_keep hle hlast)).1
        omega
      have h256 := lst_short hS (i * nIn S) hnl
      refine ⟨q - (i - i0), by omega, i, m, t + 1, bad, _, h, lv, sv, rfl, by omega, hge, hm, ho, hn, hw, hbv, by omega, fun idx x hx h1 => (hlev idx x hx).2 h1, ?_, ?_, ?_, ?_, ?_, ?_⟩
      all_goals simp [T.get_set, t1, t2, t6, t8, t9, t10]
  have hc : ¬ (i0 : Int) < (((lst S (i0 * nIn S)).length : Nat) : Int) := by omega
  simp only [e_seq, e_skip, e_ret, e_exit, e_block, e_region, e_cond, condQ_true, condQ_false, seqK_normal, seqK_ret, seqK_exit, loopK_normal, loopK_ret, loopK_exit, drawK_eq, blockQ_normal, blockQ_ret, blockQ_same, blockQ_other, steps_cons, steps_done, fits_some, blt_lt, pre_plain, pre_guardQ, guardV_some, guardQ_tt, guardQ_ff, guardQ_tf, guardQ_ft, guardQ_skip, List.getElem?_toArray, List.getElem?_cons_zero, List.getElem?_cons_succ, fits_none, evOp, evCall, evOpds, evBuiltin, opd_tmp, opd_int, opd_bool, opd_nil, ov_some, ove_some, oe_some, ose_some, after_val, after_skip, after_call, callQ_some, stepK_eq, opd_func,  putT_some, putT_none, effT_none, next_none, effT_new, effT_wr, effT_mv, next_new, next_wr, next_mv, Nat.reduceLT, Nat.reduceBEq, true_and, and_true, reduceIte, Nat.reduceEqDiff, eq_self, T.get_set, cond_true, cond_false, endR_ret, resQ_some, evResults, tup_one, tup_two, tup_three, fillT, load_same, load_ne, store_same, store_ne, AV.cells, allOne, one_int, one_bool, one_ptr, one_nil, one_slice, List.length_cons, List.length_nil, Nat.zero_add, Nat.reduceAdd, beqD, bleD, Nat.reduceLeDiff, Nat.le_refl, decide_true, decide_false, Bool.and_self, Bool.and_true, Bool.true_and, List.take_zero, List.take_succ_cons, List.drop_succ_cons, List.drop_zero, List.nil_append, List.append_nil, List.cons_append, List.getElem?_cons_zero, List.getElem?_cons_succ, agg3, agg4, agg22, agg25, size3, size4, size22, size51, alloc51, fieldAddr24, fieldAddr51, bin_lss, bin_leq, bin_gtr, bin_geq, bin_eql, bin_neq, bin_neqb, un_not, List.getElem?_toArray, ne_eq, not_false_eq_true, evParts, build25, build26, ok5, ok6, ok7, ok8, ok9, ok10, ok13, ok14, ok15, ok16, ok17, ok19, ok20, ok34, ok35, ok36, ok37, ok38, ok39, ok44, ok45, ok60, load_same_agg, agg24, size24, evExtract, agg51, t1, t2, t6, t7, t8, t9, hll, hc]
  refine ⟨⟨bad0, (((lst S (i0 * nIn S)).length : Nat) : Int), rfl, ?_⟩, ho0, by omega⟩
  rcases hbv0 with ⟨p, y, _, k2, k3, k4, k5⟩ | ⟨k1, k2⟩
  · exact .inl ⟨p, y, k2, k3, k4, k5⟩
  · exact .inr ⟨k1, none_bad (by omega) k2⟩
end Go.Ev
