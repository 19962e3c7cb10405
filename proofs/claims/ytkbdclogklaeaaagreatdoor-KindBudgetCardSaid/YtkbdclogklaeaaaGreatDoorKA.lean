/- PART OF THE PROOF OF KindBudget's CARD. The small functions of the law's reach, evaluated for all data. -/
import Derived.Test.YtkbdclogklaeaaaGreatDoorProg
import Derived.Test.YtkbdclogklaeaaaGreatDoorEvF
set_option linter.unusedSimpArgs false
set_option linter.unusedVariables false

namespace Go.Ev
open Go Proofs

theorem sizeT4 : sizeT Tryz.prog 4 = some 1 := by decide +kernel
theorem aggT4 : aggT Tryz.prog 4 = some false := by decide +kernel

/-- A window of bools. -/
def bitsAt (data : List AV) (off : Nat) (bs : List Bool) : Prop := ∀ (i : Nat) (b : Bool), bs[i]? = some b → data[(off + i) * 1]? = some (.bool b)

/-- What 'key' counts. -/
def keyFrom : Nat → List Bool → Nat → Nat
  | _, [], acc => acc
  | i, b :: bs, acc => keyFrom (i + 1) bs (if b then acc ||| 2 ^ i else acc)

def isAV (o : Option AV) (x : AV) : Bool := match o with | some y => AV.same y x | none => false
theorem isAV_eq {o : Option AV} {x : AV} (h : isAV o x = true) : o = some x := by
  unfold isAV at h
  split at h
  · rw [AV.same_eq _ _ h]
  · cases h

theorem bin_shl (i : Nat) (h : i < 10) : evBin Tryz.prog .shl 3 (.int .i64 1) (.int .i64 (i : Int)) = some (.int .i64 ((2 ^ i : Nat) : Int)) := by
  have : ∀ i : Nat, i < 10 → isAV (evBin Tryz.prog .shl 3 (.int .i64 1) (.int .i64 (i : Int))) (.int .i64 ((2 ^ i : Nat) : Int)) = true := by decide +kernel
  exact isAV_eq (this i h)

theorem bin_or (i : Nat) (h : i < 10) (acc : Nat) (ha : acc < 1024) : evBin Tryz.prog .or 3 (.int .i64 (acc : Int)) (.int .i64 ((2 ^ i : Nat) : Int)) = some (.int .i64 ((acc ||| 2 ^ i : Nat) : Int)) := by
  have hp : 2 ^ i < 2 ^ 10 := Nat.pow_lt_pow_right (by omega) h
  have hor : acc ||| 2 ^ i < 2 ^ 10 := Nat.or_lt_two_pow (by omega) hp
  have e : ((BitVec.ofInt 64 (acc : Int)) ||| (BitVec.ofInt 64 ((2 ^ i : Nat) : Int))).toNat = acc ||| 2 ^ i := by
    rw [BitVec.toNat_or, BitVec.ofInt_natCast, BitVec.ofInt_natCast, BitVec.toNat_ofNat, BitVec.toNat_ofNat, Nat.mod_eq_of_lt (by omega), Nat.mod_eq_of_lt (by omega)]
  show some (AV.int .i64 (IntKind.i64.wrap (((BitVec.ofInt 64 (acc : Int)) ||| (BitVec.ofInt 64 ((2 ^ i : Nat) : Int))).toNat : Int))) = _
  rw [e, IntWalk.i64_in _ (by omega)]

theorem or_lt {acc i : Nat} (ha : acc < 1024) (hi : i < 10) : acc ||| 2 ^ i < 1024 := by
  have : 2 ^ i < 2 ^ 10 := Nat.pow_lt_pow_right (by omega) hi
  exact Nat.or_lt_two_pow (n := 10) ha this

theorem key_gives {fuel d : Nat} {id off : Nat} {cap : Option Nat} {g : T AObj} {n : Nat} {data : List AV} {bs : List Bool} (hg : Rd (g.get id) 1 data) (hb : bitsAt data off bs) (hlen : bs.length ≤ 10) (hf : bs.length + 1 < fuel) :
    Gives Tryz.prog fuel (d + 1) 36 [.slice id off bs.length cap 1] g n (fun x g' n' => x = .int .i64 ((keyFrom 0 bs 0 : Nat) : Int) ∧ g' = g ∧ n' = n) := by
  have hl : ∀ o, evLoad Tryz.prog g.get 4 (.ptr id o) = data[o]? := fun o => evLoad_rd hg aggT4
  refine gives_of_ends Tryz.func36 rfl ?_
  have hnt : ([AV.slice id off bs.length cap 1].length + (Tryz.f36.ntmps - [AV.slice id off bs.length cap 1].length)) = 20 := rfl
  rw [hnt]
  refine ends_seq (ends_region ?_)
  simp only [steps_cons, steps_done, fits_some, blt_lt, pre_plain, evOp, opd_int, ov_some, after_val, putT_some, effT_none, next_none, Nat.reduceLT, true_and]
  refine ends_seq (ends_region ?_)
  simp only [steps_cons, steps_done, fits_some, blt_lt, pre_plain, evOp, opd_int, ov_some, after_val, putT_some, effT_none, next_none, Nat.reduceLT, true_and]
  refine ends_seq (ends_seq (ends_region ?_))
  simp only [steps_cons, steps_done, fits_some, blt_lt, pre_plain, evOp, evCall, evOpds, evBuiltin, evLen, Tryz.underlying26, fillT, opd_tmp, opd_int, ov_some, after_val, putT_some, effT_none, next_none, Nat.reduceLT, true_and, T.get_set, reduceIte, Nat.reduceEqDiff]
  refine ends_block ?_
  refine ends_loop (k := bs.length) (fun k s => ∃ i acc : Nat, i + k = bs.length ∧ s.g = g ∧ s.n = n ∧ s.mks = [] ∧ s.tm.get 6 = some (.slice id off bs.length cap 1) ∧ s.tm.get 7 = some (.int .i64 (bs.length : Int)) ∧ s.tm.get 8 = some (.int .i64 (i : Int)) ∧
    s.tm.get 3 = some (.int .i64 (acc : Int)) ∧ acc < 1024 ∧ keyFrom i (bs.drop i) acc = keyFrom 0 bs 0) ?_ (by omega) ⟨0, 0, by omega, rfl, rfl, rfl, by simp [T.get_set], by simp [T.get_set], by simp [T.get_set], by simp [T.get_set], by omega, by simp⟩
  intro k s ⟨i, acc, hik, hsg, hsn, hmk, h6, h7, h8, h3, hacc, hkey⟩
  obtain ⟨tm, g', n', mks⟩ := s
  simp only at hsg hsn hmk h6 h7 h8 h3
  subst hsg hsn hmk
  refine ends_seq (ends_region ?_)
  simp only [steps_cons, steps_done, fits_some, blt_lt, pre_plain, evOp, opd_tmp, h8, h7, bin_lss, ov_some, after_val, putT_some, effT_none, next_none, Nat.reduceLT, true_and]
  refine ends_seq (ends_cond (t := decide ((i : Int) < (bs.length : Int))) (by simp [opd_tmp, T.get_set]) (fun hlt => ?_) (fun hge => ?_))
  · simp only [decide_eq_true_eq] at hlt
    have hi : i < bs.length := by omega
    obtain ⟨b, hbi⟩ : ∃ b, bs[i]? = some b := ⟨_, List.getElem?_eq_getElem hi⟩
    have hd := hb i b hbi
    have hkey' : keyFrom (i + 1) (bs.drop (i + 1)) (if b then acc ||| 2 ^ i else acc) = keyFrom 0 bs 0 := by
      rw [← hkey, List.drop_eq_getElem_cons hi]
      have : bs[i] = b := by rw [List.getElem?_eq_getElem hi] at hbi; exact Option.some.inj hbi
      rw [this]; rfl
    refine ends_skip ?_
    simp only [thenQ]
    refine ends_seq (ends_block (ends_seq (ends_region ?_)))
    simp only [steps_cons, steps_done, fits_some, blt_lt, pre_plain, evOp, opd_tmp, T.get_set, h8, h6, hl, hd, evIndexAddr, Tryz.underlying26, sizeT4, aggT4, ov_some, after_val, putT_some, effT_none, next_none, Nat.reduceLT, true_and, reduceIte, Nat.reduceEqDiff,
      Nat.beq_refl, hlt, Int.natCast_nonneg, decide_true, Bool.and_self, cond_true, Int.toNat_natCast]
    refine ends_seq (ends_region ?_)
    simp only [steps_cons, steps_done, fits_some, blt_lt, pre_plain, evOp, opd_tmp, T.get_set, ov_some, after_val, putT_some, effT_none, next_none, Nat.reduceLT, true_and, reduceIte, Nat.reduceEqDiff]
    have hadd := bin_add Tryz.prog 3 (i : Int) 1 ⟨by omega, by omega⟩
    refine ends_cond (t := b) (by simp [opd_tmp, T.get_set]) (fun hbt => ?_) (fun hbf => ?_)
    · refine ends_region ?_
      have hsh := bin_shl i (by omega)
      have hor := bin_or i (by omega) acc hacc
      simp only [steps_cons, steps_done, fits_some, blt_lt, pre_plain, evOp, opd_tmp, opd_int, T.get_set, h3, hsh, hor, ov_some, after_val, putT_some, effT_none, next_none, Nat.reduceLT, true_and, reduceIte, Nat.reduceEqDiff]
      refine ends_region ?_
      simp only [steps_cons, steps_done, fits_some, blt_lt, pre_plain, evOp, opd_tmp, opd_int, h8, hadd, T.get_set, ov_some, after_val, putT_some, effT_none, next_none, Nat.reduceLT, true_and, reduceIte, Nat.reduceEqDiff]
      exact ⟨k - 1, by omega, i + 1, acc ||| 2 ^ i, by omega, rfl, rfl, rfl, by simp [T.get_set, h6], by simp [T.get_set, h7], by simp [T.get_set], by simp [T.get_set], or_lt hacc (by omega), by simpa [hbt] using hkey'⟩
    · refine ends_skip ?_
      refine ends_region ?_
      simp only [steps_cons, steps_done, fits_some, blt_lt, pre_plain, evOp, opd_tmp, opd_int, h8, hadd, T.get_set, ov_some, after_val, putT_some, effT_none, next_none, Nat.reduceLT, true_and, reduceIte, Nat.reduceEqDiff]
      exact ⟨k - 1, by omega, i + 1, acc, by omega, rfl, rfl, rfl, by simp [T.get_set, h6], by simp [T.get_set, h7], by simp [T.get_set], by simp [T.get_set, h3], hacc, by simpa [hbf] using hkey'⟩
  · simp only [decide_eq_false_iff_not] at hge
    have hi : i = bs.length := by omega
    refine ends_exit ?_
    simp only [thenQ, blockQ, reduceIte]
    refine ends_seq (ends_region ?_)
    simp only [steps_cons, steps_done, fits_some, blt_lt, pre_plain, evOp, opd_tmp, T.get_set, h3, ov_some, after_val, putT_some, effT_none, next_none, Nat.reduceLT, true_and, reduceIte, Nat.reduceEqDiff]
    refine ends_ret ⟨g', [.int .i64 (acc : Int)], rfl, ?_, ?_⟩
    · simp only [Tryz.f36, evResults, T.get_set, reduceIte]
    · subst hi
      simp only [List.drop_length, keyFrom] at hkey
      exact ⟨by rw [← hkey]; rfl, rfl, rfl⟩

end Go.Ev

namespace Go.Ev
open Go Proofs

theorem num_gives {fuel d : Nat} {g : T AObj} {n : Nat} {e : Int} : Gives Tryz.prog fuel (d + 1) 9 [.int .i64 e] g n (fun x g' n' => x = .int .i64 e ∧ g' = g ∧ n' = n) := by
  refine gives_of_ends Tryz.func9 rfl ?_
  have hnt : ([AV.int .i64 e].length + (Tryz.f9.ntmps - [AV.int .i64 e].length)) = 4 := rfl
  rw [hnt]
  refine ends_seq (ends_region ?_)
  simp only [steps_cons, steps_done, fits_some, blt_lt, pre_plain, evOp, opd_int, ov_some, after_val, putT_some, effT_none, next_none, Nat.reduceLT, true_and]
  refine ends_seq (ends_region ?_)
  simp only [steps_cons, steps_done, fits_some, blt_lt, pre_plain, evOp, opd_tmp, fillT, T.get_set, opd_int, ov_some, after_val, putT_some, effT_none, next_none, Nat.reduceLT, true_and, reduceIte, Nat.reduceEqDiff]
  exact ends_ret ⟨g, [.int .i64 e], rfl, by simp only [Tryz.f9, evResults, T.get_set, reduceIte], rfl, rfl, rfl⟩

theorem pre_guard {P : Program} {ops : Array Oper} {tm : T AV} {g : AHeap} {n : Nat} {d : Option Tmp} {op : Op} {ty : TypeId} {pos : String} {af : Array Edge} {j : Nat} {want b : Bool} {o' : Oper} {d' : Tmp}
    (h1 : ops[j]? = some o') (h2 : o'.dst = some d') (h3 : tm.get d' = some (.bool b)) :
    evPre P ops tm g n { dst := d, op := op, type := ty, pos := pos, after := af, guard := some (j, want) } = if b = want then evOp P tm g n op else some (.skip .none) := by
  unfold evPre wantedT
  simp only [h1, h2, h3]
  cases b <;> cases want <;> rfl

/-- The system, as it is handed on. -/
def sysAV (net now next ins init : AV) (ok assume : Int) : AV := .agg [net, now, next, ins, init, .int .i64 ok, .int .i64 assume]

end Go.Ev

namespace Go.Ev
open Go Proofs
theorem size25 : sizeT Tryz.prog 25 = some 1 := by decide +kernel
theorem agg25 : aggT Tryz.prog 25 = some false := by decide +kernel
theorem size22 : sizeT Tryz.prog 22 = some 1 := by decide +kernel
theorem agg22 : aggT Tryz.prog 22 = some false := by decide +kernel
theorem size24 : sizeT Tryz.prog 24 = some 1 := by decide +kernel

theorem size26 : sizeT Tryz.prog 26 = some 1 := by decide +kernel
theorem size3 : sizeT Tryz.prog 3 = some 1 := by decide +kernel
def isP (o : Option AV) (id off : Nat) : Bool := match o with | some (.ptr a b) => Nat.beq a id && Nat.beq b off | _ => false
theorem fieldAddr28 (id : Nat) (i : Nat) (h : i < 7) : evFieldAddr Tryz.prog 28 (.ptr id 0) i = some (.ptr id i) := by
  have : i = 0 ∨ i = 1 ∨ i = 2 ∨ i = 3 ∨ i = 4 ∨ i = 5 ∨ i = 6 := by omega
  rcases this with rfl | rfl | rfl | rfl | rfl | rfl | rfl <;> simp [evFieldAddr, Tryz.underlying28, size24, size25, size26, size3, Nat.beq]
def lenIs (v : AV) (k : Nat) : Prop := (v = .nilSlice ∧ k = 0) ∨ ∃ id off cap sz, v = .slice id off k cap sz
theorem len_run {P : Program} {g : AHeap} {t e : TypeId} (h : P.underlying t = some (.slice e)) {v : AV} {k : Nat} (hv : lenIs v k) : evLen P g t v = some (.int .i64 (k : Int)) := by
  rcases hv with ⟨rfl, rfl⟩ | ⟨id, off, cap, sz, rfl⟩ <;> simp [evLen, h]
theorem len_one {v : AV} {k : Nat} (hv : lenIs v k) : v.one = true := by
  rcases hv with ⟨rfl, rfl⟩ | ⟨id, off, cap, sz, rfl⟩ <;> rfl
theorem bin_leq (P : Program) (t : TypeId) (a b : Int) : evBin P .leq t (.int .i64 a) (.int .i64 b) = some (.bool (decide (a ≤ b))) := rfl
theorem fieldAddr24 (id off : Nat) : evFieldAddr Tryz.prog 24 (.ptr id off) 0 = some (.ptr id off) := by
  simp [evFieldAddr, Tryz.underlying24, size22, Nat.beq]

theorem tiny_gives {fuel d : Nat} {net now next ins init : AV} {ok assume : Int} {g : T AObj} {n a b c : Nat} (h1 : lenIs now a) (h3 : lenIs ins b) (h0 : lenIs net c) (h2 : next.one = true) (h4 : init.one = true) :
    Gives Tryz.prog fuel (d + 1) 5 [sysAV net now next ins init ok assume] g n (fun x g' n' => x = .bool (decide ((a : Int) ≤ 8) && decide ((b : Int) ≤ 3) && decide ((c : Int) ≤ 400)) ∧ (∀ i, i < n → g'.get i = g.get i) ∧ n ≤ n') := by
  refine gives_of_ends Tryz.func5 rfl ?_
  have hnt : ([sysAV net now next ins init ok assume].length + (Tryz.f5.ntmps - [sysAV net now next ins init ok assume].length)) = 20 := rfl
  rw [hnt]
  have hall : allOne [net, now, next, ins, init, .int .i64 ok, .int .i64 assume] = true := by
    simp only [allOne, len_one h0, len_one h1, len_one h3, h2, h4, cond_true]
    rfl
  refine ends_seq (ends_region ?_)
  simp only [steps_cons, steps_done, fits_some, blt_lt, pre_plain, evOp, opd_tmp, opd_bool, fillT, T.get_set, reduceIte, Nat.reduceEqDiff, evBox, sysAV, AV.cells, hall, cond_true, ove_some, ov_some, after_val, putT_some, effT_none, next_none, Nat.reduceLT, true_and, effT, Eff.next, List.length_cons, List.length_nil, Nat.reduceAdd]
  refine ends_seq (ends_region ?_)
  have f0 := fieldAddr28 n 0 (by omega)
  have f1 := fieldAddr28 n 1 (by omega)
  have f3 := fieldAddr28 n 3 (by omega)
  have fin : ∀ (tm : T AV) (r : Bool), tm.get 2 = some (.bool r) → r = (decide ((a : Int) ≤ 8) && decide ((b : Int) ≤ 3) && decide ((c : Int) ≤ 400)) →
      Ends Tryz.prog (evFn Tryz.prog fuel d) 20 fuel none .ret ⟨tm, T.set (.cells 7 [net, now, next, ins, init, .int .i64 ok, .int .i64 assume]) g n, n + 1, []⟩
        (endQ Tryz.prog Tryz.f5 (fun x g' n' => x = .bool (decide ((a : Int) ≤ 8) && decide ((b : Int) ≤ 3) && decide ((c : Int) ≤ 400)) ∧ (∀ i, i < n → g'.get i = g.get i) ∧ n ≤ n')) := by
    intro tm r hr he
    refine ends_ret ⟨_, [.bool r], rfl, by simp only [Tryz.f5, evResults, hr], by rw [he]; rfl, fun i hi => ?_, Nat.le_succ n⟩
    rw [T.get_set, if_neg (by omega)]
  cases hA : decide ((a : Int) ≤ 8) <;> cases hB : decide ((b : Int) ≤ 3) <;> cases hC : decide ((c : Int) ≤ 400) <;>
    simp [steps_cons, steps_done, fits_some, pre_plain, pre_guard, evOp, opd_tmp, opd_int, opd_bool, T.get_set, evCall, evOpds, evBuiltin, f0, f1, f3, fieldAddr24, evLoad, agg25, agg22, len_run Tryz.underlying25 h1, len_run Tryz.underlying25 h3, len_run Tryz.underlying22 h0, bin_leq, hA, hB, hC, ov_some, after_val, after_skip, putT_some, effT_none, next_none, thenQ] <;>
    simp only [hA, hB, hC] at fin <;> exact fin _ _ (by simp [T.get_set]) rfl

end Go.Ev

namespace Go.Ev
open Go Proofs

theorem size28 : sizeT Tryz.prog 28 = some 7 := by decide +kernel
theorem fieldAddr55 (id : Nat) : evFieldAddr Tryz.prog 55 (.ptr id 0) 0 = some (.ptr id 0) := by
  simp [evFieldAddr, Tryz.underlying55, size28, Nat.beq]
theorem nilCheck_ptr (a b : Nat) : evNilCheck (.ptr a b) = some (.ptr a b) := rfl

theorem small_gives {fuel d id : Nat} {net now next ins init bud : AV} {ok assume : Int} {g : T AObj} {n a b c : Nat} (h1 : lenIs now a) (h3 : lenIs ins b) (h0 : lenIs net c) (ha : a ≤ 8) (hb : b ≤ 3) (hc : c ≤ 400)
    (hg : g.get id = some (.cells 8 [net, now, next, ins, init, .int .i64 ok, .int .i64 assume, bud])) :
    Gives Tryz.prog fuel (d + 1) 16 [.ptr id 0] g n (fun x g' n' => x = .bool true ∧ g' = g ∧ n' = n) := by
  refine gives_of_ends Tryz.func16 rfl ?_
  have hnt : ([AV.ptr id 0].length + (Tryz.f16.ntmps - [AV.ptr id 0].length)) = 29 := rfl
  rw [hnt]
  have f0 := fieldAddr28 id 0 (by omega)
  have f1 := fieldAddr28 id 1 (by omega)
  have f3 := fieldAddr28 id 3 (by omega)
  have hA : (a : Int) ≤ 10 := by omega
  have hB : (b : Int) ≤ 4 := by omega
  have hC : (c : Int) ≤ 400 := by omega
  refine ends_seq (ends_region ?_)
  simp only [steps_cons, steps_done, fits_some, blt_lt, pre_plain, evOp, opd_bool, ov_some, after_val, putT_some, effT_none, next_none, Nat.reduceLT, true_and]
  refine ends_seq (ends_region ?_)
  simp [steps_cons, steps_done, fits_some, pre_plain, pre_guard, evOp, opd_tmp, opd_int, opd_bool, T.get_set, fillT, evCall, evOpds, evBuiltin, nilCheck_ptr, fieldAddr55, f0, f1, f3, fieldAddr24, evLoad, hg, agg25, agg22, len_run Tryz.underlying25 h1, len_run Tryz.underlying25 h3, len_run Tryz.underlying22 h0, bin_leq, hA, hB, hC, ov_some, after_val, putT_some, effT_none, next_none, thenQ]
  exact ends_ret ⟨g, [.bool true], rfl, by simp [Tryz.f16, evResults, T.get_set], rfl, rfl, rfl⟩

end Go.Ev

namespace Go.Ev
open Go Proofs

theorem bin_quo2 (P : Program) (t : TypeId) (w : Nat) (h : w < 4611686018427387904) : evBin P .quo t (.int .i64 (w : Int)) (.int .i64 2) = some (.int .i64 ((w / 2 : Nat) : Int)) := by
  have e : ((w : Int).tdiv 2) = ((w / 2 : Nat) : Int) := rfl
  show some (AV.int .i64 (IntKind.i64.wrap ((w : Int).tdiv 2))) = _
  rw [e, IntWalk.i64_in _ (by omega)]
theorem bin_rem2 (P : Program) (t : TypeId) (w : Nat) : evBin P .rem t (.int .i64 (w : Int)) (.int .i64 2) = some (.int .i64 ((w % 2 : Nat) : Int)) := by
  have e : ((w : Int).tmod 2) = ((w % 2 : Nat) : Int) := rfl
  show some (AV.int .i64 ((w : Int).tmod 2)) = _
  rw [e]
theorem bin_eql (P : Program) (t : TypeId) (a b : Int) : evBin P .eql t (.int .i64 a) (.int .i64 b) = some (.bool (a == b)) := rfl
theorem bin_neqb (a b : Bool) : evBin Tryz.prog .neq 4 (.bool a) (.bool b) = some (.bool (a != b)) := by
  have : ∀ a b : Bool, isAV (evBin Tryz.prog .neq 4 (.bool a) (.bool b)) (.bool (a != b)) = true := by decide +kernel
  exact isAV_eq (this a b)

theorem wire_gives {fuel d id off : Nat} {cap : Option Nat} {g : T AObj} {n : Nat} {data : List AV} {bs : List Bool} {w : Nat} {v : Bool} (hg : Rd (g.get id) 1 data) (hb : bitsAt data off bs) (hw : w < 4611686018427387904) (hv : bs[w / 2]? = some v) :
    Gives Tryz.prog fuel (d + 1) 45 [.slice id off bs.length cap 1, .int .i64 (w : Int)] g n (fun x g' n' => x = .bool (v != (((w % 2 : Nat) : Int) == 1)) ∧ g' = g ∧ n' = n) := by
  refine gives_of_ends Tryz.func45 rfl ?_
  have hnt : ([AV.slice id off bs.length cap 1, AV.int .i64 (w : Int)].length + (Tryz.f45.ntmps - [AV.slice id off bs.length cap 1, AV.int .i64 (w : Int)].length)) = 14 := rfl
  rw [hnt]
  have hq := bin_quo2 Tryz.prog 3 w hw
  have hr := bin_rem2 Tryz.prog 3 w
  have hd := hb _ _ hv
  have hlt : ((w / 2 : Nat) : Int) < (bs.length : Int) := by have := (List.getElem?_eq_some_iff.1 hv).1; omega
  have hidx : evIndexAddr Tryz.prog 26 (.slice id off bs.length cap 1) (.int .i64 ((w / 2 : Nat) : Int)) = some (.ptr id ((off + w / 2) * 1)) := by
    simp only [evIndexAddr, Tryz.underlying26, sizeT4, Nat.beq_refl, Int.natCast_nonneg, decide_true, hlt, Bool.and_self, cond_true, Int.toNat_natCast]
  refine ends_seq (ends_region ?_)
  simp only [steps_cons, steps_done, fits_some, blt_lt, pre_plain, evOp, opd_bool, ov_some, after_val, putT_some, effT_none, next_none, Nat.reduceLT, true_and]
  refine ends_seq (ends_region ?_)
  simp only [steps_cons, steps_done, fits_some, blt_lt, pre_plain, evOp, opd_tmp, opd_int, T.get_set, fillT, hq, hr, hidx, evLoad_rd hg aggT4, hd, bin_eql, bin_neqb, ov_some, after_val, putT_some, effT_none, next_none, Nat.reduceLT, true_and, reduceIte, Nat.reduceEqDiff, thenQ]
  exact ends_ret ⟨g, [.bool (v != (((w % 2 : Nat) : Int) == 1))], rfl, by simp [Tryz.f45, evResults, T.get_set], rfl, rfl, rfl⟩
end Go.Ev

/-! Views of slices in an abstract heap. -/
namespace Go.Ev
open Go Proofs

/-- What lies below n is as it was. -/
def Old (n : Nat) (g g' : T AObj) : Prop := ∀ i, i < n → g'.get i = g.get i
theorem Old.refl (n : Nat) (g : T AObj) : Old n g g := fun _ _ => rfl
theorem Old.trans {n n1 : Nat} {g g1 g2 : T AObj} (h : Old n g g1) (h1 : n ≤ n1) (k : Old n1 g1 g2) : Old n g g2 := fun i hi => by rw [k i (by omega), h i hi]
theorem Old.set {n m : Nat} {g g' : T AObj} (h : Old n g g') (hm : n ≤ m) (o : AObj) : Old n g (T.set o g' m) := fun i hi => by
  rw [T.get_set, if_neg (by omega)]; exact h i hi
theorem Old.del {n m : Nat} {g g' : T AObj} (h : Old n g g') (hm : n ≤ m) : Old n g (g'.del m) := fun i hi => by
  rw [T.get_del, if_neg (by omega)]; exact h i hi
theorem Old.less {n m : Nat} {g g' : T AObj} (h : Old n g g') (hm : m ≤ n) : Old m g g' := fun i hi => h i (by omega)

/-- A slice, nil or not, whose cells are these. -/
def Row (n : Nat) (g : T AObj) (v : AV) (sz len : Nat) (cs : List AV) : Prop :=
  (v = .nilSlice ∧ len = 0 ∧ cs = []) ∨ ∃ id off cap data, v = .slice id off len cap sz ∧ id < n ∧ Rd (g.get id) sz data ∧ cs.length = len * sz ∧ (∀ j x, cs[j]? = some x → data[off * sz + j]? = some x) ∧ (off + len) * sz ≤ data.length

theorem Row.old {n n' : Nat} {g g' : T AObj} {v : AV} {sz len : Nat} {cs : List AV} (h : Row n g v sz len cs) (ho : Old n g g') (hn : n ≤ n') : Row n' g' v sz len cs := by
  rcases h with h | ⟨id, off, cap, data, h1, h2, h3, h4, h5⟩
  · exact .inl h
  · exact .inr ⟨id, off, cap, data, h1, by omega, by rw [ho id h2]; exact h3, h4, h5⟩
theorem Row.lenIs {n : Nat} {g : T AObj} {v : AV} {sz len : Nat} {cs : List AV} (h : Row n g v sz len cs) : lenIs v len := by
  rcases h with ⟨h, h', _⟩ | ⟨id, off, cap, data, h1, _⟩
  · exact .inl ⟨h, h'⟩
  · exact .inr ⟨id, off, cap, sz, h1⟩
theorem Row.one {n : Nat} {g : T AObj} {v : AV} {sz len : Nat} {cs : List AV} (h : Row n g v sz len cs) : v.one = true := len_one h.lenIs
theorem Row.evLen {n : Nat} {g : T AObj} {v : AV} {sz len : Nat} {cs : List AV} (h : Row n g v sz len cs) {P : Program} {t e : TypeId} (ht : P.underlying t = some (.slice e)) (g' : AHeap) : evLen P g' t v = some (.int .i64 (len : Int)) := len_run ht h.lenIs

/-- The i-th element: its place. -/
theorem Row.at {n : Nat} {g : T AObj} {v : AV} {sz len : Nat} {cs : List AV} (h : Row n g v sz len cs) {i : Nat} (hi : i < len) {P : Program} {t e : TypeId} (ht : P.underlying t = some (.slice e)) (hs : sizeT P e = some sz) (k : IntKind) :
    ∃ id o data, evIndexAddr P t v (.int k (i : Int)) = some (.ptr id o) ∧ id < n ∧ Rd (g.get id) sz data ∧ ∀ j x, j < sz → cs[i * sz + j]? = some x → data[o + j]? = some x := by
  rcases h with ⟨_, h, _⟩ | ⟨id, off, cap, data, h1, h2, h3, h4, h5⟩
  · omega
  · refine ⟨id, (off + i) * sz, data, ?_, h2, h3, fun j x _ hx => ?_⟩
    · rw [h1]
      have : (i : Int) < (len : Int) := by omega
      simp only [evIndexAddr, ht, hs, Nat.beq_refl, Int.natCast_nonneg, decide_true, this, Bool.and_self, cond_true, Int.toNat_natCast]
    · have := h5.1 _ _ hx
      rw [← this]; congr 1; rw [Nat.add_mul]; omega

def bools (bs : List Bool) : List AV := bs.map AV.bool
def ints (l : List Int) : List AV := l.map (AV.int .i64)

theorem size4 : sizeT Tryz.prog 4 = some 1 := by decide +kernel
theorem agg4 : aggT Tryz.prog 4 = some false := by decide +kernel
theorem agg3 : aggT Tryz.prog 3 = some false := by decide +kernel

theorem load_rd {P : Program} {g : T AObj} {id o sz : Nat} {data : List AV} (h : Rd (g.get id) sz data) {t : TypeId} (ha : aggT P t = some false) {x : AV} (hx : data[o]? = some x) : evLoad P g.get t (.ptr id o) = some x := by
  rw [evLoad_rd h ha, hx]
theorem load_cell {P : Program} {g : T AObj} {id o sz : Nat} {data : List AV} (h : g.get id = some (.cells sz data)) {t : TypeId} (ha : aggT P t = some false) {x : AV} (hx : data[o]? = some x) : evLoad P g.get t (.ptr id o) = some x := by
  simp only [evLoad, h, ha, hx]

/-- The i-th bit of a row. -/
theorem Row.bit {n : Nat} {g : T AObj} {v : AV} {bs : List Bool} {len : Nat} (h : Row n g v 1 len (bools bs)) {i : Nat} (hi : i < len) {b : Bool} (hb : bs[i]? = some b) (k : IntKind) :
    ∃ id o, evIndexAddr Tryz.prog 26 v (.int k (i : Int)) = some (.ptr id o) ∧ id < n ∧ evLoad Tryz.prog g.get 4 (.ptr id o) = some (.bool b) := by
  obtain ⟨id, o, data, h1, h2, h3, h4⟩ := h.at hi Tryz.underlying26 size4 k
  refine ⟨id, o, h1, h2, load_rd h3 agg4 ?_⟩
  exact h4 0 _ (by omega) (by simp [bools, hb])

/-- The i-th number of a row. -/
theorem Row.num {n : Nat} {g : T AObj} {v : AV} {l : List Int} {len : Nat} (h : Row n g v 1 len (ints l)) {i : Nat} (hi : i < len) {b : Int} (hb : l[i]? = some b) (k : IntKind) :
    ∃ id o, evIndexAddr Tryz.prog 25 v (.int k (i : Int)) = some (.ptr id o) ∧ id < n ∧ evLoad Tryz.prog g.get 3 (.ptr id o) = some (.int .i64 b) := by
  obtain ⟨id, o, data, h1, h2, h3, h4⟩ := h.at hi Tryz.underlying25 size3 k
  refine ⟨id, o, h1, h2, load_rd h3 agg3 ?_⟩
  exact h4 0 _ (by omega) (by simp [ints, hb])

end Go.Ev

namespace Go.Ev
open Go Proofs
theorem bin_neq (P : Program) (t : TypeId) (a b : Int) : evBin P .neq t (.int .i64 a) (.int .i64 b) = some (.bool (a != b)) := rfl
theorem bin_gtr (P : Program) (t : TypeId) (a b : Int) : evBin P .gtr t (.int .i64 a) (.int .i64 b) = some (.bool (decide (b < a))) := rfl
theorem bin_geq (P : Program) (t : TypeId) (a b : Int) : evBin P .geq t (.int .i64 a) (.int .i64 b) = some (.bool (decide (b ≤ a))) := rfl
theorem bin_succ (P : Program) (t : TypeId) (i : Nat) (h : i < 4611686018427387904) : evBin P .add t (.int .i64 (i : Int)) (.int .i64 1) = some (.int .i64 ((i + 1 : Nat) : Int)) := by
  have h1 : -4611686018427387904 ≤ (i : Int) + 1 := by omega
  have h2 : (i : Int) + 1 < 4611686018427387905 := by omega
  have : IntKind.i64.wrap ((i : Int) + 1) = (i : Int) + 1 := IntWalk.i64_in _ (by omega)
  show some (AV.int .i64 (IntKind.i64.wrap ((i : Int) + 1))) = _
  rw [this]; rfl
theorem bin_dbl (P : Program) (t : TypeId) (i : Nat) (h : i < 2305843009213693952) : evBin P .mul t (.int .i64 2) (.int .i64 (i : Int)) = some (.int .i64 ((2 * i : Nat) : Int)) := by
  have e : (2 : Int) * (i : Int) = ((2 * i : Nat) : Int) := by omega
  show some (AV.int .i64 (IntKind.i64.wrap (2 * (i : Int)))) = _
  rw [e, IntWalk.i64_in _ (by omega)]
theorem un_not (P : Program) (b : Bool) : evUn P .not (.bool b) = some (.bool (!b)) := rfl
/-- A load looks at its own object alone. -/
theorem load_pre {P : Program} {g : T AObj} {id o : Nat} {l : List Nat} {t : TypeId} : evLoad P (preOf g (id :: l)) t (.ptr id o) = evLoad P g.get t (.ptr id o) := by
  have : preOf g (id :: l) id = g.get id := by simp only [preOf, memN, beq_selfN, cond_true]
  simp only [evLoad, this]
theorem store_pre {P : Program} {g : T AObj} {id o : Nat} {l : List Nat} {t : TypeId} {x : AV} : evStore P (preOf g (id :: l)) t (.ptr id o) x = evStore P g.get t (.ptr id o) x := by
  have : preOf g (id :: l) id = g.get id := by simp only [preOf, memN, beq_selfN, cond_true]
  simp only [evStore, this]
end Go.Ev

set_option linter.unusedSimpArgs false
set_option linter.unusedVariables false
set_option maxRecDepth 20000
namespace Go.Ev
open Go Proofs

set_option maxRecDepth 10000 in
theorem same_gives {fuel d : Nat} {g : T AObj} {n : Nat} {a b : AV} {xs ys : List Bool} (ha : Row n g a 1 xs.length (bools xs)) (hb : Row n g b 1 ys.length (bools ys)) (hl : xs.length = ys.length) (hf : xs.length + 1 < fuel) (hbig : xs.length < 1000000) :
    Gives Tryz.prog fuel (d + 1) 20 [a, b] g n (fun x g' n' => x = .bool (decide (xs = ys)) ∧ g' = g ∧ n ≤ n') := by
  refine gives_ends 21 [.tmp 4] Tryz.func20 rfl rfl rfl ?_
  have hla := ha.evLen Tryz.underlying26 (P := Tryz.prog)
  simp only [e_seq, e_skip, e_ret, e_exit, e_block, e_region, e_cond, condQ_true, condQ_false, seqK_normal, seqK_ret, seqK_exit, loopK_normal, loopK_ret, loopK_exit, drawK_eq, blockQ_normal, blockQ_ret, blockQ_same, blockQ_other, steps_cons, steps_done, fits_some, blt_lt, pre_plain, pre_guardQ, guardV_some, guardQ_tt, guardQ_ff, guardQ_tf, guardQ_ft, guardQ_skip, List.getElem?_toArray, List.getElem?_cons_zero, List.getElem?_cons_succ, fits_none, evOp, evCall, evOpds, evBuiltin, opd_tmp, opd_int, opd_bool, opd_nil, ov_some, ove_some, oe_some, ose_some, after_val, after_skip, after_call, callQ_some, stepK_eq, opd_func,  putT_some, putT_none, effT_none, next_none, effT_new, effT_wr, effT_mv, next_new, next_wr, next_mv, Nat.reduceLT, Nat.reduceBEq, true_and, and_true, reduceIte, Nat.reduceEqDiff, eq_self, T.get_set, cond_true, cond_false, endR_ret, resQ_some, evResults, tup_one, tup_two, tup_three, fillT, hla]
  refine e_loop (fun k s => ∃ i m : Nat, ∃ tm : T AV, s = ⟨tm, g, m, []⟩ ∧ i + k = xs.length ∧ n ≤ m ∧ (∀ j, j < i → xs[j]? = ys[j]?) ∧ tm.get 0 = some a ∧ tm.get 1 = some b ∧ tm.get 5 = some (.int .i64 (i : Int))) xs.length (by omega) ⟨0, n, _, rfl, by omega, by omega, fun j hj => by omega, by simp [T.get_set], by simp [T.get_set], by simp [T.get_set]⟩ ?_
  rintro k _ ⟨i, m, tm, rfl, hik, hm, heq, h0, h1, h5⟩
  by_cases hlt : i < xs.length
  · have hc : (i : Int) < (xs.length : Int) := by omega
    obtain ⟨x, hx⟩ : ∃ x, xs[i]? = some x := ⟨_, List.getElem?_eq_getElem hlt⟩
    obtain ⟨y, hy⟩ : ∃ y, ys[i]? = some y := ⟨_, List.getElem?_eq_getElem (by omega)⟩
    obtain ⟨ia, oa, a1, a2, a3⟩ := ha.bit hlt hx .i64
    obtain ⟨ib, ob, b1, b2, b3⟩ := hb.bit (i := i) (by omega) hy .i64
    have hs := bin_succ Tryz.prog 3 i (by omega)
    simp only [e_seq, e_skip, e_ret, e_exit, e_block, e_region, e_cond, condQ_true, condQ_false, seqK_normal, seqK_ret, seqK_exit, loopK_normal, loopK_ret, loopK_exit, drawK_eq, blockQ_normal, blockQ_ret, blockQ_same, blockQ_other, steps_cons, steps_done, fits_some, blt_lt, pre_plain, pre_guardQ, guardV_some, guardQ_tt, guardQ_ff, guardQ_tf, guardQ_ft, guardQ_skip, List.getElem?_toArray, List.getElem?_cons_zero, List.getElem?_cons_succ, fits_none, evOp, evCall, evOpds, evBuiltin, opd_tmp, opd_int, opd_bool, opd_nil, ov_some, ove_some, oe_some, ose_some, after_val, after_skip, after_call, callQ_some, stepK_eq, opd_func,  putT_some, putT_none, effT_none, next_none, effT_new, effT_wr, effT_mv, next_new, next_wr, next_mv, Nat.reduceLT, Nat.reduceBEq, true_and, and_true, reduceIte, Nat.reduceEqDiff, eq_self, T.get_set, cond_true, cond_false, endR_ret, resQ_some, evResults, tup_one, tup_two, tup_three, fillT, hla, h0, h1, h5, bin_lss, hc, decide_true]
    refine (e_draw (bs := [0, 0, 3, 7, 0, 0, 48, 112, 255]) (perm := [0, 1, 2, 3, 4, 5, 6, 7, 8]) (planIs_eq (by decide +kernel))).2 ?_
    cases hxy : (x != y)
    · simp only [e_seq, e_skip, e_ret, e_exit, e_block, e_region, e_cond, condQ_true, condQ_false, seqK_normal, seqK_ret, seqK_exit, loopK_normal, loopK_ret, loopK_exit, drawK_eq, blockQ_normal, blockQ_ret, blockQ_same, blockQ_other, steps_cons, steps_done, fits_some, blt_lt, pre_plain, pre_guardQ, guardV_some, guardQ_tt, guardQ_ff, guardQ_tf, guardQ_ft, guardQ_skip, List.getElem?_toArray, List.getElem?_cons_zero, List.getElem?_cons_succ, fits_none, evOp, evCall, evOpds, evBuiltin, opd_tmp, opd_int, opd_bool, opd_nil, ov_some, ove_some, oe_some, ose_some, after_val, after_skip, after_call, callQ_some, stepK_eq, opd_func,  putT_some, putT_none, effT_none, next_none, effT_new, effT_wr, effT_mv, next_new, next_wr, next_mv, Nat.reduceLT, Nat.reduceBEq, true_and, and_true, reduceIte, Nat.reduceEqDiff, eq_self, T.get_set, cond_true, cond_false, endR_ret, resQ_some, evResults, tup_one, tup_two, tup_three, fillT, d_step, drawAt_eq, afterD_some, d_nil, List.getD_cons_zero, List.getD_cons_succ, List.getElem?_toArray, List.getElem?_cons_succ, List.getElem?_cons_zero, looks_plain, looks_guard, Option.bind_some, Option.toList_some, Op.operands, Call.operands, tmpsOf, restrict, idsOf, addrOf, memN, load_pre, store_pre, delAll, List.append_nil, beq_selfN, beqD, T.get_lf, Bool.not_false, Bool.not_true, decide_true, decide_false, drawOut_eq, drawOut_val, drawOut_skip, drawOut_call, drawCall_some, drawCall2_call, callD_eq, stayed, putBack, Array.toList_append, List.append_toArray, List.map_cons, List.map_nil, okSimple, hides, wOf, disj, tmpsApart, List.append_nil, List.nil_append, List.cons_append, Nat.testBit, Nat.reduceShiftRight, Nat.reduceAnd, Nat.reduceBNe, Option.isNone_none, Option.isNone_some, Bool.and_self, Bool.and_true, Bool.true_and, Nat.reduceAdd, h0, h1, h5, a1, b1, a3, b3, load_pre, bin_neqb, hxy, hs]
      refine ⟨k - 1, by omega, i + 1, _, _, rfl, by omega, by omega, fun j hj => ?_, by simp [T.get_set, h0], by simp [T.get_set, h1], by simp [T.get_set]⟩
      by_cases hji : j = i
      · subst hji; rw [hx, hy]; simpa using hxy
      · exact heq j (by omega)
    · simp only [e_seq, e_skip, e_ret, e_exit, e_block, e_region, e_cond, condQ_true, condQ_false, seqK_normal, seqK_ret, seqK_exit, loopK_normal, loopK_ret, loopK_exit, drawK_eq, blockQ_normal, blockQ_ret, blockQ_same, blockQ_other, steps_cons, steps_done, fits_some, blt_lt, pre_plain, pre_guardQ, guardV_some, guardQ_tt, guardQ_ff, guardQ_tf, guardQ_ft, guardQ_skip, List.getElem?_toArray, List.getElem?_cons_zero, List.getElem?_cons_succ, fits_none, evOp, evCall, evOpds, evBuiltin, opd_tmp, opd_int, opd_bool, opd_nil, ov_some, ove_some, oe_some, ose_some, after_val, after_skip, after_call, callQ_some, stepK_eq, opd_func,  putT_some, putT_none, effT_none, next_none, effT_new, effT_wr, effT_mv, next_new, next_wr, next_mv, Nat.reduceLT, Nat.reduceBEq, true_and, and_true, reduceIte, Nat.reduceEqDiff, eq_self, T.get_set, cond_true, cond_false, endR_ret, resQ_some, evResults, tup_one, tup_two, tup_three, fillT, d_step, drawAt_eq, afterD_some, d_nil, List.getD_cons_zero, List.getD_cons_succ, List.getElem?_toArray, List.getElem?_cons_succ, List.getElem?_cons_zero, looks_plain, looks_guard, Option.bind_some, Option.toList_some, Op.operands, Call.operands, tmpsOf, restrict, idsOf, addrOf, memN, load_pre, store_pre, delAll, List.append_nil, beq_selfN, beqD, T.get_lf, Bool.not_false, Bool.not_true, decide_true, decide_false, drawOut_eq, drawOut_val, drawOut_skip, drawOut_call, drawCall_some, drawCall2_call, callD_eq, stayed, putBack, Array.toList_append, List.append_toArray, List.map_cons, List.map_nil, okSimple, hides, wOf, disj, tmpsApart, List.append_nil, List.nil_append, List.cons_append, Nat.testBit, Nat.reduceShiftRight, Nat.reduceAnd, Nat.reduceBNe, Option.isNone_none, Option.isNone_some, Bool.and_self, Bool.and_true, Bool.true_and, Nat.reduceAdd, h0, h1, h5, a1, b1, a3, b3, load_pre, bin_neqb, hxy]
      refine ⟨?_, by omega⟩
      have : ¬ xs = ys := fun e => by subst e; rw [hx] at hy; simp at hy; simp [hy] at hxy
      simp [this]
  · have hc : ¬ (i : Int) < (xs.length : Int) := by omega
    simp only [e_seq, e_skip, e_ret, e_exit, e_block, e_region, e_cond, condQ_true, condQ_false, seqK_normal, seqK_ret, seqK_exit, loopK_normal, loopK_ret, loopK_exit, drawK_eq, blockQ_normal, blockQ_ret, blockQ_same, blockQ_other, steps_cons, steps_done, fits_some, blt_lt, pre_plain, pre_guardQ, guardV_some, guardQ_tt, guardQ_ff, guardQ_tf, guardQ_ft, guardQ_skip, List.getElem?_toArray, List.getElem?_cons_zero, List.getElem?_cons_succ, fits_none, evOp, evCall, evOpds, evBuiltin, opd_tmp, opd_int, opd_bool, opd_nil, ov_some, ove_some, oe_some, ose_some, after_val, after_skip, after_call, callQ_some, stepK_eq, opd_func,  putT_some, putT_none, effT_none, next_none, effT_new, effT_wr, effT_mv, next_new, next_wr, next_mv, Nat.reduceLT, Nat.reduceBEq, true_and, and_true, reduceIte, Nat.reduceEqDiff, eq_self, T.get_set, cond_true, cond_false, endR_ret, resQ_some, evResults, tup_one, tup_two, tup_three, fillT, hla, h0, h1, h5, bin_lss, hc, decide_false]
    refine ⟨?_, hm⟩
    have : xs = ys := List.ext_getElem? fun j => by
      by_cases hj : j < i
      · exact heq j hj
      · rw [List.getElem?_eq_none (by omega), List.getElem?_eq_none (by omega)]
    simp [this]
end Go.Ev

/-! Gates: rows of them, and the nets that are taken. -/
set_option linter.unusedSimpArgs false
set_option linter.unusedVariables false
set_option maxRecDepth 20000
namespace Go.Ev
open Go Proofs

structure Gate where
  op : Int
  a : Int
  b : Int

def gcells (g : Gate) : List AV := [.int .i64 g.op, .int .i64 g.a, .int .i64 g.b]
def gates (l : List Gate) : List AV := l.flatMap gcells

theorem gates_get {l : List Gate} {i : Nat} {x : Gate} (h : l[i]? = some x) : ∀ j y, j < 3 → (gcells x)[j]? = some y → (gates l)[i * 3 + j]? = some y := by
  induction l generalizing i with
  | nil => simp at h
  | cons a l ih =>
    intro j y hj hy
    cases i with
    | zero =>
      simp at h
      subst h
      simp only [gates, List.flatMap_cons, Nat.zero_mul, Nat.zero_add]
      rw [List.getElem?_append_left (by simp [gcells]; omega)]
      exact hy
    | succ i =>
      simp at h
      have := ih h j y hj hy
      simp only [gates, List.flatMap_cons]
      rw [List.getElem?_append_right (by simp [gcells]; omega)]
      have e : (i + 1) * 3 + j - (gcells a).length = i * 3 + j := by simp [gcells]; omega
      rw [e]
      exact this

theorem size51 : sizeT Tryz.prog 51 = some 3 := by decide +kernel
theorem agg51 : aggT Tryz.prog 51 = some true := by decide +kernel
theorem zero51 : (match zeroT Tryz.prog 51 with | some z => AV.same z (.agg [.int .i64 0, .int .i64 0, .int .i64 0]) | none => false) = true := by decide +kernel
theorem zero51' : zeroT Tryz.prog 51 = some (.agg [.int .i64 0, .int .i64 0, .int .i64 0]) := by
  have h := zero51
  split at h
  · rename_i z hz; rw [hz, AV.same_eq _ _ h]
  · cases h
theorem alloc51 (n : Nat) : evAlloc Tryz.prog n 51 = some (.ptr n 0, .new (.cells 3 [.int .i64 0, .int .i64 0, .int .i64 0])) := by
  simp only [evAlloc, zero51', AV.cells, evBox, allOne, AV.one, cond_true, List.length_cons, List.length_nil]
theorem fieldAddr51 (id o i : Nat) (h : i < 3) : evFieldAddr Tryz.prog 51 (.ptr id o) i = some (.ptr id (o + i)) := by
  have : i = 0 ∨ i = 1 ∨ i = 2 := by omega
  rcases this with rfl | rfl | rfl <;> simp [evFieldAddr, Tryz.underlying51, size3, Nat.beq]
/-- The i-th gate of a row. -/
theorem Row.gate {n : Nat} {g : T AObj} {v : AV} {l : List Gate} {len : Nat} (h : Row n g v 3 len (gates l)) {i : Nat} (hi : i < len) {x : Gate} (hx : l[i]? = some x) (k : IntKind) :
    ∃ id o, evIndexAddr Tryz.prog 22 v (.int k (i : Int)) = some (.ptr id o) ∧ id < n ∧ evLoad Tryz.prog g.get 51 (.ptr id o) = some (.agg [.int .i64 x.op, .int .i64 x.a, .int .i64 x.b]) ∧ evLoad Tryz.prog g.get 3 (.ptr id (o + 0)) = some (.int .i64 x.op) := by
  obtain ⟨id, o, data, h1, h2, h3, h4⟩ := h.at hi Tryz.underlying22 size51 k
  have c0 : data[o + 0]? = some (.int .i64 x.op) := h4 0 _ (by omega) (gates_get hx 0 _ (by omega) rfl)
  have c1 : data[o + 1]? = some (.int .i64 x.a) := h4 1 _ (by omega) (gates_get hx 1 _ (by omega) rfl)
  have c2 : data[o + 2]? = some (.int .i64 x.b) := h4 2 _ (by omega) (gates_get hx 2 _ (by omega) rfl)
  have hl : o + 3 ≤ data.length := by have := (List.getElem?_eq_some_iff.1 c2).1; omega
  refine ⟨id, o, h1, h2, ?_, load_rd h3 agg3 c0⟩
  have hd : (data.drop o).take 3 = gcells x := by
    apply List.ext_getElem?
    intro j
    by_cases hj : j < 3
    · rw [List.getElem?_take, if_pos hj, List.getElem?_drop]
      have : j = 0 ∨ j = 1 ∨ j = 2 := by omega
      rcases this with rfl | rfl | rfl
      · exact c0
      · exact c1
      · exact c2
    · rw [List.getElem?_eq_none (by simp; omega), List.getElem?_eq_none (by simp [gcells]; omega)]
  have hle : Nat.ble (o + 3) data.length = true := Nat.ble_eq_true_of_le hl
  rw [evLoad_rd_agg h3 agg51 size51, hle, cond_true, hd]
  rfl

/-- A gate at its place. -/
def GateOk (i : Nat) (x : Gate) : Prop := ((x.op = 1 ∨ x.op = 2) ∧ x.a = 0 ∧ x.b = 0) ∨ (x.op = 3 ∧ 0 ≤ x.a ∧ 0 ≤ x.b ∧ x.a < 2 * i ∧ x.b < 2 * i)
def NetOk (l : List Gate) : Prop := l.length ≤ 200000 ∧ ∀ (i : Nat) x, l[i]? = some x → GateOk i x

/-- The frame of a net that was boxed: at n its one cell. -/
theorem fieldAddr24' (id : Nat) : evFieldAddr Tryz.prog 24 (.ptr id 0) 0 = some (.ptr id 0) := fieldAddr24 id 0
theorem load22 {g : AHeap} {id : Nat} {v : AV} (h : g id = some (.cells 1 [v])) : evLoad Tryz.prog g 22 (.ptr id 0) = some v := by
  simp only [evLoad, h, agg22, List.getElem?_cons_zero]
theorem load_same {P : Program} {g : T AObj} {m off sz : Nat} {data : List AV} {t : TypeId} (ha : aggT P t = some false) : evLoad P (T.set (.cells sz data) g m).get t (.ptr m off) = data[off]? := by
  simp only [evLoad, T.get_set, reduceIte, ha]
theorem load_ne {P : Program} {g : T AObj} {m off id : Nat} {o : AObj} {t : TypeId} (h : id ≠ m) : evLoad P (T.set o g m).get t (.ptr id off) = evLoad P g.get t (.ptr id off) := by
  simp only [evLoad, T.get_set, if_neg h]
theorem store_same {P : Program} {g : T AObj} {m off sz : Nat} {data : List AV} {t : TypeId} {x : AV} : evStore P (T.set (.cells sz data) g m).get t (.ptr m off) x =
    (match sizeT P t with
      | some s => bif Nat.beq x.cells.length s && Nat.ble (off + s) data.length && allOne x.cells then some (m, .wr m (.cells sz (data.take off ++ x.cells ++ data.drop (off + s)))) else none
      | none => none) := by
  simp only [evStore, T.get_set, reduceIte]
  rfl
theorem store_ne {P : Program} {g : T AObj} {m off id : Nat} {o : AObj} {t : TypeId} {x : AV} (h : id ≠ m) : evStore P (T.set o g m).get t (.ptr id off) x = evStore P g.get t (.ptr id off) x := by
  simp only [evStore, T.get_set, if_neg h]
theorem bleD (a b : Nat) : Nat.ble a b = decide (a ≤ b) := by
  rw [Bool.eq_iff_iff]; simp
theorem one_int (k : IntKind) (i : Int) : (AV.int k i).one = true := rfl
theorem one_bool (b : Bool) : (AV.bool b).one = true := rfl
theorem one_ptr (a b : Nat) : (AV.ptr a b).one = true := rfl
theorem one_nil : AV.nilSlice.one = true := rfl
theorem one_slice (a b c : Nat) (e : Option Nat) (f : Nat) : (AV.slice a b c e f).one = true := rfl
theorem box1 {n : Nat} {v : AV} (h : v.one = true) : evBox n [v] = some (.ptr n 0, .new (.cells 1 [v])) := by
  simp only [evBox, allOne, h, cond_true, List.length_cons, List.length_nil]
end Go.Ev
