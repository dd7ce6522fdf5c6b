/- A store that is not there: each of its functions. -/
import Derived.Test.YtklkahckkelglaaGreatNilA
namespace Go.Aev
open Go
set_option linter.unusedSimpArgs false
set_option linter.unusedVariables false

theorem r_store {n b o : Nat} {H : AHeap} {c : Array Value} {e : TypeId} {y : Value} (h : H.get b = some (.cells c e false)) (hs : y.cells.size = n) (ho : o + n ≤ c.size) (hall : y.cells.all isCell = true) :
    v_store n (.pointer (some ⟨b, o, none⟩)) y H = some (.unit (H.set b (.cells (wrL c o y.cells.toList) e false))) := by
  subst hs
  have hc : (decide (o + y.cells.size ≤ c.size) && y.cells.all isCell) = true := by rw [hall]; simpa using ho
  simp only [v_store, ↓reduceIte, wr, h, hc, Option.map_some]
theorem get_set_same (H : AHeap) (b : Nat) (k : Blk) : (H.set b k).get b = some k := by rw [AHeap.get_set, if_pos rfl]

theorem Up_nil {H : AHeap} {Q : Value → AHeap → Prop} (hq : Q (.bool false) H) : Fn T 14 #[.pointer none] H Q := by
  refine fn_of ?_
  rw [e_14]
  simp only [st_val, st_unit, br_true, br_false, br_bool, gd_move, gd_st, gd_fn, gd_left, gv_some, gv_none, r_nilCheck, r_off, r_extract, r_lenSl, r_lenStr, r_not, r_pick, r_eqp_nn, r_eqp_sn, r_eqp_ns, r_eqb, r_neb, r_eql, r_neq, r_lss, r_leq, r_gtr, r_geq, r_add, r_sub, r_mul, r_toInt, jn, decide_eq_true_eq, decide_eq_false_iff_not, decide_true, decide_false, Bool.not_true, Bool.not_false, Bool.false_eq_true, Bool.true_eq_false, ↓reduceIte, ite_self, List.getElem?_toArray, List.getElem?_cons_zero, List.getElem?_cons_succ, Option.map_some, true_and, and_true, true_imp_iff, false_imp_iff, Nat.zero_add, Nat.add_zero, Nat.reduceAdd, reduceCtorEq, seqP, blkP, retP, ne_eq, not_true_eq_false, not_false_eq_true, Int.reduceEq, Int.reduceNe, Int.reduceLT, Int.reduceLE, Int.reduceAdd, Int.reduceSub, Int.reduceMul]
  exact hq
theorem Gen_nil {H : AHeap} {Q : Value → AHeap → Prop} (hq : Q (.int .i64 0) H) : Fn T 15 #[.pointer none] H Q := by
  refine fn_of ?_
  rw [e_15]
  refine Up_nil ?_
  simp only [st_val, st_unit, br_true, br_false, br_bool, gd_move, gd_st, gd_fn, gd_left, gv_some, gv_none, r_nilCheck, r_off, r_extract, r_lenSl, r_lenStr, r_not, r_pick, r_eqp_nn, r_eqp_sn, r_eqp_ns, r_eqb, r_neb, r_eql, r_neq, r_lss, r_leq, r_gtr, r_geq, r_add, r_sub, r_mul, r_toInt, jn, decide_eq_true_eq, decide_eq_false_iff_not, decide_true, decide_false, Bool.not_true, Bool.not_false, Bool.false_eq_true, Bool.true_eq_false, ↓reduceIte, ite_self, List.getElem?_toArray, List.getElem?_cons_zero, List.getElem?_cons_succ, Option.map_some, true_and, and_true, true_imp_iff, false_imp_iff, Nat.zero_add, Nat.add_zero, Nat.reduceAdd, reduceCtorEq, seqP, blkP, retP, ne_eq, not_true_eq_false, not_false_eq_true, Int.reduceEq, Int.reduceNe, Int.reduceLT, Int.reduceLE, Int.reduceAdd, Int.reduceSub, Int.reduceMul]
  exact hq
theorem Saving_nil {H : AHeap} {Q : Value → AHeap → Prop} (hq : Q (.bool false) H) : Fn T 16 #[.pointer none] H Q := by
  refine fn_of ?_
  rw [e_16]
  refine Up_nil ?_
  simp only [st_val, st_unit, br_true, br_false, br_bool, gd_move, gd_st, gd_fn, gd_left, gv_some, gv_none, r_nilCheck, r_off, r_extract, r_lenSl, r_lenStr, r_not, r_pick, r_eqp_nn, r_eqp_sn, r_eqp_ns, r_eqb, r_neb, r_eql, r_neq, r_lss, r_leq, r_gtr, r_geq, r_add, r_sub, r_mul, r_toInt, jn, decide_eq_true_eq, decide_eq_false_iff_not, decide_true, decide_false, Bool.not_true, Bool.not_false, Bool.false_eq_true, Bool.true_eq_false, ↓reduceIte, ite_self, List.getElem?_toArray, List.getElem?_cons_zero, List.getElem?_cons_succ, Option.map_some, true_and, and_true, true_imp_iff, false_imp_iff, Nat.zero_add, Nat.add_zero, Nat.reduceAdd, reduceCtorEq, seqP, blkP, retP, ne_eq, not_true_eq_false, not_false_eq_true, Int.reduceEq, Int.reduceNe, Int.reduceLT, Int.reduceLE, Int.reduceAdd, Int.reduceSub, Int.reduceMul]
  exact hq
theorem Log_nil {H : AHeap} {Q : Value → AHeap → Prop} (hq : Q (.pointer none) H) : Fn T 18 #[.pointer none] H Q := by
  refine fn_of ?_
  rw [e_18]
  refine Up_nil ?_
  simp only [st_val, st_unit, br_true, br_false, br_bool, gd_move, gd_st, gd_fn, gd_left, gv_some, gv_none, r_nilCheck, r_off, r_extract, r_lenSl, r_lenStr, r_not, r_pick, r_eqp_nn, r_eqp_sn, r_eqp_ns, r_eqb, r_neb, r_eql, r_neq, r_lss, r_leq, r_gtr, r_geq, r_add, r_sub, r_mul, r_toInt, jn, decide_eq_true_eq, decide_eq_false_iff_not, decide_true, decide_false, Bool.not_true, Bool.not_false, Bool.false_eq_true, Bool.true_eq_false, ↓reduceIte, ite_self, List.getElem?_toArray, List.getElem?_cons_zero, List.getElem?_cons_succ, Option.map_some, true_and, and_true, true_imp_iff, false_imp_iff, Nat.zero_add, Nat.add_zero, Nat.reduceAdd, reduceCtorEq, seqP, blkP, retP, ne_eq, not_true_eq_false, not_false_eq_true, Int.reduceEq, Int.reduceNe, Int.reduceLT, Int.reduceLE, Int.reduceAdd, Int.reduceSub, Int.reduceMul]
  exact hq
theorem Index_nil {H : AHeap} {Q : Value → AHeap → Prop} (hq : Q (.pointer none) H) : Fn T 19 #[.pointer none] H Q := by
  refine fn_of ?_
  rw [e_19]
  refine Up_nil ?_
  simp only [st_val, st_unit, br_true, br_false, br_bool, gd_move, gd_st, gd_fn, gd_left, gv_some, gv_none, r_nilCheck, r_off, r_extract, r_lenSl, r_lenStr, r_not, r_pick, r_eqp_nn, r_eqp_sn, r_eqp_ns, r_eqb, r_neb, r_eql, r_neq, r_lss, r_leq, r_gtr, r_geq, r_add, r_sub, r_mul, r_toInt, jn, decide_eq_true_eq, decide_eq_false_iff_not, decide_true, decide_false, Bool.not_true, Bool.not_false, Bool.false_eq_true, Bool.true_eq_false, ↓reduceIte, ite_self, List.getElem?_toArray, List.getElem?_cons_zero, List.getElem?_cons_succ, Option.map_some, true_and, and_true, true_imp_iff, false_imp_iff, Nat.zero_add, Nat.add_zero, Nat.reduceAdd, reduceCtorEq, seqP, blkP, retP, ne_eq, not_true_eq_false, not_false_eq_true, Int.reduceEq, Int.reduceNe, Int.reduceLT, Int.reduceLE, Int.reduceAdd, Int.reduceSub, Int.reduceMul]
  exact hq
theorem Device_nil {H : AHeap} {Q : Value → AHeap → Prop} (hq : Q (.pointer none) H) : Fn T 20 #[.pointer none] H Q := by
  refine fn_of ?_
  rw [e_20]
  simp only [st_val, st_unit, br_true, br_false, br_bool, gd_move, gd_st, gd_fn, gd_left, gv_some, gv_none, r_nilCheck, r_off, r_extract, r_lenSl, r_lenStr, r_not, r_pick, r_eqp_nn, r_eqp_sn, r_eqp_ns, r_eqb, r_neb, r_eql, r_neq, r_lss, r_leq, r_gtr, r_geq, r_add, r_sub, r_mul, r_toInt, jn, decide_eq_true_eq, decide_eq_false_iff_not, decide_true, decide_false, Bool.not_true, Bool.not_false, Bool.false_eq_true, Bool.true_eq_false, ↓reduceIte, ite_self, List.getElem?_toArray, List.getElem?_cons_zero, List.getElem?_cons_succ, Option.map_some, true_and, and_true, true_imp_iff, false_imp_iff, Nat.zero_add, Nat.add_zero, Nat.reduceAdd, reduceCtorEq, seqP, blkP, retP, ne_eq, not_true_eq_false, not_false_eq_true, Int.reduceEq, Int.reduceNe, Int.reduceLT, Int.reduceLE, Int.reduceAdd, Int.reduceSub, Int.reduceMul]
  exact hq
theorem Session_nil {n : Value} {H : AHeap} {Q : Value → AHeap → Prop} (hq : Q (.pointer none) H) : Fn T 21 #[.pointer none, n] H Q := by
  refine fn_of ?_
  rw [e_21]
  refine Up_nil ?_
  simp only [st_val, st_unit, br_true, br_false, br_bool, gd_move, gd_st, gd_fn, gd_left, gv_some, gv_none, r_nilCheck, r_off, r_extract, r_lenSl, r_lenStr, r_not, r_pick, r_eqp_nn, r_eqp_sn, r_eqp_ns, r_eqb, r_neb, r_eql, r_neq, r_lss, r_leq, r_gtr, r_geq, r_add, r_sub, r_mul, r_toInt, jn, decide_eq_true_eq, decide_eq_false_iff_not, decide_true, decide_false, Bool.not_true, Bool.not_false, Bool.false_eq_true, Bool.true_eq_false, ↓reduceIte, ite_self, List.getElem?_toArray, List.getElem?_cons_zero, List.getElem?_cons_succ, Option.map_some, true_and, and_true, true_imp_iff, false_imp_iff, Nat.zero_add, Nat.add_zero, Nat.reduceAdd, reduceCtorEq, seqP, blkP, retP, ne_eq, not_true_eq_false, not_false_eq_true, Int.reduceEq, Int.reduceNe, Int.reduceLT, Int.reduceLE, Int.reduceAdd, Int.reduceSub, Int.reduceMul]
  exact hq
def noOut : Value := .agg #[.int .i64 0, .string (strB [])]
def noConfig : Value := .agg #[.int .i64 0, .int .i64 0, .int .i64 0, .int .i64 0, .int .i64 0, .int .i64 0]
theorem Config_nil {H : AHeap} {Q : Value → AHeap → Prop} (hq : ∀ H', Gr H H' → Q noConfig H') : Fn T 17 #[.pointer none] H Q := by
  refine fn_of ?_
  rw [e_17]
  simp only [st_val, st_unit, br_true, br_false, br_bool, gd_move, gd_st, gd_fn, gd_left, gv_some, gv_none, r_nilCheck, r_off, r_extract, r_lenSl, r_lenStr, r_not, r_pick, r_eqp_nn, r_eqp_sn, r_eqp_ns, r_eqb, r_neb, r_eql, r_neq, r_lss, r_leq, r_gtr, r_geq, r_add, r_sub, r_mul, r_toInt, jn, decide_eq_true_eq, decide_eq_false_iff_not, decide_true, decide_false, Bool.not_true, Bool.not_false, Bool.false_eq_true, Bool.true_eq_false, ↓reduceIte, ite_self, List.getElem?_toArray, List.getElem?_cons_zero, List.getElem?_cons_succ, Option.map_some, true_and, and_true, true_imp_iff, false_imp_iff, Nat.zero_add, Nat.add_zero, Nat.reduceAdd, reduceCtorEq, seqP, blkP, retP, ne_eq, not_true_eq_false, not_false_eq_true, Int.reduceEq, Int.reduceNe, Int.reduceLT, Int.reduceLE, Int.reduceAdd, Int.reduceSub, Int.reduceMul, r_new]
  have hb : v_build #[(.int .i64 0), (.int .i64 0), (.int .i64 0), (.int .i64 0), (.int .i64 0), (.int .i64 0)] #[(0, 1), (1, 1), (2, 1), (3, 1), (4, 1), (5, 1)] [] (H.push (.cells #[(.int .i64 0), (.int .i64 0), (.int .i64 0), (.int .i64 0), (.int .i64 0), (.int .i64 0)] 23 false)) = some (.val noConfig (H.push (.cells #[(.int .i64 0), (.int .i64 0), (.int .i64 0), (.int .i64 0), (.int .i64 0), (.int .i64 0)] 23 false))) := rfl
  rw [hb]
  simp only [st_val, st_unit, br_true, br_false, br_bool, gd_move, gd_st, gd_fn, gd_left, gv_some, gv_none, r_nilCheck, r_off, r_extract, r_lenSl, r_lenStr, r_not, r_pick, r_eqp_nn, r_eqp_sn, r_eqp_ns, r_eqb, r_neb, r_eql, r_neq, r_lss, r_leq, r_gtr, r_geq, r_add, r_sub, r_mul, r_toInt, jn, decide_eq_true_eq, decide_eq_false_iff_not, decide_true, decide_false, Bool.not_true, Bool.not_false, Bool.false_eq_true, Bool.true_eq_false, ↓reduceIte, ite_self, List.getElem?_toArray, List.getElem?_cons_zero, List.getElem?_cons_succ, Option.map_some, true_and, and_true, true_imp_iff, false_imp_iff, Nat.zero_add, Nat.add_zero, Nat.reduceAdd, reduceCtorEq, seqP, blkP, retP, ne_eq, not_true_eq_false, not_false_eq_true, Int.reduceEq, Int.reduceNe, Int.reduceLT, Int.reduceLE, Int.reduceAdd, Int.reduceSub, Int.reduceMul]
  rw [r_store (get_new _ _) (by rfl) (by decide) (by kernel_rfl)]
  simp only [st_val, st_unit, br_true, br_false, br_bool, gd_move, gd_st, gd_fn, gd_left, gv_some, gv_none, r_nilCheck, r_off, r_extract, r_lenSl, r_lenStr, r_not, r_pick, r_eqp_nn, r_eqp_sn, r_eqp_ns, r_eqb, r_neb, r_eql, r_neq, r_lss, r_leq, r_gtr, r_geq, r_add, r_sub, r_mul, r_toInt, jn, decide_eq_true_eq, decide_eq_false_iff_not, decide_true, decide_false, Bool.not_true, Bool.not_false, Bool.false_eq_true, Bool.true_eq_false, ↓reduceIte, ite_self, List.getElem?_toArray, List.getElem?_cons_zero, List.getElem?_cons_succ, Option.map_some, true_and, and_true, true_imp_iff, false_imp_iff, Nat.zero_add, Nat.add_zero, Nat.reduceAdd, reduceCtorEq, seqP, blkP, retP, ne_eq, not_true_eq_false, not_false_eq_true, Int.reduceEq, Int.reduceNe, Int.reduceLT, Int.reduceLE, Int.reduceAdd, Int.reduceSub, Int.reduceMul]
  rw [rdAll (get_set_same _ _ _) (by rfl)]
  exact hq _ ((Gr.push H _).set (Nat.le_refl _))
theorem sOutcome_nil {n : Value} {H : AHeap} {Q : Value → AHeap → Prop} (hq : ∀ H', Gr H H' → Q (.tuple #[noOut, .bool false]) H') : Fn T 55 #[.pointer none, n] H Q := by
  refine fn_of ?_
  rw [e_55]
  simp only [st_val, st_unit, br_true, br_false, br_bool, gd_move, gd_st, gd_fn, gd_left, gv_some, gv_none, r_nilCheck, r_off, r_extract, r_lenSl, r_lenStr, r_not, r_pick, r_eqp_nn, r_eqp_sn, r_eqp_ns, r_eqb, r_neb, r_eql, r_neq, r_lss, r_leq, r_gtr, r_geq, r_add, r_sub, r_mul, r_toInt, jn, decide_eq_true_eq, decide_eq_false_iff_not, decide_true, decide_false, Bool.not_true, Bool.not_false, Bool.false_eq_true, Bool.true_eq_false, ↓reduceIte, ite_self, List.getElem?_toArray, List.getElem?_cons_zero, List.getElem?_cons_succ, Option.map_some, true_and, and_true, true_imp_iff, false_imp_iff, Nat.zero_add, Nat.add_zero, Nat.reduceAdd, reduceCtorEq, seqP, blkP, retP, ne_eq, not_true_eq_false, not_false_eq_true, Int.reduceEq, Int.reduceNe, Int.reduceLT, Int.reduceLE, Int.reduceAdd, Int.reduceSub, Int.reduceMul, r_new]
  have hb : ∀ H1, v_build #[(.int .i64 0), (.string (strB []))] #[(0, 1), (1, 1)] [] H1 = some (.val noOut H1) := fun _ => rfl
  rw [hb]
  simp only [st_val, st_unit, br_true, br_false, br_bool, gd_move, gd_st, gd_fn, gd_left, gv_some, gv_none, r_nilCheck, r_off, r_extract, r_lenSl, r_lenStr, r_not, r_pick, r_eqp_nn, r_eqp_sn, r_eqp_ns, r_eqb, r_neb, r_eql, r_neq, r_lss, r_leq, r_gtr, r_geq, r_add, r_sub, r_mul, r_toInt, jn, decide_eq_true_eq, decide_eq_false_iff_not, decide_true, decide_false, Bool.not_true, Bool.not_false, Bool.false_eq_true, Bool.true_eq_false, ↓reduceIte, ite_self, List.getElem?_toArray, List.getElem?_cons_zero, List.getElem?_cons_succ, Option.map_some, true_and, and_true, true_imp_iff, false_imp_iff, Nat.zero_add, Nat.add_zero, Nat.reduceAdd, reduceCtorEq, seqP, blkP, retP, ne_eq, not_true_eq_false, not_false_eq_true, Int.reduceEq, Int.reduceNe, Int.reduceLT, Int.reduceLE, Int.reduceAdd, Int.reduceSub, Int.reduceMul]
  rw [r_store (get_new _ _) (by rfl) (by decide) (by kernel_rfl)]
  simp only [st_val, st_unit, br_true, br_false, br_bool, gd_move, gd_st, gd_fn, gd_left, gv_some, gv_none, r_nilCheck, r_off, r_extract, r_lenSl, r_lenStr, r_not, r_pick, r_eqp_nn, r_eqp_sn, r_eqp_ns, r_eqb, r_neb, r_eql, r_neq, r_lss, r_leq, r_gtr, r_geq, r_add, r_sub, r_mul, r_toInt, jn, decide_eq_true_eq, decide_eq_false_iff_not, decide_true, decide_false, Bool.not_true, Bool.not_false, Bool.false_eq_true, Bool.true_eq_false, ↓reduceIte, ite_self, List.getElem?_toArray, List.getElem?_cons_zero, List.getElem?_cons_succ, Option.map_some, true_and, and_true, true_imp_iff, false_imp_iff, Nat.zero_add, Nat.add_zero, Nat.reduceAdd, reduceCtorEq, seqP, blkP, retP, ne_eq, not_true_eq_false, not_false_eq_true, Int.reduceEq, Int.reduceNe, Int.reduceLT, Int.reduceLE, Int.reduceAdd, Int.reduceSub, Int.reduceMul]
  rw [rdAll (get_set_same _ _ _) (by rfl)]
  exact hq _ ((Gr.push H _).set (Nat.le_refl _))
theorem Outcome_nil {n k : Value} {H : AHeap} {Q : Value → AHeap → Prop} (hq : ∀ H', Gr H H' → Q (.tuple #[noOut, .bool false]) H') : Fn T 9 #[.pointer none, n, k] H Q := by
  refine fn_of ?_
  rw [e_9]
  simp only [st_val, st_unit, br_true, br_false, br_bool, gd_move, gd_st, gd_fn, gd_left, gv_some, gv_none, r_nilCheck, r_off, r_extract, r_lenSl, r_lenStr, r_not, r_pick, r_eqp_nn, r_eqp_sn, r_eqp_ns, r_eqb, r_neb, r_eql, r_neq, r_lss, r_leq, r_gtr, r_geq, r_add, r_sub, r_mul, r_toInt, jn, decide_eq_true_eq, decide_eq_false_iff_not, decide_true, decide_false, Bool.not_true, Bool.not_false, Bool.false_eq_true, Bool.true_eq_false, ↓reduceIte, ite_self, List.getElem?_toArray, List.getElem?_cons_zero, List.getElem?_cons_succ, Option.map_some, true_and, and_true, true_imp_iff, false_imp_iff, Nat.zero_add, Nat.add_zero, Nat.reduceAdd, reduceCtorEq, seqP, blkP, retP, ne_eq, not_true_eq_false, not_false_eq_true, Int.reduceEq, Int.reduceNe, Int.reduceLT, Int.reduceLE, Int.reduceAdd, Int.reduceSub, Int.reduceMul, r_new]
  refine Session_nil ?_
  refine sOutcome_nil fun H1 h1 => ?_
  simp only [st_val, st_unit, br_true, br_false, br_bool, gd_move, gd_st, gd_fn, gd_left, gv_some, gv_none, r_nilCheck, r_off, r_extract, r_lenSl, r_lenStr, r_not, r_pick, r_eqp_nn, r_eqp_sn, r_eqp_ns, r_eqb, r_neb, r_eql, r_neq, r_lss, r_leq, r_gtr, r_geq, r_add, r_sub, r_mul, r_toInt, jn, decide_eq_true_eq, decide_eq_false_iff_not, decide_true, decide_false, Bool.not_true, Bool.not_false, Bool.false_eq_true, Bool.true_eq_false, ↓reduceIte, ite_self, List.getElem?_toArray, List.getElem?_cons_zero, List.getElem?_cons_succ, Option.map_some, true_and, and_true, true_imp_iff, false_imp_iff, Nat.zero_add, Nat.add_zero, Nat.reduceAdd, reduceCtorEq, seqP, blkP, retP, ne_eq, not_true_eq_false, not_false_eq_true, Int.reduceEq, Int.reduceNe, Int.reduceLT, Int.reduceLE, Int.reduceAdd, Int.reduceSub, Int.reduceMul]
  have hg : H1.get H.next = some (.cells #[.int .i64 0, .string (strB [])] 36 false) := by rw [h1.get _ (by simp), get_new]
  rw [r_store hg (by rfl) (by decide) (by kernel_rfl)]
  simp only [st_val, st_unit, br_true, br_false, br_bool, gd_move, gd_st, gd_fn, gd_left, gv_some, gv_none, r_nilCheck, r_off, r_extract, r_lenSl, r_lenStr, r_not, r_pick, r_eqp_nn, r_eqp_sn, r_eqp_ns, r_eqb, r_neb, r_eql, r_neq, r_lss, r_leq, r_gtr, r_geq, r_add, r_sub, r_mul, r_toInt, jn, decide_eq_true_eq, decide_eq_false_iff_not, decide_true, decide_false, Bool.not_true, Bool.not_false, Bool.false_eq_true, Bool.true_eq_false, ↓reduceIte, ite_self, List.getElem?_toArray, List.getElem?_cons_zero, List.getElem?_cons_succ, Option.map_some, true_and, and_true, true_imp_iff, false_imp_iff, Nat.zero_add, Nat.add_zero, Nat.reduceAdd, reduceCtorEq, seqP, blkP, retP, ne_eq, not_true_eq_false, not_false_eq_true, Int.reduceEq, Int.reduceNe, Int.reduceLT, Int.reduceLE, Int.reduceAdd, Int.reduceSub, Int.reduceMul]
  rw [rdAll (get_set_same _ _ _) (by rfl)]
  exact hq _ (((Gr.push H _).trans h1).set (Nat.le_refl _))
theorem may_nil {k : Int} {r : List Value} {H : AHeap} {Q : Value → AHeap → Prop} (hr : (Value.int .i64 k :: r).toArray.all isCell = true) (hq : ∀ H', Gr H H' → Q (.int .i64 2) H') :
    Fn T 44 #[.pointer none, .agg (.int .i64 k :: r).toArray] H Q := by
  refine fn_of ?_
  rw [e_44]
  simp only [st_val, st_unit, br_true, br_false, br_bool, gd_move, gd_st, gd_fn, gd_left, gv_some, gv_none, r_nilCheck, r_off, r_extract, r_lenSl, r_lenStr, r_not, r_pick, r_eqp_nn, r_eqp_sn, r_eqp_ns, r_eqb, r_neb, r_eql, r_neq, r_lss, r_leq, r_gtr, r_geq, r_add, r_sub, r_mul, r_toInt, jn, decide_eq_true_eq, decide_eq_false_iff_not, decide_true, decide_false, Bool.not_true, Bool.not_false, Bool.false_eq_true, Bool.true_eq_false, ↓reduceIte, ite_self, List.getElem?_toArray, List.getElem?_cons_zero, List.getElem?_cons_succ, Option.map_some, true_and, and_true, true_imp_iff, false_imp_iff, Nat.zero_add, Nat.add_zero, Nat.reduceAdd, reduceCtorEq, seqP, blkP, retP, ne_eq, not_true_eq_false, not_false_eq_true, Int.reduceEq, Int.reduceNe, Int.reduceLT, Int.reduceLE, Int.reduceAdd, Int.reduceSub, Int.reduceMul, r_box hr, r_load (get_new _ _)]
  refine within_ok ?_
  try simp only [st_val, st_unit, br_true, br_false, br_bool, gd_move, gd_st, gd_fn, gd_left, gv_some, gv_none, r_nilCheck, r_off, r_extract, r_lenSl, r_lenStr, r_not, r_pick, r_eqp_nn, r_eqp_sn, r_eqp_ns, r_eqb, r_neb, r_eql, r_neq, r_lss, r_leq, r_gtr, r_geq, r_add, r_sub, r_mul, r_toInt, jn, decide_eq_true_eq, decide_eq_false_iff_not, decide_true, decide_false, Bool.not_true, Bool.not_false, Bool.false_eq_true, Bool.true_eq_false, ↓reduceIte, ite_self, List.getElem?_toArray, List.getElem?_cons_zero, List.getElem?_cons_succ, Option.map_some, true_and, and_true, true_imp_iff, false_imp_iff, Nat.zero_add, Nat.add_zero, Nat.reduceAdd, reduceCtorEq, seqP, blkP, retP, ne_eq, not_true_eq_false, not_false_eq_true, Int.reduceEq, Int.reduceNe, Int.reduceLT, Int.reduceLE, Int.reduceAdd, Int.reduceSub, Int.reduceMul]
  exact hq _ (Gr.push H _)
theorem Do_nil {k : Int} {r : List Value} {H : AHeap} {Q : Value → AHeap → Prop} (hr : (Value.int .i64 k :: r).toArray.all isCell = true) (hn : r.length = 7) (hq : ∀ H', Gr H H' → Q (.tuple #[.int .i64 0, .int .i64 2]) H') :
    Fn T 8 #[.pointer none, .agg (.int .i64 k :: r).toArray] H Q := by
  refine fn_of ?_
  rw [e_8]
  simp only [st_val, st_unit, br_true, br_false, br_bool, gd_move, gd_st, gd_fn, gd_left, gv_some, gv_none, r_nilCheck, r_off, r_extract, r_lenSl, r_lenStr, r_not, r_pick, r_eqp_nn, r_eqp_sn, r_eqp_ns, r_eqb, r_neb, r_eql, r_neq, r_lss, r_leq, r_gtr, r_geq, r_add, r_sub, r_mul, r_toInt, jn, decide_eq_true_eq, decide_eq_false_iff_not, decide_true, decide_false, Bool.not_true, Bool.not_false, Bool.false_eq_true, Bool.true_eq_false, ↓reduceIte, ite_self, List.getElem?_toArray, List.getElem?_cons_zero, List.getElem?_cons_succ, Option.map_some, true_and, and_true, true_imp_iff, false_imp_iff, Nat.zero_add, Nat.add_zero, Nat.reduceAdd, reduceCtorEq, seqP, blkP, retP, ne_eq, not_true_eq_false, not_false_eq_true, Int.reduceEq, Int.reduceNe, Int.reduceLT, Int.reduceLE, Int.reduceAdd, Int.reduceSub, Int.reduceMul, r_box hr, r_loadAll (get_new _ _) (show (Value.int .i64 k :: r).toArray.size = 8 by simp [hn])]
  refine may_nil hr fun H1 h1 => ?_
  simp only [st_val, st_unit, br_true, br_false, br_bool, gd_move, gd_st, gd_fn, gd_left, gv_some, gv_none, r_nilCheck, r_off, r_extract, r_lenSl, r_lenStr, r_not, r_pick, r_eqp_nn, r_eqp_sn, r_eqp_ns, r_eqb, r_neb, r_eql, r_neq, r_lss, r_leq, r_gtr, r_geq, r_add, r_sub, r_mul, r_toInt, jn, decide_eq_true_eq, decide_eq_false_iff_not, decide_true, decide_false, Bool.not_true, Bool.not_false, Bool.false_eq_true, Bool.true_eq_false, ↓reduceIte, ite_self, List.getElem?_toArray, List.getElem?_cons_zero, List.getElem?_cons_succ, Option.map_some, true_and, and_true, true_imp_iff, false_imp_iff, Nat.zero_add, Nat.add_zero, Nat.reduceAdd, reduceCtorEq, seqP, blkP, retP, ne_eq, not_true_eq_false, not_false_eq_true, Int.reduceEq, Int.reduceNe, Int.reduceLT, Int.reduceLE, Int.reduceAdd, Int.reduceSub, Int.reduceMul]
  exact hq _ ((Gr.push H _).trans h1)
theorem Open_nil {cs : Array Value} {H : AHeap} {Q : Value → AHeap → Prop} (hr : cs.all isCell = true) (hq : ∀ H', Gr H H' → Q (.tuple #[.pointer none, .int .i64 2]) H') :
    Fn T 10 #[.agg cs, .pointer none] H Q := by
  refine fn_of ?_
  rw [e_10]
  simp only [st_val, st_unit, br_true, br_false, br_bool, gd_move, gd_st, gd_fn, gd_left, gv_some, gv_none, r_nilCheck, r_off, r_extract, r_lenSl, r_lenStr, r_not, r_pick, r_eqp_nn, r_eqp_sn, r_eqp_ns, r_eqb, r_neb, r_eql, r_neq, r_lss, r_leq, r_gtr, r_geq, r_add, r_sub, r_mul, r_toInt, jn, decide_eq_true_eq, decide_eq_false_iff_not, decide_true, decide_false, Bool.not_true, Bool.not_false, Bool.false_eq_true, Bool.true_eq_false, ↓reduceIte, ite_self, List.getElem?_toArray, List.getElem?_cons_zero, List.getElem?_cons_succ, Option.map_some, true_and, and_true, true_imp_iff, false_imp_iff, Nat.zero_add, Nat.add_zero, Nat.reduceAdd, reduceCtorEq, seqP, blkP, retP, ne_eq, not_true_eq_false, not_false_eq_true, Int.reduceEq, Int.reduceNe, Int.reduceLT, Int.reduceLE, Int.reduceAdd, Int.reduceSub, Int.reduceMul, r_box hr]
  exact hq _ (Gr.push H _)
end Go.Aev
