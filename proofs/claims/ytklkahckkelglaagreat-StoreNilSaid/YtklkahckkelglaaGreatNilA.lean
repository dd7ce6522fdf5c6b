/- Heaps that only grew; what may be a config, on both sides. -/
import Derived.Test.YtklkahckkelglaaGreatNilE
import Derived.Test.YtklkahckkelglaaGreatAevY
namespace Go.Aev
open Go
set_option linter.unusedSimpArgs false
set_option linter.unusedVariables false

/-- The heap grew; what stood stands. -/
structure Gr (H H' : AHeap) : Prop where
  next : H.next ≤ H'.next
  get : ∀ b, b < H.next → H'.get b = H.get b
theorem Gr.refl (H : AHeap) : Gr H H := ⟨Nat.le_refl _, fun _ _ => rfl⟩
theorem Gr.trans {H H' H'' : AHeap} (h : Gr H H') (h' : Gr H' H'') : Gr H H'' :=
  ⟨Nat.le_trans h.next h'.next, fun b hb => (h'.get b (Nat.lt_of_lt_of_le hb h.next)).trans (h.get b hb)⟩
theorem Gr.push (H : AHeap) (k : Blk) : Gr H (H.push k) := ⟨by simp, fun b hb => by rw [AHeap.get_push, if_neg (by omega)]⟩
theorem Gr.set {H0 H : AHeap} (h : Gr H0 H) {b : Nat} {k : Blk} (hb : H0.next ≤ b) : Gr H0 (H.set b k) :=
  ⟨h.next, fun c hc => by rw [AHeap.get_set, if_neg (by omega)]; exact h.get c hc⟩
theorem get_new (H : AHeap) (k : Blk) : (H.push k).get H.next = some k := by rw [AHeap.get_push, if_pos rfl]

theorem r_box {e : TypeId} {cs : Array Value} {H : AHeap} (h : cs.all isCell = true) : v_box e (.agg cs) H = some (.val (.pointer (some ⟨H.next, 0, none⟩)) (H.push (.cells cs e false))) := by
  simp only [v_box, Value.cells, h, ↓reduceIte]
theorem r_new {e : TypeId} {cs : Array Value} {H : AHeap} : v_new e cs H = some (.val (.pointer (some ⟨H.next, 0, none⟩)) (H.push (.cells cs e false))) := rfl
theorem r_loadAll {n b : Nat} {H : AHeap} {c : Array Value} {e : TypeId} {ro : Bool} (h : H.get b = some (.cells c e ro)) (hc : c.size = n) :
    v_loadN n (.pointer (some ⟨b, 0, none⟩)) H = some (.val (.agg c) H) := by
  rw [r_loadN h (by omega)]
  simp [← hc]
theorem rdAll {n b : Nat} {H : AHeap} {c : Array Value} {e : TypeId} {ro : Bool} (h : H.get b = some (.cells c e ro)) (hc : c.size = n) :
    rdN H n (.pointer (some ⟨b, 0, none⟩)) = some c := by
  simp [rdN, h, ← hc]

theorem within_ok {n l m : Int} {H : AHeap} {Q : Value → AHeap → Prop} (hq : Q (.bool (decide (l ≤ n ∧ n ≤ m))) H) : Fn T 64 #[.int .i64 n, .int .i64 l, .int .i64 m] H Q := by
  refine fn_of ?_
  rw [e_64]
  simp only [st_val, st_unit, br_true, br_false, br_bool, gd_move, gd_st, gd_fn, gd_left, gv_some, gv_none, r_nilCheck, r_off, r_extract, r_lenSl, r_lenStr, r_not, r_pick, r_eqp_nn, r_eqp_sn, r_eqp_ns, r_eqb, r_neb, r_eql, r_neq, r_lss, r_leq, r_gtr, r_geq, r_add, r_sub, r_mul, r_toInt, jn, decide_eq_true_eq, decide_eq_false_iff_not, decide_true, decide_false, Bool.not_true, Bool.not_false, Bool.false_eq_true, Bool.true_eq_false, ↓reduceIte, ite_self, List.getElem?_toArray, List.getElem?_cons_zero, List.getElem?_cons_succ, Option.map_some, true_and, and_true, true_imp_iff, false_imp_iff, Nat.zero_add, Nat.add_zero, Nat.reduceAdd, reduceCtorEq, seqP, blkP, retP, ne_eq, not_true_eq_false, not_false_eq_true, Int.reduceEq, Int.reduceNe, Int.reduceLT, Int.reduceLE, Int.reduceAdd, Int.reduceSub, Int.reduceMul]
  by_cases h : l ≤ n
  · simp only [h, st_val, st_unit, br_true, br_false, br_bool, gd_move, gd_st, gd_fn, gd_left, gv_some, gv_none, r_nilCheck, r_off, r_extract, r_lenSl, r_lenStr, r_not, r_pick, r_eqp_nn, r_eqp_sn, r_eqp_ns, r_eqb, r_neb, r_eql, r_neq, r_lss, r_leq, r_gtr, r_geq, r_add, r_sub, r_mul, r_toInt, jn, decide_eq_true_eq, decide_eq_false_iff_not, decide_true, decide_false, Bool.not_true, Bool.not_false, Bool.false_eq_true, Bool.true_eq_false, ↓reduceIte, ite_self, List.getElem?_toArray, List.getElem?_cons_zero, List.getElem?_cons_succ, Option.map_some, true_and, and_true, true_imp_iff, false_imp_iff, Nat.zero_add, Nat.add_zero, Nat.reduceAdd, reduceCtorEq, seqP, blkP, retP, ne_eq, not_true_eq_false, not_false_eq_true, Int.reduceEq, Int.reduceNe, Int.reduceLT, Int.reduceLE, Int.reduceAdd, Int.reduceSub, Int.reduceMul]; simpa [h] using hq
  · simp only [h, st_val, st_unit, br_true, br_false, br_bool, gd_move, gd_st, gd_fn, gd_left, gv_some, gv_none, r_nilCheck, r_off, r_extract, r_lenSl, r_lenStr, r_not, r_pick, r_eqp_nn, r_eqp_sn, r_eqp_ns, r_eqb, r_neb, r_eql, r_neq, r_lss, r_leq, r_gtr, r_geq, r_add, r_sub, r_mul, r_toInt, jn, decide_eq_true_eq, decide_eq_false_iff_not, decide_true, decide_false, Bool.not_true, Bool.not_false, Bool.false_eq_true, Bool.true_eq_false, ↓reduceIte, ite_self, List.getElem?_toArray, List.getElem?_cons_zero, List.getElem?_cons_succ, Option.map_some, true_and, and_true, true_imp_iff, false_imp_iff, Nat.zero_add, Nat.add_zero, Nat.reduceAdd, reduceCtorEq, seqP, blkP, retP, ne_eq, not_true_eq_false, not_false_eq_true, Int.reduceEq, Int.reduceNe, Int.reduceLT, Int.reduceLE, Int.reduceAdd, Int.reduceSub, Int.reduceMul]; simpa [h] using hq
theorem placeMay_ok {n : Int} {H : AHeap} {Q : Value → AHeap → Prop} (hq : Q (.bool (decide (5 ≤ n ∧ n ≤ 9))) H) : Fn T 119 #[.int .i64 n] H Q := by
  refine fn_of ?_
  rw [e_119]
  simp only [st_val, st_unit, br_true, br_false, br_bool, gd_move, gd_st, gd_fn, gd_left, gv_some, gv_none, r_nilCheck, r_off, r_extract, r_lenSl, r_lenStr, r_not, r_pick, r_eqp_nn, r_eqp_sn, r_eqp_ns, r_eqb, r_neb, r_eql, r_neq, r_lss, r_leq, r_gtr, r_geq, r_add, r_sub, r_mul, r_toInt, jn, decide_eq_true_eq, decide_eq_false_iff_not, decide_true, decide_false, Bool.not_true, Bool.not_false, Bool.false_eq_true, Bool.true_eq_false, ↓reduceIte, ite_self, List.getElem?_toArray, List.getElem?_cons_zero, List.getElem?_cons_succ, Option.map_some, true_and, and_true, true_imp_iff, false_imp_iff, Nat.zero_add, Nat.add_zero, Nat.reduceAdd, reduceCtorEq, seqP, blkP, retP, ne_eq, not_true_eq_false, not_false_eq_true, Int.reduceEq, Int.reduceNe, Int.reduceLT, Int.reduceLE, Int.reduceAdd, Int.reduceSub, Int.reduceMul]
  by_cases h : 5 ≤ n
  · simp only [h, st_val, st_unit, br_true, br_false, br_bool, gd_move, gd_st, gd_fn, gd_left, gv_some, gv_none, r_nilCheck, r_off, r_extract, r_lenSl, r_lenStr, r_not, r_pick, r_eqp_nn, r_eqp_sn, r_eqp_ns, r_eqb, r_neb, r_eql, r_neq, r_lss, r_leq, r_gtr, r_geq, r_add, r_sub, r_mul, r_toInt, jn, decide_eq_true_eq, decide_eq_false_iff_not, decide_true, decide_false, Bool.not_true, Bool.not_false, Bool.false_eq_true, Bool.true_eq_false, ↓reduceIte, ite_self, List.getElem?_toArray, List.getElem?_cons_zero, List.getElem?_cons_succ, Option.map_some, true_and, and_true, true_imp_iff, false_imp_iff, Nat.zero_add, Nat.add_zero, Nat.reduceAdd, reduceCtorEq, seqP, blkP, retP, ne_eq, not_true_eq_false, not_false_eq_true, Int.reduceEq, Int.reduceNe, Int.reduceLT, Int.reduceLE, Int.reduceAdd, Int.reduceSub, Int.reduceMul]; simpa [h] using hq
  · simp only [h, st_val, st_unit, br_true, br_false, br_bool, gd_move, gd_st, gd_fn, gd_left, gv_some, gv_none, r_nilCheck, r_off, r_extract, r_lenSl, r_lenStr, r_not, r_pick, r_eqp_nn, r_eqp_sn, r_eqp_ns, r_eqb, r_neb, r_eql, r_neq, r_lss, r_leq, r_gtr, r_geq, r_add, r_sub, r_mul, r_toInt, jn, decide_eq_true_eq, decide_eq_false_iff_not, decide_true, decide_false, Bool.not_true, Bool.not_false, Bool.false_eq_true, Bool.true_eq_false, ↓reduceIte, ite_self, List.getElem?_toArray, List.getElem?_cons_zero, List.getElem?_cons_succ, Option.map_some, true_and, and_true, true_imp_iff, false_imp_iff, Nat.zero_add, Nat.add_zero, Nat.reduceAdd, reduceCtorEq, seqP, blkP, retP, ne_eq, not_true_eq_false, not_false_eq_true, Int.reduceEq, Int.reduceNe, Int.reduceLT, Int.reduceLE, Int.reduceAdd, Int.reduceSub, Int.reduceMul]; simpa [h] using hq

def pow2 (n : Int) : Bool := n == 1 || n == 2 || n == 4 || n == 8 || n == 16 || n == 32 || n == 64 || n == 128 || n == 256 || n == 512 || n == 1024
def andZero (n : Int) : Bool :=
  match aBits .i64 (· &&& ·) n (IntKind.wrap .i64 (n - 1)) with
  | .int _ m => decide (m = 0)
  | _ => false
theorem and_pow2 : ∀ k : Fin 1024, andZero (k.val + 1 : Int) = pow2 (k.val + 1 : Int) := by decide +kernel
theorem mixMay_ok {n : Int} {H : AHeap} {Q : Value → AHeap → Prop} (hq : Q (.bool (pow2 n)) H) : Fn T 120 #[.int .i64 n] H Q := by
  refine fn_of ?_
  rw [e_120]
  simp only [st_val, st_unit, br_true, br_false, br_bool, gd_move, gd_st, gd_fn, gd_left, gv_some, gv_none, r_nilCheck, r_off, r_extract, r_lenSl, r_lenStr, r_not, r_pick, r_eqp_nn, r_eqp_sn, r_eqp_ns, r_eqb, r_neb, r_eql, r_neq, r_lss, r_leq, r_gtr, r_geq, r_add, r_sub, r_mul, r_toInt, jn, decide_eq_true_eq, decide_eq_false_iff_not, decide_true, decide_false, Bool.not_true, Bool.not_false, Bool.false_eq_true, Bool.true_eq_false, ↓reduceIte, ite_self, List.getElem?_toArray, List.getElem?_cons_zero, List.getElem?_cons_succ, Option.map_some, true_and, and_true, true_imp_iff, false_imp_iff, Nat.zero_add, Nat.add_zero, Nat.reduceAdd, reduceCtorEq, seqP, blkP, retP, ne_eq, not_true_eq_false, not_false_eq_true, Int.reduceEq, Int.reduceNe, Int.reduceLT, Int.reduceLE, Int.reduceAdd, Int.reduceSub, Int.reduceMul]
  have hout : ¬ (1 ≤ n ∧ n ≤ 1024) → pow2 n = false := by
    intro h
    simp only [pow2, Bool.or_eq_false_iff, beq_eq_false_iff_ne, ne_eq]
    omega
  by_cases h : 1 ≤ n
  · simp only [h, st_val, st_unit, br_true, br_false, br_bool, gd_move, gd_st, gd_fn, gd_left, gv_some, gv_none, r_nilCheck, r_off, r_extract, r_lenSl, r_lenStr, r_not, r_pick, r_eqp_nn, r_eqp_sn, r_eqp_ns, r_eqb, r_neb, r_eql, r_neq, r_lss, r_leq, r_gtr, r_geq, r_add, r_sub, r_mul, r_toInt, jn, decide_eq_true_eq, decide_eq_false_iff_not, decide_true, decide_false, Bool.not_true, Bool.not_false, Bool.false_eq_true, Bool.true_eq_false, ↓reduceIte, ite_self, List.getElem?_toArray, List.getElem?_cons_zero, List.getElem?_cons_succ, Option.map_some, true_and, and_true, true_imp_iff, false_imp_iff, Nat.zero_add, Nat.add_zero, Nat.reduceAdd, reduceCtorEq, seqP, blkP, retP, ne_eq, not_true_eq_false, not_false_eq_true, Int.reduceEq, Int.reduceNe, Int.reduceLT, Int.reduceLE, Int.reduceAdd, Int.reduceSub, Int.reduceMul]
    by_cases h2 : n ≤ 1024
    · simp only [h2, st_val, st_unit, br_true, br_false, br_bool, gd_move, gd_st, gd_fn, gd_left, gv_some, gv_none, r_nilCheck, r_off, r_extract, r_lenSl, r_lenStr, r_not, r_pick, r_eqp_nn, r_eqp_sn, r_eqp_ns, r_eqb, r_neb, r_eql, r_neq, r_lss, r_leq, r_gtr, r_geq, r_add, r_sub, r_mul, r_toInt, jn, decide_eq_true_eq, decide_eq_false_iff_not, decide_true, decide_false, Bool.not_true, Bool.not_false, Bool.false_eq_true, Bool.true_eq_false, ↓reduceIte, ite_self, List.getElem?_toArray, List.getElem?_cons_zero, List.getElem?_cons_succ, Option.map_some, true_and, and_true, true_imp_iff, false_imp_iff, Nat.zero_add, Nat.add_zero, Nat.reduceAdd, reduceCtorEq, seqP, blkP, retP, ne_eq, not_true_eq_false, not_false_eq_true, Int.reduceEq, Int.reduceNe, Int.reduceLT, Int.reduceLE, Int.reduceAdd, Int.reduceSub, Int.reduceMul]
      have hp := and_pow2 ⟨(n - 1).toNat, by omega⟩
      have e : (((n - 1).toNat : Int) + 1) = n := by omega
      simp only [e] at hp
      have hv : ∃ m, aBits .i64 (· &&& ·) n (IntKind.wrap .i64 (n - 1)) = .int .i64 m := ⟨_, rfl⟩
      obtain ⟨m, hm⟩ := hv
      simp only [v_bin, aBin, isShift, aInt, hm, st_val, st_unit, br_true, br_false, br_bool, gd_move, gd_st, gd_fn, gd_left, gv_some, gv_none, r_nilCheck, r_off, r_extract, r_lenSl, r_lenStr, r_not, r_pick, r_eqp_nn, r_eqp_sn, r_eqp_ns, r_eqb, r_neb, r_eql, r_neq, r_lss, r_leq, r_gtr, r_geq, r_add, r_sub, r_mul, r_toInt, jn, decide_eq_true_eq, decide_eq_false_iff_not, decide_true, decide_false, Bool.not_true, Bool.not_false, Bool.false_eq_true, Bool.true_eq_false, ↓reduceIte, ite_self, List.getElem?_toArray, List.getElem?_cons_zero, List.getElem?_cons_succ, Option.map_some, true_and, and_true, true_imp_iff, false_imp_iff, Nat.zero_add, Nat.add_zero, Nat.reduceAdd, reduceCtorEq, seqP, blkP, retP, ne_eq, not_true_eq_false, not_false_eq_true, Int.reduceEq, Int.reduceNe, Int.reduceLT, Int.reduceLE, Int.reduceAdd, Int.reduceSub, Int.reduceMul]
      simp only [andZero, hm] at hp
      show Q (.bool (decide (m = 0))) H
      rw [hp]
      exact hq
    · simp only [h2, st_val, st_unit, br_true, br_false, br_bool, gd_move, gd_st, gd_fn, gd_left, gv_some, gv_none, r_nilCheck, r_off, r_extract, r_lenSl, r_lenStr, r_not, r_pick, r_eqp_nn, r_eqp_sn, r_eqp_ns, r_eqb, r_neb, r_eql, r_neq, r_lss, r_leq, r_gtr, r_geq, r_add, r_sub, r_mul, r_toInt, jn, decide_eq_true_eq, decide_eq_false_iff_not, decide_true, decide_false, Bool.not_true, Bool.not_false, Bool.false_eq_true, Bool.true_eq_false, ↓reduceIte, ite_self, List.getElem?_toArray, List.getElem?_cons_zero, List.getElem?_cons_succ, Option.map_some, true_and, and_true, true_imp_iff, false_imp_iff, Nat.zero_add, Nat.add_zero, Nat.reduceAdd, reduceCtorEq, seqP, blkP, retP, ne_eq, not_true_eq_false, not_false_eq_true, Int.reduceEq, Int.reduceNe, Int.reduceLT, Int.reduceLE, Int.reduceAdd, Int.reduceSub, Int.reduceMul]
      rw [hout (by omega)] at hq
      simpa using hq
  · simp only [h, st_val, st_unit, br_true, br_false, br_bool, gd_move, gd_st, gd_fn, gd_left, gv_some, gv_none, r_nilCheck, r_off, r_extract, r_lenSl, r_lenStr, r_not, r_pick, r_eqp_nn, r_eqp_sn, r_eqp_ns, r_eqb, r_neb, r_eql, r_neq, r_lss, r_leq, r_gtr, r_geq, r_add, r_sub, r_mul, r_toInt, jn, decide_eq_true_eq, decide_eq_false_iff_not, decide_true, decide_false, Bool.not_true, Bool.not_false, Bool.false_eq_true, Bool.true_eq_false, ↓reduceIte, ite_self, List.getElem?_toArray, List.getElem?_cons_zero, List.getElem?_cons_succ, Option.map_some, true_and, and_true, true_imp_iff, false_imp_iff, Nat.zero_add, Nat.add_zero, Nat.reduceAdd, reduceCtorEq, seqP, blkP, retP, ne_eq, not_true_eq_false, not_false_eq_true, Int.reduceEq, Int.reduceNe, Int.reduceLT, Int.reduceLE, Int.reduceAdd, Int.reduceSub, Int.reduceMul]
    rw [hout (by omega)] at hq
    simpa using hq

theorem refSize_ok {n : Int} {H : AHeap} {Q : Value → AHeap → Prop} (hq : ∀ m : Int, (0 < m ↔ 5 ≤ n ∧ n ≤ 9) → Q (.int .i64 m) H) : Fn T 62 #[.int .i64 n] H Q := by
  refine fn_of ?_
  rw [e_62]
  simp only [st_val, st_unit, br_true, br_false, br_bool, gd_move, gd_st, gd_fn, gd_left, gv_some, gv_none, r_nilCheck, r_off, r_extract, r_lenSl, r_lenStr, r_not, r_pick, r_eqp_nn, r_eqp_sn, r_eqp_ns, r_eqb, r_neb, r_eql, r_neq, r_lss, r_leq, r_gtr, r_geq, r_add, r_sub, r_mul, r_toInt, jn, decide_eq_true_eq, decide_eq_false_iff_not, decide_true, decide_false, Bool.not_true, Bool.not_false, Bool.false_eq_true, Bool.true_eq_false, ↓reduceIte, ite_self, List.getElem?_toArray, List.getElem?_cons_zero, List.getElem?_cons_succ, Option.map_some, true_and, and_true, true_imp_iff, false_imp_iff, Nat.zero_add, Nat.add_zero, Nat.reduceAdd, reduceCtorEq, seqP, blkP, retP, ne_eq, not_true_eq_false, not_false_eq_true, Int.reduceEq, Int.reduceNe, Int.reduceLT, Int.reduceLE, Int.reduceAdd, Int.reduceSub, Int.reduceMul]
  refine ⟨fun h => hq _ (by omega), fun h1 => ⟨fun h => hq _ (by omega), fun h2 => ⟨fun h => hq _ (by omega), fun h3 => ⟨fun h => hq _ (by omega), fun h4 => ⟨fun h => hq _ (by omega), fun h5 => hq _ ⟨fun h => absurd h (by decide), fun ⟨h6, h7⟩ => (by omega : False).elim⟩⟩⟩⟩⟩⟩
end Go.Aev
