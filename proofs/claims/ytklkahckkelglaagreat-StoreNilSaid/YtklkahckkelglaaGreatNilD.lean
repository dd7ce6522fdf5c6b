/- A new device that goes off; a store on it. -/
import Derived.Test.YtklkahckkelglaaGreatNilC
namespace Go.Aev
open Go
set_option linter.unusedSimpArgs false
set_option linter.unusedVariables false

theorem fn_prim {f : FuncId} {p : Array Value → AHeap → Option (Value × AHeap)} {args : Array Value} {H : AHeap} {v : Value} {H' : AHeap} {Q : Value → AHeap → Prop} (hp : T.prim f = some p) (h : p args H = some (v, H')) (hq : Q v H') : Fn T f args H Q :=
  ⟨1, v, H', by simp only [evN, evBody, hp, h, Option.map_some], hq⟩
theorem r_makeMap {H : AHeap} : v_makeMap H = some (.val (.map (some H.next)) (H.push (.map #[] 0))) := rfl
theorem r_makeFunc {f : FuncId} {xs ys : List Value} {H : AHeap} : v_makeFunc f xs ys H = some (.val (.func (.func f) xs.toArray ys.toArray) H) := by simp [v_makeFunc]
theorem r_clearMap {r : Nat} {H : AHeap} {es : Array MapEntry} {clock : Nat} (h : H.get r = some (.map es clock)) : v_clearMap (.map (some r)) H = some (.val (.tuple #[]) (H.set r (.map #[] clock))) := by
  simp [v_clearMap, mapAt, h]

/-- A device without blocks, and with nothing under way. -/
structure Bare (H : AHeap) (d m1 m2 m3 : Nat) (off : Bool) : Prop where
  top : H.get d = some (.cells #[.bool off, .map (some m1), .map (some m2), .map (some m3), .int .i64 0] 109 false)
  e2 : H.get m2 = some (.map #[] 0)
  e3 : H.get m3 = some (.map #[] 0)
  n2 : m2 < H.next
  n3 : m3 < H.next
  nd : d < H.next
  d2 : d ≠ m2
  d3 : d ≠ m3

theorem devNew_ok {H : AHeap} {Q : Value → AHeap → Prop} (hq : ∀ d m1 m2 m3 H', H.next ≤ d → H.next ≤ m2 → H.next ≤ m3 → Gr H H' → Bare H' d m1 m2 m3 false → Q (.pointer (some ⟨d, 0, none⟩)) H') : Fn T 11 #[] H Q := by
  refine fn_of ?_
  rw [e_11]
  simp only [st_val, st_unit, br_true, br_false, br_bool, gd_move, gd_st, gd_fn, gd_left, gv_some, gv_none, r_nilCheck, r_off, r_extract, r_lenSl, r_lenStr, r_not, r_pick, r_eqp_nn, r_eqp_sn, r_eqp_ns, r_eqb, r_neb, r_eql, r_neq, r_lss, r_leq, r_gtr, r_geq, r_add, r_sub, r_mul, r_toInt, jn, decide_eq_true_eq, decide_eq_false_iff_not, decide_true, decide_false, Bool.not_true, Bool.not_false, Bool.false_eq_true, Bool.true_eq_false, ↓reduceIte, ite_self, List.getElem?_toArray, List.getElem?_cons_zero, List.getElem?_cons_succ, Option.map_some, true_and, and_true, true_imp_iff, false_imp_iff, Nat.zero_add, Nat.add_zero, Nat.reduceAdd, reduceCtorEq, seqP, blkP, retP, ne_eq, not_true_eq_false, not_false_eq_true, Int.reduceEq, Int.reduceNe, Int.reduceLT, Int.reduceLE, Int.reduceAdd, Int.reduceSub, Int.reduceMul, r_makeMap]
  have hb : ∀ (H1 : AHeap), v_build #[(.bool false), (.map none), (.map none), (.map none), (.int .i64 0)] #[(0, 1), (1, 1), (2, 1), (3, 1), (4, 1)] [(1, .map (some H.next)), (2, .map (some (H.push (.map #[] 0)).next)), (3, .map (some ((H.push (.map #[] 0)).push (.map #[] 0)).next))] H1 =
      some (.val (.agg #[.bool false, .map (some H.next), .map (some (H.push (.map #[] 0)).next), .map (some ((H.push (.map #[] 0)).push (.map #[] 0)).next), .int .i64 0]) H1) := fun _ => by kernel_rfl
  rw [hb]
  simp only [st_val, st_unit, br_true, br_false, br_bool, gd_move, gd_st, gd_fn, gd_left, gv_some, gv_none, r_nilCheck, r_off, r_extract, r_lenSl, r_lenStr, r_not, r_pick, r_eqp_nn, r_eqp_sn, r_eqp_ns, r_eqb, r_neb, r_eql, r_neq, r_lss, r_leq, r_gtr, r_geq, r_add, r_sub, r_mul, r_toInt, jn, decide_eq_true_eq, decide_eq_false_iff_not, decide_true, decide_false, Bool.not_true, Bool.not_false, Bool.false_eq_true, Bool.true_eq_false, ↓reduceIte, ite_self, List.getElem?_toArray, List.getElem?_cons_zero, List.getElem?_cons_succ, Option.map_some, true_and, and_true, true_imp_iff, false_imp_iff, Nat.zero_add, Nat.add_zero, Nat.reduceAdd, reduceCtorEq, seqP, blkP, retP, ne_eq, not_true_eq_false, not_false_eq_true, Int.reduceEq, Int.reduceNe, Int.reduceLT, Int.reduceLE, Int.reduceAdd, Int.reduceSub, Int.reduceMul]
  rw [r_box (by kernel_rfl)]
  simp only [st_val, st_unit, br_true, br_false, br_bool, gd_move, gd_st, gd_fn, gd_left, gv_some, gv_none, r_nilCheck, r_off, r_extract, r_lenSl, r_lenStr, r_not, r_pick, r_eqp_nn, r_eqp_sn, r_eqp_ns, r_eqb, r_neb, r_eql, r_neq, r_lss, r_leq, r_gtr, r_geq, r_add, r_sub, r_mul, r_toInt, jn, decide_eq_true_eq, decide_eq_false_iff_not, decide_true, decide_false, Bool.not_true, Bool.not_false, Bool.false_eq_true, Bool.true_eq_false, ↓reduceIte, ite_self, List.getElem?_toArray, List.getElem?_cons_zero, List.getElem?_cons_succ, Option.map_some, true_and, and_true, true_imp_iff, false_imp_iff, Nat.zero_add, Nat.add_zero, Nat.reduceAdd, reduceCtorEq, seqP, blkP, retP, ne_eq, not_true_eq_false, not_false_eq_true, Int.reduceEq, Int.reduceNe, Int.reduceLT, Int.reduceLE, Int.reduceAdd, Int.reduceSub, Int.reduceMul]
  refine hq _ _ _ _ _ ?_ ?_ ?_ ((((Gr.push H _).trans (Gr.push _ _)).trans (Gr.push _ _)).trans (Gr.push _ _)) ⟨get_new _ _, ?_, ?_, ?_, ?_, ?_, ?_, ?_⟩
  all_goals simp [AHeap.get_push]
  all_goals try omega

theorem power_ok {H : AHeap} {d m1 m2 m3 : Nat} {off : Bool} (h : Bare H d m1 m2 m3 off) {Q : Value → AHeap → Prop} (hq : Q (.int .i64 (if off then 6 else 0)) H) : Fn T 59 #[.pointer (some ⟨d, 0, none⟩)] H Q := by
  refine fn_of ?_
  rw [e_59]
  simp only [st_val, st_unit, br_true, br_false, br_bool, gd_move, gd_st, gd_fn, gd_left, gv_some, gv_none, r_nilCheck, r_off, r_extract, r_lenSl, r_lenStr, r_not, r_pick, r_eqp_nn, r_eqp_sn, r_eqp_ns, r_eqb, r_neb, r_eql, r_neq, r_lss, r_leq, r_gtr, r_geq, r_add, r_sub, r_mul, r_toInt, jn, decide_eq_true_eq, decide_eq_false_iff_not, decide_true, decide_false, Bool.not_true, Bool.not_false, Bool.false_eq_true, Bool.true_eq_false, ↓reduceIte, ite_self, List.getElem?_toArray, List.getElem?_cons_zero, List.getElem?_cons_succ, Option.map_some, true_and, and_true, true_imp_iff, false_imp_iff, Nat.zero_add, Nat.add_zero, Nat.reduceAdd, reduceCtorEq, seqP, blkP, retP, ne_eq, not_true_eq_false, not_false_eq_true, Int.reduceEq, Int.reduceNe, Int.reduceLT, Int.reduceLE, Int.reduceAdd, Int.reduceSub, Int.reduceMul, r_load h.top]
  cases off <;> simpa using hq
theorem On_ok {H : AHeap} {d m1 m2 m3 : Nat} {off : Bool} (h : Bare H d m1 m2 m3 off) {Q : Value → AHeap → Prop} (hq : Q (.bool !off) H) : Fn T 57 #[.pointer (some ⟨d, 0, none⟩)] H Q := by
  refine fn_of ?_
  rw [e_57]
  refine power_ok h ?_
  cases off <;> simpa only [st_val, st_unit, br_true, br_false, br_bool, gd_move, gd_st, gd_fn, gd_left, gv_some, gv_none, r_nilCheck, r_off, r_extract, r_lenSl, r_lenStr, r_not, r_pick, r_eqp_nn, r_eqp_sn, r_eqp_ns, r_eqb, r_neb, r_eql, r_neq, r_lss, r_leq, r_gtr, r_geq, r_add, r_sub, r_mul, r_toInt, jn, decide_eq_true_eq, decide_eq_false_iff_not, decide_true, decide_false, Bool.not_true, Bool.not_false, Bool.false_eq_true, Bool.true_eq_false, ↓reduceIte, ite_self, List.getElem?_toArray, List.getElem?_cons_zero, List.getElem?_cons_succ, Option.map_some, true_and, and_true, true_imp_iff, false_imp_iff, Nat.zero_add, Nat.add_zero, Nat.reduceAdd, reduceCtorEq, seqP, blkP, retP, ne_eq, not_true_eq_false, not_false_eq_true, Int.reduceEq, Int.reduceNe, Int.reduceLT, Int.reduceLE, Int.reduceAdd, Int.reduceSub, Int.reduceMul] using hq

theorem Bare.gr {H H' : AHeap} {d m1 m2 m3 : Nat} {off : Bool} (h : Bare H d m1 m2 m3 off) (g : Gr H H') : Bare H' d m1 m2 m3 off :=
  ⟨(g.get _ h.nd).trans h.top, (g.get _ h.n2).trans h.e2, (g.get _ h.n3).trans h.e3, Nat.lt_of_lt_of_le h.n2 g.next, Nat.lt_of_lt_of_le h.n3 g.next, Nat.lt_of_lt_of_le h.nd g.next, h.d2, h.d3⟩

theorem Flight_ok {H : AHeap} {d m1 m2 m3 : Nat} {off : Bool} (h : Bare H d m1 m2 m3 off) {Q : Value → AHeap → Prop} (hq : ∀ H', Gr H H' → Q (.slice none 0 0) H') : Fn T 60 #[.pointer (some ⟨d, 0, none⟩)] H Q := by
  refine fn_of ?_
  rw [e_60]
  simp only [st_val, st_unit, br_true, br_false, br_bool, gd_move, gd_st, gd_fn, gd_left, gv_some, gv_none, r_nilCheck, r_off, r_extract, r_lenSl, r_lenStr, r_not, r_pick, r_eqp_nn, r_eqp_sn, r_eqp_ns, r_eqb, r_neb, r_eql, r_neq, r_lss, r_leq, r_gtr, r_geq, r_add, r_sub, r_mul, r_toInt, jn, decide_eq_true_eq, decide_eq_false_iff_not, decide_true, decide_false, Bool.not_true, Bool.not_false, Bool.false_eq_true, Bool.true_eq_false, ↓reduceIte, ite_self, List.getElem?_toArray, List.getElem?_cons_zero, List.getElem?_cons_succ, Option.map_some, true_and, and_true, true_imp_iff, false_imp_iff, Nat.zero_add, Nat.add_zero, Nat.reduceAdd, reduceCtorEq, seqP, blkP, retP, ne_eq, not_true_eq_false, not_false_eq_true, Int.reduceEq, Int.reduceNe, Int.reduceLT, Int.reduceLE, Int.reduceAdd, Int.reduceSub, Int.reduceMul, r_load h.top]
  refine fn_of ?_
  rw [e_125]
  have hbx : v_box 106 (.map (some m2)) H = some (.val (.pointer (some ⟨H.next, 0, none⟩)) (H.push (.cells #[.map (some m2)] 106 false))) := by kernel_rfl
  simp only [st_val, st_unit, br_true, br_false, br_bool, gd_move, gd_st, gd_fn, gd_left, gv_some, gv_none, r_nilCheck, r_off, r_extract, r_lenSl, r_lenStr, r_not, r_pick, r_eqp_nn, r_eqp_sn, r_eqp_ns, r_eqb, r_neb, r_eql, r_neq, r_lss, r_leq, r_gtr, r_geq, r_add, r_sub, r_mul, r_toInt, jn, decide_eq_true_eq, decide_eq_false_iff_not, decide_true, decide_false, Bool.not_true, Bool.not_false, Bool.false_eq_true, Bool.true_eq_false, ↓reduceIte, ite_self, List.getElem?_toArray, List.getElem?_cons_zero, List.getElem?_cons_succ, Option.map_some, true_and, and_true, true_imp_iff, false_imp_iff, Nat.zero_add, Nat.add_zero, Nat.reduceAdd, reduceCtorEq, seqP, blkP, retP, ne_eq, not_true_eq_false, not_false_eq_true, Int.reduceEq, Int.reduceNe, Int.reduceLT, Int.reduceLE, Int.reduceAdd, Int.reduceSub, Int.reduceMul, hbx, r_makeFunc]
  refine fn_prim (p := sortedNone) (v := .slice none 0 0) (by kernel_rfl) ?_ (hq _ (Gr.push H (.cells #[.map (some m2)] 106 false)))
  have hm : (H.push (.cells #[.map (some m2)] 106 false)).get m2 = some (.map #[] 0) := by rw [(Gr.push H _).get _ h.n2]; exact h.e2
  simp only [sortedNone, get_new, hm]
  rfl

theorem Crash_ok {H : AHeap} {d m1 m2 m3 : Nat} (h : Bare H d m1 m2 m3 false) {B : Nat} (hd : B ≤ d) (h2 : B ≤ m2) (h3 : B ≤ m3) (hB : B ≤ H.next) {Q : Value → AHeap → Prop}
    (hq : ∀ v H', H.next ≤ H'.next → (∀ b, b < B → H'.get b = H.get b) → Bare H' d m1 m2 m3 true → Q v H') : Fn T 12 #[.pointer (some ⟨d, 0, none⟩), .slice none 0 0] H Q := by
  refine fn_of ?_
  rw [e_12]
  refine power_ok h ?_
  simp only [st_val, st_unit, br_true, br_false, br_bool, gd_move, gd_st, gd_fn, gd_left, gv_some, gv_none, r_nilCheck, r_off, r_extract, r_lenSl, r_lenStr, r_not, r_pick, r_eqp_nn, r_eqp_sn, r_eqp_ns, r_eqb, r_neb, r_eql, r_neq, r_lss, r_leq, r_gtr, r_geq, r_add, r_sub, r_mul, r_toInt, jn, decide_eq_true_eq, decide_eq_false_iff_not, decide_true, decide_false, Bool.not_true, Bool.not_false, Bool.false_eq_true, Bool.true_eq_false, ↓reduceIte, ite_self, List.getElem?_toArray, List.getElem?_cons_zero, List.getElem?_cons_succ, Option.map_some, true_and, and_true, true_imp_iff, false_imp_iff, Nat.zero_add, Nat.add_zero, Nat.reduceAdd, reduceCtorEq, seqP, blkP, retP, ne_eq, not_true_eq_false, not_false_eq_true, Int.reduceEq, Int.reduceNe, Int.reduceLT, Int.reduceLE, Int.reduceAdd, Int.reduceSub, Int.reduceMul]
  refine Flight_ok h fun H1 g1 => ?_
  simp only [st_val, st_unit, br_true, br_false, br_bool, gd_move, gd_st, gd_fn, gd_left, gv_some, gv_none, r_nilCheck, r_off, r_extract, r_lenSl, r_lenStr, r_not, r_pick, r_eqp_nn, r_eqp_sn, r_eqp_ns, r_eqb, r_neb, r_eql, r_neq, r_lss, r_leq, r_gtr, r_geq, r_add, r_sub, r_mul, r_toInt, jn, decide_eq_true_eq, decide_eq_false_iff_not, decide_true, decide_false, Bool.not_true, Bool.not_false, Bool.false_eq_true, Bool.true_eq_false, ↓reduceIte, ite_self, List.getElem?_toArray, List.getElem?_cons_zero, List.getElem?_cons_succ, Option.map_some, true_and, and_true, true_imp_iff, false_imp_iff, Nat.zero_add, Nat.add_zero, Nat.reduceAdd, reduceCtorEq, seqP, blkP, retP, ne_eq, not_true_eq_false, not_false_eq_true, Int.reduceEq, Int.reduceNe, Int.reduceLT, Int.reduceLE, Int.reduceAdd, Int.reduceSub, Int.reduceMul]
  refine lp_of ?_
  rw [l_12_0]
  have z : ((0 : Nat) : Int) = 0 := rfl
  simp only [st_val, st_unit, br_true, br_false, br_bool, gd_move, gd_st, gd_fn, gd_left, gv_some, gv_none, r_nilCheck, r_off, r_extract, r_lenSl, r_lenStr, r_not, r_pick, r_eqp_nn, r_eqp_sn, r_eqp_ns, r_eqb, r_neb, r_eql, r_neq, r_lss, r_leq, r_gtr, r_geq, r_add, r_sub, r_mul, r_toInt, jn, decide_eq_true_eq, decide_eq_false_iff_not, decide_true, decide_false, Bool.not_true, Bool.not_false, Bool.false_eq_true, Bool.true_eq_false, ↓reduceIte, ite_self, List.getElem?_toArray, List.getElem?_cons_zero, List.getElem?_cons_succ, Option.map_some, true_and, and_true, true_imp_iff, false_imp_iff, Nat.zero_add, Nat.add_zero, Nat.reduceAdd, reduceCtorEq, seqP, blkP, retP, ne_eq, not_true_eq_false, not_false_eq_true, Int.reduceEq, Int.reduceNe, Int.reduceLT, Int.reduceLE, Int.reduceAdd, Int.reduceSub, Int.reduceMul, z, Int.lt_irrefl]
  have b1 := h.gr g1
  have e0 : envOf [(0, Value.pointer (some ⟨d, 0, none⟩)), (4, undef)] 0 = .pointer (some ⟨d, 0, none⟩) := rfl
  simp only [e0, Nat.beq_eq_true_eq, st_val, st_unit, br_true, br_false, br_bool, gd_move, gd_st, gd_fn, gd_left, gv_some, gv_none, r_nilCheck, r_off, r_extract, r_lenSl, r_lenStr, r_not, r_pick, r_eqp_nn, r_eqp_sn, r_eqp_ns, r_eqb, r_neb, r_eql, r_neq, r_lss, r_leq, r_gtr, r_geq, r_add, r_sub, r_mul, r_toInt, jn, decide_eq_true_eq, decide_eq_false_iff_not, decide_true, decide_false, Bool.not_true, Bool.not_false, Bool.false_eq_true, Bool.true_eq_false, ↓reduceIte, ite_self, List.getElem?_toArray, List.getElem?_cons_zero, List.getElem?_cons_succ, Option.map_some, true_and, and_true, true_imp_iff, false_imp_iff, Nat.zero_add, Nat.add_zero, Nat.reduceAdd, reduceCtorEq, seqP, blkP, retP, ne_eq, not_true_eq_false, not_false_eq_true, Int.reduceEq, Int.reduceNe, Int.reduceLT, Int.reduceLE, Int.reduceAdd, Int.reduceSub, Int.reduceMul, r_load b1.top, r_clearMap b1.e2, cond_true, Nat.beq]
  have t2 : (H1.set m2 (.map #[] 0)).get d = H1.get d := by rw [AHeap.get_set, if_neg b1.d2]
  have t3 : (H1.set m2 (.map #[] 0)).get m3 = some (.map #[] 0) := by
    rw [AHeap.get_set]
    split
    · rfl
    · exact b1.e3
  have t4 : ((H1.set m2 (.map #[] 0)).set m3 (.map #[] 0)).get d = some (.cells #[.bool false, .map (some m1), .map (some m2), .map (some m3), .int .i64 0] 109 false) := by
    rw [AHeap.get_set, if_neg b1.d3, t2, b1.top]
  simp only [r_load (t2.trans b1.top), st_val, st_unit, br_true, br_false, br_bool, gd_move, gd_st, gd_fn, gd_left, gv_some, gv_none, r_nilCheck, r_off, r_extract, r_lenSl, r_lenStr, r_not, r_pick, r_eqp_nn, r_eqp_sn, r_eqp_ns, r_eqb, r_neb, r_eql, r_neq, r_lss, r_leq, r_gtr, r_geq, r_add, r_sub, r_mul, r_toInt, jn, decide_eq_true_eq, decide_eq_false_iff_not, decide_true, decide_false, Bool.not_true, Bool.not_false, Bool.false_eq_true, Bool.true_eq_false, ↓reduceIte, ite_self, List.getElem?_toArray, List.getElem?_cons_zero, List.getElem?_cons_succ, Option.map_some, true_and, and_true, true_imp_iff, false_imp_iff, Nat.zero_add, Nat.add_zero, Nat.reduceAdd, reduceCtorEq, seqP, blkP, retP, ne_eq, not_true_eq_false, not_false_eq_true, Int.reduceEq, Int.reduceNe, Int.reduceLT, Int.reduceLE, Int.reduceAdd, Int.reduceSub, Int.reduceMul, r_clearMap t3, cond_true]
  rw [r_store t4 (by rfl) (by simp) (by kernel_rfl)]
  simp only [st_val, st_unit, br_true, br_false, br_bool, gd_move, gd_st, gd_fn, gd_left, gv_some, gv_none, r_nilCheck, r_off, r_extract, r_lenSl, r_lenStr, r_not, r_pick, r_eqp_nn, r_eqp_sn, r_eqp_ns, r_eqb, r_neb, r_eql, r_neq, r_lss, r_leq, r_gtr, r_geq, r_add, r_sub, r_mul, r_toInt, jn, decide_eq_true_eq, decide_eq_false_iff_not, decide_true, decide_false, Bool.not_true, Bool.not_false, Bool.false_eq_true, Bool.true_eq_false, ↓reduceIte, ite_self, List.getElem?_toArray, List.getElem?_cons_zero, List.getElem?_cons_succ, Option.map_some, true_and, and_true, true_imp_iff, false_imp_iff, Nat.zero_add, Nat.add_zero, Nat.reduceAdd, reduceCtorEq, seqP, blkP, retP, ne_eq, not_true_eq_false, not_false_eq_true, Int.reduceEq, Int.reduceNe, Int.reduceLT, Int.reduceLE, Int.reduceAdd, Int.reduceSub, Int.reduceMul]
  refine hq _ _ g1.next ?_ ⟨?_, ?_, ?_, b1.n2, b1.n3, b1.nd, b1.d2, b1.d3⟩
  · intro b hb
    rw [AHeap.get_set, if_neg (by omega), AHeap.get_set, if_neg (by omega), AHeap.get_set, if_neg (by omega), g1.get b (by omega)]
  · rw [get_set_same]; rfl
  · rw [AHeap.get_set, if_neg b1.d2.symm, AHeap.get_set]
    split
    · rfl
    · exact get_set_same _ _ _
  · rw [AHeap.get_set, if_neg b1.d3.symm]; exact get_set_same _ _ _

theorem Open_off {b f s k p c : Int} {H : AHeap} {d m1 m2 m3 : Nat} (h : Bare H d m1 m2 m3 true) {Q : Value → AHeap → Prop}
    (hq : ∀ H', Gr H H' → Q (.tuple #[.pointer none, .int .i64 (if rightB b f s k p c then 6 else 1)]) H') : Fn T 10 #[.agg (cfg b f s k p c), .pointer (some ⟨d, 0, none⟩)] H Q := by
  refine fn_of ?_
  rw [e_10]
  have hb := r_box (e := 23) (H := H) (show (cfg b f s k p c).all isCell = true by kernel_rfl)
  simp only [st_val, st_unit, br_true, br_false, br_bool, gd_move, gd_st, gd_fn, gd_left, gv_some, gv_none, r_nilCheck, r_off, r_extract, r_lenSl, r_lenStr, r_not, r_pick, r_eqp_nn, r_eqp_sn, r_eqp_ns, r_eqb, r_neb, r_eql, r_neq, r_lss, r_leq, r_gtr, r_geq, r_add, r_sub, r_mul, r_toInt, jn, decide_eq_true_eq, decide_eq_false_iff_not, decide_true, decide_false, Bool.not_true, Bool.not_false, Bool.false_eq_true, Bool.true_eq_false, ↓reduceIte, ite_self, List.getElem?_toArray, List.getElem?_cons_zero, List.getElem?_cons_succ, Option.map_some, true_and, and_true, true_imp_iff, false_imp_iff, Nat.zero_add, Nat.add_zero, Nat.reduceAdd, reduceCtorEq, seqP, blkP, retP, ne_eq, not_true_eq_false, not_false_eq_true, Int.reduceEq, Int.reduceNe, Int.reduceLT, Int.reduceLE, Int.reduceAdd, Int.reduceSub, Int.reduceMul, hb, r_loadAll (get_new H (.cells (cfg b f s k p c) 23 false)) (show (cfg b f s k p c).size = 6 by rfl)]
  have g1 := Gr.push H (.cells (cfg b f s k p c) 23 false)
  refine storeRight_ok ?_
  have g2 := g1.trans (Gr.push _ (.cells (cfg b f s k p c) 23 false))
  cases hr : rightB b f s k p c with
  | false =>
    have hq' := hq _ g2
    rw [hr] at hq'
    simp only [st_val, st_unit, br_true, br_false, br_bool, gd_move, gd_st, gd_fn, gd_left, gv_some, gv_none, r_nilCheck, r_off, r_extract, r_lenSl, r_lenStr, r_not, r_pick, r_eqp_nn, r_eqp_sn, r_eqp_ns, r_eqb, r_neb, r_eql, r_neq, r_lss, r_leq, r_gtr, r_geq, r_add, r_sub, r_mul, r_toInt, jn, decide_eq_true_eq, decide_eq_false_iff_not, decide_true, decide_false, Bool.not_true, Bool.not_false, Bool.false_eq_true, Bool.true_eq_false, ↓reduceIte, ite_self, List.getElem?_toArray, List.getElem?_cons_zero, List.getElem?_cons_succ, Option.map_some, true_and, and_true, true_imp_iff, false_imp_iff, Nat.zero_add, Nat.add_zero, Nat.reduceAdd, reduceCtorEq, seqP, blkP, retP, ne_eq, not_true_eq_false, not_false_eq_true, Int.reduceEq, Int.reduceNe, Int.reduceLT, Int.reduceLE, Int.reduceAdd, Int.reduceSub, Int.reduceMul]
    exact hq'
  | true =>
    have hq' := hq _ g2
    rw [hr] at hq'
    simp only [st_val, st_unit, br_true, br_false, br_bool, gd_move, gd_st, gd_fn, gd_left, gv_some, gv_none, r_nilCheck, r_off, r_extract, r_lenSl, r_lenStr, r_not, r_pick, r_eqp_nn, r_eqp_sn, r_eqp_ns, r_eqb, r_neb, r_eql, r_neq, r_lss, r_leq, r_gtr, r_geq, r_add, r_sub, r_mul, r_toInt, jn, decide_eq_true_eq, decide_eq_false_iff_not, decide_true, decide_false, Bool.not_true, Bool.not_false, Bool.false_eq_true, Bool.true_eq_false, ↓reduceIte, ite_self, List.getElem?_toArray, List.getElem?_cons_zero, List.getElem?_cons_succ, Option.map_some, true_and, and_true, true_imp_iff, false_imp_iff, Nat.zero_add, Nat.add_zero, Nat.reduceAdd, reduceCtorEq, seqP, blkP, retP, ne_eq, not_true_eq_false, not_false_eq_true, Int.reduceEq, Int.reduceNe, Int.reduceLT, Int.reduceLE, Int.reduceAdd, Int.reduceSub, Int.reduceMul]
    refine On_ok (h.gr g2) ?_
    simp only [st_val, st_unit, br_true, br_false, br_bool, gd_move, gd_st, gd_fn, gd_left, gv_some, gv_none, r_nilCheck, r_off, r_extract, r_lenSl, r_lenStr, r_not, r_pick, r_eqp_nn, r_eqp_sn, r_eqp_ns, r_eqb, r_neb, r_eql, r_neq, r_lss, r_leq, r_gtr, r_geq, r_add, r_sub, r_mul, r_toInt, jn, decide_eq_true_eq, decide_eq_false_iff_not, decide_true, decide_false, Bool.not_true, Bool.not_false, Bool.false_eq_true, Bool.true_eq_false, ↓reduceIte, ite_self, List.getElem?_toArray, List.getElem?_cons_zero, List.getElem?_cons_succ, Option.map_some, true_and, and_true, true_imp_iff, false_imp_iff, Nat.zero_add, Nat.add_zero, Nat.reduceAdd, reduceCtorEq, seqP, blkP, retP, ne_eq, not_true_eq_false, not_false_eq_true, Int.reduceEq, Int.reduceNe, Int.reduceLT, Int.reduceLE, Int.reduceAdd, Int.reduceSub, Int.reduceMul]
    exact hq'
end Go.Aev
