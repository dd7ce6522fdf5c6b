/- The law StoreNil, gone through. -/
import Derived.Test.YtklkahckkelglaaGreatNilD
import Derived.Test.YtklkahckkelglaaGreatAevV
namespace Go.Aev
open Go
set_option linter.unusedSimpArgs false
set_option linter.unusedVariables false

def outB : Option (OutQ × AHeap) → Option (Value × Option Blk × Option Blk × Bool)
  | some (.val v, H) => some (v, H.get 0, H.get 1, Nat.blt 1 H.next)
  | _ => none
theorem outB_inv {r : Option (OutQ × AHeap)} {v : Value} {a b : Option Blk} (h : outB r = some (v, a, b, true)) : ∃ H, r = some (.val v, H) ∧ H.get 0 = a ∧ H.get 1 = b ∧ 1 < H.next := by
  unfold outB at h
  split at h
  · rename_i v' H
    simp only [Option.some.injEq, Prod.mk.injEq] at h
    obtain ⟨rfl, rfl, rfl, hb⟩ := h
    exact ⟨H, rfl, rfl, rfl, by simpa using hb⟩
  · cases h

def heap0 (cs xs : Array Value) : AHeap := (AHeap.empty.push (.cells cs 23 false)).push (.cells xs 29 false)
/-- The chapter's example, by the kernel, whatever stands in the first two blocks. -/
theorem awake_run (cs xs : Array Value) : outB (evQ T 1000 (.fn 7 #[]) (heap0 cs xs)) = some (.bool true, some (.cells cs 23 false), some (.cells xs 29 false), true) := by kernel_rfl
theorem awake_ok {cs xs : Array Value} {Q : Value → AHeap → Prop} (hq : ∀ H, H.get 0 = some (.cells cs 23 false) → H.get 1 = some (.cells xs 29 false) → 1 < H.next → Q (.bool true) H) : Fn T 7 #[] (heap0 cs xs) Q := by
  obtain ⟨H, hr, h0, h1, hn⟩ := outB_inv (awake_run cs xs)
  exact ⟨1000, _, H, (evQ_ok T 1000).fn _ _ _ _ _ hr, hq H h0 h1 hn⟩

theorem storeNil_ok {b f s k p c kd sn : Int} {n : Value} {r : List Value} (hr : (Value.int .i64 kd :: .int .i64 sn :: n :: r).toArray.all isCell = true) (hn : r.length = 5) {cx xx : Array Value} (hcx : cx = cfg b f s k p c) (hxx : xx = (Value.int .i64 kd :: .int .i64 sn :: n :: r).toArray) :
    Fn T 3 #[.agg cx, .agg xx] AHeap.empty fun v _ => v = .bool true := by
  subst hcx
  refine fn_of ?_
  rw [e_3]
  have hbc := r_box (e := 23) (H := AHeap.empty) (show (cfg b f s k p c).all isCell = true by kernel_rfl)
  have hbx := r_box (e := 29) (H := AHeap.empty.push (.cells (cfg b f s k p c) 23 false)) (show xx.all isCell = true by rw [hxx]; exact hr)
  simp only [st_val, st_unit, br_true, br_false, br_bool, gd_move, gd_st, gd_fn, gd_left, gv_some, gv_none, r_nilCheck, r_off, r_extract, r_lenSl, r_lenStr, r_not, r_pick, r_eqp_nn, r_eqp_sn, r_eqp_ns, r_eqb, r_neb, r_eql, r_neq, r_lss, r_leq, r_gtr, r_geq, r_add, r_sub, r_mul, r_toInt, jn, decide_eq_true_eq, decide_eq_false_iff_not, decide_true, decide_false, Bool.not_true, Bool.not_false, Bool.false_eq_true, Bool.true_eq_false, ↓reduceIte, ite_self, List.getElem?_toArray, List.getElem?_cons_zero, List.getElem?_cons_succ, Option.map_some, true_and, and_true, true_imp_iff, false_imp_iff, Nat.zero_add, Nat.add_zero, Nat.reduceAdd, reduceCtorEq, seqP, blkP, retP, ne_eq, not_true_eq_false, not_false_eq_true, Int.reduceEq, Int.reduceNe, Int.reduceLT, Int.reduceLE, Int.reduceAdd, Int.reduceSub, Int.reduceMul, hbc, hbx]
  refine awake_ok fun H h0 h1 hgt => ?_
  have hx0 : ((AHeap.empty.push (.cells (cfg b f s k p c) 23 false)).next : Nat) = 1 := rfl
  have hc0 : (AHeap.empty.next : Nat) = 0 := rfl
  have hx8 : xx.size = 8 := by rw [hxx]; simp [hn]
  simp only [st_val, st_unit, br_true, br_false, br_bool, gd_move, gd_st, gd_fn, gd_left, gv_some, gv_none, r_nilCheck, r_off, r_extract, r_lenSl, r_lenStr, r_not, r_pick, r_eqp_nn, r_eqp_sn, r_eqp_ns, r_eqb, r_neb, r_eql, r_neq, r_lss, r_leq, r_gtr, r_geq, r_add, r_sub, r_mul, r_toInt, jn, decide_eq_true_eq, decide_eq_false_iff_not, decide_true, decide_false, Bool.not_true, Bool.not_false, Bool.false_eq_true, Bool.true_eq_false, ↓reduceIte, ite_self, List.getElem?_toArray, List.getElem?_cons_zero, List.getElem?_cons_succ, Option.map_some, true_and, and_true, true_imp_iff, false_imp_iff, Nat.zero_add, Nat.add_zero, Nat.reduceAdd, reduceCtorEq, seqP, blkP, retP, ne_eq, not_true_eq_false, not_false_eq_true, Int.reduceEq, Int.reduceNe, Int.reduceLT, Int.reduceLE, Int.reduceAdd, Int.reduceSub, Int.reduceMul, hx0, hc0, r_loadAll h1 hx8]
  rw [hxx]
  refine Do_nil hr (by simp [hn]) fun H1 g1 => ?_
  have h11 := (g1.get 1 hgt).trans h1
  have e1 : xx[1]? = some (.int .i64 sn) := by rw [hxx]; rfl
  have e2 : xx[2]? = some n := by rw [hxx]; rfl
  simp only [st_val, st_unit, br_true, br_false, br_bool, gd_move, gd_st, gd_fn, gd_left, gv_some, gv_none, r_nilCheck, r_off, r_extract, r_lenSl, r_lenStr, r_not, r_pick, r_eqp_nn, r_eqp_sn, r_eqp_ns, r_eqb, r_neb, r_eql, r_neq, r_lss, r_leq, r_gtr, r_geq, r_add, r_sub, r_mul, r_toInt, jn, decide_eq_true_eq, decide_eq_false_iff_not, decide_true, decide_false, Bool.not_true, Bool.not_false, Bool.false_eq_true, Bool.true_eq_false, ↓reduceIte, ite_self, List.getElem?_toArray, List.getElem?_cons_zero, List.getElem?_cons_succ, Option.map_some, true_and, and_true, true_imp_iff, false_imp_iff, Nat.zero_add, Nat.add_zero, Nat.reduceAdd, reduceCtorEq, seqP, blkP, retP, ne_eq, not_true_eq_false, not_false_eq_true, Int.reduceEq, Int.reduceNe, Int.reduceLT, Int.reduceLE, Int.reduceAdd, Int.reduceSub, Int.reduceMul, r_load h11, e1, e2]
  refine Outcome_nil fun H2 g2 => ?_
  simp only [st_val, st_unit, br_true, br_false, br_bool, gd_move, gd_st, gd_fn, gd_left, gv_some, gv_none, r_nilCheck, r_off, r_extract, r_lenSl, r_lenStr, r_not, r_pick, r_eqp_nn, r_eqp_sn, r_eqp_ns, r_eqb, r_neb, r_eql, r_neq, r_lss, r_leq, r_gtr, r_geq, r_add, r_sub, r_mul, r_toInt, jn, decide_eq_true_eq, decide_eq_false_iff_not, decide_true, decide_false, Bool.not_true, Bool.not_false, Bool.false_eq_true, Bool.true_eq_false, ↓reduceIte, ite_self, List.getElem?_toArray, List.getElem?_cons_zero, List.getElem?_cons_succ, Option.map_some, true_and, and_true, true_imp_iff, false_imp_iff, Nat.zero_add, Nat.add_zero, Nat.reduceAdd, reduceCtorEq, seqP, blkP, retP, ne_eq, not_true_eq_false, not_false_eq_true, Int.reduceEq, Int.reduceNe, Int.reduceLT, Int.reduceLE, Int.reduceAdd, Int.reduceSub, Int.reduceMul, r_new]
  have g12 := g1.trans g2
  rw [r_store (get_new _ _) (by rfl) (by decide) (by kernel_rfl)]
  have g3 : Gr H _ := g12.trans ((Gr.push H2 (.cells #[.int .i64 0, .string (strB [])] 36 false)).set (Nat.le_refl _) (k := .cells (wrL #[.int .i64 0, .string (strB [])] 0 noOut.cells.toList) 36 false))
  have ho : ((H2.push (.cells #[.int .i64 0, .string (strB [])] 36 false)).set H2.next (.cells (wrL #[.int .i64 0, .string (strB [])] 0 noOut.cells.toList) 36 false)).get H2.next = some (.cells #[.int .i64 0, .string (strB [])] 36 false) := get_set_same _ _ _
  generalize hH3 : ((H2.push (.cells #[.int .i64 0, .string (strB [])] 36 false)).set H2.next (.cells (wrL #[.int .i64 0, .string (strB [])] 0 noOut.cells.toList) 36 false)) = H3 at g3 ho
  have hlt : H2.next < H3.next := by rw [← hH3]; simp
  have h03 := (g3.get 0 (by omega)).trans h0
  simp only [st_val, st_unit, br_true, br_false, br_bool, gd_move, gd_st, gd_fn, gd_left, gv_some, gv_none, r_nilCheck, r_off, r_extract, r_lenSl, r_lenStr, r_not, r_pick, r_eqp_nn, r_eqp_sn, r_eqp_ns, r_eqb, r_neb, r_eql, r_neq, r_lss, r_leq, r_gtr, r_geq, r_add, r_sub, r_mul, r_toInt, jn, decide_eq_true_eq, decide_eq_false_iff_not, decide_true, decide_false, Bool.not_true, Bool.not_false, Bool.false_eq_true, Bool.true_eq_false, ↓reduceIte, ite_self, List.getElem?_toArray, List.getElem?_cons_zero, List.getElem?_cons_succ, Option.map_some, true_and, and_true, true_imp_iff, false_imp_iff, Nat.zero_add, Nat.add_zero, Nat.reduceAdd, reduceCtorEq, seqP, blkP, retP, ne_eq, not_true_eq_false, not_false_eq_true, Int.reduceEq, Int.reduceNe, Int.reduceLT, Int.reduceLE, Int.reduceAdd, Int.reduceSub, Int.reduceMul, r_loadAll h03 (show (cfg b f s k p c).size = 6 by rfl)]
  refine Open_nil (by kernel_rfl) fun H4 g4 => ?_
  simp only [st_val, st_unit, br_true, br_false, br_bool, gd_move, gd_st, gd_fn, gd_left, gv_some, gv_none, r_nilCheck, r_off, r_extract, r_lenSl, r_lenStr, r_not, r_pick, r_eqp_nn, r_eqp_sn, r_eqp_ns, r_eqb, r_neb, r_eql, r_neq, r_lss, r_leq, r_gtr, r_geq, r_add, r_sub, r_mul, r_toInt, jn, decide_eq_true_eq, decide_eq_false_iff_not, decide_true, decide_false, Bool.not_true, Bool.not_false, Bool.false_eq_true, Bool.true_eq_false, ↓reduceIte, ite_self, List.getElem?_toArray, List.getElem?_cons_zero, List.getElem?_cons_succ, Option.map_some, true_and, and_true, true_imp_iff, false_imp_iff, Nat.zero_add, Nat.add_zero, Nat.reduceAdd, reduceCtorEq, seqP, blkP, retP, ne_eq, not_true_eq_false, not_false_eq_true, Int.reduceEq, Int.reduceNe, Int.reduceLT, Int.reduceLE, Int.reduceAdd, Int.reduceSub, Int.reduceMul]
  refine devNew_ok fun d m1 m2 m3 H5 hd h2 h3 g5 hB => ?_
  refine Crash_ok (B := H4.next) hB hd h2 h3 g5.next fun v6 H6 n6 k6 hB6 => ?_
  have hk : ∀ q, q < H4.next → H6.get q = H4.get q := fun q hq => (k6 q hq).trans (g5.get q hq)
  have gn4 := g4.next
  have gn3 := g3.next
  have h06 := (hk 0 (by omega)).trans ((g4.get 0 (by omega)).trans h03)
  simp only [st_val, st_unit, br_true, br_false, br_bool, gd_move, gd_st, gd_fn, gd_left, gv_some, gv_none, r_nilCheck, r_off, r_extract, r_lenSl, r_lenStr, r_not, r_pick, r_eqp_nn, r_eqp_sn, r_eqp_ns, r_eqb, r_neb, r_eql, r_neq, r_lss, r_leq, r_gtr, r_geq, r_add, r_sub, r_mul, r_toInt, jn, decide_eq_true_eq, decide_eq_false_iff_not, decide_true, decide_false, Bool.not_true, Bool.not_false, Bool.false_eq_true, Bool.true_eq_false, ↓reduceIte, ite_self, List.getElem?_toArray, List.getElem?_cons_zero, List.getElem?_cons_succ, Option.map_some, true_and, and_true, true_imp_iff, false_imp_iff, Nat.zero_add, Nat.add_zero, Nat.reduceAdd, reduceCtorEq, seqP, blkP, retP, ne_eq, not_true_eq_false, not_false_eq_true, Int.reduceEq, Int.reduceNe, Int.reduceLT, Int.reduceLE, Int.reduceAdd, Int.reduceSub, Int.reduceMul, r_loadAll h06 (show (cfg b f s k p c).size = 6 by rfl)]
  refine Open_off hB6 fun H7 g7 => ?_
  have gn7 := g7.next
  have gn5 := g5.next
  have h07 := (g7.get 0 (by omega)).trans h06
  have ho7 : H7.get H2.next = some (.cells #[.int .i64 0, .string (strB [])] 36 false) := (g7.get _ (by omega)).trans ((hk _ (by omega)).trans ((g4.get _ (by omega)).trans ho))
  have h17 : H7.get 1 = some (.cells xx 29 false) := (g7.get 1 (by omega)).trans ((hk 1 (by omega)).trans ((g4.get 1 (by omega)).trans ((g3.get 1 (by omega)).trans h1)))
  simp only [st_val, st_unit, br_true, br_false, br_bool, gd_move, gd_st, gd_fn, gd_left, gv_some, gv_none, r_nilCheck, r_off, r_extract, r_lenSl, r_lenStr, r_not, r_pick, r_eqp_nn, r_eqp_sn, r_eqp_ns, r_eqb, r_neb, r_eql, r_neq, r_lss, r_leq, r_gtr, r_geq, r_add, r_sub, r_mul, r_toInt, jn, decide_eq_true_eq, decide_eq_false_iff_not, decide_true, decide_false, Bool.not_true, Bool.not_false, Bool.false_eq_true, Bool.true_eq_false, ↓reduceIte, ite_self, List.getElem?_toArray, List.getElem?_cons_zero, List.getElem?_cons_succ, Option.map_some, true_and, and_true, true_imp_iff, false_imp_iff, Nat.zero_add, Nat.add_zero, Nat.reduceAdd, reduceCtorEq, seqP, blkP, retP, ne_eq, not_true_eq_false, not_false_eq_true, Int.reduceEq, Int.reduceNe, Int.reduceLT, Int.reduceLE, Int.reduceAdd, Int.reduceSub, Int.reduceMul, r_loadAll h07 (show (cfg b f s k p c).size = 6 by rfl)]
  refine refRight_ok ?_
  have g8 : Gr H7 _ := Gr.push H7 (.cells (cfg b f s k p c) 23 false)
  generalize (H7.push (.cells (cfg b f s k p c) 23 false)) = H8 at g8
  have ho8 := (g8.get _ (by omega)).trans ho7
  have h18 := (g8.get 1 (by omega)).trans h17
  have hbo : ∀ H1, v_build #[(.int .i64 0), (.string (strB []))] #[(0, 1), (1, 1)] [] H1 = some (.val noOut H1) := fun _ => rfl
  have heo : ∀ H1, v_eq false (.flat [(0, 1), (1, 2)]) (.agg #[.int .i64 0, .string (strB [])]) noOut H1 = some (.val (.bool true) H1) := fun _ => by kernel_rfl
  have hbn : ∀ H1, v_build #[(.int .i64 0), (.int .i64 0), (.int .i64 0), (.int .i64 0), (.int .i64 0), (.int .i64 0)] #[(0, 1), (1, 1), (2, 1), (3, 1), (4, 1), (5, 1)] [] H1 = some (.val noConfig H1) := fun _ => rfl
  have hen : ∀ H1, v_eq false (.flat [(0, 1), (1, 1), (2, 1), (3, 1), (4, 1), (5, 1)]) noConfig noConfig H1 = some (.val (.bool true) H1) := fun _ => by kernel_rfl
  have fin : ∀ (w : Int), w = (if rightB b f s k p c then 6 else 1) → ∀ H9, H9 = H8 → True := fun _ _ _ _ => trivial
  cases hrb : rightB b f s k p c <;>
  · simp only [st_val, st_unit, br_true, br_false, br_bool, gd_move, gd_st, gd_fn, gd_left, gv_some, gv_none, r_nilCheck, r_off, r_extract, r_lenSl, r_lenStr, r_not, r_pick, r_eqp_nn, r_eqp_sn, r_eqp_ns, r_eqb, r_neb, r_eql, r_neq, r_lss, r_leq, r_gtr, r_geq, r_add, r_sub, r_mul, r_toInt, jn, decide_eq_true_eq, decide_eq_false_iff_not, decide_true, decide_false, Bool.not_true, Bool.not_false, Bool.false_eq_true, Bool.true_eq_false, ↓reduceIte, ite_self, List.getElem?_toArray, List.getElem?_cons_zero, List.getElem?_cons_succ, Option.map_some, true_and, and_true, true_imp_iff, false_imp_iff, Nat.zero_add, Nat.add_zero, Nat.reduceAdd, reduceCtorEq, seqP, blkP, retP, ne_eq, not_true_eq_false, not_false_eq_true, Int.reduceEq, Int.reduceNe, Int.reduceLT, Int.reduceLE, Int.reduceAdd, Int.reduceSub, Int.reduceMul, r_loadAll ho8 (show (#[.int .i64 0, .string (strB [])] : Array Value).size = 2 by rfl), hbo, heo]
    refine Up_nil ?_
    simp only [st_val, st_unit, br_true, br_false, br_bool, gd_move, gd_st, gd_fn, gd_left, gv_some, gv_none, r_nilCheck, r_off, r_extract, r_lenSl, r_lenStr, r_not, r_pick, r_eqp_nn, r_eqp_sn, r_eqp_ns, r_eqb, r_neb, r_eql, r_neq, r_lss, r_leq, r_gtr, r_geq, r_add, r_sub, r_mul, r_toInt, jn, decide_eq_true_eq, decide_eq_false_iff_not, decide_true, decide_false, Bool.not_true, Bool.not_false, Bool.false_eq_true, Bool.true_eq_false, ↓reduceIte, ite_self, List.getElem?_toArray, List.getElem?_cons_zero, List.getElem?_cons_succ, Option.map_some, true_and, and_true, true_imp_iff, false_imp_iff, Nat.zero_add, Nat.add_zero, Nat.reduceAdd, reduceCtorEq, seqP, blkP, retP, ne_eq, not_true_eq_false, not_false_eq_true, Int.reduceEq, Int.reduceNe, Int.reduceLT, Int.reduceLE, Int.reduceAdd, Int.reduceSub, Int.reduceMul]
    refine Gen_nil ?_
    simp only [st_val, st_unit, br_true, br_false, br_bool, gd_move, gd_st, gd_fn, gd_left, gv_some, gv_none, r_nilCheck, r_off, r_extract, r_lenSl, r_lenStr, r_not, r_pick, r_eqp_nn, r_eqp_sn, r_eqp_ns, r_eqb, r_neb, r_eql, r_neq, r_lss, r_leq, r_gtr, r_geq, r_add, r_sub, r_mul, r_toInt, jn, decide_eq_true_eq, decide_eq_false_iff_not, decide_true, decide_false, Bool.not_true, Bool.not_false, Bool.false_eq_true, Bool.true_eq_false, ↓reduceIte, ite_self, List.getElem?_toArray, List.getElem?_cons_zero, List.getElem?_cons_succ, Option.map_some, true_and, and_true, true_imp_iff, false_imp_iff, Nat.zero_add, Nat.add_zero, Nat.reduceAdd, reduceCtorEq, seqP, blkP, retP, ne_eq, not_true_eq_false, not_false_eq_true, Int.reduceEq, Int.reduceNe, Int.reduceLT, Int.reduceLE, Int.reduceAdd, Int.reduceSub, Int.reduceMul]
    refine Saving_nil ?_
    simp only [st_val, st_unit, br_true, br_false, br_bool, gd_move, gd_st, gd_fn, gd_left, gv_some, gv_none, r_nilCheck, r_off, r_extract, r_lenSl, r_lenStr, r_not, r_pick, r_eqp_nn, r_eqp_sn, r_eqp_ns, r_eqb, r_neb, r_eql, r_neq, r_lss, r_leq, r_gtr, r_geq, r_add, r_sub, r_mul, r_toInt, jn, decide_eq_true_eq, decide_eq_false_iff_not, decide_true, decide_false, Bool.not_true, Bool.not_false, Bool.false_eq_true, Bool.true_eq_false, ↓reduceIte, ite_self, List.getElem?_toArray, List.getElem?_cons_zero, List.getElem?_cons_succ, Option.map_some, true_and, and_true, true_imp_iff, false_imp_iff, Nat.zero_add, Nat.add_zero, Nat.reduceAdd, reduceCtorEq, seqP, blkP, retP, ne_eq, not_true_eq_false, not_false_eq_true, Int.reduceEq, Int.reduceNe, Int.reduceLT, Int.reduceLE, Int.reduceAdd, Int.reduceSub, Int.reduceMul]
    refine Config_nil fun H9 g9 => ?_
    simp only [st_val, st_unit, br_true, br_false, br_bool, gd_move, gd_st, gd_fn, gd_left, gv_some, gv_none, r_nilCheck, r_off, r_extract, r_lenSl, r_lenStr, r_not, r_pick, r_eqp_nn, r_eqp_sn, r_eqp_ns, r_eqb, r_neb, r_eql, r_neq, r_lss, r_leq, r_gtr, r_geq, r_add, r_sub, r_mul, r_toInt, jn, decide_eq_true_eq, decide_eq_false_iff_not, decide_true, decide_false, Bool.not_true, Bool.not_false, Bool.false_eq_true, Bool.true_eq_false, ↓reduceIte, ite_self, List.getElem?_toArray, List.getElem?_cons_zero, List.getElem?_cons_succ, Option.map_some, true_and, and_true, true_imp_iff, false_imp_iff, Nat.zero_add, Nat.add_zero, Nat.reduceAdd, reduceCtorEq, seqP, blkP, retP, ne_eq, not_true_eq_false, not_false_eq_true, Int.reduceEq, Int.reduceNe, Int.reduceLT, Int.reduceLE, Int.reduceAdd, Int.reduceSub, Int.reduceMul, hbn, hen]
    refine Log_nil ?_
    simp only [st_val, st_unit, br_true, br_false, br_bool, gd_move, gd_st, gd_fn, gd_left, gv_some, gv_none, r_nilCheck, r_off, r_extract, r_lenSl, r_lenStr, r_not, r_pick, r_eqp_nn, r_eqp_sn, r_eqp_ns, r_eqb, r_neb, r_eql, r_neq, r_lss, r_leq, r_gtr, r_geq, r_add, r_sub, r_mul, r_toInt, jn, decide_eq_true_eq, decide_eq_false_iff_not, decide_true, decide_false, Bool.not_true, Bool.not_false, Bool.false_eq_true, Bool.true_eq_false, ↓reduceIte, ite_self, List.getElem?_toArray, List.getElem?_cons_zero, List.getElem?_cons_succ, Option.map_some, true_and, and_true, true_imp_iff, false_imp_iff, Nat.zero_add, Nat.add_zero, Nat.reduceAdd, reduceCtorEq, seqP, blkP, retP, ne_eq, not_true_eq_false, not_false_eq_true, Int.reduceEq, Int.reduceNe, Int.reduceLT, Int.reduceLE, Int.reduceAdd, Int.reduceSub, Int.reduceMul]
    refine Index_nil ?_
    simp only [st_val, st_unit, br_true, br_false, br_bool, gd_move, gd_st, gd_fn, gd_left, gv_some, gv_none, r_nilCheck, r_off, r_extract, r_lenSl, r_lenStr, r_not, r_pick, r_eqp_nn, r_eqp_sn, r_eqp_ns, r_eqb, r_neb, r_eql, r_neq, r_lss, r_leq, r_gtr, r_geq, r_add, r_sub, r_mul, r_toInt, jn, decide_eq_true_eq, decide_eq_false_iff_not, decide_true, decide_false, Bool.not_true, Bool.not_false, Bool.false_eq_true, Bool.true_eq_false, ↓reduceIte, ite_self, List.getElem?_toArray, List.getElem?_cons_zero, List.getElem?_cons_succ, Option.map_some, true_and, and_true, true_imp_iff, false_imp_iff, Nat.zero_add, Nat.add_zero, Nat.reduceAdd, reduceCtorEq, seqP, blkP, retP, ne_eq, not_true_eq_false, not_false_eq_true, Int.reduceEq, Int.reduceNe, Int.reduceLT, Int.reduceLE, Int.reduceAdd, Int.reduceSub, Int.reduceMul]
    refine Device_nil ?_
    simp only [st_val, st_unit, br_true, br_false, br_bool, gd_move, gd_st, gd_fn, gd_left, gv_some, gv_none, r_nilCheck, r_off, r_extract, r_lenSl, r_lenStr, r_not, r_pick, r_eqp_nn, r_eqp_sn, r_eqp_ns, r_eqb, r_neb, r_eql, r_neq, r_lss, r_leq, r_gtr, r_geq, r_add, r_sub, r_mul, r_toInt, jn, decide_eq_true_eq, decide_eq_false_iff_not, decide_true, decide_false, Bool.not_true, Bool.not_false, Bool.false_eq_true, Bool.true_eq_false, ↓reduceIte, ite_self, List.getElem?_toArray, List.getElem?_cons_zero, List.getElem?_cons_succ, Option.map_some, true_and, and_true, true_imp_iff, false_imp_iff, Nat.zero_add, Nat.add_zero, Nat.reduceAdd, reduceCtorEq, seqP, blkP, retP, ne_eq, not_true_eq_false, not_false_eq_true, Int.reduceEq, Int.reduceNe, Int.reduceLT, Int.reduceLE, Int.reduceAdd, Int.reduceSub, Int.reduceMul, r_load ((g9.get 1 (by have := g8.next; omega)).trans h18), e1]
    refine Session_nil ?_
    simp only [st_val, st_unit, br_true, br_false, br_bool, gd_move, gd_st, gd_fn, gd_left, gv_some, gv_none, r_nilCheck, r_off, r_extract, r_lenSl, r_lenStr, r_not, r_pick, r_eqp_nn, r_eqp_sn, r_eqp_ns, r_eqb, r_neb, r_eql, r_neq, r_lss, r_leq, r_gtr, r_geq, r_add, r_sub, r_mul, r_toInt, jn, decide_eq_true_eq, decide_eq_false_iff_not, decide_true, decide_false, Bool.not_true, Bool.not_false, Bool.false_eq_true, Bool.true_eq_false, ↓reduceIte, ite_self, List.getElem?_toArray, List.getElem?_cons_zero, List.getElem?_cons_succ, Option.map_some, true_and, and_true, true_imp_iff, false_imp_iff, Nat.zero_add, Nat.add_zero, Nat.reduceAdd, reduceCtorEq, seqP, blkP, retP, ne_eq, not_true_eq_false, not_false_eq_true, Int.reduceEq, Int.reduceNe, Int.reduceLT, Int.reduceLE, Int.reduceAdd, Int.reduceSub, Int.reduceMul]
end Go.Aev
