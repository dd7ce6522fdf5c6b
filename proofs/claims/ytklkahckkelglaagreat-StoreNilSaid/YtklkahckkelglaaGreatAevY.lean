/- Rules by which the printed texts are gone through. -/
import Derived.Test.YtklkahckkelglaaGreatAevW
import Derived.Test.YtklkahckkelglaaGreatAevX
namespace Go.Aev
open Go

theorem ex_pair {α β : Type} {a : α} {b : β} {K : α → β → Prop} : (∃ o p, (a = o ∧ b = p) ∧ K o p) = K a b :=
  propext ⟨fun ⟨_, _, ⟨h1, h2⟩, h⟩ => h1 ▸ h2 ▸ h, fun h => ⟨_, _, ⟨rfl, rfl⟩, h⟩⟩

theorem br_true {A B : Prop} : br (.bool true) A B = A := by simp [br]
theorem br_false {A B : Prop} : br (.bool false) A B = B := by simp [br]
theorem br_dec {p : Prop} [Decidable p] {A B : Prop} : br (.bool (decide p)) A B = ((p → A) ∧ (¬ p → B)) := by simp [br]
theorem br_bool {c : Bool} {A B : Prop} : br (.bool c) A B = ((c = true → A) ∧ (c = false → B)) := rfl
theorem gd_on {b : Bool} {H : AHeap} {A : (Option Value → AHeap → Prop) → Prop} {K : Option Value → AHeap → Prop}
    (hA : ∀ K, A K = ∃ o H', A (fun o1 H1 => o1 = o ∧ H1 = H') ∧ K o H') : gd (.bool b) b H A K = A K := by
  rw [hA K]
  simp [gd, gdR]
theorem gd_off {c b : Bool} (h : c ≠ b) {H : AHeap} {A : (Option Value → AHeap → Prop) → Prop} {K : Option Value → AHeap → Prop} : gd (.bool c) b H A K = K none H := by
  simp only [gd, gdR, h, ne_eq, not_false_eq_true, false_imp_iff, true_imp_iff, true_and, ex_pair]
theorem gd_left {b : Bool} {H : AHeap} {A : (Option Value → AHeap → Prop) → Prop} {K : Option Value → AHeap → Prop} : gd left b H A K = K none H := by
  simp only [gd, gdR, left, ex_pair]
/-- A guarded move; a guarded operation; a guarded call. -/
theorem gd_move {c b : Bool} {x : Value} {H : AHeap} {K : Option Value → AHeap → Prop} : gd (.bool c) b H (fun k => k (some x) H) K = if c = b then K (some x) H else K none H := by
  by_cases h : c = b
  · subst h; simp only [gd, gdR, ne_eq, not_true_eq_false, false_imp_iff, and_true, true_imp_iff, ↓reduceIte, ex_pair]
  · simp only [gd, gdR, h, ne_eq, not_false_eq_true, false_imp_iff, true_imp_iff, true_and, ex_pair, ↓reduceIte]
theorem gd_st {c b : Bool} {T : Table} {H H0 : AHeap} {r : Option Res} {K : Option Value → AHeap → Prop} :
    gd (.bool c) b H (fun k => st T H0 r fun w H' => k (some w) H') K = if c = b then (st T H0 r fun w H' => K (some w) H') else K none H := by
  by_cases h : c = b
  · subst h
    simp only [gd, gdR, ne_eq, not_true_eq_false, false_imp_iff, and_true, true_imp_iff, ↓reduceIte, st]
    apply propext
    constructor
    · rintro ⟨o, H', ⟨v, H1, h1, rfl, rfl⟩, hk⟩; exact ⟨v, _, h1, hk⟩
    · rintro ⟨v, H', h1, hk⟩; exact ⟨some v, H', ⟨v, H', h1, rfl, rfl⟩, hk⟩
  · simp only [gd, gdR, h, ne_eq, not_false_eq_true, false_imp_iff, true_imp_iff, true_and, ex_pair, ↓reduceIte]
theorem gd_fn {c b : Bool} {T : Table} {H H0 : AHeap} {f : FuncId} {args : Array Value} {K : Option Value → AHeap → Prop} :
    gd (.bool c) b H (fun k => Fn T f args H0 fun w H' => k (some w) H') K = if c = b then (Fn T f args H0 fun w H' => K (some w) H') else K none H := by
  by_cases h : c = b
  · subst h
    simp only [gd, gdR, ne_eq, not_true_eq_false, false_imp_iff, and_true, true_imp_iff, ↓reduceIte, Fn]
    apply propext
    constructor
    · rintro ⟨o, H', ⟨k, v, H1, h1, rfl, rfl⟩, hk⟩; exact ⟨k, v, _, h1, hk⟩
    · rintro ⟨k, v, H', h1, hk⟩; exact ⟨some v, H', ⟨k, v, H', h1, rfl, rfl⟩, hk⟩
  · simp only [gd, gdR, h, ne_eq, not_false_eq_true, false_imp_iff, true_imp_iff, true_and, ex_pair, ↓reduceIte]
theorem gv_some {v : Value} : gv (some v) = v := rfl
theorem gv_none : gv none = left := rfl

/-! operations over values -/
theorem r_nilCheck {a : Addr} {H : AHeap} : v_nilCheck (.pointer (some a)) H = some (.val (.pointer (some a)) H) := rfl
theorem r_off {n b o : Nat} {H : AHeap} : v_off n (.pointer (some ⟨b, o, none⟩)) H = some (.val (.pointer (some ⟨b, o + n, none⟩)) H) := rfl
theorem r_extract {vs : Array Value} {i : Nat} {H : AHeap} : v_extract (.tuple vs) i H = (vs[i]?).map fun v => .val v H := rfl
theorem r_lenSl {a : Option Addr} {n c : Nat} {H : AHeap} : v_lenSl (.slice a n c) H = some (.val (.int .i64 n) H) := rfl
theorem r_lenStr {s : ByteArray} {H : AHeap} : v_lenStr (.string s) H = some (.val (.int .i64 s.size) H) := rfl
theorem r_not {b : Bool} {H : AHeap} : v_un .not (.bool b) H = some (.val (.bool !b) H) := rfl
theorem r_pick {c : Bool} {a b : Value} {H : AHeap} : v_pick (.bool c) a b H = some (.val (if c then a else b) H) := rfl
theorem r_eqp_nn {H : AHeap} {neg : Bool} : v_eq neg .pointer (.pointer none) (.pointer none) H = some (.val (.bool (!neg)) H) := by cases neg <;> rfl
theorem r_eqp_sn {a : Addr} {H : AHeap} {neg : Bool} : v_eq neg .pointer (.pointer (some a)) (.pointer none) H = some (.val (.bool neg) H) := by cases neg <;> rfl
theorem r_eqp_ns {a : Addr} {H : AHeap} {neg : Bool} : v_eq neg .pointer (.pointer none) (.pointer (some a)) H = some (.val (.bool neg) H) := by cases neg <;> rfl
theorem r_eqb {a b : Bool} {H : AHeap} : v_eq false .bool (.bool a) (.bool b) H = some (.val (.bool (a == b)) H) := rfl
theorem r_neb {a b : Bool} {H : AHeap} : v_eq true .bool (.bool a) (.bool b) H = some (.val (.bool (!(a == b))) H) := rfl
theorem r_eql {k : IntKind} {a b : Int} {H : AHeap} : v_bin .eql (.int k a) (.int k b) H = some (.val (.bool (decide (a = b))) H) := by simp only [v_bin, aBin, isShift, aInt]; simp; rfl
theorem r_neq {k : IntKind} {a b : Int} {H : AHeap} : v_bin .neq (.int k a) (.int k b) H = some (.val (.bool (decide (a ≠ b))) H) := by
  simp only [v_bin, aBin, isShift, aInt]
  simp only [Bool.false_eq_true, ↓reduceIte, Option.map_some, Option.some.injEq, Res.val.injEq, Value.bool.injEq, and_true]
  by_cases h : a = b <;> simp [h, bne]
theorem r_lss {k : IntKind} {a b : Int} {H : AHeap} : v_bin .lss (.int k a) (.int k b) H = some (.val (.bool (decide (a < b))) H) := by simp [v_bin, aBin, isShift, aInt]
theorem r_leq {k : IntKind} {a b : Int} {H : AHeap} : v_bin .leq (.int k a) (.int k b) H = some (.val (.bool (decide (a ≤ b))) H) := by simp [v_bin, aBin, isShift, aInt]
theorem r_gtr {k : IntKind} {a b : Int} {H : AHeap} : v_bin .gtr (.int k a) (.int k b) H = some (.val (.bool (decide (b < a))) H) := by simp [v_bin, aBin, isShift, aInt]
theorem r_geq {k : IntKind} {a b : Int} {H : AHeap} : v_bin .geq (.int k a) (.int k b) H = some (.val (.bool (decide (b ≤ a))) H) := by simp [v_bin, aBin, isShift, aInt]
theorem r_add {k : IntKind} {a b : Int} {H : AHeap} : v_bin .add (.int k a) (.int k b) H = some (.val (.int k (k.wrap (a + b))) H) := by simp [v_bin, aBin, isShift, aInt]
theorem r_sub {k : IntKind} {a b : Int} {H : AHeap} : v_bin .sub (.int k a) (.int k b) H = some (.val (.int k (k.wrap (a - b))) H) := by simp [v_bin, aBin, isShift, aInt]
theorem r_mul {k : IntKind} {a b : Int} {H : AHeap} : v_bin .mul (.int k a) (.int k b) H = some (.val (.int k (k.wrap (a * b))) H) := by simp [v_bin, aBin, isShift, aInt]
theorem r_toInt {k k' : IntKind} {a : Int} {H : AHeap} : v_toInt k (.int k' a) H = some (.val (.int k (k.wrap a)) H) := rfl
theorem r_load {b o : Nat} {H : AHeap} {c : Array Value} {e : TypeId} {ro : Bool} (h : H.get b = some (.cells c e ro)) :
    v_load (.pointer (some ⟨b, o, none⟩)) H = (c[o]?).map fun v => .val v H := by simp [v_load, rd, h]
theorem r_loadN {n b o : Nat} {H : AHeap} {c : Array Value} {e : TypeId} {ro : Bool} (h : H.get b = some (.cells c e ro)) (hc : o + n ≤ c.size) :
    v_loadN n (.pointer (some ⟨b, o, none⟩)) H = some (.val (.agg (c.extract o (o + n))) H) := by simp [v_loadN, rdN, h, hc]
end Go.Aev
