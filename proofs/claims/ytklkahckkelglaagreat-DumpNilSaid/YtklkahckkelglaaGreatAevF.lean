/- Each operation of the abstract evaluator does what the model's operation does: those that touch little. -/
import Derived.Test.YtklkahckkelglaaGreatAevE
namespace Go.Aev
open Go

section
variable {P : Program} {ρ : Ren} {H : AHeap} {w : World} {o : Oper} {a : Act} {env : Env} {res : Res}

theorem info_of_sizes {t : TypeId} {s b : Nat} {z : Array Value} (h : sizes P t = some (s, b, z)) :
    ∃ i zv, P.info? t = some i ∧ i.zero = some zv ∧ plain zv = true ∧ zv.cells = z ∧ z.size = s ∧ i.size = s ∧ i.bytes = b := by
  unfold sizes at h
  split at h
  · rename_i i hi
    split at h
    · rename_i zv hz
      split at h
      · rename_i hc
        simp only [Bool.and_eq_true, beq_iff_eq] at hc
        simp only [Option.some.injEq, Prod.mk.injEq] at h
        obtain ⟨rfl, rfl, rfl⟩ := h
        exact ⟨i, zv, hi, hz, hc.1, rfl, hc.2, rfl, rfl⟩
      · cases h
    · cases h
  · cases h

theorem s_move {x : Operand} (ho : o.op = .move x ∨ o.op = .assign x) (hx : okOpd x = true) (hE : EnvR ρ env a.tmps) (hR : Rel P ρ H.get w) (hD : Dom ρ H.next)
    (hs : aStep env H (.move x) = some res) : StepR P ρ H w o a res := by
  simp only [aStep, Option.some.injEq] at hs
  subst hs
  refine .pure hR hD ?_ (hE.eval hx)
  rcases ho with ho | ho <;> simp [execOp, ho]

theorem s_pick {c x y : Operand} (ho : o.op = .pick c x y) (hc : okOpd c = true) (hx : okOpd x = true) (hy : okOpd y = true) (hE : EnvR ρ env a.tmps) (hR : Rel P ρ H.get w) (hD : Dom ρ H.next)
    (hs : aStep env H (.pick c x y) = some res) : StepR P ρ H w o a res := by
  simp only [aStep] at hs
  split at hs
  · rename_i t ht
    have hcv := hE.eval hc
    rw [ht] at hcv
    generalize hcc : a.eval c = cv at hcv
    cases hcv with
    | bool =>
      simp only [Option.some.injEq] at hs
      subst hs
      refine .pure hR hD (v' := if t then a.eval x else a.eval y) ?_ (by cases t; exact hE.eval hy; exact hE.eval hx)
      simp only [execOp, ho, hcc, asBool]
      cases t <;> simp
  · cases hs

theorem s_new {e : TypeId} {z : Array Value} {s b : Nat} (ho : o.op = .alloc e) (hz : sizes P e = some (s, b, z)) (hR : Rel P ρ H.get w) (hD : Dom ρ H.next)
    (hs : aStep env H (.new e z) = some res) : StepR P ρ H w o a res := by
  obtain ⟨i, zv, hi, hzv, hp, rfl, _, _, _⟩ := info_of_sizes hz
  simp only [aStep, Option.some.injEq] at hs
  subst hs
  have hv := plain_VRs (ρ := ρ) hp
  refine .val (v' := .pointer (some ⟨w.heap.size, 0, none⟩)) (w' := w.alloc (.cells zv.cells e)) ?_ ?_ (new_sound hR hD e (Grew.alloc w _) (Nat.le_refl _) fun i x hx => hv.get hx)
  · simp [execOp, ho, Instr.alloc, zeroValue, typeInfo, hi, hzv, newVar, newRow]
  · exact .ptr (o := 0) (Ren.add_new ρ H.next _)

theorem s_box {e : TypeId} {x : Operand} (ho : o.op = .box e x) (hx : okOpd x = true) (hE : EnvR ρ env a.tmps) (hR : Rel P ρ H.get w) (hD : Dom ρ H.next)
    (hs : aStep env H (.box e x) = some res) : StepR P ρ H w o a res := by
  simp only [aStep] at hs
  split at hs
  · rename_i hc
    simp only [Option.some.injEq] at hs
    subst hs
    obtain ⟨hv, _, _⟩ := cells_VR (hE.eval hx) hc
    refine .val (v' := .pointer (some ⟨w.heap.size, 0, none⟩)) (w' := w.alloc (.cells (a.eval x).cells e)) ?_ ?_ (new_sound hR hD e (Grew.alloc w _) (Nat.le_of_eq hv.1) fun i x hx => hv.get hx)
    · simp [execOp, ho, Instr.box, newVar, newRow]
    · exact .ptr (o := 0) (Ren.add_new ρ H.next _)
  · cases hs

theorem s_load {t : TypeId} {x : Operand} (ho : o.op = .load t x) (hx : okOpd x = true) (ht : isAggT P t = some false) (hE : EnvR ρ env a.tmps) (hR : Rel P ρ H.get w) (hD : Dom ρ H.next)
    (hs : aStep env H (.load x) = some res) : StepR P ρ H w o a res := by
  simp only [aStep, Option.map_eq_some_iff] at hs
  obtain ⟨v, hv, rfl⟩ := hs
  obtain ⟨r, off, y, hp, hcell, hvr⟩ := rd_sound hR (hE.eval hx) hv
  refine .pure hR hD (v' := y) ?_ hvr
  have hagg : (isAgg t).run P w = .ok false w := by
    unfold isAggT at ht
    simp only [isAgg, underlying, Sem.run_bind, run_program, Result.andThen_ok]
    split at ht <;> rename_i hu <;> simp at ht <;> simp [hu]
  simp only [execOp, ho, hp, Instr.loadAt, Instr.sureAddr, loadVar, Sem.run_bind, Sem.run_pure, Result.andThen_ok, hagg, Bool.false_eq_true, if_false, Sem.run_ite, run_load, hcell]

theorem run_isAgg_true {t : TypeId} (ht : isAggT P t = some true) (w : World) : (isAgg t).run P w = .ok true w := by
  unfold isAggT at ht
  simp only [isAgg, underlying, Sem.run_bind, run_program, Result.andThen_ok]
  split at ht <;> rename_i hu <;> simp at ht <;> simp [hu]
theorem run_isAgg_false {t : TypeId} (ht : isAggT P t = some false) (w : World) : (isAgg t).run P w = .ok false w := by
  unfold isAggT at ht
  simp only [isAgg, underlying, Sem.run_bind, run_program, Result.andThen_ok]
  split at ht <;> rename_i hu <;> simp at ht <;> simp [hu]
theorem run_sizeOf {t : TypeId} {i : TypeInfo} (h : P.info? t = some i) (w : World) : (sizeOf t).run P w = .ok i.size w := by
  simp [sizeOf, typeInfo, h]

theorem s_loadN {t : TypeId} {x : Operand} {i : TypeInfo} (ho : o.op = .load t x) (hx : okOpd x = true) (ht : isAggT P t = some true) (hi : P.info? t = some i) (hE : EnvR ρ env a.tmps) (hR : Rel P ρ H.get w) (hD : Dom ρ H.next)
    (hs : aStep env H (.loadN i.size x) = some res) : StepR P ρ H w o a res := by
  simp only [aStep, Option.map_eq_some_iff] at hs
  obtain ⟨vs, hv, rfl⟩ := hs
  obtain ⟨r, off, ys, hp, hys, _, hvr, hcells⟩ := rdN_sound hR (hE.eval hx) hv
  refine .pure hR hD (v' := .agg ys) ?_ (.agg hvr.1 hvr.2)
  have hl := run_loadCells_list (P := P) w ⟨r, off, none⟩ ys.toList hcells
  simp only [Array.length_toList, hys, Array.toArray_toList] at hl
  simp only [execOp, ho, hp, Instr.loadAt, Instr.sureAddr, loadVar, Sem.run_bind, Sem.run_pure, Result.andThen_ok, run_isAgg_true ht, if_true, run_sizeOf hi, hl]

theorem s_store {t : TypeId} {x v : Operand} {i : TypeInfo} (ho : o.op = .store t x v) (hx : okOpd x = true) (hv : okOpd v = true) (hi : P.info? t = some i) (hE : EnvR ρ env a.tmps) (hR : Rel P ρ H.get w) (hD : Dom ρ H.next)
    (hs : aStep env H (.store i.size x v) = some res) : StepR P ρ H w o a res := by
  simp only [aStep] at hs
  split at hs
  · rename_i hn
    simp only [Option.map_eq_some_iff] at hs
    obtain ⟨H', hw, rfl⟩ := hs
    have hall : (ev1 env v).cells.all isCell = true := by
      unfold wr at hw
      split at hw
      · split at hw
        · split at hw
          · rename_i hc; simp only [Bool.and_eq_true] at hc; exact hc.2
          · cases hw
        · cases hw
      · cases hw
    obtain ⟨hvr, _, _⟩ := cells_VR (hE.eval hv) hall
    obtain ⟨r, off, w', hp, hst, hpost⟩ := wr_sound hR hD (hE.eval hx) hvr hw
    refine .unit (w' := w') ?_ hpost
    have hsz : (a.eval v).cells.size = i.size := by rw [← hvr.1, hn]
    simp only [execOp, ho, hp, Instr.storeAt, Instr.sureAddr, storeVar, Sem.run_bind, Sem.run_pure, Result.andThen_ok, run_sizeOf hi, hsz, ne_eq, not_true_eq_false, if_false, Sem.run_ite, hst]
  · cases hs

theorem s_nilCheck {x : Operand} (ho : o.op = .nilCheck x) (hx : okOpd x = true) (hE : EnvR ρ env a.tmps) (hR : Rel P ρ H.get w) (hD : Dom ρ H.next)
    (hs : aStep env H (.nilCheck x) = some res) : StepR P ρ H w o a res := by
  simp only [aStep] at hs
  have hv := hE.eval hx
  split at hs
  · rename_i ad hx'
    simp only [Option.some.injEq] at hs
    subst hs
    rw [hx'] at hv
    generalize hcc : a.eval x = cv at hv
    cases hv with
    | ptr hb => exact .pure hR hD (by simp [execOp, ho, hcc]) (.ptr hb)
  · rename_i f xs ys hx'
    simp only [Option.some.injEq] at hs
    subst hs
    rw [hx'] at hv
    generalize hcc : a.eval x = cv at hv
    cases hv with
    | func h1 h2 h3 h4 => exact .pure hR hD (by simp [execOp, ho, hcc]) (.func h1 h2 h3 h4)
  · cases hs

theorem run_intBin {op : BinOp} {k : IntKind} {x y : Int} {v : Value} (t : TypeId) (w : World) (h : (if isShift op then aShift op k x y else aInt op k x y) = some v) (yk : IntKind) (hk : isShift op = true ∨ k = yk) :
    (binOp op t (.int k x) (.int yk y)).run P w = .ok v w := by
  cases op
  case shl =>
    simp only [isShift, if_true, aShift] at h
    split at h
    · cases h
    · rename_i hy
      simp only [Option.some.injEq] at h
      subst h
      simp [binOp, Op.shift, hy]
  case shr =>
    simp only [isShift, if_true, aShift] at h
    split at h
    · cases h
    · rename_i hy
      simp only [Option.some.injEq] at h
      subst h
      simp [binOp, Op.shift, hy]
  all_goals
    obtain rfl : k = yk := by
      rcases hk with hk | hk
      · simp [isShift] at hk
      · exact hk
    simp only [isShift, Bool.false_eq_true, if_false, aInt] at h
    try (split at h; · cases h)
    simp only [Option.some.injEq] at h
    subst h
    simp_all [binOp, Op.intArith, Op.intDiv, Op.intBits, Op.intCmp, aBits]

theorem s_bin {op : BinOp} {t ty : TypeId} {x y : Operand} (ho : o.op = .binOp op t x y ty) (hx : okOpd x = true) (hy : okOpd y = true) (hE : EnvR ρ env a.tmps) (hR : Rel P ρ H.get w) (hD : Dom ρ H.next)
    (hs : aStep env H (.bin op x y) = some res) : StepR P ρ H w o a res := by
  simp only [aStep, Option.map_eq_some_iff] at hs
  obtain ⟨v, hv, rfl⟩ := hs
  have h1 := hE.eval hx
  have h2 := hE.eval hy
  generalize hxx : a.eval x = xv at h1
  generalize hyy : a.eval y = yv at h2
  unfold aBin at hv
  split at hv
  · rename_i k n k' m hx' hy'
    rw [hx'] at h1; rw [hy'] at h2
    cases h1; cases h2
    have hp : VR ρ v v := by
      split at hv
      · unfold aShift at hv
        split at hv
        · cases hv
        · split at hv <;> first | cases hv; done | (simp only [Option.some.injEq] at hv; subst hv; exact .int _ _)
      · split at hv
        · unfold aInt at hv
          split at hv <;> (try split at hv) <;> first | cases hv; done | (simp only [Option.some.injEq] at hv; subst hv; first | exact .int _ _ | exact .bool _)
        · cases hv
    refine .pure hR hD (v' := v) ?_ hp
    have hrun : (binOp op t (.int k n) (.int k' m)).run P w = .ok v w := by
      by_cases hsh : isShift op = true
      · exact run_intBin t w (by rw [if_pos hsh] at hv ⊢; exact hv) k' (.inl hsh)
      · rw [if_neg hsh] at hv
        split at hv
        · rename_i hkk
          exact run_intBin t w (by rw [if_neg hsh]; exact hv) k' (.inr hkk)
        · cases hv
    have hg : eqGuard op t x y (.int k n) (.int k' m) = pure () := by cases op <;> rfl
    simp only [execOp, ho, hxx, hyy, hg, Sem.run_bind, Sem.run_pure, Result.andThen_ok, hrun]
  · rename_i s s' hx' hy'
    rw [hx'] at h1; rw [hy'] at h2
    cases h1; cases h2
    have hg : eqGuard op t x y (.string s) (.string s') = pure () := by cases op <;> rfl
    have hrun : (binOp op t (.string s) (.string s')).run P w = .ok v w ∧ VR ρ v v := by
      unfold aStr at hv
      split at hv <;> (try split at hv) <;> first
        | cases hv; done
        | (simp only [Option.some.injEq] at hv; subst hv; exact ⟨by simp_all [binOp, Op.stringOp], by first | exact .string _ | exact .bool _⟩)
    refine .pure hR hD (v' := v) ?_ hrun.2
    simp only [execOp, ho, hxx, hyy, hg, Sem.run_bind, Sem.run_pure, Result.andThen_ok, hrun.1]
  · cases hv

theorem s_un {op : UnOp} {t : TypeId} {x : Operand} (ho : o.op = .unOp op t x) (hx : okOpd x = true) (hE : EnvR ρ env a.tmps) (hR : Rel P ρ H.get w) (hD : Dom ρ H.next)
    (hs : aStep env H (.un op x) = some res) : StepR P ρ H w o a res := by
  have h1 := hE.eval hx
  generalize hxx : a.eval x = xv at h1
  simp only [aStep] at hs
  split at hs
  · rename_i k n hx'
    simp only [Option.some.injEq] at hs
    subst hs
    rw [hx'] at h1; cases h1
    exact .pure hR hD (v' := _) (by simp [execOp, ho, hxx, Op.unary, Op.intArith]) (.int _ _)
  · rename_i k n hx'
    simp only [Option.some.injEq] at hs
    subst hs
    rw [hx'] at h1; cases h1
    exact .pure hR hD (v' := _) (by simp [execOp, ho, hxx, Op.unary, Op.intBits, aBits]) (.int _ _)
  · rename_i b hx'
    simp only [Option.some.injEq] at hs
    subst hs
    rw [hx'] at h1; cases h1
    exact .pure hR hD (v' := _) (by simp [execOp, ho, hxx, Op.unary]) (.bool _)
  · cases hs

theorem s_toInt {k : IntKind} {s d : TypeId} {x : Operand} (ho : o.op = .convert s d x) (hx : okOpd x = true) {ks : IntKind} (hsrc : P.underlying s = some (.int ks)) (hdst : P.underlying d = some (.int k))
    (hE : EnvR ρ env a.tmps) (hR : Rel P ρ H.get w) (hD : Dom ρ H.next) (hs : aStep env H (.toInt k x) = some res) : StepR P ρ H w o a res := by
  have h1 := hE.eval hx
  generalize hxx : a.eval x = xv at h1
  simp only [aStep] at hs
  split at hs
  · rename_i k' n hx'
    simp only [Option.some.injEq] at hs
    subst hs
    rw [hx'] at h1; cases h1
    exact .pure hR hD (v' := _) (by simp [execOp, ho, hxx, convert, run_underlying hsrc, run_underlying hdst, Conv.intToInt]) (.int _ _)
  · cases hs

theorem s_sameStr {s d : TypeId} {x : Operand} (ho : o.op = .convert s d x) (hx : okOpd x = true) (hsrc : P.underlying s = some .string) (hdst : P.underlying d = some .string)
    (hE : EnvR ρ env a.tmps) (hR : Rel P ρ H.get w) (hD : Dom ρ H.next) (hs : aStep env H (.sameStr x) = some res) : StepR P ρ H w o a res := by
  have h1 := hE.eval hx
  generalize hxx : a.eval x = xv at h1
  simp only [aStep] at hs
  split at hs
  · rename_i b hx'
    simp only [Option.some.injEq] at hs
    subst hs
    rw [hx'] at h1; cases h1
    exact .pure hR hD (v' := _) (by simp [execOp, ho, hxx, convert, run_underlying hsrc, run_underlying hdst]) (.string _)
  · cases hs

theorem s_extract {x : Operand} {i : Nat} (ho : o.op = .extract x i) (hx : okOpd x = true) (hE : EnvR ρ env a.tmps) (hR : Rel P ρ H.get w) (hD : Dom ρ H.next)
    (hs : aStep env H (.extract x i) = some res) : StepR P ρ H w o a res := by
  have h1 := hE.eval hx
  generalize hxx : a.eval x = xv at h1
  simp only [aStep] at hs
  split at hs
  · rename_i vs hx'
    simp only [Option.map_eq_some_iff] at hs
    obtain ⟨v, hv, rfl⟩ := hs
    rw [hx'] at h1
    cases h1 with
    | undef => simp at hv
    | tuple h1 h2 =>
      obtain ⟨y, hy, hr⟩ := VRs.get (ρ := ρ) ⟨h1, h2⟩ hv
      exact .pure hR hD (v' := y) (by simp [execOp, ho, hxx, Instr.extract, hy]) hr
  · cases hs

theorem s_off {t : TypeId} {x : Operand} {i : Nat} {fs : Array Field} {f : Field} {j : TypeInfo} (ho : o.op = .fieldAddr t x i) (hx : okOpd x = true) (hfs : fieldsOf P t = some fs) (hf : fs[i]? = some f)
    (hj : P.info? f.type = some j) (hj0 : j.size ≠ 0) (hE : EnvR ρ env a.tmps) (hR : Rel P ρ H.get w) (hD : Dom ρ H.next)
    (hs : aStep env H (.off f.offset x) = some res) : StepR P ρ H w o a res := by
  have h1 := hE.eval hx
  generalize hxx : a.eval x = xv at h1
  have hu : P.underlying t = some (.struct fs) := by
    unfold fieldsOf at hfs
    split at hfs
    · rename_i fs' hu; simp only [Option.some.injEq] at hfs; exact hfs ▸ hu
    · cases hfs
  simp only [aStep, Option.map_eq_some_iff] at hs
  obtain ⟨v, hv, rfl⟩ := hs
  unfold addOff at hv
  split at hv
  · rename_i b off hx'
    simp only [Option.some.injEq] at hv
    subst hv
    rw [hx'] at h1
    cases h1 with
    | ptr hb =>
      rename_i l
      refine .pure hR hD (v' := .pointer (some ⟨l.blk, l.base + (off + f.offset), none⟩)) ?_ (.ptr hb)
      simp [execOp, ho, hxx, Instr.fieldAt, run_underlying hu, hf, Instr.sureAddr, fieldPlace, run_sizeOf hj, hj0, Addr.add_lit, Nat.add_assoc]
  · cases hv

theorem s_field {t : TypeId} {x : Operand} {i : Nat} {fs : Array Field} {f : Field} (ho : o.op = .field t x i) (hx : okOpd x = true) (hfs : fieldsOf P t = some fs) (hf : fs[i]? = some f)
    (hag : isAggT P f.type = some false) (hE : EnvR ρ env a.tmps) (hR : Rel P ρ H.get w) (hD : Dom ρ H.next)
    (hs : aStep env H (.field f.offset x) = some res) : StepR P ρ H w o a res := by
  have h1 := hE.eval hx
  generalize hxx : a.eval x = xv at h1
  have hu : P.underlying t = some (.struct fs) := by
    unfold fieldsOf at hfs
    split at hfs
    · rename_i fs' hu; simp only [Option.some.injEq] at hfs; exact hfs ▸ hu
    · cases hfs
  simp only [aStep] at hs
  split at hs
  · rename_i cs hx'
    simp only [Option.map_eq_some_iff] at hs
    obtain ⟨v, hv, rfl⟩ := hs
    rw [hx'] at h1
    cases h1 with
    | agg h1 h2 =>
      obtain ⟨y, hy, hr⟩ := VRs.get (ρ := ρ) ⟨h1, h2⟩ hv
      exact .pure hR hD (v' := y) (by simp [execOp, ho, hxx, Instr.field, run_underlying hu, hf, part, asAgg, run_isAgg_false hag, hy]) hr
  · cases hs

theorem VRs.extract {xs ys : Array Value} (h : VRs ρ xs ys) (i j : Nat) : VRs ρ (xs.extract i j) (ys.extract i j) := by
  refine .mk (by simp [h.1]) fun k x y hx hy => ?_
  rw [Array.getElem?_extract] at hx hy
  split at hx
  · split at hy
    · obtain ⟨z, hz, hr⟩ := h.get hx
      rw [hy] at hz
      obtain rfl : y = z := by simpa using hz
      exact hr
    · cases hy
  · cases hx

theorem s_fieldN {t : TypeId} {x : Operand} {i : Nat} {fs : Array Field} {f : Field} {j : TypeInfo} (ho : o.op = .field t x i) (hx : okOpd x = true) (hfs : fieldsOf P t = some fs) (hf : fs[i]? = some f)
    (hag : isAggT P f.type = some true) (hj : P.info? f.type = some j) (hE : EnvR ρ env a.tmps) (hR : Rel P ρ H.get w) (hD : Dom ρ H.next)
    (hs : aStep env H (.fieldN f.offset j.size x) = some res) : StepR P ρ H w o a res := by
  have h1 := hE.eval hx
  generalize hxx : a.eval x = xv at h1
  have hu : P.underlying t = some (.struct fs) := by
    unfold fieldsOf at hfs
    split at hfs
    · rename_i fs' hu; simp only [Option.some.injEq] at hfs; exact hfs ▸ hu
    · cases hfs
  simp only [aStep] at hs
  split at hs
  · rename_i cs hx'
    simp only [Option.some.injEq] at hs
    subst hs
    rw [hx'] at h1
    cases h1 with
    | agg h1 h2 =>
      rename_i xs'
      have he := VRs.extract (ρ := ρ) ⟨h1, h2⟩ f.offset (f.offset + j.size)
      exact .pure hR hD (v' := .agg (xs'.extract f.offset (f.offset + j.size))) (by simp [execOp, ho, hxx, Instr.field, run_underlying hu, hf, part, asAgg, run_isAgg_true hag, run_sizeOf hj]) (.agg he.1 he.2)
  · cases hs

theorem s_makeFunc {f : FuncId} {xs ys : Array Operand} (ho : o.op = .makeFunc (.func f) xs ys) (hx : ∀ x ∈ xs.toList, okOpd x = true) (hy : ∀ x ∈ ys.toList, okOpd x = true) (hE : EnvR ρ env a.tmps) (hR : Rel P ρ H.get w)
    (hD : Dom ρ H.next) (hs : aStep env H (.makeFunc f xs.toList ys.toList) = some res) : StepR P ρ H w o a res := by
  simp only [aStep, Option.some.injEq] at hs
  subst hs
  have key : ∀ zs : Array Operand, (∀ x ∈ zs.toList, okOpd x = true) → VRs ρ (zs.toList.map (ev1 env)).toArray (zs.map a.eval) := fun zs hz => by
    refine .mk (by simp) fun i x y hx hy => ?_
    simp only [List.getElem?_toArray, List.getElem?_map, Option.map_eq_some_iff] at hx
    obtain ⟨z, hz', rfl⟩ := hx
    rw [Array.getElem?_toList] at hz'
    simp only [Array.getElem?_map, hz', Option.map_some, Option.some.injEq] at hy
    subst hy
    exact hE.eval (hz z (by rw [Array.mem_toList_iff]; exact Array.mem_of_getElem? hz'))
  have h1 := key xs hx
  have h2 := key ys hy
  exact .pure hR hD (v' := .func (.func f) (xs.map a.eval) (ys.map a.eval)) (by simp [execOp, ho, Instr.makeFunc]) (.func h1.1 h2.1 h1.2 h2.2)

theorem s_makeMap {t : TypeId} (ho : o.op = .makeMap t none) (hR : Rel P ρ H.get w) (hD : Dom ρ H.next) (hs : aStep env H .makeMap = some res) : StepR P ρ H w o a res := by
  simp only [aStep, Option.some.injEq] at hs
  subst hs
  refine .val (v' := .map (some w.heap.size)) (w' := w.alloc (.map #[] 0)) (ρ' := ρ.add H.next ⟨w.heap.size, 0, 0, 0⟩) (by simp [execOp, ho, Instr.makeMap]) (.map (Ren.add_new ρ H.next _)) ?_
  exact Post.push hR hD (Grew.alloc w _) rfl ⟨#[], (Grew.alloc w _).new, rfl, fun i x hx => by simp at hx⟩

end
end Go.Aev
