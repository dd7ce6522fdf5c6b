/- Each operation of the abstract evaluator does what the model's operation does: equality, maps. -/
import Derived.Test.YtklkahckkelglaaGreatAevI
import Derived.Laws.StructEq
namespace Go.Aev
open Go

section
variable {P : Program} {ρ : Ren} {H : AHeap} {w : World} {o : Oper} {a : Act} {env : Env} {res : Res}

theorem eqOne_VR {kd : Nat} {x y x' y' : Value} (hx : VR ρ x x') (hy : VR ρ y y') {b : Bool} (h : eqOne kd x y = some b) : eqOne kd x' y' = some b := by
  unfold eqOne at h
  split at h
  · cases hx; cases hy; exact h
  · cases hx; cases hy; exact h
  · cases hx; cases hy; exact h
  · cases h

theorem eqFlat_VR {xs ys xs' ys' : Array Value} (hx : VRs ρ xs xs') (hy : VRs ρ ys ys') : ∀ {offs : List (Nat × Nat)} {b : Bool}, eqFlat xs ys offs = some b → eqFlat xs' ys' offs = some b
  | [], b, h => h
  | (o, kd) :: r, b, h => by
    unfold eqFlat at h ⊢
    split at h
    · rename_i x y h1 h2
      obtain ⟨x', hx', hrx⟩ := hx.get h1
      obtain ⟨y', hy', hry⟩ := hy.get h2
      simp only [hx', hy']
      split at h
      · rename_i he
        rw [eqOne_VR hrx hry he]
        exact eqFlat_VR hx hy h
      · rename_i he
        rw [eqOne_VR hrx hry he]
        exact h
      · cases h
    · cases h

theorem eqFlat_append (xs ys : Array Value) : ∀ (l m : List (Nat × Nat)), eqFlat xs ys (l ++ m) = match eqFlat xs ys l with | some true => eqFlat xs ys m | r => r
  | [], m => rfl
  | (o, kd) :: r, m => by
    simp only [List.cons_append, eqFlat]
    split
    · split
      · exact eqFlat_append xs ys r m
      · rfl
      · rfl
    · rfl

/-- A value of type t that stands at a place of a row. -/
def ViewAt (P : Program) (t : TypeId) (X : Array Value) (base : Nat) (v : Value) : Prop :=
  match P.underlying t with
  | some (.struct _) => ∃ xs, v = .agg xs ∧ ∀ j, j < P.cellsOf t → xs[j]? = X[base + j]?
  | _ => X[base]? = some v

theorem eqFlat_one {X Y : Array Value} {base kd : Nat} {x y : Value} {b : Bool} (h1 : X[base]? = some x) (h2 : Y[base]? = some y) (h : eqFlat X Y [(base, kd)] = some b) : eqOne kd x y = some b := by
  simp only [eqFlat, h1, h2] at h
  split at h <;> simp_all

/-- A part of a row, as the model takes it out. -/
theorem run_part {t : TypeId} {X xs : Array Value} {base off lim : Nat} (hv : ∀ j, j < lim → xs[j]? = X[base + j]?) (hle : off + P.cellsOf t ≤ lim) (hpos : P.cellsOf t ≠ 0) {d : Nat} {l : List (Nat × Nat)}
    (hs : scalars P d t (base + off) = some l) {Y : Array Value} {b : Bool} (hb : eqFlat X Y l = some b ∨ eqFlat Y X l = some b) (w : World) :
    ∃ v, (part t xs off).run P w = .ok v w ∧ ViewAt P t X (base + off) v := by
  have hinfo : ∃ i, P.info? t = some i ∧ P.cellsOf t = i.size := by
    unfold Program.cellsOf at hpos ⊢
    cases hi : P.info? t with
    | none => simp [hi] at hpos
    | some i => exact ⟨i, rfl, by simp⟩
  obtain ⟨i, hi, hci⟩ := hinfo
  cases d with
  | zero => cases hs
  | succ d =>
    have scalar : ∀ kd, l = [(base + off, kd)] → isAggT P t = some false → (∀ v, X[base + off]? = some v → ViewAt P t X (base + off) v) → ∃ v, (part t xs off).run P w = .ok v w ∧ ViewAt P t X (base + off) v := by
      intro kd hl hag hview
      subst hl
      have hx : ∃ v, X[base + off]? = some v := by
        rcases hb with hb | hb
        · simp only [eqFlat] at hb
          split at hb
          · rename_i x y h1 h2; exact ⟨x, h1⟩
          · cases hb
        · simp only [eqFlat] at hb
          split at hb
          · rename_i x y h1 h2; exact ⟨y, h2⟩
          · cases hb
      obtain ⟨v, hx⟩ := hx
      refine ⟨v, ?_, hview v hx⟩
      have : xs[off]? = some v := by rw [hv off (by omega), hx]
      simp [part, run_isAgg_false hag, this]
    unfold scalars at hs
    split at hs
    · rename_i hu
      simp only [Option.some.injEq] at hs
      exact scalar 0 hs.symm (by simp [isAggT, hu]) fun v h => by simp only [ViewAt, hu]; exact h
    · rename_i hu
      simp only [Option.some.injEq] at hs
      exact scalar 1 hs.symm (by simp [isAggT, hu]) fun v h => by simp only [ViewAt, hu]; exact h
    · rename_i hu
      simp only [Option.some.injEq] at hs
      exact scalar 2 hs.symm (by simp [isAggT, hu]) fun v h => by simp only [ViewAt, hu]; exact h
    · rename_i fs hu
      refine ⟨.agg (xs.extract off (off + i.size)), ?_, ?_⟩
      · have hag : isAggT P t = some true := by simp [isAggT, hu]
        simp [part, run_isAgg_true hag, run_sizeOf hi]
      · simp only [ViewAt, hu]
        refine ⟨_, rfl, fun j hj => ?_⟩
        rw [Nat.add_assoc, ← hv (off + j) (by omega), Array.getElem?_extract]
        split
        · rfl
        · rename_i hn
          rw [Array.getElem?_eq_none]
          omega
    · cases hs

theorem run_scalars (w : World) : ∀ (d D : Nat), d ≤ D → ∀ (t : TypeId) (base : Nat) (offs : List (Nat × Nat)), scalars P d t base = some offs → ∀ (X Y : Array Value) (x y : Value), ViewAt P t X base x → ViewAt P t Y base y →
    ∀ b, eqFlat X Y offs = some b → (Op.equalIn D t x y).run P w = .ok b w := by
  intro d
  induction d with
  | zero => intro D _ t base offs h; cases h
  | succ d ih =>
    intro D hD t base offs h X Y x y hx hy b hb
    obtain ⟨D, rfl⟩ : ∃ E, D = E + 1 := ⟨D - 1, by omega⟩
    unfold scalars at h
    split at h
    · rename_i hu
      simp only [Option.some.injEq] at h
      subst h
      unfold ViewAt at hx hy
      rw [hu] at hx hy
      have he := eqFlat_one hx hy hb
      unfold eqOne at he
      split at he <;> simp_all
      subst he
      simp [Op.equalIn, run_underlying hu]
    · rename_i k0 hu
      simp only [Option.some.injEq] at h
      subst h
      unfold ViewAt at hx hy
      rw [hu] at hx hy
      have he := eqFlat_one hx hy hb
      unfold eqOne at he
      split at he <;> simp_all
      obtain ⟨rfl, rfl⟩ := he
      simp [Op.equalIn, run_underlying hu]
    · rename_i hu
      simp only [Option.some.injEq] at h
      subst h
      unfold ViewAt at hx hy
      rw [hu] at hx hy
      have he := eqFlat_one hx hy hb
      unfold eqOne at he
      split at he <;> simp_all
      subst he
      rw [run_equalIn_string w D t _ _ hu]
    · rename_i fs hu
      split at h
      · cases h
      · rename_i hst
        unfold ViewAt at hx hy
        rw [hu] at hx hy
        obtain ⟨xs, rfl, hxv⟩ := hx
        obtain ⟨ys, rfl, hyv⟩ := hy
        have hfs : P.fieldsOf t = fs := by simp [Program.fieldsOf, hu]
        rw [run_equalIn_struct w D t xs ys (by rw [hfs]; exact hu) (by simpa using hst), hfs]
        -- field by field
        have go : ∀ (l : List Field) (m : List (Nat × Nat)) (b : Bool), fieldScalars P (scalars P d) (P.cellsOf t) base l = some m → eqFlat X Y m = some b → (Op.eqFields D xs ys l).run P w = .ok b w := by
          intro l
          induction l with
          | nil =>
            intro m b hm hb
            simp only [fieldScalars, Option.some.injEq] at hm
            subst hm
            simp only [eqFlat, Option.some.injEq] at hb
            subst hb
            simp [Op.eqFields]
          | cons f r ihl =>
            intro m b hm hb
            unfold fieldScalars at hm
            split at hm
            · cases hm
            · rename_i hc
              have hn : f.name ≠ "_" := fun e => hc (.inl e)
              have hpos : P.cellsOf f.type ≠ 0 := fun e => hc (.inr (.inl e))
              have hle : f.offset + P.cellsOf f.type ≤ P.cellsOf t := Nat.le_of_not_lt fun e => hc (.inr (.inr e))
              split at hm
              · rename_i l1 l2 h1 h2
                simp only [Option.some.injEq] at hm
                subst hm
                rw [eqFlat_append] at hb
                cases he : eqFlat X Y l1 with
                | none => rw [he] at hb; cases hb
                | some b1 =>
                  obtain ⟨u, hu1, hu2⟩ := run_part hxv hle hpos h1 (.inl he) w
                  obtain ⟨v, hv1, hv2⟩ := run_part hyv hle hpos h1 (.inr he) w
                  have hr := ih D (by omega) f.type (base + f.offset) l1 h1 X Y u v hu2 hv2 b1 he
                  rw [he] at hb
                  simp only [Op.eqFields, ne_eq, hn, not_false_eq_true, if_true, Sem.run_bind, hu1, hv1, Result.andThen_ok, hr, Sem.run_ite]
                  cases b1 with
                  | true => simpa using ihl l2 b h2 hb
                  | false =>
                    simp only [Option.some.injEq] at hb
                    subst hb
                    simp
              · cases hm
        exact go fs.toList offs b h hb
    · cases h

theorem run_equal_flat {t : TypeId} {offs : List (Nat × Nat)} {fs : Array Field} (hu : P.underlying t = some (.struct fs)) (h : scalars P 100 t 0 = some offs) {xs ys : Array Value} {b : Bool} (hb : eqFlat xs ys offs = some b) (w : World) :
    (Op.equal t (.agg xs) (.agg ys)).run P w = .ok b w := by
  have hv : ∀ zs : Array Value, ViewAt P t zs 0 (.agg zs) := fun zs => by
    simp only [ViewAt, hu]
    exact ⟨zs, rfl, fun j _ => by rw [Nat.zero_add]⟩
  exact run_scalars w 100 Op.maxDepth (by decide) t 0 offs h xs ys _ _ (hv xs) (hv ys) b hb

theorem equal_succ (t : TypeId) (x y : Value) : Op.equal t x y = Op.equalIn (9999 + 1) t x y := rfl
section eqIn
variable (D : Nat) {t : TypeId} (w : World)
theorem eqIn_bool (hu : P.underlying t = some .bool) (x y : Bool) : (Op.equalIn (D + 1) t (.bool x) (.bool y)).run P w = .ok (x == y) w := run_equalIn_bool' w D t x y hu
theorem eqIn_ptr {e : TypeId} (hu : P.underlying t = some (.pointer e)) (q : Option Addr) : (Op.equalIn (D + 1) t (.pointer none) (.pointer q)).run P w = .ok q.isNone w := by
  unfold Op.equalIn; simp only [Sem.run_bind, run_underlying hu, Result.andThen_ok, Sem.run_pure]
theorem eqIn_ptr' {e : TypeId} (hu : P.underlying t = some (.pointer e)) (q : Addr) : (Op.equalIn (D + 1) t (.pointer (some q)) (.pointer none)).run P w = .ok false w := by
  unfold Op.equalIn; simp only [Sem.run_bind, run_underlying hu, Result.andThen_ok, Sem.run_pure]
theorem eqIn_slice {e : TypeId} (hu : P.underlying t = some (.slice e)) (q : Option Addr) (n c m d : Nat) : (Op.equalIn (D + 1) t (.slice none n c) (.slice q m d)).run P w = .ok q.isNone w := by
  unfold Op.equalIn; simp only [Sem.run_bind, run_underlying hu, Result.andThen_ok, Sem.run_pure]
theorem eqIn_slice' {e : TypeId} (hu : P.underlying t = some (.slice e)) (q : Addr) (n c m d : Nat) : (Op.equalIn (D + 1) t (.slice (some q) n c) (.slice none m d)).run P w = .ok false w := by
  unfold Op.equalIn; simp only [Sem.run_bind, run_underlying hu, Result.andThen_ok, Sem.run_pure]
theorem eqIn_map {k e : TypeId} (hu : P.underlying t = some (.map k e)) (q : Option Nat) : (Op.equalIn (D + 1) t (.map none) (.map q)).run P w = .ok q.isNone w := by
  unfold Op.equalIn; simp only [Sem.run_bind, run_underlying hu, Result.andThen_ok, Sem.run_pure]
theorem eqIn_map' {k e : TypeId} (hu : P.underlying t = some (.map k e)) (q : Nat) : (Op.equalIn (D + 1) t (.map (some q)) (.map none)).run P w = .ok false w := by
  unfold Op.equalIn; simp only [Sem.run_bind, run_underlying hu, Result.andThen_ok, Sem.run_pure]
theorem eqIn_nilFunc {p r : Array TypeId} {v : Bool} (hu : P.underlying t = some (.func p r v)) : (Op.equalIn (D + 1) t .nilFunc .nilFunc).run P w = .ok true w := by
  unfold Op.equalIn; simp only [Sem.run_bind, run_underlying hu, Result.andThen_ok, Sem.run_pure]
theorem eqIn_func {p r : Array TypeId} {v : Bool} (hu : P.underlying t = some (.func p r v)) (f : Fn) (x y : Array Value) : (Op.equalIn (D + 1) t .nilFunc (.func f x y)).run P w = .ok false w := by
  unfold Op.equalIn; simp only [Sem.run_bind, run_underlying hu, Result.andThen_ok, Sem.run_pure]
theorem eqIn_func' {p r : Array TypeId} {v : Bool} (hu : P.underlying t = some (.func p r v)) (f : Fn) (x y : Array Value) : (Op.equalIn (D + 1) t (.func f x y) .nilFunc).run P w = .ok false w := by
  unfold Op.equalIn; simp only [Sem.run_bind, run_underlying hu, Result.andThen_ok, Sem.run_pure]
end eqIn

theorem eqKind_inv {t : TypeId} {k : EqK} (h : eqKind P t = some k) :
    match k with
    | .bool => P.underlying t = some .bool
    | .pointer => ∃ e, P.underlying t = some (.pointer e)
    | .slice => ∃ e, P.underlying t = some (.slice e)
    | .map => ∃ k e, P.underlying t = some (.map k e)
    | .func => ∃ p r v, P.underlying t = some (.func p r v)
    | .flat offs => (∃ fs, P.underlying t = some (.struct fs)) ∧ P.eqGuardType P.depth t = false ∧ scalars P 100 t 0 = some offs := by
  unfold eqKind at h
  split at h
  · rename_i hu; simp only [Option.some.injEq] at h; subst h; exact hu
  · rename_i e hu; simp only [Option.some.injEq] at h; subst h; exact ⟨e, hu⟩
  · rename_i e hu; simp only [Option.some.injEq] at h; subst h; exact ⟨e, hu⟩
  · rename_i k e hu; simp only [Option.some.injEq] at h; subst h; exact ⟨k, e, hu⟩
  · rename_i p r v hu; simp only [Option.some.injEq] at h; subst h; exact ⟨p, r, v, hu⟩
  · rename_i fs hu
    split at h
    · cases h
    · rename_i hg
      simp only [Option.map_eq_some_iff] at h
      obtain ⟨offs, ho, rfl⟩ := h
      exact ⟨⟨fs, hu⟩, by simpa using hg, ho⟩
  · cases h

theorem s_eq {op : BinOp} {neg : Bool} {k : EqK} {t ty : TypeId} {x y : Operand} (ho : o.op = .binOp op t x y ty) (hop : (op = .eql ∧ neg = false) ∨ (op = .neq ∧ neg = true)) (hk : eqKind P t = some k) (hx : okOpd x = true) (hy : okOpd y = true)
    (hE : EnvR ρ env a.tmps) (hR : Rel P ρ H.get w) (hD : Dom ρ H.next) (hs : aStep env H (.eq neg k x y) = some res) : StepR P ρ H w o a res := by
  have h1 := hE.eval hx
  have h2 := hE.eval hy
  generalize hxx : a.eval x = xv at h1
  generalize hyy : a.eval y = yv at h2
  simp only [aStep, Option.map_eq_some_iff] at hs
  obtain ⟨b, hb, rfl⟩ := hs
  refine .pure hR hD (v' := .bool (if neg then !b else b)) ?_ (.bool _)
  have hki := eqKind_inv hk
  have fin : (eqGuard op t x y xv yv).run P w = .ok () w → (Op.equal t xv yv).run P w = .ok b w → (∀ op', op' = .eql ∨ op' = .neq → (binOp op' t xv yv).run P w = ((Op.equal t xv yv).run P w).andThen fun r w' => .ok (.bool (if op' = .neq then !r else r)) w') →
      (execOp a.eval o).run P w = .ok (.value (.bool (if neg then !b else b))) w := by
    intro hg he hbin
    simp only [execOp, ho, hxx, hyy, Sem.run_bind, hg, Result.andThen_ok]
    rcases hop with ⟨rfl, rfl⟩ | ⟨rfl, rfl⟩
    · rw [hbin .eql (.inl rfl), he]; simp
    · rw [hbin .neq (.inr rfl), he]; simp
  unfold aEq at hb
  split at hb
  · rename_i p q hp hq
    rw [hp] at h1; rw [hq] at h2; cases h1; cases h2
    simp only [Option.some.injEq] at hb; subst hb
    refine fin (by rw [eqGuard_at_bool]; rfl) (by rw [equal_succ]; exact eqIn_bool _ w hki _ _) fun op' h' => ?_
    rcases h' with rfl | rfl <;> simp [binOp]
  · rename_i q hp hq
    obtain ⟨e, hu⟩ := hki
    rw [hp] at h1; rw [hq] at h2; cases h1
    simp only [Option.some.injEq] at hb; subst hb
    obtain ⟨q', rfl, hqq⟩ : ∃ q', yv = .pointer q' ∧ q'.isNone = q.isNone := by cases h2 <;> exact ⟨_, rfl, rfl⟩
    refine fin (by rw [eqGuard_at_pointer]; rfl) (by rw [equal_succ, eqIn_ptr _ w hu, hqq]) fun op' h' => ?_
    rcases h' with rfl | rfl <;> simp [binOp]
  · rename_i q hp hq
    obtain ⟨e, hu⟩ := hki
    rw [hp] at h1; rw [hq] at h2; cases h2
    simp only [Option.some.injEq] at hb; subst hb
    obtain ⟨q', rfl⟩ : ∃ q', xv = .pointer (some q') := by cases h1 <;> exact ⟨_, rfl⟩
    refine fin (by rw [eqGuard_at_pointer]; rfl) (by rw [equal_succ, eqIn_ptr' _ w hu]) fun op' h' => ?_
    rcases h' with rfl | rfl <;> simp [binOp]
  · rename_i n1 c1 q n2 c2 hp hq
    obtain ⟨e, hu⟩ := hki
    rw [hp] at h1; rw [hq] at h2; cases h1
    simp only [Option.some.injEq] at hb; subst hb
    obtain ⟨q', c', rfl, _, _, hn1, hn2⟩ := slice_inv h2
    have hqq : q'.isNone = q.isNone := by
      cases q with
      | none => rw [(hn1 rfl).2.2.2]
      | some z => cases q' with
        | none => exact absurd rfl (hn2 (by simp))
        | some _ => rfl
    refine fin (by rw [eqGuard_at_slice]; rfl) (by rw [equal_succ, eqIn_slice _ w hu, hqq]) fun op' h' => ?_
    rcases h' with rfl | rfl <;> simp [binOp]
  · rename_i q n1 c1 n2 c2 hp hq
    obtain ⟨e, hu⟩ := hki
    rw [hp] at h1; rw [hq] at h2; cases h2
    simp only [Option.some.injEq] at hb; subst hb
    obtain ⟨q', c', rfl, _, _, _, hn2⟩ := slice_inv h1
    cases q' with
    | none => exact absurd rfl (hn2 (by simp))
    | some q' =>
      refine fin (by rw [eqGuard_at_slice]; rfl) (by rw [equal_succ, eqIn_slice' _ w hu]) fun op' h' => ?_
      rcases h' with rfl | rfl <;> simp [binOp]
  · rename_i q hp hq
    obtain ⟨k0, e, hu⟩ := hki
    rw [hp] at h1; rw [hq] at h2; cases h1
    simp only [Option.some.injEq] at hb; subst hb
    obtain ⟨q', rfl, hqq⟩ : ∃ q', yv = .map q' ∧ q'.isNone = q.isNone := by cases h2 <;> exact ⟨_, rfl, rfl⟩
    refine fin (by rw [eqGuard_at_map]; rfl) (by rw [equal_succ, eqIn_map _ w hu, hqq]) fun op' h' => ?_
    rcases h' with rfl | rfl <;> simp [binOp]
  · rename_i q hp hq
    obtain ⟨k0, e, hu⟩ := hki
    rw [hp] at h1; rw [hq] at h2; cases h2
    simp only [Option.some.injEq] at hb; subst hb
    obtain ⟨q', rfl⟩ : ∃ q', xv = .map (some q') := by cases h1 <;> exact ⟨_, rfl⟩
    refine fin (by rw [eqGuard_at_map]; rfl) (by rw [equal_succ, eqIn_map' _ w hu]) fun op' h' => ?_
    rcases h' with rfl | rfl <;> simp [binOp]
  · rename_i hp hq
    obtain ⟨p0, r0, v0, hu⟩ := hki
    rw [hp] at h1; rw [hq] at h2; cases h1; cases h2
    simp only [Option.some.injEq] at hb; subst hb
    refine fin (by rw [eqGuard_at_nilFunc]; rfl) (by rw [equal_succ, eqIn_nilFunc _ w hu]) fun op' h' => ?_
    rcases h' with rfl | rfl <;> simp [binOp]
  · rename_i f1 f2 f3 hp hq
    obtain ⟨p0, r0, v0, hu⟩ := hki
    rw [hp] at h1; rw [hq] at h2; cases h1
    simp only [Option.some.injEq] at hb; subst hb
    obtain ⟨g1, g2, g3, rfl⟩ : ∃ g1 g2 g3, yv = .func g1 g2 g3 := by cases h2; exact ⟨_, _, _, rfl⟩
    refine fin (by rw [eqGuard_at_nilFunc]; rfl) (by rw [equal_succ, eqIn_func _ w hu]) fun op' h' => ?_
    rcases h' with rfl | rfl <;> simp [binOp]
  · rename_i f1 f2 f3 hp hq
    obtain ⟨p0, r0, v0, hu⟩ := hki
    rw [hp] at h1; rw [hq] at h2; cases h2
    simp only [Option.some.injEq] at hb; subst hb
    obtain ⟨g1, g2, g3, rfl⟩ : ∃ g1 g2 g3, xv = .func g1 g2 g3 := by cases h1; exact ⟨_, _, _, rfl⟩
    refine fin (by rw [eqGuard_at_func]; rfl) (by rw [equal_succ, eqIn_func' _ w hu]) fun op' h' => ?_
    rcases h' with rfl | rfl <;> simp [binOp]
  · rename_i offs xs ys hp hq
    obtain ⟨⟨fs, hu⟩, hg, hsc⟩ := hki
    rw [hp] at h1; rw [hq] at h2
    cases h1 with
    | agg a1 a2 =>
      cases h2 with
      | agg b1 b2 =>
        have hb' := eqFlat_VR (ρ := ρ) ⟨a1, a2⟩ ⟨b1, b2⟩ hb
        refine fin ?_ (run_equal_flat hu hsc hb' w) fun op' h' => ?_
        · unfold eqGuard
          rcases hop with ⟨rfl, _⟩ | ⟨rfl, _⟩ <;> simp [hg]
        · rcases h' with rfl | rfl <;> simp [binOp]
  · cases hb

end
end Go.Aev
