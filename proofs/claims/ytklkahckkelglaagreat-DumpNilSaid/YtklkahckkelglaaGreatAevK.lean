/- Each operation of the abstract evaluator does what the model's operation does: maps. -/
import Derived.Test.YtklkahckkelglaaGreatAevJ
namespace Go.Aev
open Go

section
variable {P : Program} {ρ : Ren} {H : AHeap} {w : World} {o : Oper} {a : Act} {env : Env} {res : Res}

theorem run_getObj {r : Nat} {es : Array MapEntry} {clock : Nat} (h : w.heap[r]? = some (.map es clock)) : (getObj r).run P w = .ok (.map es clock) w := by
  simp [getObj, Sem.run, h]
theorem run_setObj {r : Nat} {es : Array MapEntry} {clock : Nat} (h : w.heap[r]? = some (.map es clock)) (ob : Obj) : (setObj r ob).run P w = .ok () { w with heap := w.heap.setIfInBounds r ob } := by
  simp [setObj, Sem.run, h]
theorem Turned.setObj (w : World) (r : Nat) (ob : Obj) : Turned w { w with heap := w.heap.setIfInBounds r ob } r :=
  ⟨by simp, fun i hi => by simp only [Array.getElem?_setIfInBounds]; rw [if_neg (Ne.symm hi)], rfl, rfl, rfl⟩
theorem get_setObj {w : World} {r : Nat} {x : Obj} (h : w.heap[r]? = some x) (ob : Obj) : ({ w with heap := w.heap.setIfInBounds r ob } : World).heap[r]? = some ob := by
  have hlt := (Array.getElem?_eq_some_iff.1 h).1
  simp [Array.getElem?_setIfInBounds, hlt]
theorem setObj_same {w : World} {r : Nat} {x : Obj} (h : w.heap[r]? = some x) : ({ w with heap := w.heap.setIfInBounds r x } : World) = w := by
  have : w.heap.setIfInBounds r x = w.heap := by
    apply Array.ext_getElem?
    intro i
    rw [Array.getElem?_setIfInBounds]
    split
    · rename_i e
      subst e
      have hlt := (Array.getElem?_eq_some_iff.1 h).1
      rw [if_pos hlt, h]
    · rfl
  rw [this]

/-- Entries, one by one. -/
def ER (ρ : Ren) (x y : MapEntry) : Prop := VR ρ x.key y.key ∧ VR ρ x.val y.val ∧ x.born = y.born
def ERs (ρ : Ren) (xs ys : Array MapEntry) : Prop := xs.size = ys.size ∧ ∀ (i : Nat) (x : MapEntry), xs[i]? = some x → ∃ y : MapEntry, ys[i]? = some y ∧ ER ρ x y

theorem mapAt_sound (hR : Rel P ρ H.get w) {m m' : Value} (hm : VR ρ m m') {es : Array MapEntry} {clock : Nat} (h : mapAt H m = some (es, clock)) :
    ∃ b l es', m = .map (some b) ∧ ρ b = some l ∧ H.get b = some (.map es clock) ∧ m' = .map (some l.blk) ∧ w.heap[l.blk]? = some (.map es' clock) ∧ ERs ρ es es' := by
  unfold mapAt at h
  split at h
  · rename_i r
    cases hm with
    | map hb =>
      rename_i l
      split at h
      · rename_i es0 c0 hk
        simp only [Option.some.injEq, Prod.mk.injEq] at h
        obtain ⟨rfl, rfl⟩ := h
        obtain ⟨k, hk', hbr⟩ := hR.blk r l hb
        rw [hk] at hk'
        obtain rfl : _ = k := by simpa using hk'
        obtain ⟨es', hg, hs, hr⟩ := hbr
        exact ⟨r, l, es', rfl, hb, hk, rfl, hg, hs, hr⟩
      · cases h
  · cases h

theorem keyKind_inv {t : TypeId} {k : KeyK} (h : keyKind P t = some k) :
    match k with
    | .one kd => (kd = 0 ∧ P.underlying t = some .bool) ∨ (kd = 1 ∧ ∃ ik, P.underlying t = some (.int ik)) ∨ (kd = 2 ∧ P.underlying t = some .string)
    | .flat offs => (∃ fs, P.underlying t = some (.struct fs)) ∧ scalars P 100 t 0 = some offs := by
  unfold keyKind at h
  split at h
  · rename_i hu; simp only [Option.some.injEq] at h; subst h; exact .inl ⟨rfl, hu⟩
  · rename_i ik hu; simp only [Option.some.injEq] at h; subst h; exact .inr (.inl ⟨rfl, ik, hu⟩)
  · rename_i hu; simp only [Option.some.injEq] at h; subst h; exact .inr (.inr ⟨rfl, hu⟩)
  · rename_i fs hu
    simp only [Option.map_eq_some_iff] at h
    obtain ⟨offs, ho, rfl⟩ := h
    exact ⟨⟨fs, hu⟩, ho⟩
  · cases h

theorem eqFlat_self {xs : Array Value} : ∀ {offs : List (Nat × Nat)} {b : Bool}, eqFlat xs xs offs = some b → b = true
  | [], b, h => by simp only [eqFlat, Option.some.injEq] at h; exact h.symm
  | (o, kd) :: r, b, h => by
    unfold eqFlat at h
    split at h
    · rename_i x y h1 h2
      rw [h1] at h2
      obtain rfl : x = y := by simpa using h2
      split at h
      · exact eqFlat_self h
      · rename_i he
        unfold eqOne at he
        split at he <;> simp_all
      · cases h
    · cases h

/-- A key that may be: the model's check finds nothing. -/
theorem run_checkKey (e : Bool) (w : World) : ∀ (d D : Nat), d ≤ D → ∀ (t : TypeId) (base : Nat) (offs : List (Nat × Nat)), scalars P d t base = some offs → ∀ (X : Array Value) (x : Value), ViewAt P t X base x →
    eqFlat X X offs = some true → (Instr.checkKey e D t x).run P w = .ok () w := by
  intro d
  induction d with
  | zero => intro D _ t base offs h; cases h
  | succ d ih =>
    intro D hD t base offs h X x hx hb
    obtain ⟨D, rfl⟩ : ∃ E, D = E + 1 := ⟨D - 1, by omega⟩
    unfold scalars at h
    split at h
    · rename_i hu
      unfold Instr.checkKey
      simp only [Sem.run_bind, run_underlying hu, Result.andThen_ok, Sem.run_pure]
    · rename_i hu
      unfold Instr.checkKey
      simp only [Sem.run_bind, run_underlying hu, Result.andThen_ok, Sem.run_pure]
    · rename_i hu
      unfold Instr.checkKey
      simp only [Sem.run_bind, run_underlying hu, Result.andThen_ok, Sem.run_pure]
    · rename_i fs hu
      split at h
      · cases h
      · unfold ViewAt at hx
        rw [hu] at hx
        obtain ⟨xs, rfl, hxv⟩ := hx
        unfold Instr.checkKey
        simp only [Sem.run_bind, run_underlying hu, Result.andThen_ok]
        rw [← Array.forIn_toList]
        have go : ∀ (l : List Field) (m : List (Nat × Nat)), fieldScalars P (scalars P d) (P.cellsOf t) base l = some m → eqFlat X X m = some true →
            (forIn l PUnit.unit fun (f : Field) (_ : PUnit) =>
              if f.name ≠ "_" then do
                let v ← part f.type xs f.offset
                Instr.checkKey e D f.type v
                pure (ForInStep.yield PUnit.unit)
              else pure (ForInStep.yield PUnit.unit)).run P w = .ok PUnit.unit w := by
          intro l
          induction l with
          | nil => intro m _ _; simp
          | cons f r ihl =>
            intro m hm hb
            unfold fieldScalars at hm
            split at hm
            · cases hm
            · rename_i hc
              have hn : f.name ≠ "_" := fun e => hc (.inl e)
              have hpos : P.cellsOf f.type ≠ 0 := fun e => hc (.inr (.inl e))
              have hle : f.offset + P.cellsOf f.type ≤ P.cellsOf t := Nat.le_of_not_lt fun e => hc (.inr (.inr e))
              split at hm
              · rename_i l1 l2 h1 h2
                simp only [Option.some.injEq] at hm
                subst hm
                rw [eqFlat_append] at hb
                cases he : eqFlat X X l1 with
                | none => rw [he] at hb; cases hb
                | some b1 =>
                  obtain rfl := eqFlat_self he
                  rw [he] at hb
                  obtain ⟨u, hu1, hu2⟩ := run_part hxv hle hpos h1 (.inl he) w
                  have hr := ih D (by omega) f.type (base + f.offset) l1 h1 X u hu2 he
                  have hr2 := ihl l2 h2 hb
                  simp only [ne_eq] at hr2
                  simp only [List.forIn_cons, ne_eq, hn, not_false_eq_true, if_true, Sem.run_bind, hu1, Result.andThen_ok, hr, Sem.run_pure, hr2]
              · cases hm
        have := go fs.toList offs h hb
        rw [this]
        simp
    · cases h

theorem checkKey_ok {key : KeyK} {kt : TypeId} (hk : keyKind P kt = some key) {v : Value} (h : keyOK key v = true) (e : Bool) (w : World) : (Instr.checkKey e 10000 kt v).run P w = .ok () w := by
  have hki := keyKind_inv hk
  cases key with
  | one kd =>
    have : ∀ d, P.underlying kt = some d → (d = .bool ∨ (∃ ik, d = .int ik) ∨ d = .string) → (Instr.checkKey e (9999 + 1) kt v).run P w = .ok () w := fun d hu hd => by
      unfold Instr.checkKey
      rcases hd with rfl | ⟨ik, rfl⟩ | rfl <;> simp only [Sem.run_bind, run_underlying hu, Result.andThen_ok, Sem.run_pure]
    rcases hki with ⟨_, hu⟩ | ⟨_, ik, hu⟩ | ⟨_, hu⟩
    · exact this _ hu (.inl rfl)
    · exact this _ hu (.inr (.inl ⟨ik, rfl⟩))
    · exact this _ hu (.inr (.inr rfl))
  | flat offs =>
    obtain ⟨⟨fs, hu⟩, hsc⟩ := hki
    unfold keyOK at h
    split at h
    · cases ‹KeyK.flat _ = KeyK.one _›
    · rename_i offs' xs heq
      simp only [KeyK.flat.injEq] at heq
      subst heq
      simp only [Bool.and_eq_true] at h
      obtain ⟨b, hb⟩ := Option.isSome_iff_exists.1 h.1
      obtain rfl := eqFlat_self hb
      have hv : ViewAt P kt xs 0 (.agg xs) := by
        simp only [ViewAt, hu]
        exact ⟨xs, rfl, fun j _ => by rw [Nat.zero_add]⟩
      exact run_checkKey e w 100 10000 (by decide) kt 0 offs hsc xs _ hv hb
    · cases h

theorem keyEq_VR {key : KeyK} {x y x' y' : Value} (hx : VR ρ x x') (hy : VR ρ y y') {b : Bool} (h : keyEq key x y = some b) : keyEq key x' y' = some b := by
  unfold keyEq at h
  split at h
  · exact eqOne_VR hx hy h
  · cases hx with
    | agg a1 a2 =>
      cases hy with
      | agg b1 b2 =>
        split at h
        · rename_i hs
          simp only [keyEq]
          rw [if_pos (by rw [← a1, ← b1, hs])]
          exact eqFlat_VR ⟨a1, a2⟩ ⟨b1, b2⟩ h
        · cases h
  · cases h
theorem keyOK_VR {key : KeyK} {x x' : Value} (hx : VR ρ x x') (h : keyOK key x = true) : keyOK key x' = true := by
  unfold keyOK at h
  split at h
  · obtain ⟨b, hb⟩ := Option.isSome_iff_exists.1 h
    simp only [keyOK, eqOne_VR hx hx hb]; rfl
  · cases hx with
    | agg a1 a2 =>
      simp only [Bool.and_eq_true] at h
      obtain ⟨b, hb⟩ := Option.isSome_iff_exists.1 h.1
      simp only [keyOK, eqFlat_VR (ρ := ρ) ⟨a1, a2⟩ ⟨a1, a2⟩ hb, ← a1, Bool.and_eq_true]
      exact ⟨rfl, h.2⟩
  · cases h

/-- The search for a key, in the model's own entries. -/
theorem findK_ER {key : KeyK} {k k' : Value} (hk : VR ρ k k') : ∀ {es es' : List MapEntry} {i : Nat} {r : Option (Nat × Value)}, es.length = es'.length → (∀ (j : Nat) x y, es[j]? = some x → es'[j]? = some y → ER ρ x y) → findK key k es i = some r →
    ∃ r', findK key k' es' i = some r' ∧ ((r = none ∧ r' = none) ∨ ∃ j v v', r = some (j, v) ∧ r' = some (j, v') ∧ VR ρ v v')
  | [], es', i, r, hl, _, h => by
    have : es' = [] := by cases es' <;> simp_all
    subst this
    simp only [findK, Option.some.injEq] at h
    subst h
    exact ⟨none, rfl, .inl ⟨rfl, rfl⟩⟩
  | e :: es, [], i, r, hl, _, h => by simp at hl
  | e :: es, e' :: es', i, r, hl, he, h => by
    obtain ⟨h1, h2, _⟩ := he 0 e e' rfl rfl
    unfold findK at h ⊢
    split at h
    · rename_i hq
      rw [keyEq_VR hk h1 hq]
      simp only [Option.some.injEq] at h
      subst h
      exact ⟨_, rfl, .inr ⟨i, e.val, e'.val, rfl, rfl, h2⟩⟩
    · rename_i hq
      rw [keyEq_VR hk h1 hq]
      exact findK_ER hk (by simpa using hl) (fun j x y hx hy => he (j + 1) x y (by simpa using hx) (by simpa using hy)) h
    · cases h

theorem findK_run {key : KeyK} {kt : TypeId} (hk : keyKind P kt = some key) {k : Value} {es : List MapEntry} {r : Option (Nat × Value)} (h : findK key k es 0 = some r) (w : World) : (Instr.findKey kt k es).run P w = .ok r w := by
  have hki := keyKind_inv hk
  cases key with
  | one kd =>
    have now : ∀ d, P.underlying kt = some d → (∀ x y b, eqOne kd x y = some b → Instr.sameNow d x y = some b) → (Instr.findKey kt k es).run P w = .ok r w := by
      intro d hu hsame
      have : ∀ (l : List MapEntry) (i : Nat) r, findK (.one kd) k l i = some r → Instr.findNow d k l i = some r := by
        intro l
        induction l with
        | nil => intro i r h; simpa [findK, Instr.findNow] using h
        | cons e l ih =>
          intro i r h
          unfold findK at h
          unfold Instr.findNow
          split at h
          · rename_i hq; rw [hsame _ _ _ hq]; exact h
          · rename_i hq; rw [hsame _ _ _ hq]; exact ih _ _ h
          · cases h
      simp [Instr.findKey, run_underlying hu, this es 0 r h]
    rcases hki with ⟨rfl, hu⟩ | ⟨rfl, ik, hu⟩ | ⟨rfl, hu⟩
    · refine now _ hu fun x y b he => ?_
      unfold eqOne at he
      split at he <;> simp_all [Instr.sameNow]
    · refine now _ hu fun x y b he => ?_
      unfold eqOne at he
      split at he <;> simp_all [Instr.sameNow]
    · refine now _ hu fun x y b he => ?_
      unfold eqOne at he
      split at he <;> simp_all [Instr.sameNow, beq_toListBytes]
  | flat offs =>
    obtain ⟨⟨fs, hu⟩, hsc⟩ := hki
    have ask : ∀ (l : List MapEntry) (i : Nat) r, findK (.flat offs) k l i = some r → (Instr.findAsking kt k l i).run P w = .ok r w := by
      intro l
      induction l with
      | nil => intro i r h; simp only [findK, Option.some.injEq] at h; subst h; simp [Instr.findAsking]
      | cons e l ih =>
        intro i r h
        have eq : ∀ b, keyEq (.flat offs) k e.key = some b → (Op.equal kt k e.key).run P w = .ok b w := fun b hb => by
          unfold keyEq at hb
          split at hb
          · cases ‹KeyK.flat _ = KeyK.one _›
          · rename_i offs' xs ys heq hx hy
            simp only [KeyK.flat.injEq] at heq
            subst heq
            split at hb
            · rw [hx]; exact run_equal_flat hu hsc hb w
            · cases hb
          · cases hb
        unfold findK at h
        unfold Instr.findAsking
        split at h
        · rename_i hq
          simp only [Option.some.injEq] at h
          subst h
          simp [eq _ hq]
        · rename_i hq
          simp [eq _ hq, ih _ _ h]
        · cases h
    cases es with
    | nil => simp only [findK, Option.some.injEq] at h; subst h; simp [Instr.findKey, run_underlying hu, Instr.findNow]
    | cons e l =>
      have : Instr.findNow (.struct fs) k (e :: l) 0 = none := by
        unfold Instr.findNow
        simp [Instr.sameNow]
      simp [Instr.findKey, run_underlying hu, this, ask (e :: l) 0 r h]

theorem sameBits_of {key : KeyK} {x y : Value} (hok : keyOK key x = true) (h : keyEq key x y = some true) : Instr.sameBits 10000 y x = true ∧ Instr.sameBits 10000 x y = true := by
  have one : ∀ (n kd : Nat) (u v : Value), eqOne kd u v = some true → Instr.sameBits n u v = true ∧ Instr.sameBits n v u = true := by
    intro n kd u v h
    unfold eqOne at h
    split at h
    · simp only [Option.some.injEq, beq_iff_eq] at h; subst h; cases n <;> simp [Instr.sameBits]
    · split at h
      · rename_i hk; simp only [Option.some.injEq, beq_iff_eq] at h; subst h; subst hk; cases n <;> simp [Instr.sameBits]
      · cases h
    · rename_i s t
      simp only [Option.some.injEq, beq_iff_eq] at h
      have e1 : (s == t) = true := by rw [beq_toListBytes s t, h]; simp
      have e2 : (t == s) = true := by rw [beq_toListBytes t s, h]; simp
      cases n <;> simp [Instr.sameBits, e1, e2]
    · cases h
  unfold keyEq at h
  split at h
  · have := one 10000 _ _ _ h; exact ⟨this.2, this.1⟩
  · rename_i offs xs ys
    split at h
    · rename_i hs
      unfold keyOK at hok
      simp only [Bool.and_eq_true, beq_iff_eq] at hok
      have all : ∀ (l : List (Nat × Nat)), eqFlat xs ys l = some true → ∀ i, i ∈ l.map (·.1) → ∃ u v kd, xs[i]? = some u ∧ ys[i]? = some v ∧ eqOne kd u v = some true := by
        intro l
        induction l with
        | nil => intro _ i hi; simp at hi
        | cons p l ih =>
          intro hq i hi
          obtain ⟨off, kd⟩ := p
          unfold eqFlat at hq
          split at hq
          · rename_i u v h1 h2
            split at hq
            · rename_i he
              rw [List.map_cons, List.mem_cons] at hi
              rcases hi with rfl | hi
              · exact ⟨u, v, kd, h1, h2, he⟩
              · exact ih hq i hi
            · cases hq
            · cases hq
          · cases hq
      have hall := all offs h
      rw [hok.2] at hall
      have pair : ∀ (n : Nat) i (h1 : i < xs.size) (h2 : i < ys.size), Instr.sameBits n xs[i] ys[i] = true ∧ Instr.sameBits n ys[i] xs[i] = true := fun n i h1 h2 => by
        obtain ⟨u, v, kd, hu, hv, he⟩ := hall i (List.mem_range.2 h1)
        rw [Array.getElem?_eq_getElem h1] at hu
        rw [Array.getElem?_eq_getElem h2] at hv
        obtain rfl : xs[i] = u := by simpa using hu
        obtain rfl : ys[i] = v := by simpa using hv
        exact one n kd _ _ he
      constructor
      · show (ys.size == xs.size && (ys.toList.zip xs.toList).all fun (x, y) => Instr.sameBits 9999 x y) = true
        rw [Bool.and_eq_true]
        refine ⟨by simp [hs], ?_⟩
        rw [List.all_eq_true]
        rintro ⟨u, v⟩ hm
        obtain ⟨i, hi, he⟩ := List.getElem_of_mem hm
        simp only [List.length_zip, Array.length_toList] at hi
        rw [List.getElem_zip] at he
        simp only [Prod.mk.injEq, Array.getElem_toList] at he
        rw [← he.1, ← he.2]
        exact (pair 9999 i (by omega) (by omega)).2
      · show (xs.size == ys.size && (xs.toList.zip ys.toList).all fun (x, y) => Instr.sameBits 9999 x y) = true
        rw [Bool.and_eq_true]
        refine ⟨by simp [hs], ?_⟩
        rw [List.all_eq_true]
        rintro ⟨u, v⟩ hm
        obtain ⟨i, hi, he⟩ := List.getElem_of_mem hm
        simp only [List.length_zip, Array.length_toList] at hi
        rw [List.getElem_zip] at he
        simp only [Prod.mk.injEq, Array.getElem_toList] at he
        rw [← he.1, ← he.2]
        exact (pair 9999 i (by omega) (by omega)).1
    · cases h
  · cases h

theorem ERs.list {es es' : Array MapEntry} (h : ERs ρ es es') : es.toList.length = es'.toList.length ∧ ∀ (j : Nat) x y, es.toList[j]? = some x → es'.toList[j]? = some y → ER ρ x y := by
  refine ⟨by simpa using h.1, fun j x y hx hy => ?_⟩
  rw [Array.getElem?_toList] at hx hy
  obtain ⟨z, hz, hr⟩ := h.2 j x hx
  rw [hy] at hz
  obtain rfl : y = z := by simpa using hz
  exact hr

theorem s_lenMap {c : Call} {t kt e : TypeId} {x : Operand} (ho : o.op = .call c) (hc : c.callee = .builtin .len) (ha : c.args.toList = [x]) (ht : c.argTypes.toList = [t]) (hu : P.underlying t = some (.map kt e)) (hx : okOpd x = true)
    (hE : EnvR ρ env a.tmps) (hR : Rel P ρ H.get w) (hD : Dom ρ H.next) (hs : aStep env H (.lenMap x) = some res) : StepR P ρ H w o a res := by
  have h1 := hE.eval hx
  generalize hxx : a.eval x = xv at h1
  obtain ⟨bcs, hbi⟩ := run_builtin (P := P) (a := a) ho hc w
  simp only [aStep] at hs
  split at hs
  · rename_i hx'
    simp only [Option.some.injEq] at hs
    subst hs
    rw [hx'] at h1; cases h1
    refine .pure hR hD (v' := goInt 0) ?_ (.int _ _)
    rw [hbi, args1 ha, types1 ht, hxx]
    simp [builtin, Builtin.len_, run_underlying hu]
  · simp only [Option.map_eq_some_iff] at hs
    obtain ⟨⟨es, clock⟩, hm, rfl⟩ := hs
    obtain ⟨b, l, es', _, _, _, rfl, hg, her⟩ := mapAt_sound hR h1 hm
    refine .pure hR hD (v' := goInt es'.size) ?_ (by rw [her.1]; exact .int _ _)
    rw [hbi, args1 ha, types1 ht, hxx]
    simp [builtin, Builtin.len_, run_underlying hu, run_getObj hg]

theorem s_lookup {t kt e : TypeId} {key : KeyK} {i : TypeInfo} {z : Value} {ok : Bool} {m k : Operand} (ho : o.op = .lookup t m k ok) (hu : P.underlying t = some (.map kt e)) (hk : keyKind P kt = some key) (hi : P.info? e = some i) (hz : i.zero = some z) (hpz : plain z = true)
    (hm : okOpd m = true) (hkk : okOpd k = true) (hE : EnvR ρ env a.tmps) (hR : Rel P ρ H.get w) (hD : Dom ρ H.next) (hs : aStep env H (.lookup key z ok m k) = some res) : StepR P ρ H w o a res := by
  have h1 := hE.eval hm
  have h2 := hE.eval hkk
  generalize hmm : a.eval m = mv at h1
  generalize hkv : a.eval k = kv at h2
  have zr : (zeroValue e).run P w = .ok z w := by simp [zeroValue, typeInfo, hi, hz]
  simp only [aStep] at hs
  split at hs
  · rename_i hok
    have hok' := keyOK_VR h2 hok
    have hck : ∀ b, (Instr.checkKey b 10000 kt kv).run P w = .ok () w := fun b => checkKey_ok hk hok' b w
    have pairVR : ∀ (v v' : Value) (b : Bool), VR ρ v v' → VR ρ (if ok then .tuple #[v, .bool b] else v) (if ok then .tuple #[v', .bool b] else v') := fun v v' b hv => by
      cases ok with
      | false => exact hv
      | true =>
        have := VRs.append (VRs.one hv) (VRs.one (VR.bool (ρ := ρ) b))
        exact .tuple this.1 this.2
    split at hs
    · rename_i hm'
      simp only [Option.some.injEq] at hs
      subst hs
      rw [hm'] at h1; cases h1
      refine .pure hR hD (v' := if ok then .tuple #[z, .bool false] else z) ?_ (pairVR _ _ _ (plain_VR hpz))
      have hf : (Instr.findKey kt kv []).run P w = .ok none w := findK_run hk (by rfl) w
      simp [execOp, ho, hmm, hkv, Instr.lookup, run_underlying hu, hck, hf, zr]
    · split at hs
      · rename_i es clock hma
        obtain ⟨b, l, es', _, _, _, rfl, hg, her⟩ := mapAt_sound hR h1 hma
        split at hs
        · rename_i j v hf
          simp only [Option.some.injEq] at hs
          subst hs
          obtain ⟨hl, he⟩ := ERs.list her
          obtain ⟨r', hf', hr'⟩ := findK_ER h2 hl he hf
          rcases hr' with ⟨h, _⟩ | ⟨j', v0, v', h, rfl, hv⟩
          · cases h
          · simp only [Option.some.injEq, Prod.mk.injEq] at h
            obtain ⟨rfl, rfl⟩ := h
            refine .pure hR hD (v' := if ok then .tuple #[v', .bool true] else v') ?_ (pairVR _ _ _ hv)
            simp [execOp, ho, hmm, hkv, Instr.lookup, run_underlying hu, run_getObj hg, hck, findK_run hk hf' w]
        · rename_i hf
          simp only [Option.some.injEq] at hs
          subst hs
          obtain ⟨hl, he⟩ := ERs.list her
          obtain ⟨r', hf', hr'⟩ := findK_ER h2 hl he hf
          rcases hr' with ⟨_, rfl⟩ | ⟨j', v0, v', h, _⟩
          · refine .pure hR hD (v' := if ok then .tuple #[z, .bool false] else z) ?_ (pairVR _ _ _ (plain_VR hpz))
            simp [execOp, ho, hmm, hkv, Instr.lookup, run_underlying hu, run_getObj hg, hck, findK_run hk hf' w, zr]
          · cases h
        · cases hs
      · cases hs
  · cases hs

theorem findK_at {key : KeyK} {k : Value} : ∀ {es : List MapEntry} {i j : Nat} {v : Value}, findK key k es i = some (some (j, v)) → i ≤ j ∧ ∃ e, es[j - i]? = some e ∧ keyEq key k e.key = some true ∧ e.val = v
  | [], i, j, v, h => by simp [findK] at h
  | e :: es, i, j, v, h => by
    unfold findK at h
    split at h
    · rename_i hq
      simp only [Option.some.injEq, Prod.mk.injEq] at h
      obtain ⟨rfl, rfl⟩ := h
      exact ⟨Nat.le_refl _, e, by simp, hq, rfl⟩
    · obtain ⟨hle, e', he, h1, h2⟩ := findK_at h
      refine ⟨by omega, e', ?_, h1, h2⟩
      rw [show j - i = (j - (i + 1)) + 1 by omega]
      simpa using he
    · cases h

theorem s_update {t kt e : TypeId} {key : KeyK} {m k v : Operand} (ho : o.op = .mapUpdate t m k v ∨ o.op = .insert t m k v) (hu : P.underlying t = some (.map kt e)) (hk : keyKind P kt = some key)
    (hm : okOpd m = true) (hkk : okOpd k = true) (hv : okOpd v = true) (hE : EnvR ρ env a.tmps) (hR : Rel P ρ H.get w) (hD : Dom ρ H.next) (hs : aStep env H (.update key m k v) = some res) : StepR P ρ H w o a res := by
  have h1 := hE.eval hm
  have h2 := hE.eval hkk
  have h3 := hE.eval hv
  generalize hmm : a.eval m = mv at h1
  generalize hkv : a.eval k = kv at h2
  generalize hvv : a.eval v = vv at h3
  have hex : execOp a.eval o = (do Instr.mapUpdate t mv kv vv; Pure.pure .skip) := by
    rcases ho with ho | ho <;> simp [execOp, ho, hmm, hkv, hvv]
  simp only [aStep] at hs
  split at hs
  · rename_i hc
    simp only [Bool.and_eq_true] at hc
    have hok' := keyOK_VR h2 hc.1
    have hck : ∀ b, (Instr.checkKey b 10000 kt kv).run P w = .ok () w := fun b => checkKey_ok hk hok' b w
    split at hs
    · rename_i r hm'
      rw [hm'] at h1
      split at hs
      · rename_i es clock hma
        obtain ⟨b, l, es', hmb, hb, hH, rfl, hg, her⟩ := mapAt_sound hR h1 hma
        simp only [Value.map.injEq, Option.some.injEq] at hmb
        subst hmb
        obtain ⟨hl, he⟩ := ERs.list her
        split at hs
        · rename_i j v0 hf
          simp only [Option.some.injEq] at hs
          subst hs
          obtain ⟨r', hf', hr'⟩ := findK_ER h2 hl he hf
          rcases hr' with ⟨h, _⟩ | ⟨j', v0', v', h, rfl, hvr⟩
          · cases h
          · simp only [Option.some.injEq, Prod.mk.injEq] at h
            obtain ⟨rfl, rfl⟩ := h
            obtain ⟨_, e0, he0, hq0, _⟩ := findK_at hf'
            simp only [Nat.sub_zero, Array.getElem?_toList] at he0
            have hsb := (sameBits_of hok' hq0).1
            refine .unit (ρ' := ρ) (w' := { w with heap := w.heap.setIfInBounds l.blk (.map (es'.modify j fun e => { e with key := kv, val := vv }) clock) }) ?_ ?_
            · rw [hex]
              simp [Instr.mapUpdate, run_underlying hu, run_getObj hg, hck, findK_run hk hf' w, he0, Instr.keyThatStays, hsb, run_setObj hg]
            · refine Post.set hR hD hb (by rw [hH]; rfl) (Turned.setObj w _ _) ⟨_, get_setObj hg _, by simpa using her.1, fun i x hx => ?_⟩
              rw [Array.getElem?_modify] at hx ⊢
              by_cases hij : j = i
              · subst hij
                rw [if_pos rfl] at hx ⊢
                simp only [Option.map_eq_some_iff] at hx
                obtain ⟨x0, hx0, rfl⟩ := hx
                obtain ⟨y0, hy0, hr0⟩ := her.2 j x0 hx0
                exact ⟨{ y0 with key := kv, val := vv }, by rw [hy0]; rfl, h2, h3, hr0.2.2⟩
              · rw [if_neg hij] at hx ⊢
                obtain ⟨y0, hy0, hr0⟩ := her.2 i x hx
                exact ⟨y0, hy0, hr0.1, hr0.2.1, hr0.2.2⟩
        · rename_i hf
          simp only [Option.some.injEq] at hs
          subst hs
          obtain ⟨r', hf', hr'⟩ := findK_ER h2 hl he hf
          rcases hr' with ⟨_, rfl⟩ | ⟨j', v0', v', h, _⟩
          · refine .unit (ρ' := ρ) (w' := { w with heap := w.heap.setIfInBounds l.blk (.map (es'.push { key := kv, val := vv, born := clock }) (clock + 1)) }) ?_ ?_
            · rw [hex]
              simp [Instr.mapUpdate, run_underlying hu, run_getObj hg, hck, findK_run hk hf' w, run_setObj hg]
            · refine Post.set hR hD hb (by rw [hH]; rfl) (Turned.setObj w _ _) ⟨_, get_setObj hg _, by simp [her.1], fun i x hx => ?_⟩
              rw [Array.getElem?_push] at hx ⊢
              rw [← her.1]
              split at hx
              · rename_i hi
                rw [if_pos hi]
                simp only [Option.some.injEq] at hx
                subst hx
                exact ⟨_, rfl, h2, h3, rfl⟩
              · rename_i hi
                rw [if_neg hi]
                obtain ⟨y0, hy0, hr0⟩ := her.2 i x hx
                exact ⟨y0, hy0, hr0.1, hr0.2.1, hr0.2.2⟩
          · cases h
        · cases hs
      · cases hs
    · cases hs
  · cases hs

theorem s_delete {c : Call} {t t2 kt e : TypeId} {key : KeyK} {m k : Operand} (ho : o.op = .call c) (hc : c.callee = .builtin .delete) (ha : c.args.toList = [m, k]) (ht : c.argTypes.toList = [t, t2]) (hu : P.underlying t = some (.map kt e)) (hk : keyKind P kt = some key)
    (hm : okOpd m = true) (hkk : okOpd k = true) (hE : EnvR ρ env a.tmps) (hR : Rel P ρ H.get w) (hD : Dom ρ H.next) (hs : aStep env H (.delete key m k) = some res) : StepR P ρ H w o a res := by
  have h1 := hE.eval hm
  have h2 := hE.eval hkk
  generalize hmm : a.eval m = mv at h1
  generalize hkv : a.eval k = kv at h2
  obtain ⟨bcs, hbi⟩ := run_builtin (P := P) (a := a) ho hc w
  rw [args2 ha, types2 ht, hmm, hkv] at hbi
  simp only [aStep] at hs
  split at hs
  · rename_i hok
    have hok' := keyOK_VR h2 hok
    have hck : ∀ b, (Instr.checkKey b 10000 kt kv).run P w = .ok () w := fun b => checkKey_ok hk hok' b w
    split at hs
    · rename_i hm'
      simp only [Option.some.injEq] at hs
      subst hs
      rw [hm'] at h1; cases h1
      refine .pure hR hD (v' := .tuple #[]) ?_ (.undef _)
      rw [hbi]
      simp [builtin, Builtin.delete_, run_underlying hu, hck]
    · rename_i r hm'
      rw [hm'] at h1
      split at hs
      · rename_i es clock hma
        obtain ⟨b, l, es', hmb, hb, hH, rfl, hg, her⟩ := mapAt_sound hR h1 hma
        simp only [Value.map.injEq, Option.some.injEq] at hmb
        subst hmb
        obtain ⟨hl, he⟩ := ERs.list her
        split at hs
        · rename_i j v0 hf
          simp only [Option.some.injEq] at hs
          subst hs
          obtain ⟨r', hf', hr'⟩ := findK_ER h2 hl he hf
          rcases hr' with ⟨h, _⟩ | ⟨j', v0', v', h, rfl, hvr⟩
          · cases h
          · simp only [Option.some.injEq, Prod.mk.injEq] at h
            obtain ⟨rfl, rfl⟩ := h
            refine .val (ρ' := ρ) (v' := .tuple #[]) (w' := { w with heap := w.heap.setIfInBounds l.blk (.map (es'.eraseIdxIfInBounds j) clock) }) ?_ (.undef _) ?_
            · rw [hbi]
              simp [builtin, Builtin.delete_, run_underlying hu, run_getObj hg, hck, findK_run hk hf' w, run_setObj hg]
            · have hsz : (es.eraseIdxIfInBounds j).size = (es'.eraseIdxIfInBounds j).size := by
                have sz : ∀ zs : Array MapEntry, (zs.eraseIdxIfInBounds j).size = if j < zs.size then zs.size - 1 else zs.size := fun zs => by
                  unfold Array.eraseIdxIfInBounds
                  split
                  · rw [Array.size_eraseIdx]
                  · rfl
                rw [sz, sz, her.1]
              refine Post.set hR hD hb (by rw [hH]; rfl) (Turned.setObj w _ _) ⟨_, get_setObj hg _, hsz, fun i x hx => ?_⟩
              have key : ∀ (zs : Array MapEntry), (zs.eraseIdxIfInBounds j)[i]? = if j < zs.size then (if i < j then zs[i]? else zs[i + 1]?) else zs[i]? := fun zs => by
                unfold Array.eraseIdxIfInBounds
                split
                · rw [Array.getElem?_eraseIdx]
                · rfl
              rw [key] at hx ⊢
              rw [← her.1]
              have fin : ∀ (q : Nat), es[q]? = some x → ∃ y : MapEntry, es'[q]? = some y ∧ VR ρ x.key y.key ∧ VR ρ x.val y.val ∧ x.born = y.born := fun q hq => by
                obtain ⟨y0, hy0, hr0⟩ := her.2 q x hq
                exact ⟨y0, hy0, hr0.1, hr0.2.1, hr0.2.2⟩
              split at hx
              · rename_i h1'
                rw [if_pos h1']
                split at hx
                · rename_i h2'; rw [if_pos h2']; exact fin _ hx
                · rename_i h2'; rw [if_neg h2']; exact fin _ hx
              · rename_i h1'; rw [if_neg h1']; exact fin _ hx
        · rename_i hf
          simp only [Option.some.injEq] at hs
          subst hs
          obtain ⟨r', hf', hr'⟩ := findK_ER h2 hl he hf
          rcases hr' with ⟨_, rfl⟩ | ⟨j', v0', v', h, _⟩
          · refine .pure hR hD (v' := .tuple #[]) ?_ (.undef _)
            rw [hbi]
            simp [builtin, Builtin.delete_, run_underlying hu, run_getObj hg, hck, findK_run hk hf' w, run_setObj hg, setObj_same hg]
          · cases h
        · cases hs
      · cases hs
    · cases hs
  · cases hs

theorem s_clearMap {c : Call} {t kt e : TypeId} {m : Operand} (ho : o.op = .call c) (hc : c.callee = .builtin .clear) (ha : c.args.toList = [m]) (ht : c.argTypes.toList = [t]) (hu : P.underlying t = some (.map kt e))
    (hm : okOpd m = true) (hE : EnvR ρ env a.tmps) (hR : Rel P ρ H.get w) (hD : Dom ρ H.next) (hs : aStep env H (.clearMap m) = some res) : StepR P ρ H w o a res := by
  have h1 := hE.eval hm
  generalize hmm : a.eval m = mv at h1
  obtain ⟨bcs, hbi⟩ := run_builtin (P := P) (a := a) ho hc w
  rw [args1 ha, types1 ht, hmm] at hbi
  simp only [aStep] at hs
  split at hs
  · rename_i hm'
    simp only [Option.some.injEq] at hs
    subst hs
    rw [hm'] at h1; cases h1
    refine .pure hR hD (v' := .tuple #[]) ?_ (.undef _)
    rw [hbi]
    simp [builtin, Builtin.clear_, run_underlying hu]
  · rename_i r hm'
    rw [hm'] at h1
    split at hs
    · rename_i es clock hma
      obtain ⟨b, l, es', hmb, hb, hH, rfl, hg, her⟩ := mapAt_sound hR h1 hma
      simp only [Value.map.injEq, Option.some.injEq] at hmb
      subst hmb
      simp only [Option.some.injEq] at hs
      subst hs
      refine .val (ρ' := ρ) (v' := .tuple #[]) (w' := { w with heap := w.heap.setIfInBounds l.blk (.map #[] clock) }) ?_ (.undef _) ?_
      · rw [hbi]
        simp [builtin, Builtin.clear_, run_underlying hu, run_getObj hg, run_setObj hg]
      · exact Post.set hR hD hb (by rw [hH]; rfl) (Turned.setObj w _ _) ⟨_, get_setObj hg _, rfl, fun i x hx => by simp at hx⟩
    · cases hs
  · cases hs

theorem s_clearSl {c : Call} {t e : TypeId} {s b : Nat} {z : Array Value} {x : Operand} (ho : o.op = .call c) (hc : c.callee = .builtin .clear) (ha : c.args.toList = [x]) (ht : c.argTypes.toList = [t]) (hu : P.underlying t = some (.slice e))
    (hz : sizes P e = some (s, b, z)) (hs0 : s ≠ 0) (hx : okOpd x = true) (hE : EnvR ρ env a.tmps) (hR : Rel P ρ H.get w) (hD : Dom ρ H.next) (hs : aStep env H (.clearSl z x) = some res) : StepR P ρ H w o a res := by
  obtain ⟨i, zv, hi, hzv, hp, rfl, hzs, rfl, rfl⟩ := info_of_sizes hz
  have hz0 : 0 < zv.cells.size := by omega
  have zr : (zeroValue e).run P w = .ok zv w := by simp [zeroValue, typeInfo, hi, hzv]
  have h1 := hE.eval hx
  generalize hxx : a.eval x = xv at h1
  obtain ⟨bcs, hbi⟩ := run_builtin (P := P) (a := a) ho hc w
  rw [args1 ha, types1 ht, hxx] at hbi
  simp only [aStep] at hs
  split at hs
  · rename_i ad cp hx'
    simp only [Option.some.injEq] at hs
    subst hs
    rw [hx'] at h1
    cases h1 with
    | sliceN => exact .pure hR hD (v' := .tuple #[]) (by rw [hbi]; simp [builtin, Builtin.clear_, run_underlying hu]) (.undef _)
    | slice0 => exact .pure hR hD (v' := .tuple #[]) (by rw [hbi]; simp [builtin, Builtin.clear_, run_underlying hu]) (.undef _)
    | slice _ hn => exact absurd rfl hn
  · rename_i ad n cp hne hx'
    simp only [Option.map_eq_some_iff] at hs
    obtain ⟨H', hw, rfl⟩ := hs
    rw [hx'] at h1
    cases h1 with
    | slice0 => exact absurd rfl hne
    | slice hb hn =>
      obtain ⟨r, off, w', hp', hst, hpost⟩ := wr_sound hR hD (.ptr hb) (zeros_VR hz0 (plain_VRs (ρ := ρ) hp) n) hw
      rw [zeros_eq _ hz0] at hst
      refine .val (ρ' := ρ) (v' := .tuple #[]) (w' := w') ?_ (.undef _) hpost
      rw [hbi]
      simp only [Value.pointer.injEq, Option.some.injEq] at hp'
      rw [hp']
      cases n with
      | zero => exact absurd rfl hn
      | succ n =>
        have hst' : (storeCells ⟨r, off, none⟩ (Builtin.zeroCells zv.cells (n + 1)).toList).run P w = .ok () w' := hst
        simp [builtin, Builtin.clear_, run_underlying hu, zr, hst']
  · cases hs

theorem run_newObj (w : World) (ob : Obj) : (newObj ob).run P w = .ok w.heap.size (w.alloc ob) := rfl
theorem s_rangeMap {t kt e : TypeId} {x : Operand} (ho : o.op = .range t x) (hu : P.underlying t = some (.map kt e)) (hx : okOpd x = true) (hE : EnvR ρ env a.tmps) (hR : Rel P ρ H.get w) (hD : Dom ρ H.next)
    (hs : aStep env H (.rangeMap x) = some res) : StepR P ρ H w o a res := by
  have h1 := hE.eval hx
  generalize hxx : a.eval x = xv at h1
  simp only [aStep] at hs
  split at hs
  · rename_i m hm'
    rw [hm'] at h1
    have fin : ∀ (m' : Option Nat) (s c : Nat), VR ρ (.map m) (.map m') → (Instr.range t (.map m')).run P w = .ok (.pointer (some ⟨w.heap.size, 0, none⟩)) (w.alloc (.mapIter m' s #[] c)) → xv = .map m' →
        StepR P ρ H w o a (.val (.pointer (some ⟨H.next, 0, none⟩)) (H.push (.iter m s #[] c))) := by
      intro m' s c hv hrun hxv
      refine .val (ρ' := ρ.add H.next ⟨w.heap.size, 0, 0, 0⟩) (v' := .pointer (some ⟨w.heap.size, 0, none⟩)) (w' := w.alloc (.mapIter m' s #[] c)) ?_ ?_ ?_
      · subst hxv
        simp only [execOp, ho, hxx, Sem.run_bind, hrun, Result.andThen_ok, Sem.run_pure]
      · exact .ptr (Ren.add_new ρ H.next _)
      · exact Post.push hR hD (Grew.alloc w _) rfl ⟨m', (Grew.alloc w _).new, rfl, hv.ext (Ren.add_ext hD)⟩
    split at hs
    · simp only [Option.some.injEq] at hs
      subst hs
      cases h1
      exact fin none 0 0 .mapN (by simp [Instr.range, run_underlying hu, run_newObj]) rfl
    · rename_i r
      split at hs
      · rename_i es clock hma
        simp only [Option.some.injEq] at hs
        subst hs
        obtain ⟨b, l, es', hmb, hb, hH, rfl, hg, her⟩ := mapAt_sound hR h1 hma
        exact fin (some l.blk) clock clock h1 (by simp [Instr.range, run_underlying hu, run_getObj hg, run_newObj]) rfl
      · cases hs
  · cases hs

/-- Entries, one by one, as lists. -/
def ERl (ρ : Ren) : List MapEntry → List MapEntry → Prop
  | [], [] => True
  | x :: r, y :: t => ER ρ x y ∧ ERl ρ r t
  | _, _ => False
theorem ERl.of : ∀ {xs ys : List MapEntry}, xs.length = ys.length → (∀ (i : Nat) (x : MapEntry), xs[i]? = some x → ∃ y : MapEntry, ys[i]? = some y ∧ ER ρ x y) → ERl ρ xs ys
  | [], [], _, _ => trivial
  | x :: r, y :: t, hl, h => by
    refine ⟨?_, ERl.of (by simpa using hl) fun i z hz => ?_⟩
    · obtain ⟨y', hy, hr⟩ := h 0 x rfl
      simp only [List.getElem?_cons_zero, Option.some.injEq] at hy
      exact hy ▸ hr
    · obtain ⟨y', hy, hr⟩ := h (i + 1) z (by simpa using hz)
      exact ⟨y', by simpa using hy, hr⟩
  | [], _ :: _, hl, _ => by simp at hl
  | _ :: _, [], hl, _ => by simp at hl
theorem ERs.toL {xs ys : Array MapEntry} (h : ERs ρ xs ys) : ERl ρ xs.toList ys.toList := ERl.of (by simpa using h.1) fun i x hx => by
  obtain ⟨y, hy, hr⟩ := h.2 i x (by simpa using hx)
  exact ⟨y, by simpa using hy, hr⟩
theorem ERl.filter (p : Nat → Bool) : ∀ {xs ys : List MapEntry}, ERl ρ xs ys → ERl ρ (xs.filter fun e => p e.born) (ys.filter fun e => p e.born)
  | [], [], _ => trivial
  | x :: r, y :: t, h => by
    have ih := ERl.filter p h.2
    have hb : x.born = y.born := h.1.2.2
    simp only [List.filter_cons, hb]
    split
    · exact ⟨h.1, ih⟩
    · exact ih
theorem ERl.all (p : Nat → Bool) : ∀ {xs ys : List MapEntry}, ERl ρ xs ys → (xs.all fun e => p e.born) = ys.all fun e => p e.born
  | [], [], _ => rfl
  | x :: r, y :: t, h => by
    have hb : x.born = y.born := h.1.2.2
    simp only [List.all_cons, hb, ERl.all p h.2]
theorem ERl.isEmpty : ∀ {xs ys : List MapEntry}, ERl ρ xs ys → xs.isEmpty = ys.isEmpty
  | [], [], _ => rfl
  | _ :: _, _ :: _, _ => rfl
theorem ERl.find (p : Nat → Bool) : ∀ {xs ys : List MapEntry}, ERl ρ xs ys → ∀ {e : MapEntry}, (xs.find? fun e => p e.born) = some e → ∃ e', (ys.find? fun e => p e.born) = some e' ∧ ER ρ e e'
  | [], [], _, e, h => by simp at h
  | x :: r, y :: t, hr, e, h => by
    have hb : x.born = y.born := hr.1.2.2
    simp only [List.find?_cons, hb] at h ⊢
    split at h
    · rename_i hp
      simp only [Option.some.injEq] at h
      subst h
      exact ⟨y, rfl, hr.1⟩
    · exact ERl.find p hr.2 h

theorem VRs.three {x y z x' y' z' : Value} (h1 : VR ρ x x') (h2 : VR ρ y y') (h3 : VR ρ z z') : VRs ρ #[x, y, z] #[x', y', z'] := .mk rfl fun i u v hu hv => by
  have hi : i < 3 := by simpa using (Array.getElem?_eq_some_iff.1 hu).1
  match i, hi with
  | 0, _ => simp at hu hv; exact hu ▸ hv ▸ h1
  | 1, _ => simp at hu hv; exact hu ▸ hv ▸ h2
  | 2, _ => simp at hu hv; exact hu ▸ hv ▸ h3
theorem VRs.two {x y x' y' : Value} (h1 : VR ρ x x') (h2 : VR ρ y y') : VRs ρ #[x, y] #[x', y'] := .mk rfl fun i u v hu hv => by
  have hi : i < 2 := by simpa using (Array.getElem?_eq_some_iff.1 hu).1
  match i, hi with
  | 0, _ => simp at hu hv; exact hu ▸ hv ▸ h1
  | 1, _ => simp at hu hv; exact hu ▸ hv ▸ h2

theorem filter_toList (p : MapEntry → Bool) (xs : Array MapEntry) : xs.filter p = (xs.toList.filter p).toArray := by
  apply Array.ext'
  simp

theorem run_setIter {r : Nat} {m : Option Nat} {s c : Nat} {seen : Array Nat} (h : w.heap[r]? = some (.mapIter m s seen c)) (ob : Obj) : (setObj r ob).run P w = .ok () { w with heap := w.heap.setIfInBounds r ob } := by
  simp [setObj, Sem.run, h]

theorem s_nextMap {x : Operand} (ho : o.op = .next x false) (hx : okOpd x = true) (hE : EnvR ρ env a.tmps) (hR : Rel P ρ H.get w) (hD : Dom ρ H.next)
    (hs : aStep env H (.nextMap x) = some res) : StepR P ρ H w o a res := by
  have h1 := hE.eval hx
  generalize hxx : a.eval x = xv at h1
  simp only [aStep] at hs
  split at hs
  · rename_i b hm'
    rw [hm'] at h1
    cases h1 with
    | ptr hb =>
      rename_i l
      obtain ⟨k, hk, hbr⟩ := hR.blk b l hb
      split at hs
      · rename_i s0 seen0 c0 hg
        simp only [Option.some.injEq] at hs
        subst hs
        rw [hg] at hk
        simp only [Option.some.injEq] at hk
        subst hk
        obtain ⟨m', hh, h0, hv⟩ := hbr
        cases hv
        refine .pure hR hD (v' := .tuple #[.bool false]) ?_ (.tuple rfl (VRs.one (.bool false)).2)
        have hgo : (getObj l.blk).run P w = .ok (.mapIter none s0 seen0 c0) w := by simp [getObj, Sem.run, hh]
        simp [execOp, ho, hxx, h0, Instr.next, hgo]
      · rename_i r since seen last hg
        split at hs
        · rename_i es clock hma
          rw [hg] at hk
          simp only [Option.some.injEq] at hk
          subst hk
          obtain ⟨m', hh, h0, hv⟩ := hbr
          have hvm := hv
          obtain ⟨b2, l2, es', hmb, hb2, hH, hm2, hg2, her⟩ := mapAt_sound hR hv hma
          simp only [Value.map.injEq] at hm2
          subst hm2
          have hgo : (getObj l.blk).run P w = .ok (.mapIter (some l2.blk) since seen last) w := by simp [getObj, Sem.run, hh]
          have hl := her.toL
          split at hs
          · cases hs
          rename_i hun
          have hun' : (!seen.isEmpty && !es'.isEmpty && es'.all fun e => decide (e.born ≥ last)) = false := by
            have h1 := hl.all (fun n => decide (n ≥ last))
            have h2 := hl.isEmpty
            rw [h1, h2] at hun
            have h3 : es'.toList.isEmpty = es'.isEmpty := by cases es'; simp
            have h4 : (es'.toList.all fun e => decide (e.born ≥ last)) = es'.all fun e => decide (e.born ≥ last) := by simp
            rw [h3, h4] at hun
            simpa using hun
          have hfl := hl.filter (fun n => !seen.contains n)
          split at hs
          · rename_i hf
            simp only [Option.some.injEq] at hs
            subst hs
            rw [hf] at hfl
            have hf' : (es'.filter fun e => !seen.contains e.born) = #[] := by
              rw [filter_toList]
              cases hc : es'.toList.filter fun e => !seen.contains e.born with
              | nil => rfl
              | cons y t => rw [hc] at hfl; cases hfl
            refine .pure hR hD (v' := .tuple #[.bool false]) ?_ (.tuple rfl (VRs.one (.bool false)).2)
            simp only [execOp, ho, hxx, h0, Instr.next, Nat.add_zero, Sem.run_bind, hgo, Result.andThen_ok, run_getObj hg2, hun', Bool.false_eq_true, if_false, hf']
            simp [choose, Sem.run, Question.forced]
          · rename_i e hf
            split at hs
            · rename_i hborn
              simp only [Option.some.injEq] at hs
              subst hs
              rw [hf] at hfl
              obtain ⟨e', hf', hee⟩ : ∃ e', (es'.filter fun e => !seen.contains e.born) = #[e'] ∧ ER ρ e e' := by
                rw [filter_toList]
                cases hc : es'.toList.filter fun e => !seen.contains e.born with
                | nil => rw [hc] at hfl; cases hfl
                | cons y t =>
                  rw [hc] at hfl
                  cases t with
                  | nil => exact ⟨y, rfl, hfl.1⟩
                  | cons z u => exact absurd hfl.2 id
              obtain ⟨hke, hve, hbe⟩ := hee
              refine .val (ρ' := ρ) (v' := .tuple #[.bool true, e'.key, e'.val]) (w' := { w with heap := w.heap.setIfInBounds l.blk (.mapIter (some l2.blk) since (seen.push e'.born) clock) }) ?_ (.tuple rfl (VRs.three (.bool true) hke hve).2) ?_
              · have hb' : e'.born < since := by rw [← hbe]; exact hborn
                have hnl : ¬ since ≤ e'.born := by omega
                simp only [execOp, ho, hxx, h0, Instr.next, Nat.add_zero, Sem.run_bind, hgo, Result.andThen_ok, run_getObj hg2, hun', Bool.false_eq_true, if_false, hf']
                simp [choose, Sem.run, Question.forced, hb', hnl]
                rw [run_setIter hh]
                rfl
              · refine Post.set hR hD hb (by rw [hg]; rfl) (Turned.setObj w _ _) ⟨some l2.blk, ?_, h0, hvm⟩
                rw [hbe]
                exact get_setObj hh _
            · cases hs
          · cases hs
        · cases hs
      · cases hs
  · cases hs

theorem s_entryMap {x : Operand} (ho : o.op = .entry x) (hx : okOpd x = true) (hE : EnvR ρ env a.tmps) (hR : Rel P ρ H.get w) (hD : Dom ρ H.next)
    (hs : aStep env H (.entryMap x) = some res) : StepR P ρ H w o a res := by
  have h1 := hE.eval hx
  generalize hxx : a.eval x = xv at h1
  simp only [aStep] at hs
  split at hs
  · rename_i b hm'
    rw [hm'] at h1
    cases h1 with
    | ptr hb =>
      rename_i l
      obtain ⟨k, hk, hbr⟩ := hR.blk b l hb
      split at hs
      · rename_i r since seen last hg
        split at hs
        · rename_i es clock stamp hma hst
          rw [hg] at hk
          simp only [Option.some.injEq] at hk
          subst hk
          obtain ⟨m', hh, h0, hv⟩ := hbr
          obtain ⟨b2, l2, es', hmb, hb2, hH, hm2, hg2, her⟩ := mapAt_sound hR hv hma
          simp only [Value.map.injEq] at hm2
          subst hm2
          have hgo : (getObj l.blk).run P w = .ok (.mapIter (some l2.blk) since seen last) w := by simp [getObj, Sem.run, hh]
          split at hs
          · rename_i hcl
            subst hcl
            split at hs
            · rename_i e hf
              simp only [Option.some.injEq] at hs
              subst hs
              obtain ⟨e', hf', hke, hve, hbe⟩ := her.toL.find (fun n => n == stamp) hf
              refine .pure hR hD (v' := .tuple #[e'.key, e'.val]) ?_ (.tuple rfl (VRs.two hke hve).2)
              have hfa : es'.find? (fun e => e.born == stamp) = some e' := by rw [← Array.find?_toList]; exact hf'
              simp [execOp, ho, hxx, h0, Instr.entry, hgo, hst, run_getObj hg2, hfa]
            · cases hs
          · cases hs
        · cases hs
      · cases hs
  · cases hs

end
end Go.Aev
