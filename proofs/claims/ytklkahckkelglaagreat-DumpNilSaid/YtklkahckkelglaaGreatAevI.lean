/- Each operation of the abstract evaluator does what the model's operation does: atomic words, append, make, literals, lengths. -/
import Derived.Test.YtklkahckkelglaaGreatAevH
namespace Go.Aev
open Go

section
variable {P : Program} {ρ : Ren} {H : AHeap} {w : World} {o : Oper} {a : Act} {env : Env} {res : Res}

/-- A function without a body that is one of those of sync/atomic. -/
structure IsAtomic (P : Program) (f : FuncId) (fn : Func) : Prop where
  here : P.funcs[f]? = some fn
  name : (fn.name == "runtime.NumGoroutine") = false
  body : fn.body.isNone = true
  next : Extern.findNext fn = none

theorem args1 {c : Call} {x : Operand} (h : c.args.toList = [x]) : c.args.map a.eval = #[a.eval x] := by
  have : c.args = #[x] := by rw [← Array.toArray_toList (xs := c.args), h]
  rw [this]; simp
theorem args2 {c : Call} {x y : Operand} (h : c.args.toList = [x, y]) : c.args.map a.eval = #[a.eval x, a.eval y] := by
  have : c.args = #[x, y] := by rw [← Array.toArray_toList (xs := c.args), h]
  rw [this]; simp
theorem args3 {c : Call} {x y z : Operand} (h : c.args.toList = [x, y, z]) : c.args.map a.eval = #[a.eval x, a.eval y, a.eval z] := by
  have : c.args = #[x, y, z] := by rw [← Array.toArray_toList (xs := c.args), h]
  rw [this]; simp

theorem s_aload {f : FuncId} {fn : Func} {c : Call} {k : IntKind} {x : Operand} (ho : o.op = .call c) (hc : c.callee = .value (.func f)) (hf : IsAtomic P f fn) (he : Extern.find fn = some (Extern.Atomic.loadT (.int k))) (ha : c.args.toList = [x])
    (hx : okOpd x = true) (hE : EnvR ρ env a.tmps) (hR : Rel P ρ H.get w) (hD : Dom ρ H.next) (hs : aStep env H (.aload k x) = some res) : StepR P ρ H w o a res := by
  have h1 := hE.eval hx
  generalize hxx : a.eval x = xv at h1
  simp only [aStep] at hs
  split at hs
  · rename_i k' n hrd
    split at hs
    · rename_i hk
      subst hk
      simp only [Option.some.injEq] at hs
      subst hs
      obtain ⟨r, off, y, rfl, hcell, hvr⟩ := rd_sound hR h1 hrd
      cases hvr
      refine .pure hR hD (v' := .int k n) ?_ (.int _ _)
      rw [run_atomic ho hc, args1 ha, hxx]
      exact run_call_load hf.here hf.name hf.body hf.next k he hcell
    · cases hs
  · cases hs

theorem s_astore {f : FuncId} {fn : Func} {c : Call} {x v : Operand} (ho : o.op = .call c) (hc : c.callee = .value (.func f)) (hf : IsAtomic P f fn) (he : Extern.find fn = some Extern.Atomic.storeT) (ha : c.args.toList = [x, v])
    (hx : okOpd x = true) (hv : okOpd v = true) (hE : EnvR ρ env a.tmps) (hR : Rel P ρ H.get w) (hD : Dom ρ H.next) (hs : aStep env H (.astore x v) = some res) : StepR P ρ H w o a res := by
  have h1 := hE.eval hx
  have h2 := hE.eval hv
  generalize hxx : a.eval x = xv at h1
  generalize hvv : a.eval v = vv at h2
  simp only [aStep] at hs
  split at hs
  · rename_i k n hv'
    rw [hv'] at h2
    cases h2
    simp only [Option.map_eq_some_iff] at hs
    obtain ⟨H', hw, rfl⟩ := hs
    obtain ⟨r, off, rfl, ⟨u, hcell⟩, hfz, hpost⟩ := wr1 hR hD h1 hw
    refine .val (v' := .tuple #[]) ?_ (.undef _) hpost
    rw [run_atomic ho hc, args2 ha, hxx, hvv]
    exact run_call_store hf.here hf.name hf.body hf.next he hcell hfz
  · cases hs

theorem s_acas {f : FuncId} {fn : Func} {c : Call} {k : IntKind} {x y z : Operand} (ho : o.op = .call c) (hc : c.callee = .value (.func f)) (hf : IsAtomic P f fn) (he : Extern.find fn = some (Extern.Atomic.casT (.int k))) (ha : c.args.toList = [x, y, z])
    (hx : okOpd x = true) (hy : okOpd y = true) (hz : okOpd z = true) (hE : EnvR ρ env a.tmps) (hR : Rel P ρ H.get w) (hD : Dom ρ H.next) (hs : aStep env H (.acas k x y z) = some res) : StepR P ρ H w o a res := by
  have h1 := hE.eval hx
  have h2 := hE.eval hy
  have h3 := hE.eval hz
  generalize hxx : a.eval x = xv at h1
  generalize hyy : a.eval y = yv at h2
  generalize hzz : a.eval z = zv at h3
  simp only [aStep] at hs
  split at hs
  · rename_i k' n ko old kn m hrd hy' hz'
    rw [hy'] at h2; rw [hz'] at h3
    cases h2; cases h3
    split at hs
    · rename_i hk
      obtain ⟨rfl, rfl, rfl⟩ := hk
      obtain ⟨r, off, u, rfl, hcell, hvr⟩ := rd_sound hR h1 hrd
      cases hvr
      split at hs
      · rename_i H' hw
        obtain ⟨r', off', hp, _, hfz, hpost⟩ := wr1 hR hD h1 hw
        simp only [Value.pointer.injEq, Option.some.injEq, Addr.mk.injEq, and_true] at hp
        obtain ⟨rfl, rfl⟩ := hp
        split at hs
        · rename_i heq
          simp only [beq_iff_eq] at heq
          subst heq
          simp only [Option.some.injEq] at hs
          subst hs
          refine .val (v' := .bool true) ?_ (.bool _) hpost
          rw [run_atomic ho hc, args3 ha, hxx, hyy, hzz]
          exact run_call_cas_hit hf.here hf.name hf.body hf.next k he hcell hfz
        · rename_i hne
          simp only [beq_iff_eq] at hne
          simp only [Option.some.injEq] at hs
          subst hs
          refine .pure hR hD (v' := .bool false) ?_ (.bool _)
          rw [run_atomic ho hc, args3 ha, hxx, hyy, hzz]
          exact run_call_cas_miss hf.here hf.name hf.body hf.next k he hcell hfz hne
      · cases hs
    · cases hs
  · cases hs

theorem s_aadd {f : FuncId} {fn : Func} {c : Call} {k : IntKind} {x y : Operand} (ho : o.op = .call c) (hc : c.callee = .value (.func f)) (hf : IsAtomic P f fn) (he : Extern.find fn = some (Extern.Atomic.update (Op.intArith .add) k true)) (ha : c.args.toList = [x, y])
    (hx : okOpd x = true) (hy : okOpd y = true) (hE : EnvR ρ env a.tmps) (hR : Rel P ρ H.get w) (hD : Dom ρ H.next) (hs : aStep env H (.aadd k x y) = some res) : StepR P ρ H w o a res := by
  have h1 := hE.eval hx
  have h2 := hE.eval hy
  generalize hxx : a.eval x = xv at h1
  generalize hyy : a.eval y = yv at h2
  simp only [aStep] at hs
  split at hs
  · rename_i k' n k1 m hrd hy'
    rw [hy'] at h2
    cases h2
    split at hs
    · rename_i hk
      obtain ⟨rfl, rfl⟩ := hk
      obtain ⟨r, off, u, rfl, hcell, hvr⟩ := rd_sound hR h1 hrd
      cases hvr
      simp only [Option.map_eq_some_iff] at hs
      obtain ⟨H', hw, rfl⟩ := hs
      obtain ⟨r', off', hp, _, hfz, hpost⟩ := wr1 hR hD h1 hw
      simp only [Value.pointer.injEq, Option.some.injEq, Addr.mk.injEq, and_true] at hp
      obtain ⟨rfl, rfl⟩ := hp
      refine .val (v' := .int k (k.wrap (n + m))) ?_ (.int _ _) hpost
      rw [run_atomic ho hc, args2 ha, hxx, hyy]
      exact run_call_add hf.here hf.name hf.body hf.next k he hcell hfz (by simp [Op.intArith])
    · cases hs
  · cases hs

theorem run_builtin {b : Builtin} {c : Call} (ho : o.op = .call c) (hc : c.callee = .builtin b) (w : World) :
    ∃ cs, (execOp a.eval o).run P w = (builtin b c.argTypes o.type cs (c.args.map a.eval)).run P w := by
  simp only [execOp, ho, resolve, hc, invoke, Sem.run_bind, Sem.run_pure, Result.andThen_ok]
  exact ⟨_, rfl⟩

theorem types1 {c : Call} {t : TypeId} (h : c.argTypes.toList = [t]) : c.argTypes = #[t] := by rw [← Array.toArray_toList (xs := c.argTypes), h]
theorem types2 {c : Call} {t u : TypeId} (h : c.argTypes.toList = [t, u]) : c.argTypes = #[t, u] := by rw [← Array.toArray_toList (xs := c.argTypes), h]

theorem s_lenStr {c : Call} {t : TypeId} {x : Operand} (ho : o.op = .call c) (hc : c.callee = .builtin .len) (ha : c.args.toList = [x]) (ht : c.argTypes.toList = [t]) (hu : P.underlying t = some .string) (hx : okOpd x = true)
    (hE : EnvR ρ env a.tmps) (hR : Rel P ρ H.get w) (hD : Dom ρ H.next) (hs : aStep env H (.lenStr x) = some res) : StepR P ρ H w o a res := by
  have h1 := hE.eval hx
  generalize hxx : a.eval x = xv at h1
  simp only [aStep] at hs
  split at hs
  · rename_i s hx'
    simp only [Option.some.injEq] at hs
    subst hs
    rw [hx'] at h1; cases h1
    refine .pure hR hD (v' := goInt s.size) ?_ (.int _ _)
    obtain ⟨bcs, hbi⟩ := run_builtin (P := P) (a := a) ho hc w
    rw [hbi, args1 ha, types1 ht, hxx]
    simp [builtin, Builtin.len_, run_underlying hu]
  · cases hs
theorem s_lenSl {c : Call} {t e : TypeId} {x : Operand} (ho : o.op = .call c) (hc : c.callee = .builtin .len) (ha : c.args.toList = [x]) (ht : c.argTypes.toList = [t]) (hu : P.underlying t = some (.slice e)) (hx : okOpd x = true)
    (hE : EnvR ρ env a.tmps) (hR : Rel P ρ H.get w) (hD : Dom ρ H.next) (hs : aStep env H (.lenSl x) = some res) : StepR P ρ H w o a res := by
  have h1 := hE.eval hx
  generalize hxx : a.eval x = xv at h1
  simp only [aStep] at hs
  split at hs
  · rename_i ad n c' hx'
    simp only [Option.some.injEq] at hs
    subst hs
    rw [hx'] at h1
    obtain ⟨ad', cc, rfl, _⟩ := slice_inv h1
    refine .pure hR hD (v' := goInt n) ?_ (.int _ _)
    obtain ⟨bcs, hbi⟩ := run_builtin (P := P) (a := a) ho hc w
    rw [hbi, args1 ha, types1 ht, hxx]
    simp [builtin, Builtin.len_, run_underlying hu]
  · cases hs
theorem s_lenArr {c : Call} {t e : TypeId} {n : Nat} {x : Operand} (ho : o.op = .call c) (hc : c.callee = .builtin .len) (ha : c.args.toList = [x]) (ht : c.argTypes.toList = [t]) (hu : P.underlying t = some (.array n e))
    (hR : Rel P ρ H.get w) (hD : Dom ρ H.next) (hs : aStep env H (.lenArr n) = some res) : StepR P ρ H w o a res := by
  simp only [aStep, Option.some.injEq] at hs
  subst hs
  refine .pure hR hD (v' := goInt n) ?_ (.int _ _)
  obtain ⟨bcs, hbi⟩ := run_builtin (P := P) (a := a) ho hc w
  rw [hbi, args1 ha, types1 ht]
  simp [builtin, Builtin.len_, run_underlying hu]
theorem s_minI {c : Call} {x y : Operand} (ho : o.op = .call c) (hc : c.callee = .builtin .min) (ha : c.args.toList = [x, y]) (hx : okOpd x = true) (hy : okOpd y = true)
    (hE : EnvR ρ env a.tmps) (hR : Rel P ρ H.get w) (hD : Dom ρ H.next) (hs : aStep env H (.minI x y) = some res) : StepR P ρ H w o a res := by
  have h1 := hE.eval hx
  have h2 := hE.eval hy
  generalize hxx : a.eval x = xv at h1
  generalize hyy : a.eval y = yv at h2
  simp only [aStep] at hs
  split at hs
  · rename_i k n k' m hx' hy'
    simp only [Option.some.injEq] at hs
    subst hs
    rw [hx'] at h1; rw [hy'] at h2
    cases h1; cases h2
    refine .pure hR hD (v' := .int k (if m < n then m else n)) ?_ (.int _ _)
    obtain ⟨bcs, hbi⟩ := run_builtin (P := P) (a := a) ho hc w
    rw [hbi, args2 ha, hxx, hyy]
    simp [builtin, Builtin.min_, Builtin.min2]
  · cases hs
theorem s_maxI {c : Call} {x y : Operand} (ho : o.op = .call c) (hc : c.callee = .builtin .max) (ha : c.args.toList = [x, y]) (hx : okOpd x = true) (hy : okOpd y = true)
    (hE : EnvR ρ env a.tmps) (hR : Rel P ρ H.get w) (hD : Dom ρ H.next) (hs : aStep env H (.maxI x y) = some res) : StepR P ρ H w o a res := by
  have h1 := hE.eval hx
  have h2 := hE.eval hy
  generalize hxx : a.eval x = xv at h1
  generalize hyy : a.eval y = yv at h2
  simp only [aStep] at hs
  split at hs
  · rename_i k n k' m hx' hy'
    simp only [Option.some.injEq] at hs
    subst hs
    rw [hx'] at h1; rw [hy'] at h2
    cases h1; cases h2
    refine .pure hR hD (v' := .int k (if m > n then m else n)) ?_ (.int _ _)
    obtain ⟨bcs, hbi⟩ := run_builtin (P := P) (a := a) ho hc w
    rw [hbi, args2 ha, hxx, hyy]
    simp [builtin, Builtin.max_, Builtin.max2]
  · cases hs

/-! literals -/
theorem fill_VR {place : Nat → Option (Nat × Nat)} : ∀ {ps ps' : List (Nat × Value)} {cs cs' out : Array Value}, ps.map (·.1) = ps'.map (·.1) → (∀ (i : Nat) x y, ps[i]? = some x → ps'[i]? = some y → VR ρ x.2 y.2 ∧ x.2.cells.all isCell = true) →
    VRs ρ cs cs' → Instr.fill place cs ps = some out → ∃ out', Instr.fill place cs' ps' = some out' ∧ VRs ρ out out'
  | [], ps', cs, cs', out, hm, _, hv, h => by
    have : ps' = [] := by cases ps' <;> simp_all
    subst this
    simp only [Instr.fill, Option.some.injEq] at h
    subst h
    exact ⟨cs', rfl, hv⟩
  | (i, v) :: r, [], cs, cs', out, hm, _, hv, h => by simp at hm
  | (i, v) :: r, (i', v') :: r', cs, cs', out, hm, hall, hv, h => by
    simp only [List.map_cons, List.cons.injEq] at hm
    obtain ⟨rfl, hm⟩ := hm
    obtain ⟨hvr, hcell⟩ := hall 0 (i, v) (i, v') rfl rfl
    obtain ⟨hvs, _, _⟩ := cells_VR hvr hcell
    unfold Instr.fill at h ⊢
    cases hp : place i with
    | none => simp [hp] at h
    | some q =>
      obtain ⟨off, size⟩ := q
      simp only [hp] at h ⊢
      rw [← hvs.1, ← hv.1]
      split at h
      · cases h
      · rename_i hc
        rw [if_neg hc]
        refine fill_VR hm (fun j x y hx hy => hall (j + 1) x y (by simpa using hx) (by simpa using hy)) ?_ h
        -- the cells are set one by one
        have step : ∀ (l l' : List Value) (n : Nat) (c c' : Array Value), l.length = l'.length → (∀ (j : Nat) x y, l[j]? = some x → l'[j]? = some y → VR ρ x y) → VRs ρ c c' →
            VRs ρ ((l.zipIdx n).foldl (fun cs (p : Value × Nat) => cs.setIfInBounds (off + p.2) p.1) c) ((l'.zipIdx n).foldl (fun cs (p : Value × Nat) => cs.setIfInBounds (off + p.2) p.1) c') := by
          intro l
          induction l with
          | nil => intro l' n c c' hl _ hc; have : l' = [] := by cases l' <;> simp_all
                   subst this; exact hc
          | cons x xs ih =>
            intro l' n c c' hl hh hc
            cases l' with
            | nil => simp at hl
            | cons y ys =>
              simp only [List.zipIdx_cons, List.foldl_cons]
              exact ih ys (n + 1) _ _ (by simpa using hl) (fun j a b h1 h2 => hh (j + 1) a b (by simpa using h1) (by simpa using h2)) (VRs.set hc (hh 0 x y rfl rfl) _)
        have := step v.cells.toList v'.cells.toList 0 cs cs' (by simpa using hvs.1) (fun j x y h1 h2 => by
          rw [Array.getElem?_toList] at h1 h2
          obtain ⟨z, hz, hr⟩ := hvs.get h1
          rw [h2] at hz
          obtain rfl : y = z := by simpa using hz
          exact hr) hv
        rw [← Array.toList_zipIdx, ← Array.toList_zipIdx, Array.foldl_toList, Array.foldl_toList] at this
        exact this

theorem parts_VR {parts : List (Nat × Operand)} (hx : ∀ p ∈ parts, okOpd p.2 = true) (hE : EnvR ρ env a.tmps) (hall : (parts.map fun (p : Nat × Operand) => (p.1, ev1 env p.2)).all (fun p => p.2.cells.all isCell) = true) :
    (parts.map fun (p : Nat × Operand) => (p.1, ev1 env p.2)).map (·.1) = (parts.map fun (p : Nat × Operand) => (p.1, a.eval p.2)).map (·.1) ∧
    ∀ (i : Nat) x y, (parts.map fun (p : Nat × Operand) => (p.1, ev1 env p.2))[i]? = some x → (parts.map fun (p : Nat × Operand) => (p.1, a.eval p.2))[i]? = some y → VR ρ x.2 y.2 ∧ x.2.cells.all isCell = true := by
  refine ⟨by simp [Function.comp_def], fun i x y hx' hy' => ?_⟩
  have hm : x ∈ (parts.map fun (p : Nat × Operand) => (p.1, ev1 env p.2)) := List.mem_of_getElem? hx'
  rw [List.getElem?_map, Option.map_eq_some_iff] at hx' hy'
  obtain ⟨p, hp, rfl⟩ := hx'
  obtain ⟨q, hq, rfl⟩ := hy'
  rw [hp] at hq
  obtain rfl : p = q := by simpa using hq
  exact ⟨hE.eval (hx p (List.mem_of_getElem? hp)), List.all_eq_true.1 hall _ hm⟩

theorem s_buildOf {t : TypeId} {parts : Array (Nat × Operand)} {zero : Array Value} {place : Nat → Option (Nat × Nat)} (ho : o.op = .build t parts)
    (hb : ∀ ps : List (Nat × Value), P.built t ps = Instr.fill place zero ps) (hz : VRs ρ zero zero) (hx : ∀ p ∈ parts.toList, okOpd p.2 = true)
    (hE : EnvR ρ env a.tmps) (hR : Rel P ρ H.get w) (hD : Dom ρ H.next) {cs : Array Value} (hall : (parts.toList.map fun (p : Nat × Operand) => (p.1, ev1 env p.2)).all (fun p => p.2.cells.all isCell) = true)
    (hf : Instr.fill place zero (parts.toList.map fun (p : Nat × Operand) => (p.1, ev1 env p.2)) = some cs) : StepR P ρ H w o a (.val (.agg cs) H) := by
  obtain ⟨hm, hr⟩ := parts_VR (a := a) hx hE hall
  obtain ⟨out, hout, hvr⟩ := fill_VR hm hr hz hf
  refine .pure hR hD (v' := .agg out) ?_ (.agg hvr.1 hvr.2)
  have := run_build (P := P) w t (parts.map fun (p : Nat × Operand) => (p.1, a.eval p.2)) out (by rw [hb]; simpa using hout)
  simp [execOp, ho, this]

theorem zeros_get (z : Array Value) (hz : 0 < z.size) : ∀ (len i : Nat), (List.replicate len z.toList).flatten[i]? = if i < len * z.size then some (z[i % z.size]!) else none
  | 0, i => by simp
  | len + 1, i => by
    rw [List.replicate_succ, List.flatten_cons, List.getElem?_append]
    simp only [Array.length_toList]
    split
    · rename_i h
      rw [if_pos (by rw [Nat.add_mul]; omega), Nat.mod_eq_of_lt h]
      simp [h]
    · rename_i h
      rw [zeros_get z hz len (i - z.size)]
      have hmod : (i - z.size) % z.size = i % z.size := by
        rw [← Nat.mod_eq_sub_mod (by omega)]
      rw [hmod]
      by_cases h2 : i - z.size < len * z.size
      · rw [if_pos h2, if_pos (by rw [Nat.add_mul]; omega)]
      · rw [if_neg h2, if_neg (by rw [Nat.add_mul]; omega)]
theorem zeros_eq (z : Array Value) (hz : 0 < z.size) (len : Nat) : ((List.replicate len z.toList).flatten).toArray = (Array.range (len * z.size)).map (fun j => z[j % z.size]!) := by
  apply Array.ext'
  apply List.ext_getElem?
  intro i
  rw [List.toList_toArray, zeros_get z hz]
  simp only [Array.toList_map, Array.toList_range, List.getElem?_map]
  by_cases h : i < len * z.size
  · rw [if_pos h, List.getElem?_range h]; rfl
  · rw [if_neg h, List.getElem?_eq_none (by simp; omega)]; rfl

theorem zeros_VR {z : Array Value} (hz : 0 < z.size) (hp : VRs ρ z z) (len : Nat) : VRs ρ ((List.replicate len z.toList).flatten).toArray ((List.replicate len z.toList).flatten).toArray := by
  refine .mk rfl fun i x y hx hy => ?_
  rw [hx] at hy
  obtain rfl : x = y := by simpa using hy
  rw [List.getElem?_toArray, zeros_get z hz] at hx
  split at hx
  · have hlt := Nat.mod_lt i hz
    obtain ⟨u, hu, hr⟩ := hp.get (Array.getElem?_eq_getElem hlt)
    rw [Array.getElem?_eq_getElem hlt] at hu
    obtain rfl : z[i % z.size] = u := by simpa using hu
    rw [getElem!_pos z (i % z.size) hlt] at hx
    obtain rfl : _ = x := by simpa using hx
    exact hr
  · cases hx

theorem run_buildSlice {t e : TypeId} {len : Nat} {i : TypeInfo} {zv : Value} {ps : Array (Nat × Value)} {out : Array Value} (ht : P.underlying t = some (.slice e)) (hi : P.info? e = some i) (hz : i.zero = some zv) (hz0 : 0 < zv.cells.size)
    (hzs : zv.cells.size = i.size) (hcap : ¬ len * i.size > 2 ^ 24) (hf : Instr.fill (fun j => some (j * i.size, i.size)) ((List.replicate len zv.cells.toList).flatten).toArray ps.toList = some out) :
    (Instr.buildSlice t len ps).run P w = .ok (.slice (some ⟨w.heap.size, 0, none⟩) len len) (w.alloc (.cells out e)) := by
  rw [zeros_eq _ hz0, hzs] at hf
  have hcap' : ¬ 16777216 < len * i.size := by omega
  by_cases h0 : len * i.size = 0
  · have hr : Array.range (len * i.size) = #[] := by rw [h0]; rfl
    rw [hr] at hf
    simp only [Array.map_empty] at hf
    have hr0 : Array.range 0 = #[] := rfl
    simp [Instr.buildSlice, run_underlying ht, sizeOf, typeInfo, hi, hcap', h0, hr0, hf, newRow]
  · have hf' := hf
    simp [Instr.buildSlice, run_underlying ht, sizeOf, typeInfo, hi, hz, hcap', h0, zeroValue, hzs, hf, newRow]

theorem s_buildSlice {t e : TypeId} {len s b : Nat} {z : Array Value} {parts : Array (Nat × Operand)} (ho : o.op = .buildSlice t len parts) (ht : P.underlying t = some (.slice e)) (hz : sizes P e = some (s, b, z)) (hs0 : s ≠ 0) (hcap : ¬ len * s > 2 ^ 24)
    (hx : ∀ p ∈ parts.toList, okOpd p.2 = true) (hE : EnvR ρ env a.tmps) (hR : Rel P ρ H.get w) (hD : Dom ρ H.next)
    (hs : aStep env H (.buildSlice e s len ((List.replicate len z.toList).flatten).toArray parts.toList) = some res) : StepR P ρ H w o a res := by
  obtain ⟨i, zv, hi, hzv, hp, rfl, hzs, his, _⟩ := info_of_sizes hz
  simp only [aStep] at hs
  split at hs
  · rename_i hall
    split at hs
    · rename_i cs hf
      simp only [Option.some.injEq] at hs
      subst hs
      have hpl := plain_VRs (ρ := ρ) hp
      have hz0 : 0 < zv.cells.size := by omega
      obtain ⟨hm, hr⟩ := parts_VR (a := a) hx hE hall
      obtain ⟨out, hout, hvr⟩ := fill_VR hm hr (zeros_VR hz0 hpl len) hf
      refine .val (v' := .slice (some ⟨w.heap.size, 0, none⟩) len len) (w' := w.alloc (.cells out e)) ?_ ?_ (new_sound hR hD e (Grew.alloc w _) (Nat.le_of_eq hvr.1) fun i x hx => hvr.get hx)
      · have hrun := run_buildSlice (w := w) ht hi hzv hz0 (by omega) (by rw [his]; exact hcap) (ps := parts.map fun (p : Nat × Operand) => (p.1, a.eval p.2)) (out := out) (by rw [his]; simpa using hout)
        simp only [execOp, ho, Sem.run_bind, hrun, Result.andThen_ok, Sem.run_pure]
      · by_cases h0 : len = 0
        · subst h0; exact .slice0 fun _ => rfl
        · exact .slice (l := ⟨w.heap.size, 0, out.size, P.cellsOf e⟩) (Ren.add_new ρ H.next _) h0 (Nat.le_refl _) (fun _ => rfl) (fun h => by omega)
    · cases hs
  · cases hs

theorem s_makeSlice {t e : TypeId} {s b : Nat} {z : Array Value} {l c : Operand} (ho : o.op = .makeSlice t l c) (ht : P.underlying t = some (.slice e)) (hz : sizes P e = some (s, b, z)) (hs0 : s ≠ 0)
    (hl : okOpd l = true) (hc : okOpd c = true) (hE : EnvR ρ env a.tmps) (hR : Rel P ρ H.get w) (hD : Dom ρ H.next)
    (hs : aStep env H (.makeSlice e s b z l c) = some res) : StepR P ρ H w o a res := by
  obtain ⟨i, zv, hi, hzv, hp, rfl, hzs, his, hby⟩ := info_of_sizes hz
  have h1 := hE.eval hl
  have h2 := hE.eval hc
  generalize hll : a.eval l = lv at h1
  generalize hcc : a.eval c = cv at h2
  simp only [aStep] at hs
  split at hs
  · rename_i k n k' m hl' hc'
    rw [hl'] at h1; rw [hc'] at h2
    cases h1; cases h2
    split at hs
    · rename_i hb
      obtain ⟨rfl, h0, hb1, hb2⟩ := hb
      simp only [Option.some.injEq] at hs
      subst hs
      have hz0 : 0 < zv.cells.size := by omega
      have hrun := run_make (P := P) w t e i zv ht hi hzv k k' n n h0 (Int.le_refl _) (by rw [hby, Int.mul_comm]; omega) (by omega)
      have heq : madeCells zv.cells (n.toNat * i.size) = ((List.replicate n.toNat zv.cells.toList).flatten).toArray := by
        rw [zeros_eq _ hz0, hzs, his, madeCells, hzs]
      rw [heq] at hrun
      have hvr := zeros_VR hz0 (plain_VRs (ρ := ρ) hp) n.toNat
      refine .val (v' := .slice (some ⟨w.heap.size, 0, none⟩) n.toNat n.toNat) (w' := w.alloc (.cells ((List.replicate n.toNat zv.cells.toList).flatten).toArray e)) ?_ ?_
        (new_sound hR hD e (Grew.alloc w _) (Nat.le_refl _) fun i x hx => hvr.get hx)
      · simp only [execOp, ho, hll, hcc, Sem.run_bind, hrun, Result.andThen_ok, Sem.run_pure]
      · by_cases h0 : n.toNat = 0
        · rw [h0]; exact .slice0 fun _ => rfl
        · exact .slice (Ren.add_new ρ H.next _) h0 (Nat.le_refl _) (fun _ => rfl) (fun h => by omega)
    · cases hs
  · cases hs

theorem size_wholeCells (olds news : List Value) (z : Array Value) (need cap size : Nat) (h1 : olds.length + news.length = need * size) (hz : z.size = size) (hc : need ≤ cap) :
    (olds.toArray ++ news.toArray ++ Builtin.zeroCells z (cap - need)).size = cap * size := by
  simp only [Array.size_append, List.size_toArray, size_zeroCells, hz, h1, ← Nat.add_mul]
  congr 1
  omega

theorem s_append {c : Call} {t e : TypeId} {s b : Nat} {z : Array Value} {x y : Operand} (ho : o.op = .call c) (hc : c.callee = .builtin .append) (ha : c.args.toList = [x, y]) (ht : c.argTypes.toList = [t, t]) (hu : P.underlying t = some (.slice e))
    (hz : sizes P e = some (s, b, z)) (hs0 : s ≠ 0) (hx : okOpd x = true) (hy : okOpd y = true) (hE : EnvR ρ env a.tmps) (hR : Rel P ρ H.get w) (hD : Dom ρ H.next)
    (hs : aStep env H (.append e s b x y) = some res) : StepR P ρ H w o a res := by
  obtain ⟨i, zv, hi, hzv, hp, rfl, hzs, rfl, rfl⟩ := info_of_sizes hz
  have hcs : P.cellsOf e = i.size := by simp [Program.cellsOf, hi]
  have h1 := hE.eval hx
  have h2 := hE.eval hy
  generalize hxx : a.eval x = xv at h1
  generalize hyy : a.eval y = yv at h2
  obtain ⟨bcs, hbi⟩ := run_builtin (P := P) (a := a) ho hc w
  rw [args2 ha, types2 ht, hxx, hyy] at hbi
  simp only [builtin, Sem.run_bind] at hbi
  simp only [aStep] at hs
  split at hs
  · rename_i base n c0 src m c1 hx' hy'
    rw [hx'] at h1; rw [hy'] at h2
    obtain ⟨base', c0', rfl, hcap, hex, hnil, hnn⟩ := slice_inv h1
    obtain ⟨src', c1', rfl, _, _, hnil2, hnn2⟩ := slice_inv h2
    split at hs
    · cases hs
    · rename_i vs hvs
      split at hs
      · cases hs
      · rename_i hvsz
        have hvsz : vs.size = m * i.size := by omega
        by_cases hm : m = 0
        · -- nothing is appended
          subst hm
          simp only [if_true, Option.some.injEq] at hs
          subst hs
          refine .pure hR hD (v' := .slice base' n c0') ?_ h1
          rw [hbi]
          have hf : ∀ s' : Option Addr, (Builtin.firstCells i.size 0 (.slice s' 0 c1')).run P w = .ok #[] w := fun s' => by
            cases s' <;> simp [Builtin.firstCells, loadCells, loadCellsFrom]
          cases base' <;> simp [Builtin.append_, run_underlying hu, sizeOf, typeInfo, hi, Builtin.lenOf, hcap, hf, storeCells]
        · rw [if_neg hm] at hs
          split at hs
          · cases hs
          · rename_i hbd
            have hbd : ((n + m) * i.bytes ≤ 140737488355328 ∧ n + m ≤ 140737488355328 ∧ vs.all isCell = true) := Classical.not_not.1 hbd
            obtain ⟨hb1, hb2, hall⟩ := hbd
            -- where the new ones stand
            obtain ⟨sa, news, rfl, hnl, hnv, hncell⟩ : ∃ (sa : Addr) (news : Array Value), src' = some sa ∧ news.size = m * i.size ∧ VRs ρ vs news ∧ ∀ (j : Nat) v, news.toList[j]? = some v → w.cell? (sa.add j) = some v := by
              cases src with
              | none => exact absurd (hnil2 rfl).1 hm
              | some sa =>
                simp only at hvs
                generalize hgv : Value.slice (some sa) m c1 = gv at h2
                generalize hgv' : Value.slice src' m c1' = gv' at h2
                cases h2 <;> simp at hgv hgv'
                · omega
                · rename_i bb oo nn cc cc' L hb _ _ _ _
                  obtain ⟨rfl, rfl, rfl⟩ := hgv
                  obtain ⟨rfl, _⟩ := hgv'
                  obtain ⟨r, off, ys, hp, hys, _, hvr, hcells⟩ := rdN_sound hR (.ptr hb) hvs
                  simp only [Value.pointer.injEq, Option.some.injEq] at hp
                  exact ⟨_, ys, rfl, hys, hvr, by rw [hp]; exact hcells⟩
            have hone : ∀ u ∈ news.toList, u.oneCell' = true := fun u hu => by
              obtain ⟨j, hj, rfl⟩ := List.getElem_of_mem hu
              have hj' : j < news.size := by simpa using hj
              have hj2 : j < vs.size := hnv.1 ▸ hj'
              obtain ⟨q, hq, hr⟩ := hnv.get (Array.getElem?_eq_getElem hj2)
              rw [Array.getElem?_eq_getElem hj'] at hq
              obtain rfl : news[j] = q := by simpa using hq
              exact (isCell_VR hr (Array.all_eq_true.1 hall j hj2)).1
            have hnl' : news.toList.length = m * i.size := by simpa using hnl
            -- a new row
            have grow : ∀ (olds : Array Value) (olds' : List Value) (w1 : World) (cp : Nat), VRs ρ olds olds'.toArray → olds.size = n * i.size → n + m ≤ cp →
                Grew w w1 (.cells (olds'.toArray ++ news.toList.toArray ++ Builtin.zeroCells zv.cells (cp - (n + m))) e) →
                VR (ρ.add H.next ⟨w.heap.size, 0, (olds'.toArray ++ news.toList.toArray ++ Builtin.zeroCells zv.cells (cp - (n + m))).size, P.cellsOf e⟩) (.slice (some ⟨H.next, 0, none⟩) (n + m) (n + m + 1)) (.slice (some ⟨w.heap.size, 0, none⟩) (n + m) cp) ∧
                Post P ρ H w (ρ.add H.next ⟨w.heap.size, 0, (olds'.toArray ++ news.toList.toArray ++ Builtin.zeroCells zv.cells (cp - (n + m))).size, P.cellsOf e⟩) (H.push (.cells (olds ++ vs) e false)) w1 := by
              intro olds olds' w1 cp hov hos hcp hgr
              have hol : olds'.length = n * i.size := by have := hov.1; simp at this; omega
              refine ⟨.slice (o := 0) (Ren.add_new ρ H.next _) (by omega) hcp (fun h => by omega) (fun _ => ⟨rfl, rfl, ?_⟩), new_sound hR hD e hgr ?_ ?_⟩
              · rw [size_wholeCells olds' news.toList zv.cells (n + m) cp i.size (by rw [hol, hnl', ← Nat.add_mul]) hzs hcp, hcs]
              · simp only [Array.size_append, hos, hvsz, List.size_toArray, hol, hnl']
                omega
              · intro j q hq
                have hva := VRs.append hov hnv
                obtain ⟨q', hq', hr⟩ := hva.get hq
                refine ⟨q', ?_, hr⟩
                have hlt : j < (olds'.toArray ++ news).size := (Array.getElem?_eq_some_iff.1 hq').1
                rw [Array.toArray_toList, Array.getElem?_append_left hlt]
                exact hq'
            cases base with
            | none =>
              obtain ⟨rfl, rfl, rfl, rfl⟩ := hnil rfl
              simp only [Option.some.injEq] at hs
              subst hs
              have hrun := run_append_nil (P := P) w t o.type e i zv hu hi hzv sa m c1' news.toList hnl' hncell (by omega) (by omega) (by have := hb1; simp only [Nat.zero_add] at this; omega)
              have hge := grownCap_ge w m 0 e
              have hg := grow #[] [] (w.drew.alloc (.cells (news.toList.toArray ++ Builtin.zeroCells zv.cells (grownCap w m 0 e - m)) e)) (grownCap w m 0 e) ⟨rfl, fun i => by simp; exact .undef _⟩ (by simp) (by omega)
                (by simp only [Nat.zero_add, Array.empty_append]; exact Grew.drew _)
              simp only [Nat.zero_add, Array.empty_append] at hg
              exact .val (by rw [hbi, hrun]; rfl) hg.1 hg.2
            | some ad =>
              cases base' with
              | none => exact absurd rfl (hnn (by simp))
              | some ad' =>
              simp only at hs
              split at hs
              · cases hs
              · rename_i olds holds
                have hosz : olds.size = n * i.size := by
                  unfold rdN at holds
                  split at holds
                  · split at holds
                    · split at holds
                      · simp only [Option.some.injEq] at holds
                        subst holds
                        simp
                        omega
                      · cases holds
                    · cases holds
                  · cases holds
                -- the old ones
                obtain ⟨olds', hov, hocell⟩ : ∃ olds' : Array Value, VRs ρ olds olds' ∧ ∀ (j : Nat) v, olds'.toList[j]? = some v → w.cell? (ad'.add j) = some v := by
                  by_cases hn0 : n = 0
                  · subst hn0
                    exact ⟨#[], ⟨by simpa using hosz, fun j => by
                      have : olds = #[] := by apply Array.eq_empty_of_size_eq_zero; omega
                      subst this; simp; exact .undef _⟩, fun j v h => by simp at h⟩
                  · generalize hgv : Value.slice (some ad) n c0 = gv at h1
                    generalize hgv' : Value.slice (some ad') n c0' = gv' at h1
                    cases h1 <;> simp at hgv hgv'
                    · omega
                    · rename_i bb oo nn cc cc' L hb _ _ _ _
                      obtain ⟨rfl, rfl, rfl⟩ := hgv
                      obtain ⟨rfl, _⟩ := hgv'
                      obtain ⟨r, off, ys, hp, hys, _, hvr, hcells⟩ := rdN_sound hR (.ptr hb) holds
                      simp only [Value.pointer.injEq, Option.some.injEq] at hp
                      exact ⟨ys, hvr, by rw [hp]; exact hcells⟩
                have hol : olds'.toList.length = n * i.size := by have := hov.1; simp; omega
                have growRun : c0' < n + m → (builtin .append #[t, t] o.type bcs #[.slice (some ad') n c0', .slice (some sa) m c1']).run P w =
                    .ok (.value (.slice (some ⟨w.heap.size, 0, none⟩) (n + m) (grownCap w (n + m) c0' e))) (w.drew.alloc (.cells (olds'.toList.toArray ++ news.toList.toArray ++ Builtin.zeroCells zv.cells (grownCap w (n + m) c0' e - (n + m))) e)) := fun hlt => by
                  have hrun := run_append_grow (P := P) w t o.type e i zv hu hi hzv ad' n c0' olds'.toList hol hocell sa m c1' news.toList hnl' hncell hlt (by omega) (growslice_fits (by omega) hb1)
                  simp only [builtin, Sem.run_bind, hrun, Result.andThen_ok, Sem.run_pure]
                have hbi' : (execOp a.eval o).run P w = (builtin .append #[t, t] o.type bcs #[.slice (some ad') n c0', .slice (some sa) m c1']).run P w := by
                  rw [hbi]; simp only [builtin, Sem.run_bind]
                have hg := grow olds olds'.toList (w.drew.alloc (.cells (olds'.toList.toArray ++ news.toList.toArray ++ Builtin.zeroCells zv.cells (grownCap w (n + m) c0' e - (n + m))) e)) (grownCap w (n + m) c0' e)
                  (by simpa using hov) hosz (grownCap_ge w (n + m) c0' e) (Grew.drew _)
                split at hs
                · rename_i hce
                  simp only [Option.some.injEq] at hs
                  subst hs
                  have := hex hce
                  exact .val (by rw [hbi', growRun (by omega)]) hg.1 hg.2
                · split at hs
                  · rename_i cs e' hblk hoff
                    split at hs
                    · rename_i hcond
                      obtain ⟨hc1, hn0, rfl, hcsz⟩ := hcond
                      simp only [Option.some.injEq] at hs
                      subst hs
                      by_cases hroom : n + m ≤ c0'
                      · -- in place
                        generalize hgv : Value.slice (some ad) n c0 = gv at h1
                        generalize hgv' : Value.slice (some ad') n c0' = gv' at h1
                        cases h1 <;> simp at hgv hgv'
                        · omega
                        · rename_i bb oo nn cc cc' L hb _ _ _ hgr
                          obtain ⟨rfl, rfl, rfl⟩ := hgv
                          obtain ⟨rfl, _, rfl⟩ := hgv'
                          obtain ⟨rfl, hb0, htot⟩ := hgr hc1
                          obtain ⟨k, hk, hbr⟩ := hR.blk bb L hb
                          simp only at hblk
                          rw [hk] at hblk
                          obtain rfl : k = _ := by simpa using hblk
                          obtain ⟨c', e'', rfl, hgH, _, h2', h3', h4', hr'⟩ := hbr
                          have hsz : c'.size = c0' * i.size := by rw [h2', ← htot, h3', hcs]
                          have hfit : n * i.size + news.toList.length ≤ c'.size := by rw [hnl', hsz, ← Nat.add_mul]; exact Nat.mul_le_mul_right _ hroom
                          have hrun := run_append_room (P := P) w t o.type e'' i hu hi L.blk n c0' c' hgH sa m c1' news.toList hnl' hncell hone hroom hfit
                          refine .val (v' := .slice (some ⟨L.blk, L.base + 0, none⟩) (n + m) c0') (ρ' := ρ.add H.next L) (w' := w.setRow L.blk (c'.toList.take (n * i.size) ++ news.toList ++ c'.toList.drop (n * i.size + news.toList.length)).toArray) ?_ ?_ (Post.move hR hD hb (by rw [hk]; rfl) (Turned.setRow w L.blk _) ?_)
                          · rw [hbi', hb0]
                            simp only [builtin, Sem.run_bind]
                            simp only [hb0, Nat.add_zero] at hrun ⊢
                            rw [hrun]; rfl
                          · exact .slice (Ren.add_new ρ H.next L) (by omega) hroom (fun h => by omega) (fun _ => ⟨rfl, hb0, htot⟩)
                          · refine ⟨_, e'', rfl, setRow_heap w L.blk c' _ e'' (0, 0) hgH, hb0, ?_, h3', ?_, ?_⟩
                            · simp only [List.size_toArray, List.length_append, List.length_take, List.length_drop, Array.length_toList]
                              simp only [Array.length_toList] at hfit
                              rw [← h2']; omega
                            · simp only [Array.size_append, List.size_toArray, List.length_append, List.length_take, List.length_drop, Array.length_toList]
                              simp only [Array.length_toList] at hfit hnl'
                              omega
                            · intro j q hq
                              rw [List.getElem?_toArray, get_splice _ _ _ _ (by simpa using hfit)]
                              rw [Array.getElem?_append] at hq
                              simp only [Array.length_toList] at hnl' ⊢
                              by_cases hj : j < olds.size
                              · rw [if_pos hj] at hq
                                rw [if_neg (by omega)]
                                -- an old one
                                have hcsj : cs[j]? = some q := by
                                  simp only [rdN, hk] at holds
                                  split at holds
                                  · simp only [Option.some.injEq] at holds
                                    rw [← holds, Array.getElem?_extract] at hq
                                    split at hq
                                    · simpa using hq
                                    · cases hq
                                  · cases holds
                                obtain ⟨q', hq', hr⟩ := hr' j q hcsj
                                exact ⟨q', by rw [Array.getElem?_toList]; exact hq', hr.ext (Ren.add_ext hD)⟩
                              · rw [if_neg hj] at hq
                                have hjs : j - olds.size < vs.size := (Array.getElem?_eq_some_iff.1 hq).1
                                rw [if_pos (by rw [hosz] at hj hjs; omega)]
                                obtain ⟨q', hq', hr⟩ := hnv.get hq
                                refine ⟨q', ?_, hr.ext (Ren.add_ext hD)⟩
                                rw [Array.getElem?_toList, ← hosz]
                                exact hq'
                      · exact .val (by rw [hbi', growRun (by omega)]) hg.1 (hg.2.kill _)
                    · cases hs
                  · cases hs
  · cases hs

end
end Go.Aev
