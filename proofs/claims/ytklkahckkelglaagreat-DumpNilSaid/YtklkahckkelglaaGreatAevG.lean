/- Each operation of the abstract evaluator does what the model's operation does: slices, indices, lengths, parts put together. -/
import Derived.Test.YtklkahckkelglaaGreatAevF
import Derived.Laws.MakeOwn
import Derived.Laws.BytesString
namespace Go.Aev
open Go

section
variable {P : Program} {ρ : Ren} {H : AHeap} {w : World} {o : Oper} {a : Act} {env : Env} {res : Res}

def okO (x : Option Operand) : Prop := ∀ y, x = some y → okOpd y = true

/-- What a bound of a slicing is, in the model. -/
theorem bound_run {x : Option Operand} (hx : okO x) (hE : EnvR ρ env a.tmps) {d n : Nat} (h : bound env d x = some n) :
    (x = none ∧ n = d) ∨ ∃ y k i, x = some y ∧ a.eval y = .int k i ∧ 0 ≤ i ∧ n = i.toNat := by
  unfold bound at h
  split at h
  · simp only [Option.some.injEq] at h; exact .inl ⟨rfl, h.symm⟩
  · rename_i y
    have hv := hE.eval (hx y rfl)
    split at h
    · rename_i k i hy
      rw [hy] at hv
      generalize hyy : a.eval y = yv at hv
      cases hv
      split at h
      · rename_i h0
        simp only [Option.some.injEq] at h
        exact .inr ⟨y, k, i, rfl, hyy, h0, h.symm⟩
      · cases h
    · cases h

theorem run_bounds (sl : Bool) (len cap : Nat) {lo hi mx : Option Value} {l h m : Nat}
    (hlo : (lo = none ∧ l = 0) ∨ ∃ k i, lo = some (.int k i) ∧ 0 ≤ i ∧ l = i.toNat)
    (hhi : (hi = none ∧ h = len ∧ mx = none) ∨ ∃ k i, hi = some (.int k i) ∧ 0 ≤ i ∧ h = i.toNat)
    (hmx : (mx = none ∧ m = cap) ∨ ∃ k i, mx = some (.int k i) ∧ 0 ≤ i ∧ m = i.toNat)
    (h1 : l ≤ h) (h2 : h ≤ m) (h3 : m ≤ cap) : (Instr.sliceBounds sl len cap lo hi mx).run P w = .ok (l, h, m) w := by
  have hb : ∀ (k : IntKind) (i : Int) (y : Nat) (c : BoundsCode), 0 ≤ i → i ≤ y → (Instr.sliceBound (.int k i) y c).run P w = .ok i.toNat w := fun k i y c h0 hy => by
    simp [Instr.sliceBound, asIntOf, h0, hy]
  rcases hmx with ⟨rfl, rfl⟩ | ⟨km, im, rfl, hm0, rfl⟩
  · rcases hhi with ⟨rfl, rfl, _⟩ | ⟨kh, ih, rfl, hh0, rfl⟩
    · rcases hlo with ⟨rfl, rfl⟩ | ⟨kl, il, rfl, hl0, rfl⟩
      · simp [Instr.sliceBounds]
      · simp [Instr.sliceBounds, hb kl il h _ hl0 (by omega)]
    · rcases hlo with ⟨rfl, rfl⟩ | ⟨kl, il, rfl, hl0, rfl⟩
      · simp [Instr.sliceBounds, hb kh ih m _ hh0 (by omega)]
      · simp [Instr.sliceBounds, hb kh ih m _ hh0 (by omega), hb kl il ih.toNat _ hl0 (by omega)]
  · rcases hhi with ⟨rfl, rfl, hc⟩ | ⟨kh, ih, rfl, hh0, rfl⟩
    · cases hc
    · rcases hlo with ⟨rfl, rfl⟩ | ⟨kl, il, rfl, hl0, rfl⟩
      · simp [Instr.sliceBounds, hb km im cap _ hm0 (by omega), hb kh ih im.toNat _ hh0 (by omega)]
      · simp [Instr.sliceBounds, hb km im cap _ hm0 (by omega), hb kh ih im.toNat _ hh0 (by omega), hb kl il ih.toNat _ hl0 (by omega)]

theorem bound_opt {x : Option Operand} {n d : Nat} (h : (x = none ∧ n = d) ∨ ∃ y k i, x = some y ∧ a.eval y = .int k i ∧ 0 ≤ i ∧ n = i.toNat) :
    (x.map a.eval = none ∧ n = d) ∨ ∃ k i, x.map a.eval = some (.int k i) ∧ 0 ≤ i ∧ n = i.toNat := by
  rcases h with ⟨rfl, h⟩ | ⟨y, k, i, rfl, he, h0, hn⟩
  · exact .inl ⟨rfl, h⟩
  · exact .inr ⟨k, i, by simp [he], h0, hn⟩

theorem s_sliceStr {t : TypeId} {x : Operand} {lo hi : Option Operand} (ho : o.op = .slice t x lo hi none) (ht : P.underlying t = some .string) (hx : okOpd x = true) (hlo : okO lo) (hhi : okO hi)
    (hE : EnvR ρ env a.tmps) (hR : Rel P ρ H.get w) (hD : Dom ρ H.next) (hs : aStep env H (.sliceStr x lo hi) = some res) : StepR P ρ H w o a res := by
  have h1 := hE.eval hx
  generalize hxx : a.eval x = xv at h1
  simp only [aStep] at hs
  split at hs
  · rename_i s hx'
    rw [hx'] at h1; cases h1
    split at hs
    · rename_i l h hl hh
      split at hs
      · rename_i hle
        simp only [Option.some.injEq] at hs
        subst hs
        have bl := bound_opt (bound_run hlo hE hl)
        have bh := bound_opt (bound_run hhi hE hh)
        have hrb := run_bounds (P := P) (w := w) false s.size s.size (mx := none) (m := s.size) bl (by rcases bh with ⟨e, h⟩ | h; exact .inl ⟨e, h, rfl⟩; exact .inr h) (.inl ⟨rfl, rfl⟩) hle.1 hle.2 (Nat.le_refl _)
        refine .pure hR hD (v' := .string (s.extract l h)) ?_ (.string _)
        simp [execOp, ho, hxx, Instr.sliceAt, run_underlying ht, Instr.slice, hrb]
      · cases hs
    · cases hs
  · cases hs

theorem cut_VR {ad ad' : Option Addr} {n c c' l h m' : Nat} (size : Nat) (h1 : VR ρ (.slice ad n c) (.slice ad' n c')) (ex : Bool) (hlh : l ≤ h) (hhn : h ≤ n) (hhm : h ≤ m') (hm : m' ≤ c') (hex : ex = true → m' = h)
    (hnil : ad = none → ex = true) : VR ρ (cut ad size l h ex) (.slice (if m' = l then ad' else ad'.map (·.add (l * size))) (h - l) (m' - l)) := by
  unfold cut
  have hre : ∀ A : Addr, (if m' = l then some A else (some A).map (·.add (l * size))) = some (if m' = l then A else A.add (l * size)) := fun A => by
    by_cases e : m' = l
    · rw [if_pos e, if_pos e]
    · rw [if_neg e, if_neg e]; rfl
  generalize hv : Value.slice ad n c = v at h1
  generalize hv' : Value.slice ad' n c' = v' at h1
  cases h1 <;> simp at hv hv'
  · obtain ⟨rfl, rfl, rfl⟩ := hv
    obtain ⟨rfl, _, rfl⟩ := hv'
    obtain rfl : l = 0 := by omega
    obtain rfl : h = 0 := by omega
    obtain rfl : m' = 0 := by omega
    rw [hnil rfl]
    exact .sliceN
  · rename_i A A' C C' hc
    obtain ⟨rfl, rfl, rfl⟩ := hv
    obtain ⟨rfl, _, rfl⟩ := hv'
    obtain rfl : l = 0 := by omega
    obtain rfl : h = 0 := by omega
    rw [hre]
    cases ex with
    | true =>
      have := hex rfl
      subst this
      exact .slice0 fun _ => rfl
    | false => exact .slice0 fun e => by cases e
  · rename_i b o n0 c0 c0' L hb hn hc he hg
    obtain ⟨rfl, rfl, rfl⟩ := hv
    obtain ⟨rfl, _, rfl⟩ := hv'
    rw [hre]
    by_cases h0 : h - l = 0
    · rw [h0]
      cases ex with
      | true =>
        have := hex rfl
        subst this
        rw [h0]
        exact .slice0 fun _ => rfl
      | false => exact .slice0 fun e => by cases e
    · have hnl : m' ≠ l := by omega
      rw [if_neg hnl]
      simp only [Option.map_some, Addr.add_lit, Nat.add_assoc]
      cases ex with
      | true =>
        have := hex rfl
        subst this
        exact .slice hb h0 (Nat.le_refl _) (fun _ => rfl) (fun e => by simp only [if_true] at e; omega)
      | false => exact .slice hb h0 (by omega) (fun e => by simp only [Bool.false_eq_true, if_false] at e; omega) (fun e => by simp only [Bool.false_eq_true, if_false] at e; omega)

theorem slice_inv {ad : Option Addr} {n c : Nat} {v : Value} (h : VR ρ (.slice ad n c) v) : ∃ ad' c', v = .slice ad' n c' ∧ n ≤ c' ∧ (c = n → c' = n) ∧ (ad = none → n = 0 ∧ c = 0 ∧ c' = 0 ∧ ad' = none) ∧ (ad ≠ none → ad' ≠ none) := by
  cases h with
  | sliceN => exact ⟨_, _, rfl, Nat.le_refl _, fun h => h, fun _ => ⟨rfl, rfl, rfl, rfl⟩, fun h => absurd rfl h⟩
  | slice0 h => exact ⟨_, _, rfl, Nat.zero_le _, h, (fun h => by cases h), (fun _ h => by cases h)⟩
  | slice _ _ hc he => exact ⟨_, _, rfl, hc, he, (fun h => by cases h), (fun _ h => by cases h)⟩

theorem s_sliceSl {t e : TypeId} {i : TypeInfo} {x : Operand} {lo hi mx : Option Operand} (ho : o.op = .slice t x lo hi mx) (ht : P.underlying t = some (.slice e)) (hi' : P.info? e = some i) (hx : okOpd x = true) (hlo : okO lo) (hhi : okO hi)
    (hmx : okO mx) (hmh : mx.isSome = true → hi.isSome = true) (hE : EnvR ρ env a.tmps) (hR : Rel P ρ H.get w) (hD : Dom ρ H.next) (hs : aStep env H (.sliceSl i.size x lo hi mx) = some res) : StepR P ρ H w o a res := by
  have h1 := hE.eval hx
  generalize hxx : a.eval x = xv at h1
  simp only [aStep] at hs
  split at hs
  · rename_i ad n c hx'
    rw [hx'] at h1
    split at hs
    · rename_i l h m hl hh hm
      split at hs
      · rename_i hle
        have bl := bound_opt (bound_run hlo hE hl)
        have bh := bound_opt (bound_run hhi hE hh)
        have bm := bound_opt (bound_run hmx hE hm)
        obtain ⟨ad', c', rfl, hcap, hex, hnil, _⟩ := slice_inv h1
        have fin : ∀ (m' : Nat) (ex : Bool), h ≤ m' → m' ≤ c' → (ex = true → m' = h) → (ad = none → ex = true) → (Instr.sliceBounds true n c' (lo.map a.eval) (hi.map a.eval) (mx.map a.eval)).run P w = .ok (l, h, m') w →
            StepR P ρ H w o a (.val (cut ad i.size l h ex) H) := by
          intro m' ex hhm hmc hx1 hx2 hrb
          refine .pure hR hD (v' := .slice (if m' = l then ad' else ad'.map (·.add (l * i.size))) (h - l) (m' - l)) ?_ (cut_VR i.size h1 ex hle.1 (by omega) hhm hmc hx1 hx2)
          simp [execOp, ho, hxx, Instr.sliceAt, run_underlying ht, Instr.slice, hrb, run_sizeOf hi']
        cases mx with
        | none =>
          simp only [Option.some.injEq] at hs
          subst hs
          simp only [bound, Option.some.injEq] at hm
          subst hm
          refine fin c' _ (by omega) (Nat.le_refl _) ?_ ?_ (run_bounds true n c' bl (by rcases bh with ⟨e, h⟩ | h; exact .inl ⟨e, h, rfl⟩; exact .inr h) (.inl ⟨rfl, rfl⟩) hle.1 (by omega) (Nat.le_refl _))
          · intro he
            simp only [Bool.and_eq_true, beq_iff_eq] at he
            rw [hex he.1, he.2]
          · intro hn
            obtain ⟨rfl, rfl, _⟩ := hnil hn
            simp; omega
        | some y =>
          simp only [Option.some.injEq] at hs
          subst hs
          have bh' : ∃ k i, hi.map a.eval = some (.int k i) ∧ 0 ≤ i ∧ h = i.toNat := by
            rcases bh with ⟨e, _⟩ | h
            · have := hmh rfl
              cases hi <;> simp at e this
            · exact h
          have bm' : ∃ k i, (some y).map a.eval = some (.int k i) ∧ 0 ≤ i ∧ m = i.toNat := by
            rcases bm with ⟨e, _⟩ | h
            · cases e
            · exact h
          refine fin m _ hle.2.1 (by omega) ?_ ?_ (run_bounds true n c' bl (.inr bh') (.inr bm') hle.1 hle.2.1 (by omega))
          · intro he
            simp only [beq_iff_eq] at he
            exact he.symm
          · intro hn
            obtain ⟨rfl, rfl, _⟩ := hnil hn
            simp; omega
      · cases hs
    · cases hs
  · cases hs

theorem s_sliceArr {t e : TypeId} {n : Nat} {i : TypeInfo} {x : Operand} {lo hi : Option Operand} (ho : o.op = .slice t x lo hi none) (ht : P.underlying t = some (.array n e)) (hi' : P.info? e = some i) (hx : okOpd x = true) (hlo : okO lo) (hhi : okO hi)
    (hE : EnvR ρ env a.tmps) (hR : Rel P ρ H.get w) (hD : Dom ρ H.next) (hs : aStep env H (.sliceArr n i.size x lo hi) = some res) : StepR P ρ H w o a res := by
  have h1 := hE.eval hx
  generalize hxx : a.eval x = xv at h1
  simp only [aStep] at hs
  split at hs
  · rename_i b off hx'
    rw [hx'] at h1
    split at hs
    · rename_i l h hl hh
      split at hs
      · rename_i hle
        simp only [Option.some.injEq] at hs
        subst hs
        have bl := bound_opt (bound_run hlo hE hl)
        have bh := bound_opt (bound_run hhi hE hh)
        have hrb := run_bounds (P := P) (w := w) false n n (mx := none) (m := n) bl (by rcases bh with ⟨e, h⟩ | h; exact .inl ⟨e, h, rfl⟩; exact .inr h) (.inl ⟨rfl, rfl⟩) hle.1 hle.2 (Nat.le_refl _)
        cases h1 with
        | ptr hb =>
          rename_i L
          refine .pure hR hD (v' := .slice (some (if n = l then ⟨L.blk, L.base + off, none⟩ else (⟨L.blk, L.base + off, none⟩ : Addr).add (l * i.size))) (h - l) (n - l)) ?_ ?_
          · simp [execOp, ho, hxx, Instr.sliceAt, run_underlying ht, Instr.sureAddr, hrb, run_sizeOf hi']
          · unfold cut
            by_cases h0 : h - l = 0
            · rw [h0]
              by_cases hn : h = n
              · subst hn
                rw [h0]; simp only [beq_self_eq_true, if_true]
                exact .slice0 fun _ => rfl
              · rw [beq_eq_false_iff_ne.2 hn]
                exact .slice0 fun e => by simp at e
            · have hnl : n ≠ l := by omega
              rw [if_neg hnl]
              simp only [Option.map_some, Addr.add_lit, Nat.add_assoc]
              by_cases hn : h = n
              · subst hn
                simp only [beq_self_eq_true, if_true]
                exact .slice hb h0 (Nat.le_refl _) (fun _ => rfl) (fun e => by simp at e)
              · rw [beq_eq_false_iff_ne.2 hn]
                exact .slice hb h0 (by omega) (fun e => by simp at e) (fun e => by simp at e)
      · cases hs
    · cases hs
  · cases hs

theorem s_ixArr {t e : TypeId} {n : Nat} {i : TypeInfo} {x y : Operand} (ho : o.op = .indexAddr t x y) (ht : P.underlying t = some (.array n e)) (hi' : P.info? e = some i) (hx : okOpd x = true) (hy : okOpd y = true)
    (hE : EnvR ρ env a.tmps) (hR : Rel P ρ H.get w) (hD : Dom ρ H.next) (hs : aStep env H (.ixArr n i.size x y) = some res) : StepR P ρ H w o a res := by
  have h1 := hE.eval hx
  have h2 := hE.eval hy
  generalize hxx : a.eval x = xv at h1
  generalize hyy : a.eval y = yv at h2
  simp only [aStep] at hs
  split at hs
  · rename_i b off k j hx' hy'
    rw [hx'] at h1; rw [hy'] at h2
    cases h2
    cases h1 with
    | ptr hb =>
      rename_i L
      split at hs
      · rename_i hj
        simp only [Option.some.injEq] at hs
        subst hs
        refine .pure hR hD (v' := .pointer (some ⟨L.blk, L.base + (off + j.toNat * i.size), none⟩)) ?_ (.ptr hb)
        simp [execOp, ho, hxx, hyy, Instr.indexAt, asIntOf, run_underlying ht, Instr.sureAddr, hj, run_sizeOf hi', Addr.add_lit, Nat.add_assoc]
      · cases hs
  · cases hs

theorem s_ixSl {t e : TypeId} {i : TypeInfo} {x y : Operand} (ho : o.op = .indexAddr t x y) (ht : P.underlying t = some (.slice e)) (hi' : P.info? e = some i) (hx : okOpd x = true) (hy : okOpd y = true)
    (hE : EnvR ρ env a.tmps) (hR : Rel P ρ H.get w) (hD : Dom ρ H.next) (hs : aStep env H (.ixSl i.size x y) = some res) : StepR P ρ H w o a res := by
  have h1 := hE.eval hx
  have h2 := hE.eval hy
  generalize hxx : a.eval x = xv at h1
  generalize hyy : a.eval y = yv at h2
  simp only [aStep] at hs
  split at hs
  · rename_i b off n c k j hx' hy'
    rw [hx'] at h1; rw [hy'] at h2
    cases h2
    split at hs
    · rename_i hj
      simp only [Option.some.injEq] at hs
      subst hs
      cases h1 with
      | slice0 => omega
      | slice hb =>
        rename_i L _ _ _ _
        refine .pure hR hD (v' := .pointer (some ⟨L.blk, L.base + (off + j.toNat * i.size), none⟩)) ?_ (.ptr hb)
        simp [execOp, ho, hxx, hyy, Instr.indexAt, asIntOf, run_underlying ht, hj, run_sizeOf hi', Addr.add_lit, Nat.add_assoc]
    · cases hs
  · cases hs

theorem s_ixStr {t : TypeId} {x y : Operand} (ho : o.op = .index t x y) (ht : P.underlying t = some .string) (hx : okOpd x = true) (hy : okOpd y = true)
    (hE : EnvR ρ env a.tmps) (hR : Rel P ρ H.get w) (hD : Dom ρ H.next) (hs : aStep env H (.ixStr x y) = some res) : StepR P ρ H w o a res := by
  have h1 := hE.eval hx
  have h2 := hE.eval hy
  generalize hxx : a.eval x = xv at h1
  generalize hyy : a.eval y = yv at h2
  simp only [aStep] at hs
  split at hs
  · rename_i s k j hx' hy'
    rw [hx'] at h1; rw [hy'] at h2
    cases h1; cases h2
    split at hs
    · rename_i hj
      simp only [Option.map_eq_some_iff] at hs
      obtain ⟨b, hb, rfl⟩ := hs
      exact .pure hR hD (v' := .int .u8 b.toNat) (by simp [execOp, ho, hxx, hyy, Instr.index, asIntOf, run_underlying ht, hj, hb]) (.int _ _)
    · cases hs
  · cases hs

theorem s_ixAgg {t e : TypeId} {n : Nat} {i : TypeInfo} {x y : Operand} (ho : o.op = .index t x y) (ht : P.underlying t = some (.array n e)) (hi' : P.info? e = some i) (hi1 : i.size = 1) (hag : isAggT P e = some false) (hx : okOpd x = true) (hy : okOpd y = true)
    (hE : EnvR ρ env a.tmps) (hR : Rel P ρ H.get w) (hD : Dom ρ H.next) (hs : aStep env H (.ixAgg n x y) = some res) : StepR P ρ H w o a res := by
  have h1 := hE.eval hx
  have h2 := hE.eval hy
  generalize hxx : a.eval x = xv at h1
  generalize hyy : a.eval y = yv at h2
  simp only [aStep] at hs
  split at hs
  · rename_i cs k j hx' hy'
    rw [hx'] at h1; rw [hy'] at h2
    cases h2
    cases h1 with
    | agg h1 h2 =>
      split at hs
      · rename_i hj
        simp only [Option.map_eq_some_iff] at hs
        obtain ⟨v, hv, rfl⟩ := hs
        obtain ⟨u, hu, hr⟩ := VRs.get (ρ := ρ) ⟨h1, h2⟩ hv
        exact .pure hR hD (v' := u) (by simp [execOp, ho, hxx, hyy, Instr.index, asIntOf, run_underlying ht, hj, run_sizeOf hi', hi1, part, run_isAgg_false hag, hu]) hr
      · cases hs
  · cases hs

theorem u8s_list : ∀ {l : List Value} {ns : List Int}, u8s l = some ns → l = ns.map (Value.int .u8)
  | [], ns, h => by simp only [u8s, Option.some.injEq] at h; subst h; rfl
  | v :: r, ns, h => by
    unfold u8s at h
    split at h
    · cases ‹_ = []›
    · rename_i n r' he
      simp only [List.cons.injEq] at he
      obtain ⟨rfl, rfl⟩ := he
      simp only [Option.map_eq_some_iff] at h
      obtain ⟨ms, hm, rfl⟩ := h
      rw [u8s_list hm]
      rfl
    · cases h

theorem s_bytesStr {s d e : TypeId} {x : Operand} (ho : o.op = .convert s d x) (hsrc : P.underlying s = some (.slice e)) (hdst : P.underlying d = some .string) (he : P.underlying e = some (.int .u8)) (hx : okOpd x = true)
    (hE : EnvR ρ env a.tmps) (hR : Rel P ρ H.get w) (hD : Dom ρ H.next) (hs : aStep env H (.bytesStr x) = some res) : StepR P ρ H w o a res := by
  have h1 := hE.eval hx
  generalize hxx : a.eval x = xv at h1
  simp only [aStep] at hs
  split at hs
  · rename_i n c hx'
    simp only [Option.some.injEq] at hs
    subst hs
    rw [hx'] at h1
    cases h1 with
    | sliceN => exact .pure hR hD (v' := .string .empty) (by simp [execOp, ho, hxx, run_convert_bytes_string w s d e _ _ _ hsrc he hdst, Conv.bytesToString]) (.string _)
    | slice0 => exact .pure hR hD (v' := .string .empty) (by simp [execOp, ho, hxx, run_convert_bytes_string w s d e _ _ _ hsrc he hdst, Conv.bytesToString, loadCells, loadCellsFrom]; try rfl) (.string _)
    | slice _ hn => exact absurd rfl hn
  · rename_i ad n c _ hx'
    split at hs
    · rename_i vs hvs
      simp only [Option.map_eq_some_iff] at hs
      obtain ⟨ns, hns, rfl⟩ := hs
      rw [hx'] at h1
      obtain ⟨ad', c', rfl, _, _, _, hne⟩ := slice_inv h1
      cases ad' with
      | none => exact absurd rfl (hne (by simp))
      | some ad' =>
        have hload : (loadCells ad' n).run P w = .ok (ns.map (Value.int .u8)).toArray w := by
          by_cases h0 : n = 0
          · subst h0
            have hvz : vs = #[] := by
              unfold rdN at hvs
              split at hvs
              · split at hvs
                · split at hvs
                  · simp only [Option.some.injEq] at hvs
                    subst hvs
                    simp
                    omega
                  · cases hvs
                · cases hvs
              · cases hvs
            subst hvz
            simp only [u8s, Option.some.injEq] at hns
            subst hns
            simp [loadCells, loadCellsFrom]
          · cases h1 with
            | slice0 => exact absurd rfl h0
            | slice hb =>
              obtain ⟨r, off, ys, hp, hys, hxs, hvr, hcells⟩ := rdN_sound hR (.ptr hb) hvs
              simp only [Value.pointer.injEq, Option.some.injEq] at hp
              rw [hp]
              have hl := run_loadCells_list (P := P) w ⟨r, off, none⟩ ys.toList hcells
              simp only [Array.length_toList, hys, Array.toArray_toList] at hl
              rw [hl]
              congr 1
              have hvl := u8s_list hns
              apply Array.ext'
              apply List.ext_getElem?
              intro k
              rw [← hvl, Array.getElem?_toList, List.toList_toArray, Array.getElem?_toList]
              by_cases hk : k < vs.size
              · obtain ⟨y, hy, hr⟩ := hvr.get (Array.getElem?_eq_getElem hk)
                rw [hy, Array.getElem?_eq_getElem hk]
                have hint : ∃ m, vs[k] = .int .u8 m := by
                  have hm : vs[k] ∈ vs.toList := by simp
                  rw [hvl] at hm
                  obtain ⟨m, _, hm⟩ := List.mem_map.1 hm
                  exact ⟨m, hm.symm⟩
                obtain ⟨m, hm⟩ := hint
                rw [hm] at hr ⊢
                cases hr
                rfl
              · have hk' : ¬ k < ys.size := by rw [← hvr.1]; exact hk
                rw [Array.getElem?_eq_none (by omega), Array.getElem?_eq_none (by omega)]
        refine .pure hR hD (v' := .string (ns.foldl (fun r n => r.push (UInt8.ofNat n.toNat)) ByteArray.empty)) ?_ (.string _)
        simp [execOp, ho, hxx, run_convert_bytes_string w s d e _ _ _ hsrc he hdst, run_bytesToString w ad' n c' ns hload]
    · cases hs
  · cases hs

end
end Go.Aev
