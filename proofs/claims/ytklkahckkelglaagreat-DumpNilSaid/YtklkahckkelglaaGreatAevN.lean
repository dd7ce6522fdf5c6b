/- Regions that draw their order, first part: what looks, what is pure, what is fresh; a heap beside a heap. -/
import Derived.Test.YtklkahckkelglaaGreatAevM
import Derived.Orders
namespace Go.Aev
open Go

/-! the operations' own kinds -/
theorem ev1_congr {e1 e2 : Env} {x : Operand} (h : ∀ t, x = .tmp t → e1.getD t undef = e2.getD t undef) : ev1 e1 x = ev1 e2 x := by
  cases x with
  | tmp t => exact h t rfl
  | const v => rfl
  | global g => rfl
  | func f => rfl

theorem bound_congr {e1 e2 : Env} {d : Nat} {x : Option Operand} (h : ∀ y, x = some y → ev1 e1 y = ev1 e2 y) : bound e1 d x = bound e2 d x := by
  cases x with
  | none => rfl
  | some y => simp only [bound, h y rfl]

theorem aStep_congr {e1 e2 : Env} {H : AHeap} {op : AOp} (h : ∀ x ∈ op.opds, ev1 e1 x = ev1 e2 x) : aStep e1 H op = aStep e2 H op := by
  have ps : ∀ parts : List (Nat × Operand), (∀ x ∈ parts.map (·.2), ev1 e1 x = ev1 e2 x) → (parts.map fun (p : Nat × Operand) => (p.1, ev1 e1 p.2)) = (parts.map fun (p : Nat × Operand) => (p.1, ev1 e2 p.2)) := fun parts hp =>
    List.map_congr_left fun p hm => by rw [hp p.2 (List.mem_map.2 ⟨p, hm, rfl⟩)]
  have ls : ∀ xs : List Operand, (∀ x ∈ xs, ev1 e1 x = ev1 e2 x) → xs.map (ev1 e1) = xs.map (ev1 e2) := fun xs hp => List.map_congr_left hp
  cases op <;> simp only [AOp.opds] at h <;> simp only [aStep]
  case build z pl parts => rw [ps parts h]
  case buildArr z s parts => rw [ps parts h]
  case buildSlice e s l c parts => rw [ps parts h]
  case makeFunc f xs ys => rw [ls xs fun x hx => h x (List.mem_append_left _ hx), ls ys fun x hx => h x (List.mem_append_right _ hx)]
  case call f xs => rw [ls xs h]
  case callV x xs => rw [h x (by simp), ls xs fun y hy => h y (by simp [hy])]
  case sliceStr x lo hi =>
    have hh : ∀ d, bound e1 d hi = bound e2 d hi := fun d => bound_congr fun y hy => h y (by simp [hy])
    simp only [h x (by simp), bound_congr (x := lo) fun y hy => h y (by simp [hy]), hh]
  case sliceSl s x lo hi mx =>
    have hh : ∀ d, bound e1 d hi = bound e2 d hi := fun d => bound_congr fun y hy => h y (by simp [hy])
    have hm : ∀ d, bound e1 d mx = bound e2 d mx := fun d => bound_congr fun y hy => h y (by simp [hy])
    simp only [h x (by simp), bound_congr (x := lo) fun y hy => h y (by simp [hy]), hh, hm]
  case sliceArr l s x lo hi => rw [h x (by simp), bound_congr (x := lo) fun y hy => h y (by simp [hy]), bound_congr (x := hi) fun y hy => h y (by simp [hy])]
  all_goals (simp_all)

/-- What is pure yields its value over whatever heap. -/
theorem pure_any {env : Env} {H : AHeap} {op : AOp} {res : Res} (hp : isPure op = true) (h : aStep env H op = some res) : ∃ v, res = .val v H ∧ ∀ H2, aStep env H2 op = some (.val v H2) := by
  have vm : ∀ (x : Option Value), (x.map fun v => Res.val v H) = some res → ∃ v, res = .val v H ∧ ∀ H2 : AHeap, (x.map fun v => Res.val v H2) = some (.val v H2) := by
    intro x hx
    cases x with
    | none => cases hx
    | some v => simp only [Option.map_some, Option.some.injEq] at hx; exact ⟨v, hx.symm, fun _ => rfl⟩
  have bm : ∀ (neg : Bool) (x : Option Bool), (x.map fun b => Res.val (.bool (if neg then !b else b)) H) = some res → ∃ v, res = .val v H ∧ ∀ H2 : AHeap, (x.map fun b => Res.val (.bool (if neg then !b else b)) H2) = some (.val v H2) := by
    intro neg x hx
    cases x with
    | none => cases hx
    | some v => simp only [Option.map_some, Option.some.injEq] at hx; exact ⟨_, hx.symm, fun _ => rfl⟩
  have um : ∀ (x : Option UInt8), (x.map fun b => Res.val (.int .u8 b.toNat) H) = some res → ∃ v, res = .val v H ∧ ∀ H2 : AHeap, (x.map fun b => Res.val (.int .u8 b.toNat) H2) = some (.val v H2) := by
    intro x hx
    cases x with
    | none => cases hx
    | some v => simp only [Option.map_some, Option.some.injEq] at hx; exact ⟨_, hx.symm, fun _ => rfl⟩
  cases op <;> first | (simp [isPure] at hp; done) | skip
  all_goals simp only [aStep] at h ⊢
  all_goals first
    | exact vm _ h
    | exact bm _ _ h
    | (simp only [Option.some.injEq] at h; exact ⟨_, h.symm, fun _ => rfl⟩) | (simp only [Option.some.injEq] at h; subst h; exact ⟨_, rfl, fun _ => by first | (simp only [*, if_true, and_self]; done) | (simp_all; done)⟩) | (simp only [Option.map_eq_some_iff] at h; obtain ⟨v, hv, rfl⟩ := h; exact ⟨_, rfl, fun _ => by first | (simp only [*, if_true, and_self, Option.map_some]; done) | (simp_all; done)⟩)
    | (split at h
       all_goals first
         | (cases h; done)
         | exact vm _ h
         | (simp only [Option.some.injEq] at h; exact ⟨_, h.symm, fun _ => rfl⟩) | (simp only [Option.some.injEq] at h; subst h; exact ⟨_, rfl, fun _ => by first | (simp only [*, if_true, and_self]; done) | (simp_all; done)⟩) | (simp only [Option.map_eq_some_iff] at h; obtain ⟨v, hv, rfl⟩ := h; exact ⟨_, rfl, fun _ => by first | (simp only [*, if_true, and_self, Option.map_some]; done) | (simp_all; done)⟩)
         | (split at h
            all_goals first
              | (cases h; done)
              | exact vm _ h
              | exact um _ h
              | (simp only [Option.some.injEq] at h; exact ⟨_, h.symm, fun _ => rfl⟩) | (simp only [Option.some.injEq] at h; subst h; exact ⟨_, rfl, fun _ => by first | (simp only [*, if_true, and_self]; done) | (simp_all; done)⟩) | (simp only [Option.map_eq_some_iff] at h; obtain ⟨v, hv, rfl⟩ := h; exact ⟨_, rfl, fun _ => by first | (simp only [*, if_true, and_self, Option.map_some]; done) | (simp_all; done)⟩)
              | (split at h
                 all_goals first
                   | (cases h; done)
                   | exact vm _ h
                   | (simp only [Option.some.injEq] at h; exact ⟨_, h.symm, fun _ => rfl⟩) | (simp only [Option.some.injEq] at h; subst h; exact ⟨_, rfl, fun _ => by first | (simp only [*, if_true, and_self]; done) | (simp_all; done)⟩) | (simp only [Option.map_eq_some_iff] at h; obtain ⟨v, hv, rfl⟩ := h; exact ⟨_, rfl, fun _ => by first | (simp only [*, if_true, and_self, Option.map_some]; done) | (simp_all; done)⟩)
                   | (split at h
                      all_goals first
                        | (cases h; done)
                        | (simp only [Option.some.injEq] at h; exact ⟨_, h.symm, fun _ => rfl⟩) | (simp only [Option.some.injEq] at h; subst h; exact ⟨_, rfl, fun _ => by first | (simp only [*, if_true, and_self]; done) | (simp_all; done)⟩) | (simp only [Option.map_eq_some_iff] at h; obtain ⟨v, hv, rfl⟩ := h; exact ⟨_, rfl, fun _ => by first | (simp only [*, if_true, and_self, Option.map_some]; done) | (simp_all; done)⟩)))))

theorem rd_same {H H2 : AHeap} {x v : Value} (h : rd H x = some v) (hb : ∀ b k, ptrOf x = some b → H.get b = some k → H2.get b = some k) : rd H2 x = some v := by
  unfold rd at h ⊢
  split at h
  · rename_i b o
    split at h
    · rename_i c e r hg
      simp only [hb b _ rfl hg, h]
    · cases h
  · cases h
theorem rdN_same {H H2 : AHeap} {n : Nat} {x : Value} {v : Array Value} (h : rdN H n x = some v) (hb : ∀ b k, ptrOf x = some b → H.get b = some k → H2.get b = some k) : rdN H2 n x = some v := by
  unfold rdN at h ⊢
  split at h
  · rename_i b o
    split at h
    · rename_i c e r hg
      simp only [hb b _ rfl hg, h]
    · cases h
  · cases h
theorem mapAt_same {H H2 : AHeap} {x : Value} {v : Array MapEntry × Nat} (h : mapAt H x = some v) (hb : ∀ b k, ptrOf x = some b → H.get b = some k → H2.get b = some k) : mapAt H2 x = some v := by
  unfold mapAt at h ⊢
  split at h
  · rename_i b
    split at h
    · rename_i c e hg
      simp only [hb b _ rfl hg]
      exact h
    · cases h
  · cases h

/-- What looks yields its value over whatever heap has the same there. -/
theorem look_any {env : Env} {H : AHeap} {op : AOp} {res : Res} (hp : isLook op = true) (h : aStep env H op = some res) :
    ∃ v, res = .val v H ∧ ∀ H2 : AHeap, (∀ b k, ptrOf (ev1 env (lookOpd op)) = some b → H.get b = some k → H2.get b = some k) → aStep env H2 op = some (.val v H2) := by
  cases op <;> first | (simp [isLook] at hp; done) | skip
  case load x =>
    simp only [aStep, lookOpd, Option.map_eq_some_iff] at h ⊢
    obtain ⟨v, hv, rfl⟩ := h
    exact ⟨v, rfl, fun H2 hb => ⟨v, rd_same hv hb, rfl⟩⟩
  case loadN n x =>
    simp only [aStep, lookOpd, Option.map_eq_some_iff] at h ⊢
    obtain ⟨v, hv, rfl⟩ := h
    exact ⟨_, rfl, fun H2 hb => ⟨v, rdN_same hv hb, rfl⟩⟩
  case aload k x =>
    simp only [aStep, lookOpd] at h ⊢
    split at h
    · rename_i k' n hr
      split at h
      · rename_i hk
        simp only [Option.some.injEq] at h
        refine ⟨_, h.symm, fun H2 hb => ?_⟩
        simp only [rd_same hr hb, hk, if_true]
      · cases h
    · cases h
  case bytesStr x =>
    simp only [aStep, lookOpd] at h ⊢
    split at h
    · rename_i he
      simp only [Option.some.injEq] at h
      exact ⟨_, h.symm, fun H2 hb => rfl⟩
    · rename_i a n c hne he
      have hn : n ≠ 0 := hne
      have hp : ptrOf (ev1 env x) = ptrOf (.pointer (some a)) := by rw [he]; simp [ptrOf, hn]
      rw [hp]
      split at h
      · rename_i vs hr
        cases hu : u8s vs.toList with
        | none => rw [hu] at h; cases h
        | some ns =>
          rw [hu] at h
          simp only [Option.map_some, Option.some.injEq] at h
          refine ⟨_, h.symm, fun H2 hb => ?_⟩
          simp only [rdN_same hr hb, hu, Option.map_some]
      · cases h
    · cases h
  case lookup key zero ok m k =>
    simp only [aStep, lookOpd] at h ⊢
    split at h
    · rename_i hk
      simp only [hk, if_true]
      split at h
      · rename_i he
        simp only [Option.some.injEq] at h
        exact ⟨_, h.symm, fun H2 hb => rfl⟩
      · rename_i hne
        split at h
        · rename_i es clock hm
          have hm2 : ∀ H2 : AHeap, (∀ b k, ptrOf (ev1 env m) = some b → H.get b = some k → H2.get b = some k) → mapAt H2 (ev1 env m) = some (es, clock) := fun H2 hb => mapAt_same hm hb
          split at h
          · rename_i i v hf
            simp only [Option.some.injEq] at h
            refine ⟨_, h.symm, fun H2 hb => ?_⟩
            simp only [hm2 H2 hb, hf]
          · rename_i hf
            simp only [Option.some.injEq] at h
            refine ⟨_, h.symm, fun H2 hb => ?_⟩
            simp only [hm2 H2 hb, hf]
          · cases h
        · cases h
    · cases h
  case lenMap x =>
    simp only [aStep, lookOpd] at h ⊢
    split at h
    · rename_i he
      simp only [Option.some.injEq] at h
      exact ⟨_, h.symm, fun H2 hb => rfl⟩
    · rename_i hne
      simp only [Option.map_eq_some_iff] at h
      obtain ⟨p, hm, rfl⟩ := h
      refine ⟨_, rfl, fun H2 hb => ?_⟩
      simp only [mapAt_same hm hb, Option.map_some]

/-- What makes a block makes it over whatever heap. -/
theorem fresh_any {env : Env} {H : AHeap} {op : AOp} {res : Res} (hp : isFresh op = true) (h : aStep env H op = some res) :
    ∃ v k, res = .val v (H.push k) ∧ ∀ H2 : AHeap, H2.next = H.next → aStep env H2 op = some (.val v (H2.push k)) := by
  cases op <;> first | (simp [isFresh] at hp; done) | skip
  all_goals simp only [aStep] at h ⊢
  all_goals first
    | (simp only [Option.some.injEq] at h; subst h; exact ⟨_, _, rfl, fun H2 hn => by first | (rw [hn]; done) | (simp only [hn]; rw [if_pos (by assumption)]; done) | (simp only [hn]; simp only [*, if_true, and_self]; done) | (simp_all; done)⟩)
    | (split at h
       all_goals first
         | (cases h; done)
         | (simp only [Option.some.injEq] at h; subst h; exact ⟨_, _, rfl, fun H2 hn => by first | (rw [hn]; done) | (simp only [hn]; rw [if_pos (by assumption)]; done) | (simp only [hn]; simp only [*, if_true, and_self]; done) | (simp_all; done)⟩)
         | (split at h
            all_goals first
              | (cases h; done)
              | (simp only [Option.some.injEq] at h; subst h; exact ⟨_, _, rfl, fun H2 hn => by first | (rw [hn]; done) | (simp only [hn]; rw [if_pos (by assumption)]; done) | (simp only [hn]; simp only [*, if_true, and_self]; done) | (simp_all; done)⟩)))

/-! the renaming, cut at a number, and put together again -/
def Ren.cut (ρ : Ren) (n : Nat) : Ren := fun b => if b < n then ρ b else none
def Ren.join (ρ : Ren) (n : Nat) (ρ₁ : Ren) : Ren := fun b => if b < n then ρ₁ b else ρ b
theorem Ren.cut_dom (ρ : Ren) (n : Nat) : Dom (ρ.cut n) n := fun b l h => by
  unfold Ren.cut at h
  split at h
  · assumption
  · cases h
theorem Ren.cut_some {ρ : Ren} {n b : Nat} {l : Loc} (h : ρ.cut n b = some l) : b < n ∧ ρ b = some l := by
  unfold Ren.cut at h
  split at h
  · exact ⟨by assumption, h⟩
  · cases h
theorem Ren.cut_eq {ρ : Ren} {n b : Nat} (h : b < n) : ρ.cut n b = ρ b := by unfold Ren.cut; rw [if_pos h]

theorem VR.cut {ρ ρ₂ : Ren} {n : Nat} {v v' : Value} (h : VR ρ v v') : ∀ {v₂ : Value}, VR ρ₂ v v₂ → Dom ρ₂ n → VR (ρ.cut n) v v' := by
  induction h with
  | undef v => intro _ _ _; exact .undef v
  | left => intro _ _ _; exact .left
  | anyc hc => intro _ _ _; exact .anyc hc
  | bool b => intro _ _ _; exact .bool b
  | int k m => intro _ _ _; exact .int k m
  | string s => intro _ _ _; exact .string s
  | ptrN => intro _ _ _; exact .ptrN
  | ptr hb => intro _ h2 hd; cases h2 with | ptr hb2 => exact .ptr (by rw [Ren.cut_eq (hd _ _ hb2)]; exact hb)
  | sliceN => intro _ _ _; exact .sliceN
  | slice0 hc => intro _ _ _; exact .slice0 hc
  | slice hb hn hc he hg =>
    intro _ h2 hd
    cases h2 with
    | slice0 => exact absurd rfl hn
    | slice hb2 => exact .slice (by rw [Ren.cut_eq (hd _ _ hb2)]; exact hb) hn hc he hg
  | mapN => intro _ _ _; exact .mapN
  | map hb => intro _ h2 hd; cases h2 with | map hb2 => exact .map (by rw [Ren.cut_eq (hd _ _ hb2)]; exact hb)
  | nilFunc => intro _ _ _; exact .nilFunc
  | func h1 h2 _ _ ih1 ih2 => intro _ h2' hd; cases h2' with | func _ _ g3 g4 => exact .func h1 h2 (fun i => ih1 i (g3 i) hd) (fun i => ih2 i (g4 i) hd)
  | agg h1 _ ih => intro _ h2' hd; cases h2' with | agg _ g => exact .agg h1 (fun i => ih i (g i) hd)
  | tuple h1 _ ih =>
    intro _ h2' hd
    cases h2' with
    | undef => exact .undef _
    | tuple _ g => exact .tuple h1 (fun i => ih i (g i) hd)

/-- What became of the world since a region's begin, while what stands there is said by a function. -/
structure PG (P : Program) (n0 : Nat) (ρ : Ren) (G : Nat → Option Blk) (w : World) (ρ' : Ren) (G' : Nat → Option Blk) (w' : World) : Prop where
  rel : Rel P ρ' G' w'
  ext : Ext ρ ρ'
  size : w.heap.size ≤ w'.heap.size
  frame : ∀ r, r < w.heap.size → (∀ b l, ρ b = some l → own (G b) = true → l.blk ≠ r) → w'.heap[r]? = w.heap[r]?
  new : ∀ b l, ρ' b = some l → ρ b = some l ∨ (n0 ≤ b ∧ (w.heap.size ≤ l.blk ∨ ∃ b0 l0, ρ b0 = some l0 ∧ own (G b0) = true ∧ l0.blk = l.blk))
  stat : ∀ b l, ρ b = some l → own (G' b) = true → own (G b) = true
  os : w'.os = w.os
  tape : w'.tape = w.tape
  output : w'.output = w.output

theorem PG.refl {P : Program} {n0 : Nat} {ρ : Ren} {G : Nat → Option Blk} {w : World} (h : Rel P ρ G w) : PG P n0 ρ G w ρ G w :=
  ⟨h, Ext.refl ρ, Nat.le_refl _, fun _ _ _ => rfl, fun _ _ h => .inl h, fun _ _ _ h => h, rfl, rfl, rfl⟩

theorem PG.trans {P : Program} {n0 n1 : Nat} {ρ ρ₁ ρ₂ : Ren} {G G₁ G₂ : Nat → Option Blk} {w w₁ w₂ : World} (hn : n0 ≤ n1) (h : PG P n0 ρ G w ρ₁ G₁ w₁) (h' : PG P n1 ρ₁ G₁ w₁ ρ₂ G₂ w₂) : PG P n0 ρ G w ρ₂ G₂ w₂ := by
  refine ⟨h'.rel, h.ext.trans h'.ext, Nat.le_trans h.size h'.size, ?_, ?_, ?_, h'.os.trans h.os, h'.tape.trans h.tape, h'.output.trans h.output⟩
  · intro r hr hno
    rw [h'.frame r (Nat.lt_of_lt_of_le hr h.size), h.frame r hr hno]
    intro b l hb ho hl
    rcases h.new b l hb with hb0 | ⟨_, hn | ⟨b0, l0, hb0, ho0, hl0⟩⟩
    · exact hno b l hb0 (h.stat b l hb0 ho) hl
    · omega
    · exact hno b0 l0 hb0 ho0 (hl0.trans hl)
  · intro b l hb
    rcases h'.new b l hb with hb1 | ⟨hge, hn'⟩
    · exact h.new b l hb1
    · refine .inr ⟨Nat.le_trans hn hge, ?_⟩
      rcases hn' with hn' | ⟨b0, l0, hb0, ho0, hl0⟩
      · exact .inl (Nat.le_trans h.size hn')
      · rcases h.new b0 l0 hb0 with hb00 | ⟨_, hn2 | ⟨b1, l1, hb1, ho1, hl1⟩⟩
        · exact .inr ⟨b0, l0, hb00, h.stat b0 l0 hb00 ho0, hl0⟩
        · exact .inl (hl0 ▸ hn2)
        · exact .inr ⟨b1, l1, hb1, ho1, hl1.trans hl0⟩
  · intro b l hb ho
    exact h.stat b l hb (h'.stat b l (h.ext b l hb) ho)

/-- What is said of a renaming's own blocks alone counts. -/
theorem PG.congr {P : Program} {n0 : Nat} {ρ ρ' : Ren} {G G' G'' : Nat → Option Blk} {w w' : World} (h : PG P n0 ρ G w ρ' G' w') (he : ∀ b l, ρ' b = some l → G'' b = G' b) : PG P n0 ρ G w ρ' G'' w' := by
  refine ⟨⟨fun b l hb => ?_, fun b b' l l' hb hb' => ?_⟩, h.ext, h.size, h.frame, h.new, fun b l hb ho => ?_, h.os, h.tape, h.output⟩
  · rw [he b l hb]; exact h.rel.blk b l hb
  · rw [he b l hb, he b' l' hb']; exact h.rel.inj b b' l l' hb hb'
  · rw [he b l (h.ext b l hb)] at ho; exact h.stat b l hb ho

theorem Rel.congr {P : Program} {ρ : Ren} {G G' : Nat → Option Blk} {w : World} (h : Rel P ρ G w) (he : ∀ b l, ρ b = some l → G' b = G b) : Rel P ρ G' w :=
  ⟨fun b l hb => by rw [he b l hb]; exact h.blk b l hb, fun b b' l l' hb hb' => by rw [he b l hb, he b' l' hb']; exact h.inj b b' l l' hb hb'⟩

/-- One operation over a part of the blocks; the others stand as they stood. -/
theorem PG.union {P : Program} {ρ ρ₁ : Ren} {G : Nat → Option Blk} {w w' : World} (hR : Rel P ρ G w) {n n' : Nat} (hgap : ∀ b l, ρ b = some l → b < n ∨ n' ≤ b) {Hx Hx' : AHeap} (hxn : Hx.next = n) (hxn' : Hx'.next = n')
    (hx : ∀ b l, ρ b = some l → b < n → Hx.get b = G b) (hp : Post P (ρ.cut n) Hx w ρ₁ Hx' w') :
    PG P n ρ G w (ρ.join n' ρ₁) (fun b => if b < n' then Hx'.get b else G b) w' := by
  have hnn : n ≤ n' := by have := hp.mono; omega
  -- the old ones keep their places
  have hext : Ext ρ (ρ.join n' ρ₁) := fun b l hb => by
    unfold Ren.join
    rcases hgap b l hb with h | h
    · rw [if_pos (by omega)]
      exact hp.ext b l (by rw [Ren.cut_eq h]; exact hb)
    · rw [if_neg (by omega)]; exact hb
  -- what is beyond is not touched
  have hfar : ∀ b l, ρ b = some l → n' ≤ b → live (G b) = true → w'.heap[l.blk]? = w.heap[l.blk]? := fun b l hb hge hl => by
    refine hp.frame _ (hR.lt hb hl) fun b1 l1 hb1 ho e => ?_
    obtain ⟨hlt, hb1'⟩ := Ren.cut_some hb1
    rw [hx b1 l1 hb1' hlt] at ho
    exact hR.inj b1 b l1 l hb1' hb (by omega) (own_live ho) hl (.inl ho) e
  have hnew : ∀ b l, (ρ.join n' ρ₁) b = some l → ρ b = some l ∨ (n ≤ b ∧ b < n' ∧ (w.heap.size ≤ l.blk ∨ ∃ b0 l0, ρ b0 = some l0 ∧ b0 < n ∧ own (G b0) = true ∧ l0.blk = l.blk)) := fun b l hb => by
    unfold Ren.join at hb
    split at hb
    · rename_i hlt
      rcases hp.new b l hb with h | ⟨hge, h⟩
      · exact .inl (Ren.cut_some h).2
      · refine .inr ⟨by omega, hlt, ?_⟩
        rcases h with h | ⟨b0, l0, hb0, ho0, hl0⟩
        · exact .inl h
        · obtain ⟨h1, h2⟩ := Ren.cut_some hb0
          rw [hx b0 l0 h2 h1] at ho0
          exact .inr ⟨b0, l0, h2, h1, ho0, hl0⟩
    · exact .inl hb
  refine ⟨⟨?_, ?_⟩, hext, hp.size, ?_, ?_, ?_, hp.os, hp.tape, hp.output⟩
  · intro b l hb
    by_cases hlt : b < n'
    · have hb1 : ρ₁ b = some l := by unfold Ren.join at hb; rwa [if_pos hlt] at hb
      obtain ⟨k, hk, hbr⟩ := hp.rel.blk b l hb1
      refine ⟨k, by simp only [hlt, if_true]; exact hk, hbr.keep (fun b' l' h' => ?_) fun _ => rfl⟩
      unfold Ren.join
      rw [if_pos (by have := hp.dom b' l' h'; omega)]
      exact h'
    · have hb1 : ρ b = some l := by unfold Ren.join at hb; rwa [if_neg hlt] at hb
      obtain ⟨k, hk, hbr⟩ := hR.blk b l hb1
      exact ⟨k, by simp only [hlt, if_false]; exact hk, hbr.keep hext fun hl => hfar b l hb1 (by omega) (by rw [hk]; exact hl)⟩
  · -- no two share a block
    have cross : ∀ b b' l l', b < n' → ¬ b' < n' → (ρ.join n' ρ₁) b = some l → ρ b' = some l' → live (Hx'.get b) = true → live (G b') = true → (own (Hx'.get b) = true ∨ own (G b') = true) → l.blk ≠ l'.blk := by
      intro b b' l l' hlt hge hb hb' hl hl' ho e
      rcases hnew b l hb with h | ⟨_, _, h | ⟨b0, l0, hb0, hlt0, ho0, hl0⟩⟩
      · have hbn : b < n := by rcases hgap b l h with h | h <;> omega
        have hc : ρ.cut n b = some l := by rw [Ren.cut_eq hbn]; exact h
        have hlG : live (G b) = true := by rw [← hx b l h hbn]; exact hp.liv b (by omega) hl
        have hoG : own (G b) = true ∨ own (G b') = true := by
          rcases ho with ho | ho
          · exact .inl (by rw [← hx b l h hbn]; exact hp.stat b (by omega) ho)
          · exact .inr ho
        exact hR.inj b b' l l' h hb' (by omega) hlG hl' hoG e
      · have := hR.lt hb' hl'
        omega
      · exact hR.inj b0 b' l0 l' hb0 hb' (by omega) (own_live ho0) hl' (.inl ho0) (hl0.trans e)
    intro b b' l l' hb hb' hne hl hl' ho
    by_cases h1 : b < n'
    · by_cases h2 : b' < n'
      · simp only [h1, h2, if_true] at hl hl' ho
        have e1 : ρ₁ b = some l := by unfold Ren.join at hb; rwa [if_pos h1] at hb
        have e2 : ρ₁ b' = some l' := by unfold Ren.join at hb'; rwa [if_pos h2] at hb'
        exact hp.rel.inj b b' l l' e1 e2 hne hl hl' ho
      · simp only [h1, h2, if_true, if_false] at hl hl' ho
        have e2 : ρ b' = some l' := by unfold Ren.join at hb'; rwa [if_neg h2] at hb'
        exact cross b b' l l' h1 h2 hb e2 hl hl' ho
    · have e1 : ρ b = some l := by unfold Ren.join at hb; rwa [if_neg h1] at hb
      by_cases h2 : b' < n'
      · simp only [h1, h2, if_true, if_false] at hl hl' ho
        exact (cross b' b l' l h2 h1 hb' e1 hl' hl ho.symm).symm
      · simp only [h1, h2, if_false] at hl hl' ho
        have e2 : ρ b' = some l' := by unfold Ren.join at hb'; rwa [if_neg h2] at hb'
        exact hR.inj b b' l l' e1 e2 hne hl hl' ho
  · intro r hr hno
    refine hp.frame r hr fun b l hb ho => ?_
    obtain ⟨h1, h2⟩ := Ren.cut_some hb
    rw [hx b l h2 h1] at ho
    exact hno b l h2 ho
  · intro b l hb
    rcases hnew b l hb with h | ⟨h1, _, h | ⟨b0, l0, hb0, _, ho0, hl0⟩⟩
    · exact .inl h
    · exact .inr ⟨h1, .inl h⟩
    · exact .inr ⟨h1, .inr ⟨b0, l0, hb0, ho0, hl0⟩⟩
  · intro b l hb ho
    rcases hgap b l hb with h | h
    · simp only [show b < n' by omega, if_true] at ho
      have := hp.stat b (by omega) ho
      rwa [hx b l hb h] at this
    · simp only [show ¬ b < n' by omega, if_false] at ho
      exact ho

end Go.Aev
