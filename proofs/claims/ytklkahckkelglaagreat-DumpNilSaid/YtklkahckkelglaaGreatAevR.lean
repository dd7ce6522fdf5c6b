/- Regions that draw their order, last part: one operation, and all of them. -/
import Derived.Test.YtklkahckkelglaaGreatAevQ
namespace Go.Aev
open Go

theorem fresh_look {op : AOp} (h : isFresh op = true) : isLook op = false := by
  cases op <;> first | rfl | cases h

section
variable {P : Program} {call : CallT} {ops : Array Oper} {as : List AOper} {looks : List (List Nat)} {env env' : Env} {H H' : AHeap} {l : List Met} {ρ0 : Ren} {w0 : World} {tm0 : Array Value}

theorem Cont.more {L : Nat → Bool} {ρ : Ren} {G : Nat → Option Blk} {m k : Nat} (h : Cont as l H' L ρ G m) : Cont as l H' (fun j => L j || j == k) ρ G m := fun b lb hb => by
  rcases h b lb hb with h | ⟨g, h1, h2, h3, h4⟩
  · exact .inl h
  · exact .inr ⟨g, h1, h2, by simp [h3], h4⟩

theorem op_step (C : Ctx P call ops as looks env env' H H' l ρ0 w0 tm0) {L : Nat → Bool} {ρ : Ren} {G : Nat → Option Blk} {m : Nat} {a : Act} {w : World} (I : Inv P ops as l env H H' ρ0 w0 L ρ G m a.tmps w) (hd : a.defers = [])
    {k : Nat} (hk : k < as.length) (hL : L k = false) (hanc : ∀ j, anc (befs [] ops.toList) k j = true → L j = true) {o : Oper} (ho : ops[k]? = some o) {K : Act → World → Prop} {Q : Exit → Act → World → Prop}
    (hK : ∀ (a' : Act) w' ρ' G' m', a'.defers = [] → Inv P ops as l env H H' ρ0 w0 (fun j => L j || j == k) ρ' G' m' a'.tmps w' → K a' w') : wpOp P ops Q k K a w := by
  obtain ⟨ao, hao, hco⟩ := (mapM_get C.hm).2 k o (by simpa using ho)
  obtain ⟨hop, hdst⟩ := compileOper_op hco
  obtain ⟨mt, hmt⟩ := C.met hao
  have hhk : heapAt l H' k = mt.heap := by simp [heapAt, hmt.1]
  have hek : evAt l env' k = mt.env := by simp [evAt, hmt.1]
  have hdk : dstAt as k = o.dst := by simp [dstAt, hao, hdst]
  have hmet : mt.env = envL as l env (fun _ => true) k := by rw [← hek]; exact evAt_envL C.hev k (by omega)
  have hdef : ∀ v, (a.put o.dst v).defers = [] := fun v => by cases o.dst <;> exact hd
  have hread : ∀ t ∈ ao.reads, mt.env.getD t undef = (envL as l env L as.length).getD t undef := by
    intro t ht
    have get : ∀ {i : Nat}, dstAt as i = some t → ∃ x, as[i]? = some x ∧ x.dst = some t := fun {i} h => by
      unfold dstAt at h
      cases hi : as[i]? with
      | none => rw [hi] at h; cases h
      | some x => rw [hi] at h; exact ⟨x, rfl, h⟩
    have htc : ao.reads.contains t = true := List.contains_iff_mem.2 ht
    rw [envL_agree hL (k := k) (t := t) ?_ ?_ as.length, show min as.length k = k by omega, hmet]
    · intro q hq hdq
      obtain ⟨y, hy, hyd⟩ := get hdq
      rcases C.pair hq hao hy with h | ⟨h, _⟩
      · exact hanc q h
      · unfold clash at h
        rw [hyd] at h
        simp [ht] at h
    · intro q hq hdq
      obtain ⟨x, hx, hxd⟩ := get hdq
      rcases C.pair hq hx hao with h | ⟨h, _⟩
      · cases hLq : L q with
        | false => rfl
        | true =>
          have := I.closed q (List.getElem?_eq_some_iff.1 hx).1 hLq k h
          rw [hL] at this; cases this
      · unfold clash at h
        rw [hxd] at h
        simp [ht] at h
  have hX : ∀ ρr : Ren, (∀ t ∈ ao.reads, VR ρr (mt.env.getD t undef) (a.tmps.getD t undef)) → EnvR ρr (maskOf (some ao.reads) mt.env) a.tmps := by
    intro ρr h
    refine ⟨?_, fun t => ?_⟩
    · have := I.env.1
      rw [size_envL] at this
      rw [← this]
      simp only [maskOf, Array.size_mapIdx]
      rw [hmet, size_envL]
    · show VR ρr ((maskOf (some ao.reads) mt.env).getD t undef) (a.tmps.getD t undef)
      rw [mask_get]
      split
      · exact h t (by assumption)
      · exact .undef _
  have hXρ : ∀ t ∈ ao.reads, VR ρ (mt.env.getD t undef) (a.tmps.getD t undef) := fun t ht => by rw [hread t ht]; exact I.env.2 t
  obtain ⟨ρk, wk, tk, hEk, hPk⟩ := C.wit (k := k) (by omega)
  rw [hek] at hEk
  have hcut : ∀ t ∈ ao.reads, VR (ρ.cut (heapAt l H' k).next) (mt.env.getD t undef) (a.tmps.getD t undef) := fun t ht => (hXρ t ht).cut (hEk.2 t) hPk.dom
  have hkn : H.next ≤ (heapAt l H' k).next := hPk.mono
  unfold wpOp
  rw [ho]
  simp only
  rcases hmt.2 with ⟨hw, v, hv, hdo, _⟩ | ⟨hw, hv, hheap, _⟩
  · -- it is carried out
    have hwant : Region.wanted o (yielded ops a.tmps) = true := wants_sound hco (hX ρ hXρ) (by rw [wants_mask]; exact hw)
    have hpv : pv l k = v := by simp [pv, hmt.1, hv]
    rw [if_pos hwant]
    left
    cases hc : chainAt as k with
    | true =>
      obtain ⟨hmk, hno⟩ := I.no C hL hanc hc
      have hconv := I.conv C hk hL hmk hno
      have hnn : (heapAt l H' k).next ≤ (heapAt l H' (k + 1)).next := C.mono (by omega) (by omega)
      have hR : Rel P (ρ.cut (heapAt l H' k).next) (heapAt l H' k).get w := by
        have hG : ∀ b lb, ρ.cut (heapAt l H' k).next b = some lb → b < (heapAt l H' k).next ∧ ρ b = some lb ∧ G b = (heapAt l H' k).get b := fun b lb hb => by
          obtain ⟨h1, h2⟩ := Ren.cut_some hb
          rcases hconv b lb h2 with ⟨_, h3⟩ | ⟨g, hg1, hg2, _, hg3, _⟩
          · exact ⟨h1, h2, h3⟩
          · have := C.mono (i := k + 1) (j := g) hg1 (by omega)
            omega
        refine ⟨fun b lb hb => ?_, fun b b' lb lb' hb hb' => ?_⟩
        · obtain ⟨h1, h2, h3⟩ := hG b lb hb
          obtain ⟨bk, hbk, hbr⟩ := I.pg.rel.blk b lb h2
          rw [h3] at hbk
          have hρk : ∃ lk, ρk b = some lk := by
            rcases I.pg.new b lb h2 with h | ⟨h, _⟩
            · exact ⟨lb, hPk.ext b lb h⟩
            · cases e : ρk b with
              | none => exact absurd e (hPk.full b h h1)
              | some lk => exact ⟨lk, rfl⟩
          obtain ⟨lk, hlk⟩ := hρk
          obtain ⟨bk2, hbk2, hbr2⟩ := hPk.rel.blk b lk hlk
          rw [hbk] at hbk2
          simp only [Option.some.injEq] at hbk2
          subst hbk2
          exact ⟨bk, hbk, hbr.cut hbr2 hPk.dom⟩
        · obtain ⟨_, h2, h3⟩ := hG b lb hb
          obtain ⟨_, g2, g3⟩ := hG b' lb' hb'
          rw [← h3, ← g3]
          exact I.pg.rel.inj b b' lb lb' h2 g2
      rw [← hhk] at hdo
      refine doOp_sound C.hcall hop (env := maskOf (some ao.reads) mt.env) (by rw [doOp_mask]; exact hdo) (hX _ hcut) hR (Ren.cut_dom _ _) fun v' ρ1 w1 hv1 hp => ?_
      have hgap : ∀ b lb, ρ b = some lb → b < (heapAt l H' k).next ∨ (heapAt l H' (k + 1)).next ≤ b := fun b lb hb => by
        rcases hconv b lb hb with ⟨h, _⟩ | ⟨g, hg1, hg2, _, hg3, _⟩
        · exact .inl h
        · have := C.mono (i := k + 1) (j := g) hg1 (by omega)
          exact .inr (by omega)
      have hpg := PG.union I.pg.rel hgap rfl rfl (fun b lb hb hlt => by
        rcases hconv b lb hb with ⟨_, h⟩ | ⟨g, hg1, hg2, _, hg3, _⟩
        · exact h.symm
        · have := C.mono (i := k + 1) (j := g) hg1 (by omega)
          omega) hp
      have hjoin : Ext ρ1 (ρ.join (heapAt l H' (k + 1)).next ρ1) := fun b lb hb => by
        unfold Ren.join
        rw [if_pos (hp.dom b lb hb)]
        exact hb
      refine hK _ _ (ρ.join (heapAt l H' (k + 1)).next ρ1) (fun b => if b < (heapAt l H' (k + 1)).next then (heapAt l H' (k + 1)).get b else G b) (k + 1) (hdef _) ?_
      rw [← hdk]
      refine I.step C hk hL hanc (.inl ⟨hc, rfl⟩) (by rw [hpv]; exact hv1.ext hjoin) hkn hpg ?_ ?_ ?_
      · intro b lb hb
        by_cases hlt : b < (heapAt l H' (k + 1)).next
        · exact .inl ⟨hlt, by simp only [hlt, if_true]⟩
        · unfold Ren.join at hb
          rw [if_neg hlt] at hb
          rcases hconv b lb hb with ⟨h, _⟩ | ⟨g, hg1, hg2, hg3, hg4, hg5, hg6⟩
          · omega
          · exact .inr ⟨g, hg1, hg2, by simp [hg3], hg4, hg5, by simp only [hlt, if_false]; exact hg6⟩
      · intro b hb
        unfold Ren.join at hb
        split at hb
        · rename_i hlt
          cases e : ρ1 b with
          | none => exact absurd e hb
          | some lb =>
            rcases hp.new b lb e with h | ⟨h, _⟩
            · exact .inl (by rw [(Ren.cut_some h).2]; simp)
            · exact .inr ⟨h, hlt⟩
        · exact .inl hb
      · intro b h1 h2
        unfold Ren.join
        rw [if_pos h2]
        exact hp.full b h1 h2
    | false =>
      have hc' : isChain ao.op = false := by simpa [chainAt, hao] using hc
      obtain ⟨r, hr⟩ := doOp_aStep hdo
      -- the heap that stands, as a heap
      have hdomN := I.domN C
      have hHx : ∀ b lb, ρ b = some lb → (⟨(heapAt l H' as.length).next, layT G (heapAt l H' as.length).next⟩ : AHeap).get b = G b := fun b lb hb => by
        show (layT G _).get b = G b
        rw [get_layT, if_pos (hdomN b lb hb)]
      have hnN : H.next ≤ (heapAt l H' as.length).next := Nat.le_trans hkn (C.mono (by omega) (Nat.le_refl _))
      -- what leaves the heap as it stands
      have same : heapAt l H' (k + 1) = heapAt l H' k → aStep mt.env ⟨(heapAt l H' as.length).next, layT G (heapAt l H' as.length).next⟩ ao.op = some (.val v ⟨(heapAt l H' as.length).next, layT G (heapAt l H' as.length).next⟩) → o.wp P a w K Q := by
        intro hsame hs
        have hdo2 : doOp call ao (maskOf (some ao.reads) mt.env) ⟨(heapAt l H' as.length).next, layT G (heapAt l H' as.length).next⟩ = some (v, ⟨(heapAt l H' as.length).next, layT G (heapAt l H' as.length).next⟩) := by
          rw [doOp_mask]
          unfold doOp
          rw [hs]
        refine doOp_sound C.hcall hop hdo2 (hX ρ hXρ) (I.pg.rel.congr hHx) hdomN fun v' ρ1 w1 hv1 hp => ?_
        have hp' : Post P (ρ.cut (heapAt l H' as.length).next) ⟨(heapAt l H' as.length).next, layT G (heapAt l H' as.length).next⟩ w ρ1 ⟨(heapAt l H' as.length).next, layT G (heapAt l H' as.length).next⟩ w1 := by
          rw [Ren.cut_all hdomN]; exact hp
        have hpg := PG.union I.pg.rel (n := (heapAt l H' as.length).next) (n' := (heapAt l H' as.length).next) (Hx := ⟨(heapAt l H' as.length).next, layT G (heapAt l H' as.length).next⟩) (Hx' := ⟨(heapAt l H' as.length).next, layT G (heapAt l H' as.length).next⟩) (fun b lb hb => .inl (hdomN b lb hb)) rfl rfl (fun b lb hb _ => hHx b lb hb) hp'
        have hold : ∀ b lb, ρ1 b = some lb → ρ b = some lb := fun b lb hb => by
          rcases hp.new b lb hb with h | ⟨h, _⟩
          · exact h
          · have := hp.dom b lb hb
            have h' : (heapAt l H' as.length).next ≤ b := h
            have h2 : b < (heapAt l H' as.length).next := this
            omega
        have hjoin : Ext ρ1 (ρ.join (heapAt l H' as.length).next ρ1) := fun b lb hb => by
          unfold Ren.join
          rw [if_pos (hp.dom b lb hb)]
          exact hb
        have hjold : ∀ b lb, (ρ.join (heapAt l H' as.length).next ρ1) b = some lb → ρ b = some lb := fun b lb hb => by
          unfold Ren.join at hb
          split at hb
          · exact hold b lb hb
          · exact hb
        refine hK _ _ (ρ.join (heapAt l H' as.length).next ρ1) (fun b => if b < (heapAt l H' as.length).next then (⟨(heapAt l H' as.length).next, layT G (heapAt l H' as.length).next⟩ : AHeap).get b else G b) m (hdef _) ?_
        rw [← hdk]
        refine I.step C hk hL hanc (.inr ⟨hc, rfl⟩) (by rw [hpv]; exact hv1.ext hjoin) hnN hpg ?_ ?_ ?_
        · intro b lb hb
          have hb0 := hjold b lb hb
          have hg : (if b < (heapAt l H' as.length).next then (⟨(heapAt l H' as.length).next, layT G (heapAt l H' as.length).next⟩ : AHeap).get b else G b) = G b := by
            rw [if_pos (hdomN b lb hb0)]; exact hHx b lb hb0
          rcases I.cont.more (k := k) b lb hb0 with ⟨h1, h2⟩ | ⟨g, h1, h2, h3, h4, h5, h6⟩
          · exact .inl ⟨h1, hg.trans h2⟩
          · exact .inr ⟨g, h1, h2, h3, h4, h5, hg.trans h6⟩
        · intro b hb
          cases e : (ρ.join (heapAt l H' as.length).next ρ1) b with
          | none => exact absurd e hb
          | some lb => exact .inl (by rw [hjold b lb e]; simp)
        · intro b h1 h2
          rw [hsame] at h2
          omega
      rcases kinds ao.op hc' with hp | hp | hp
      · -- it is pure
        obtain ⟨u, rfl, hany⟩ := pure_any hp hr
        obtain ⟨rfl, h2⟩ := doOp_val hdo hr
        exact same (by rw [← h2, hhk]) (hany _)
      · -- it looks
        obtain ⟨u, rfl, hany⟩ := look_any hp hr
        obtain ⟨rfl, h2⟩ := doOp_val hdo hr
        refine same (by rw [← h2, hhk]) ?_
        cases hptr : ptrOf (ev1 mt.env (lookOpd ao.op)) with
        | none => exact hany _ fun b bk hb => by rw [hptr] at hb; cases hb
        | some b0 =>
          have hok := (order_spec C.hdl).1 ao (List.mem_of_getElem? hao) hp
          have hvx := (hX ρ hXρ).eval hok
          rw [ev1_mask (look_opd hp)] at hvx
          obtain ⟨lb, hlb⟩ := hvx.ptr_some hptr
          have hvk := EnvR.eval (a := ⟨tk, []⟩) hEk hok
          obtain ⟨lk, hlk⟩ := hvk.ptr_some hptr
          have hb0k := hPk.dom b0 lk hlk
          have hb0N := hdomN b0 lb hlb
          -- from a heap that has the same there
          have from_ : ∀ j u2, (heapAt l H' j).get b0 = G b0 → aStep mt.env (heapAt l H' j) ao.op = some (.val u2 (heapAt l H' j)) → u2 = u →
              aStep mt.env ⟨(heapAt l H' as.length).next, layT G (heapAt l H' as.length).next⟩ ao.op = some (.val u ⟨(heapAt l H' as.length).next, layT G (heapAt l H' as.length).next⟩) := by
            intro j u2 hj hs hu
            obtain ⟨u3, he, hany3⟩ := look_any hp hs
            simp only [Res.val.injEq, and_true] at he
            subst hu he
            refine hany3 _ fun b bk hb hbk => ?_
            rw [hptr] at hb
            simp only [Option.some.injEq] at hb
            subst hb
            rw [hHx _ lb hlb, ← hj]
            exact hbk
          have yld : ∀ j, yields ao mt (heapAt l H' (k + 1)) (heapAt l H' j) = true → ∃ u2, aStep mt.env (heapAt l H' j) ao.op = some (.val u2 (heapAt l H' j)) ∧ u2 = u := by
            intro j hy
            unfold yields at hy
            rw [hv] at hy
            simp only [hp, if_true, Bool.and_eq_true] at hy
            obtain ⟨_, hy⟩ := hy
            split at hy
            · rename_i u2 H2 hs
              obtain ⟨u3, he, _⟩ := look_any hp hs
              simp only [Res.val.injEq] at he
              obtain ⟨rfl, rfl⟩ := he
              exact ⟨_, hs, sameV_eq hy⟩
            · cases hy
          have atk : aStep mt.env (heapAt l H' k) ao.op = some (.val u (heapAt l H' k)) := by
            obtain ⟨u3, he, h3⟩ := look_any hp hr
            simp only [Res.val.injEq] at he
            rw [he.1]
            exact h3 _ fun b bk _ hbk => by rw [hhk]; exact hbk
          -- no unlisted one of the chain waits for k, nor k for it
          have hno : ∀ j, chainAt as j = true → L j = false → j < k → aStep mt.env (heapAt l H' j) ao.op = some (.val u (heapAt l H' j)) := by
            intro j hcj hLj hjk
            have h1 : anc (befs [] ops.toList) k j = false := by
              cases e : anc (befs [] ops.toList) k j with
              | false => rfl
              | true => rw [hanc j e] at hLj; cases hLj
            have h2 : anc (befs [] ops.toList) j k = false := by
              cases e : anc (befs [] ops.toList) j k with
              | false => rfl
              | true => have := (anc_spec e).1; omega
            rcases (C.look hao hmt.1 (by simp [hp]) hcj (by omega) h1 h2).1 hjk with h | h
            · rw [hp] at h; cases h
            · obtain ⟨u2, hs, rfl⟩ := yld j h
              exact hs
          have back : ∀ i, i ≤ k → b0 < (heapAt l H' i).next → (heapAt l H' i).get b0 = G b0 → (∀ q, i ≤ q → chainAt as q = true → L q = false) →
              aStep mt.env ⟨(heapAt l H' as.length).next, layT G (heapAt l H' as.length).next⟩ ao.op = some (.val u ⟨(heapAt l H' as.length).next, layT G (heapAt l H' as.length).next⟩) := by
            intro i hik hbi hgi hun
            obtain ⟨j, hj1, hj2, hj3, hj4⟩ := first_chain as (k - i) i
            have hkeep := C.keep hj1 (by omega) hj4 b0 hbi
            rw [show i + (k - i) = k by omega] at hj2 hj3
            by_cases hjk : j = k
            · subst hjk
              exact from_ j u (by rw [hkeep, hgi]) atk rfl
            · rcases hj3 with h | h
              · exact absurd h hjk
              · exact from_ j u (by rw [hkeep, hgi]) (hno j h (hun j hj1 h) (by omega)) rfl
          rcases I.cont b0 lb hlb with ⟨h1, h2⟩ | ⟨g, h1, h2, h3, h4, h5, h6⟩
          · rcases Nat.lt_or_ge k m with hkm | hkm
            · rcases I.mat with h | ⟨j, hj, hjn, hcj⟩
              · omega
              · have hLj := I.cin j (by omega) hcj
                have hkj : k ≠ j := fun e => by rw [e, hLj] at hL; cases hL
                have g1 : anc (befs [] ops.toList) k j = false := by
                  cases e : anc (befs [] ops.toList) k j with
                  | false => rfl
                  | true => have := (anc_spec e).1; omega
                have g2 : anc (befs [] ops.toList) j k = false := by
                  cases e : anc (befs [] ops.toList) j k with
                  | false => rfl
                  | true => rw [I.closed j hjn hLj k e] at hL; cases hL
                have hy := (C.look hao hmt.1 (by simp [hp]) hcj hkj g1 g2).2 (by omega)
                rw [← hj] at hy
                obtain ⟨u2, hs, hu⟩ := yld m hy
                exact from_ m u2 h2.symm hs hu
            · exact back m hkm h1 h2.symm fun q hq hcq => I.cout q hq hcq
          · have hgk : g < k := by
              rcases Nat.lt_or_ge g k with h | h
              · exact h
              · have := C.mono (i := k) (j := g) h (by omega)
                omega
            exact back (g + 1) (by omega) (by omega) h6.symm fun q hq hcq => I.cout q (by omega) hcq
      · -- it makes a block
        obtain ⟨u, bk, rfl, hany⟩ := fresh_any hp hr
        obtain ⟨rfl, h2⟩ := doOp_val hdo hr
        have hk1 : heapAt l H' (k + 1) = (heapAt l H' k).push bk := by rw [hhk, h2]
        have hk1n : (heapAt l H' (k + 1)).next = (heapAt l H' k).next + 1 := by rw [hk1]; rfl
        have hfree : ρ (heapAt l H' k).next = none := I.off k hk hL _ (Nat.le_refl _) (by omega)
        have hs := hany ⟨(heapAt l H' k).next, layT (fun _ => some .gone) (heapAt l H' k).next⟩ (by rw [hhk])
        have hown : ∀ b, own ((⟨(heapAt l H' k).next, layT (fun _ => some .gone) (heapAt l H' k).next⟩ : AHeap).get b) = false := fun b => by
          show own ((layT _ _).get b) = false
          rw [get_layT]
          split <;> rfl
        have hR : Rel P (ρ.cut (heapAt l H' k).next) (⟨(heapAt l H' k).next, layT (fun _ => some .gone) (heapAt l H' k).next⟩ : AHeap).get w := by
          have hg : ∀ b lb, ρ.cut (heapAt l H' k).next b = some lb → (⟨(heapAt l H' k).next, layT (fun _ => some .gone) (heapAt l H' k).next⟩ : AHeap).get b = some .gone := fun b lb hb => by
            show (layT _ _).get b = _
            rw [get_layT, if_pos (Ren.cut_some hb).1]
          refine ⟨fun b lb hb => ⟨.gone, hg b lb hb, trivial⟩, fun b b' lb lb' hb hb' _ hl => ?_⟩
          rw [hg b lb hb] at hl
          cases hl
        have hdo2 : doOp call ao (maskOf (some ao.reads) mt.env) ⟨(heapAt l H' k).next, layT (fun _ => some .gone) (heapAt l H' k).next⟩ = some (u, (⟨(heapAt l H' k).next, layT (fun _ => some .gone) (heapAt l H' k).next⟩ : AHeap).push bk) := by
          rw [doOp_mask]
          unfold doOp
          rw [hs]
        refine doOp_sound C.hcall hop hdo2 (hX _ hcut) hR (Ren.cut_dom _ _) fun v' ρ1 w1 hv1 hp1 => ?_
        obtain ⟨hpg, hold, hnew⟩ := PG.fresh I.pg.rel hfree (Hx := ⟨(heapAt l H' k).next, layT (fun _ => some .gone) (heapAt l H' k).next⟩) rfl hown hp1
        have hdom1 : Dom ρ1 ((heapAt l H' k).next + 1) := hp1.dom
        have hjoin : Ext ρ1 (ρ.join ((heapAt l H' k).next + 1) ρ1) := fun b lb hb => by
          unfold Ren.join
          rw [if_pos (hdom1 b lb hb)]
          exact hb
        have hjold : ∀ b lb, (ρ.join ((heapAt l H' k).next + 1) ρ1) b = some lb → ρ b = some lb ∨ b = (heapAt l H' k).next := fun b lb hb => by
          unfold Ren.join at hb
          split at hb
          · exact hold b lb hb
          · exact .inl hb
        have hbk : (heapAt l H' (k + 1)).get (heapAt l H' k).next = some bk := by rw [hk1, AHeap.get_push, if_pos rfl]
        refine hK _ _ (ρ.join ((heapAt l H' k).next + 1) ρ1) (fun b => if b = (heapAt l H' k).next then some bk else G b) m (hdef _) ?_
        rw [← hdk]
        refine I.step C hk hL hanc (.inr ⟨hc, rfl⟩) (by rw [hpv]; exact hv1.ext hjoin) hkn hpg ?_ ?_ ?_
        · intro b lb hb
          by_cases hbn : b = (heapAt l H' k).next
          · subst hbn
            simp only [if_true]
            rcases Nat.lt_or_ge k m with hkm | hkm
            · left
              have hlt := C.mono (i := k + 1) (j := m) (by omega) I.mle
              refine ⟨by omega, ?_⟩
              rcases I.mat with h | ⟨j, hj, hjn, hcj⟩
              · omega
              · have hLj := I.cin j (by omega) hcj
                have hkj : k ≠ j := fun e => by rw [e, hLj] at hL; cases hL
                have g1 : anc (befs [] ops.toList) k j = false := by
                  cases e : anc (befs [] ops.toList) k j with
                  | false => rfl
                  | true => have := (anc_spec e).1; omega
                have g2 : anc (befs [] ops.toList) j k = false := by
                  cases e : anc (befs [] ops.toList) j k with
                  | false => rfl
                  | true => rw [I.closed j hjn hLj k e] at hL; cases hL
                have hy := (C.look hao hmt.1 (by simp [hp]) hcj hkj g1 g2).2 (by omega)
                rw [← hj] at hy
                unfold yields at hy
                rw [hv] at hy
                have hlk : isLook ao.op = false := fresh_look hp
                simp only [hlk, Bool.false_eq_true, if_false] at hy
                have := sameB_eq hy
                rw [← hhk] at this
                rw [this, hbk]
            · right
              exact ⟨k, hkm, hk, by simp, rfl, hk1n, hbk.symm⟩
          · have hb0 : ρ b = some lb := by
              rcases hjold b lb hb with h | h
              · exact h
              · exact absurd h hbn
            simp only [hbn, if_false]
            exact I.cont.more b lb hb0
        · intro b hb
          cases e : (ρ.join ((heapAt l H' k).next + 1) ρ1) b with
          | none => exact absurd e hb
          | some lb =>
            rcases hjold b lb e with h | h
            · exact .inl (by rw [h]; simp)
            · exact .inr ⟨by omega, by omega⟩
        · intro b h1 h2
          obtain rfl : b = (heapAt l H' k).next := by omega
          unfold Ren.join
          rw [if_pos (by omega)]
          exact hnew
  · -- it is left out
    have hwant : Region.wanted o (yielded ops a.tmps) = false := wants_sound hco (hX ρ hXρ) (by rw [wants_mask]; exact hw)
    have hpv : pv l k = left := by simp [pv, hmt.1, hv]
    have hsame : heapAt l H' (k + 1) = heapAt l H' k := by rw [hheap, hhk]
    rw [if_neg (by rw [hwant]; simp)]
    cases hc : chainAt as k with
    | true =>
      obtain ⟨hmk, hno⟩ := I.no C hL hanc hc
      have hconv := I.conv C hk hL hmk hno
      refine hK _ _ ρ G (k + 1) (hdef _) ?_
      rw [← hdk]
      refine I.step C hk hL hanc (.inl ⟨hc, rfl⟩) (by rw [hpv]; exact .left) (Nat.le_refl _) (PG.refl I.pg.rel) ?_ (fun b h => .inl h) (fun b h1 h2 => by rw [hsame] at h2; omega)
      intro b lb hb
      rcases hconv b lb hb with ⟨h1, h2⟩ | ⟨g, h1, h2, h3, h4⟩
      · exact .inl ⟨by rw [hsame]; exact h1, by rw [hsame]; exact h2⟩
      · exact .inr ⟨g, h1, h2, by simp [h3], h4⟩
    | false =>
      refine hK _ _ ρ G m (hdef _) ?_
      rw [← hdk]
      exact I.step C hk hL hanc (.inr ⟨hc, rfl⟩) (by rw [hpv]; exact .left) (Nat.le_refl _) (PG.refl I.pg.rel) I.cont.more (fun b h => .inl h) (fun b h1 h2 => by rw [hsame] at h2; omega)

theorem count_set : ∀ (bs : List Bool) (k : Nat), bs[k]? = some false → (bs.set k true).count false + 1 = bs.count false
  | [], k, h => by simp at h
  | b :: r, 0, h => by
    simp only [List.getElem?_cons_zero, Option.some.injEq] at h
    subst h
    simp
  | b :: r, k + 1, h => by
    have ih := count_set r k (by simpa using h)
    rw [List.set_cons_succ, List.count_cons, List.count_cons]
    omega

theorem draw_go (C : Ctx P call ops as looks env env' H H' l ρ0 w0 tm0) {Q : Exit → Act → World → Prop} (hQ : ∀ (a' : Act) w' ρ' G' m', a'.defers = [] → Inv P ops as l env H H' ρ0 w0 (fun _ => true) ρ' G' m' a'.tmps w' → Q .normal a' w') :
    ∀ (fuel : Nat) (listed : Array Bool) (a : Act) (w : World) ρ G m, listed.size = as.length → a.defers = [] → Inv P ops as l env H H' ρ0 w0 (fun k => listed.getD k true) ρ G m a.tmps w →
      listed.toList.count false ≤ fuel → wpAny P .any ops Q fuel listed a w := by
  have at_ : ∀ (listed : Array Bool) (k : Nat), listed.getD k true = false → listed.toList[k]? = some false := fun listed k h => by
    rw [Array.getElem?_toList]
    rw [Array.getD_eq_getD_getElem?] at h
    cases e : listed[k]? with
    | none => rw [e] at h; cases h
    | some b => rw [e] at h; simp only [Option.getD_some] at h; rw [h]
  have up : ∀ (listed : Array Bool) (k : Nat), listed.getD k false = true → listed.getD k true = true := fun listed k h => by
    rw [Array.getD_eq_getD_getElem?] at h ⊢
    cases e : listed[k]? with
    | none => rfl
    | some b => rw [e] at h; exact h
  have none_ready : ∀ (listed : Array Bool), listed.size = as.length → Region.ready .any ops listed = [] → ∀ k, listed.getD k true = true := by
    intro listed hsz hr k
    induction k using Nat.strongRecOn with
    | ind k ih =>
      cases hl : listed.getD k true with
      | true => rfl
      | false =>
        exfalso
        have hk : k < listed.size := by
          have := at_ listed k hl
          have := (List.getElem?_eq_some_iff.1 this).1
          simpa using this
        have hko : k < ops.size := by rw [C.len]; omega
        have : k ∈ Region.ready .any ops listed := mem_ready.2 ⟨hl, ops[k], Array.getElem?_eq_getElem hko, fun e he hb => by
          have hlt := (order_spec C.hdl).2.2.1 k ops[k] (Array.getElem?_eq_getElem hko) e he hb
          have h1 := ih e.on hlt
          rw [Array.getD_eq_getD_getElem?, Array.getElem?_eq_getElem (by omega)] at h1 ⊢
          exact h1⟩
        rw [hr] at this
        cases this
  have fin : ∀ (listed : Array Bool) (a : Act) (w : World) ρ G m, a.defers = [] → Inv P ops as l env H H' ρ0 w0 (fun k => listed.getD k true) ρ G m a.tmps w → (∀ k, listed.getD k true = true) → Q .normal a w := by
    intro listed a w ρ G m hd I hall
    refine hQ a w ρ G m hd ?_
    have : (fun k => listed.getD k true) = fun _ => true := funext hall
    rw [← this]
    exact I
  intro fuel
  induction fuel with
  | zero =>
    intro listed a w ρ G m hsz hd I hc
    have hall : ∀ k, listed.getD k true = true := fun k => by
      cases hl : listed.getD k true with
      | true => rfl
      | false =>
        have := count_set _ _ (at_ listed k hl)
        omega
    refine ⟨?_, fin listed a w ρ G m hd I hall⟩
    cases hr : Region.ready .any ops listed with
    | nil => rfl
    | cons j r =>
      have := (mem_ready (md := .any) (ops := ops) (listed := listed) (j := j)).1 (by rw [hr]; simp)
      rw [hall j] at this
      cases this.1
  | succ fuel ih =>
    intro listed a w ρ G m hsz hd I hc
    refine ⟨fun hr => fin listed a w ρ G m hd I (none_ready listed hsz hr), fun i hi => ?_⟩
    obtain ⟨hl, o, ho, hready⟩ := mem_ready.1 hi
    have hin : i < as.length := by rw [← C.len]; exact (Array.getElem?_eq_some_iff.1 ho).1
    refine op_step C I hd hin hl (fun j hj => ?_) ho fun a' w' ρ' G' m' hd' I' => ?_
    · obtain ⟨_, o', ho', e, he, hb, hlt, hej⟩ := anc_spec hj
      rw [ho] at ho'
      simp only [Option.some.injEq] at ho'
      subst ho'
      have hle := up listed _ (hready e (by simpa using he) hb)
      rcases hej with h | h
      · rw [← h]; exact hle
      · exact I.closed e.on (by omega) hle j h
    · refine ih (listed.setIfInBounds i true) a' w' ρ' G' m' (by simpa using hsz) hd' ?_ ?_
      · have : (fun j => listed.getD j true || j == i) = fun k => (listed.setIfInBounds i true).getD k true := by
          funext j
          by_cases h : i = j
          · subst h
            simp only [beq_self_eq_true, Bool.or_true, Array.getD_eq_getD_getElem?, Array.getElem?_setIfInBounds, if_true]
            split <;> rfl
          · rw [getD_set_ne true h]
            simp [Ne.symm h]
        rw [← this]
        exact I'
      · have := count_set _ _ (at_ listed i hl)
        rw [Array.toList_setIfInBounds]
        omega

theorem envL_false {L : Nat → Bool} : ∀ {k : Nat}, (∀ q, q < k → L q = false) → envL as l env L k = env
  | 0, _ => rfl
  | k + 1, h => by
    simp only [envL]
    rw [h k (by omega)]
    exact envL_false fun q hq => h q (by omega)

theorem Ctx.interval (C : Ctx P call ops as looks env env' H H' l ρ0 w0 tm0) {b : Nat} (h0 : (heapAt l H' 0).next ≤ b) : ∀ {n : Nat}, n ≤ as.length → b < (heapAt l H' n).next → ∃ k, k < n ∧ (heapAt l H' k).next ≤ b ∧ b < (heapAt l H' (k + 1)).next
  | 0, _, h => by omega
  | n + 1, hn, h => by
    rcases Nat.lt_or_ge b (heapAt l H' n).next with hlt | hge
    · obtain ⟨k, h1, h2⟩ := C.interval h0 (n := n) (by omega) hlt
      exact ⟨k, by omega, h2⟩
    · exact ⟨n, by omega, hge, h⟩

end

/-- Whatever the order that is drawn, what the evaluator met comes of it. -/
theorem draws_ok {P : Program} (hmix : P.follows .mixedOrders = true) : DrawsOK P := by
  intro call hcall id ops as looks env env' H H' hm hdl hev ρ a w hE hd hR hD Q hQ
  unfold evalDraw at hev
  split at hev
  · rename_i l e h hmet
    split at hev
    · rename_i hlk
      simp only [Option.some.injEq, Prod.mk.injEq] at hev
      obtain ⟨rfl, rfl⟩ := hev
      refine wp_region_any hmix ?_
      have hR1 : Rel P ρ H.get { w with drawn := w.drawn + 1 } := ⟨fun b lb hb => by
        obtain ⟨k, hk, hbr⟩ := hR.blk b lb hb
        exact ⟨k, hk, hbr.keep (Ext.refl ρ) fun _ => rfl⟩, hR.inj⟩
      have C : Ctx P call ops as looks env e H h l ρ { w with drawn := w.drawn + 1 } a.tmps := ⟨hcall, hm, hmet, hlk, hdl, hE, hR1, hD⟩
      have h00 : heapAt l h 0 = H := (met_spec hmet).2.2.1
      have hnn : heapAt l h as.length = h := by
        unfold heapAt
        rw [List.getElem?_eq_none (by rw [(met_spec hmet).1]; exact Nat.le_refl _)]
      have hnone : ∀ k, k < as.length → (Array.replicate ops.size false).getD k true = false := fun k hk => by
        rw [Array.getD_eq_getD_getElem?, Array.getElem?_replicate, if_pos (by rw [C.len]; exact hk)]
        rfl
      refine draw_go C ?_ ops.size (Array.replicate ops.size false) a _ ρ H.get 0 (by rw [Array.size_replicate, C.len]) hd ?_ (by simp)
      · intro a' w' ρ' G' m' hd' I
        have hnc : ∀ q, m' ≤ q → chainAt as q = false := fun q hq => by
          cases hcq : chainAt as q with
          | false => rfl
          | true => have := I.cout q hq hcq; cases this
        have hG : ∀ b lb, ρ' b = some lb → h.get b = G' b := fun b lb hb => by
          rcases I.cont b lb hb with ⟨h1, h2⟩ | ⟨g, h1, h2, _, h4, h5, h6⟩
          · rw [h2, ← C.keep I.mle (Nat.le_refl _) (fun q hq _ => hnc q hq) b h1, hnn]
          · rw [h6, ← C.keep (i := g + 1) (j := as.length) (by omega) (Nat.le_refl _) (fun q hq _ => hnc q (by omega)) b (by omega), hnn]
        obtain ⟨ρn, wn, tn, _, hPn⟩ := C.wit (k := as.length) (Nat.le_refl _)
        rw [hnn] at hPn
        refine hQ a' w' ⟨ρ', ?_, hd', ?_⟩
        · have hee := evAt_envL hmet as.length (Nat.le_refl _)
          have : evAt l e as.length = e := by
            unfold evAt
            rw [List.getElem?_eq_none (by rw [(met_spec hmet).1]; exact Nat.le_refl _)]
          rw [this] at hee
          rw [hee]
          exact I.env
        · have hdom := I.domN C
          rw [hnn] at hdom
          refine ⟨I.pg.rel.congr hG, hdom, hPn.mono, I.pg.ext, I.pg.size, I.pg.frame, I.pg.new, hPn.stat, hPn.liv, fun b h1 h2 => ?_, I.pg.os, I.pg.tape, I.pg.output⟩
          obtain ⟨k, hk, hk1, hk2⟩ := C.interval (b := b) (by rw [h00]; exact h1) (n := as.length) (Nat.le_refl _) (by rw [hnn]; exact h2)
          exact I.on k hk rfl b hk1 hk2
      · refine ⟨fun i hi hLi => ?_, Nat.zero_le _, .inl rfl, fun q hq => by omega, fun q _ hcq => ?_, ?_, PG.refl hR1, ?_, ?_, ?_⟩
        · simp only [hnone i hi] at hLi; cases hLi
        · obtain ⟨x, hx, _⟩ := chainAt_some hcq
          exact hnone q (List.getElem?_eq_some_iff.1 hx).1
        · rw [envL_false fun q hq => hnone q hq]; exact hE
        · intro b lb hb
          left
          rw [h00]
          exact ⟨hD b lb hb, rfl⟩
        · intro k hk _ b h1 h2
          cases hb : ρ b with
          | none => rfl
          | some lb =>
            have h3 := hD b lb hb
            have h4 := C.mono (i := 0) (j := k) (by omega) (by omega)
            rw [h00] at h4
            omega
        · intro k hk hLk
          simp only [hnone k hk] at hLk; cases hLk
    · cases hev
  · cases hev

end Go.Aev
