/- Regions that draw their order, third part: whatever the order, what comes of it is what the evaluator met in the text's order. -/
import Derived.Test.YtklkahckkelglaaGreatAevO
namespace Go.Aev
open Go

section
variable {P : Program} {call : CallT} {ops : Array Oper} {as : List AOper} {looks : List (List Nat)} {env env' : Env} {H H' : AHeap} {l : List Met}

theorem edgeBits_spec (acc : List Nat) {j : Nat} : ∀ {es : List Edge}, (edgeBits acc es).testBit j = true → ∃ e ∈ es, Region.binds .any e = true ∧ e.on < acc.length ∧ (e.on = j ∨ (acc.getD e.on 0).testBit j = true)
  | [], h => by simp [edgeBits] at h
  | e :: r, h => by
    unfold edgeBits at h
    split at h
    · rename_i hb
      simp only [Bool.and_eq_true, Nat.blt_eq] at hb
      rw [Nat.testBit_or, Nat.testBit_or, Bool.or_eq_true, Bool.or_eq_true] at h
      rcases h with h | h | h
      · exact ⟨e, by simp, hb.1, hb.2, .inl (by rw [Nat.testBit_two_pow] at h; simpa using h)⟩
      · exact ⟨e, by simp, hb.1, hb.2, .inr h⟩
      · obtain ⟨e', h1, h2⟩ := edgeBits_spec acc h
        exact ⟨e', List.mem_cons_of_mem _ h1, h2⟩
    · obtain ⟨e', h1, h2⟩ := edgeBits_spec acc h
      exact ⟨e', List.mem_cons_of_mem _ h1, h2⟩

theorem befs_spec : ∀ (os : List Oper) (acc : List Nat), (befs acc os).length = acc.length + os.length ∧ (∀ i, i < acc.length → (befs acc os).getD i 0 = acc.getD i 0) ∧
    ∀ i o, os[i]? = some o → ∃ acc', acc'.length = acc.length + i ∧ (∀ q, q < acc'.length → (befs acc os).getD q 0 = acc'.getD q 0) ∧ (befs acc os).getD (acc.length + i) 0 = edgeBits acc' o.after.toList
  | [], acc => ⟨by simp [befs], fun i _ => rfl, fun i o h => by simp at h⟩
  | o :: r, acc => by
    obtain ⟨h1, h2, h3⟩ := befs_spec r (acc ++ [edgeBits acc o.after.toList])
    simp only [befs, force_eq]
    refine ⟨by rw [h1]; simp; omega, fun i hi => ?_, fun i o' ho => ?_⟩
    · rw [h2 i (by simp; omega)]
      simp only [List.getD_eq_getElem?_getD, List.getElem?_append_left hi]
    · cases i with
      | zero =>
        simp only [List.getElem?_cons_zero, Option.some.injEq] at ho
        subst ho
        refine ⟨acc, rfl, fun q hq => ?_, ?_⟩
        · rw [h2 q (by simp; omega)]
          simp only [List.getD_eq_getElem?_getD, List.getElem?_append_left hq]
        · rw [Nat.add_zero, h2 acc.length (by simp)]
          simp
      | succ i =>
        obtain ⟨acc', g1, g2, g3⟩ := h3 i o' (by simpa using ho)
        refine ⟨acc', by rw [g1]; simp; omega, g2, ?_⟩
        rw [← g3]
        congr 1
        simp; omega

/-- Who waits for j waits for one that is j, or waits for it. -/
theorem anc_spec {ops : Array Oper} {i j : Nat} (h : anc (befs [] ops.toList) i j = true) : j < i ∧ ∃ o, ops[i]? = some o ∧ ∃ e ∈ o.after.toList, Region.binds .any e = true ∧ e.on < i ∧ (e.on = j ∨ anc (befs [] ops.toList) e.on j = true) := by
  induction i using Nat.strongRecOn generalizing j with
  | ind i ih =>
    obtain ⟨h1, _, h3⟩ := befs_spec ops.toList []
    cases ho : ops.toList[i]? with
    | none =>
      have hlen : ops.toList.length ≤ i := by simpa [List.getElem?_eq_none_iff] using ho
      have : (befs [] ops.toList).getD i 0 = 0 := by
        rw [List.getD_eq_getElem?_getD, List.getElem?_eq_none (by rw [h1]; simpa using hlen)]
        rfl
      unfold anc at h
      rw [this] at h
      simp at h
    | some o =>
      obtain ⟨acc', g1, g2, g3⟩ := h3 i o ho
      simp only [List.length_nil, Nat.zero_add] at g1 g3
      have h' : (edgeBits acc' o.after.toList).testBit j = true := by rw [← g3]; exact h
      obtain ⟨e, he, hb, hlt, hj⟩ := edgeBits_spec acc' h'
      have hj' : e.on = j ∨ anc (befs [] ops.toList) e.on j = true := by
        rcases hj with hj | hj
        · exact .inl hj
        · refine .inr ?_
          unfold anc
          rw [g2 e.on hlt]
          exact hj
      rw [g1] at hlt
      refine ⟨?_, o, by simpa using ho, e, he, hb, hlt, hj'⟩
      rcases hj' with hj' | hj'
      · omega
      · have := (ih e.on hlt hj').1
        omega

theorem edgesOK_spec : ∀ {os : List Oper} (n : Nat), edgesOK n os = true → ∀ i o, os[i]? = some o → ∀ e ∈ o.after.toList, Region.binds .any e = true → e.on < n + i
  | [], n, _, i, o, ho, _, _, _ => by simp at ho
  | x :: r, n, h, i, o, ho, e, he, hb => by
    simp only [edgesOK, Bool.and_eq_true, List.all_eq_true, Bool.or_eq_true, Bool.not_eq_true', Nat.blt_eq] at h
    cases i with
    | zero =>
      simp only [List.getElem?_cons_zero, Option.some.injEq] at ho
      subst ho
      rcases h.1 e he with h1 | h1
      · rw [hb] at h1; cases h1
      · exact h1
    | succ i =>
      have := edgesOK_spec (n + 1) h.2 i o (by simpa using ho) e he hb
      omega

theorem order_spec (hl : drawLooks ops as = some looks) :
    (∀ x ∈ as, isLook x.op = true → okOpd (lookOpd x.op) = true) ∧
    (∀ i, i < ops.size → ∀ j, j < i → pairOK as (befs [] ops.toList) i j = true) ∧ (∀ i o, ops[i]? = some o → ∀ e ∈ o.after, Region.binds .any e = true → e.on < i) ∧ looks = (List.range ops.size).map (lookAt as (befs [] ops.toList) ops.size) := by
  unfold drawLooks at hl
  simp only at hl
  split at hl
  · rename_i hc
    simp only [Option.some.injEq] at hl
    simp only [Bool.and_eq_true, List.all_eq_true, List.mem_range] at hc
    refine ⟨fun x hx hk => ?_, fun i hi j hj => hc.1.2 i hi j hj, fun i o ho e he hb => ?_, hl.symm⟩
    rotate_left
    · have := edgesOK_spec 0 hc.2 i o (by simpa using ho) e (by simpa using he) hb
      omega
    have := hc.1.1 x hx
    simp only [hk, Bool.not_true, Bool.false_or] at this
    exact this
  · cases hl

def chainAt (as : List AOper) (k : Nat) : Bool := match as[k]? with | some x => isChain x.op | none => false
def freshAt (as : List AOper) (l : List Met) (k : Nat) : Bool := (match as[k]? with | some x => isFresh x.op | none => false) && (((l[k]?).bind (·.val)).isSome)

theorem doOp_exists (hcall : CallsOK P call) {o : Oper} {ao : AOper} (hc : compileOp P o = some ao.op) {env : Env} {H H' : AHeap} {v : Value} (h : doOp call ao env H = some (v, H'))
    {ρ : Ren} {tmps : Array Value} {w : World} (hE : EnvR ρ env tmps) (hR : Rel P ρ H.get w) (hD : Dom ρ H.next) : ∃ v' ρ' w', VR ρ' v v' ∧ Post P ρ H w ρ' H' w' := by
  have hE' : EnvR ρ env (⟨tmps, []⟩ : Act).tmps := hE
  unfold doOp at h
  split at h
  · rename_i v0 H0 hs
    simp only [Option.some.injEq, Prod.mk.injEq] at h
    obtain ⟨rfl, rfl⟩ := h
    cases step_sound hc hE' hR hD hs (fun f args e => by cases e) with
    | val hr hv hp => exact ⟨_, _, _, hv, hp⟩
  · rename_i H0 hs
    simp only [Option.some.injEq, Prod.mk.injEq] at h
    obtain ⟨rfl, rfl⟩ := h
    cases step_sound hc hE' hR hD hs (fun f args e => by cases e) with
    | unit hr hp => exact ⟨undef, _, _, .undef _, hp⟩
  · rename_i f args hs
    split at h
    · rename_i v0 H0 hcl
      simp only [Option.some.injEq, Prod.mk.injEq] at h
      obtain ⟨rfl, rfl⟩ := h
      obtain ⟨hb, hok⟩ := hcall f args H _ _ hcl
      cases step_sound hc hE' hR hD hs (fun f' args' e => by cases e; exact hb) with
      | call hr hv =>
        obtain ⟨e, w', fr, ⟨v', ρ', _, h1, h2⟩, _⟩ := hok ρ w _ hR hD hv []
        exact ⟨v', ρ', w', h1, h2⟩
    · cases h
  · cases h

/-- In the text's order all goes: so much is known of what was met. -/
theorem met_wit (hcall : CallsOK P call) {rs : Array Oper} : ∀ {os : List Oper} {as : List AOper} {env env' : Env} {H H' : AHeap} {l : List Met}, os.mapM (compileOper P rs) = some as → evalMet call as env H = some (l, env', H') →
    ∀ {ρ : Ren} {w : World} {tmps : Array Value}, EnvR ρ env tmps → Rel P ρ H.get w → Dom ρ H.next → ∀ k, k ≤ as.length →
      (∃ ρk wk tk, EnvR ρk (evAt l env' k) tk ∧ Post P ρ H w ρk (heapAt l H' k) wk) ∧ (k < as.length → (heapAt l H' k).next ≤ (heapAt l H' (k + 1)).next)
  | [], as, env, env', H, H', l, hm, h, ρ, w, tmps, hE, hR, hD, k, hk => by
    simp only [List.mapM_nil, Option.pure_def, Option.some.injEq] at hm
    subst hm
    simp only [evalMet, Option.some.injEq, Prod.mk.injEq] at h
    obtain ⟨rfl, rfl, rfl⟩ := h
    exact ⟨⟨ρ, w, tmps, hE, Post.refl hR hD⟩, fun h => by simp at h⟩
  | o :: r, as, env, env', H, H', l, hm, h, ρ, w, tmps, hE, hR, hD, k, hk => by
    simp only [List.mapM_cons, Option.bind_eq_bind, Option.bind_eq_some_iff, Option.pure_def, Option.some.injEq] at hm
    obtain ⟨ao, hao, as', has, rfl⟩ := hm
    obtain ⟨hop, hdst⟩ := compileOper_op hao
    have main : ∀ (m0 : Met) (l1 : List Met) (env1 : Env) (H1 : AHeap) (ρ1 : Ren) (w1 : World) (t1 : Array Value), m0.env = env → m0.heap = H → evalMet call as' env1 H1 = some (l1, env', H') → EnvR ρ1 env1 t1 → Post P ρ H w ρ1 H1 w1 →
        (∃ ρk wk tk, EnvR ρk (evAt (m0 :: l1) env' k) tk ∧ Post P ρ H w ρk (heapAt (m0 :: l1) H' k) wk) ∧ (k < (ao :: as').length → (heapAt (m0 :: l1) H' k).next ≤ (heapAt (m0 :: l1) H' (k + 1)).next) := by
      intro m0 l1 env1 H1 ρ1 w1 t1 he hh hr hE1 hp1
      have ih := met_wit hcall has hr hE1 hp1.rel hp1.dom
      cases k with
      | zero =>
        refine ⟨⟨ρ, w, tmps, ?_, ?_⟩, fun _ => ?_⟩
        · show EnvR ρ m0.env tmps; rw [he]; exact hE
        · show Post P ρ H w ρ m0.heap w; rw [hh]; exact Post.refl hR hD
        · show m0.heap.next ≤ (heapAt l1 H' 0).next
          rw [hh, (met_spec hr).2.2.1]
          exact hp1.mono
      | succ k =>
        obtain ⟨⟨ρk, wk, tk, h1, h2⟩, h3⟩ := ih k (by simpa using hk)
        exact ⟨⟨ρk, wk, tk, h1, hp1.trans hD h2⟩, fun h => h3 (by simpa using h)⟩
    simp only [evalMet] at h
    split at h
    · split at h
      · rename_i v H1 hdo
        split at h
        · rename_i l1 e1 h1 hr
          simp only [Option.some.injEq, Prod.mk.injEq] at h
          obtain ⟨rfl, rfl, rfl⟩ := h
          obtain ⟨v', ρ', w', hv, hp⟩ := doOp_exists hcall hop hdo hE hR hD
          have hE1 : EnvR ρ' (put env ao.dst v) ((⟨tmps, []⟩ : Act).put ao.dst v').tmps := EnvR.put (a := ⟨tmps, []⟩) (hE.ext hp.ext) hv ao.dst
          exact main _ l1 _ H1 ρ' w' _ rfl rfl hr hE1 hp
        · cases h
      · cases h
    · split at h
      · rename_i l1 e1 h1 hr
        simp only [Option.some.injEq, Prod.mk.injEq] at h
        obtain ⟨rfl, rfl, rfl⟩ := h
        have hE1 : EnvR ρ (put env ao.dst left) ((⟨tmps, []⟩ : Act).put ao.dst undef).tmps := EnvR.put (a := ⟨tmps, []⟩) hE .left ao.dst
        exact main _ l1 _ H ρ w _ rfl rfl hr hE1 (Post.refl hR hD)
      · cases h
    · cases h

/-- What kinds of operations there are. -/
theorem kinds (op : AOp) (h : isChain op = false) : isPure op = true ∨ isLook op = true ∨ isFresh op = true := by
  cases hf : isFresh op
  · unfold isChain isHeavy at h
    rw [hf] at h
    simp only [Bool.not_false, Bool.and_true, Bool.not_eq_false', Bool.or_eq_true] at h
    rcases h with h | h
    · exact .inr (.inl h)
    · exact .inl h
  · exact .inr (.inr rfl)

theorem doOp_val {ao : AOper} {env : Env} {H H1 : AHeap} {v : Value} (h : doOp call ao env H = some (v, H1)) {u : Value} {H2 : AHeap} (hs : aStep env H ao.op = some (.val u H2)) : u = v ∧ H2 = H1 := by
  unfold doOp at h
  rw [hs] at h
  simpa using h
theorem doOp_aStep {ao : AOper} {env : Env} {H H1 : AHeap} {v : Value} (h : doOp call ao env H = some (v, H1)) : ∃ r, aStep env H ao.op = some r := by
  unfold doOp at h
  split at h <;> first | exact ⟨_, by assumption⟩ | cases h

/-- What became of the heap at an operation that is none of the chain's. -/
theorem not_chain {k : Nat} {ao : AOper} {m : Met} (hk : as[k]? = some ao) (hm : MetAt call l env' H' k ao m) (hc : chainAt as k = false) :
    (freshAt as l k = false ∧ heapAt l H' (k + 1) = heapAt l H' k) ∨ (freshAt as l k = true ∧ ∃ bk, heapAt l H' (k + 1) = (heapAt l H' k).push bk) := by
  have hh : heapAt l H' k = m.heap := by simp [heapAt, hm.1]
  have hc' : isChain ao.op = false := by simpa [chainAt, hk] using hc
  rcases hm.2 with ⟨_, v, hv, hdo, _⟩ | ⟨_, hv, he, _⟩
  · obtain ⟨r, hr⟩ := doOp_aStep hdo
    rcases kinds ao.op hc' with hp | hp | hp
    · obtain ⟨u, rfl, _⟩ := pure_any hp hr
      obtain ⟨_, h2⟩ := doOp_val hdo hr
      have hf : isFresh ao.op = false := by cases ho : ao.op <;> simp_all [isPure, isFresh]
      exact .inl ⟨by simp [freshAt, hk, hf], by rw [hh]; exact h2.symm⟩
    · obtain ⟨u, rfl, _⟩ := look_any hp hr
      obtain ⟨_, h2⟩ := doOp_val hdo hr
      have hf : isFresh ao.op = false := by cases ho : ao.op <;> simp_all [isLook, isFresh]
      exact .inl ⟨by simp [freshAt, hk, hf], by rw [hh]; exact h2.symm⟩
    · obtain ⟨u, bk, rfl, _⟩ := fresh_any hp hr
      obtain ⟨_, h2⟩ := doOp_val hdo hr
      exact .inr ⟨by simp [freshAt, hk, hp, hm.1, hv], bk, by rw [hh]; exact h2.symm⟩
  · exact .inl ⟨by simp [freshAt, hm.1, hv], by rw [hh]; exact he⟩

end
end Go.Aev
