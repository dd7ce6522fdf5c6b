/- Regions that draw their order, fourth part: whatever is listed, what stands is what was met. -/
import Derived.Test.YtklkahckkelglaaGreatAevP
namespace Go.Aev
open Go

theorem bytes_eq {a b : ByteArray} (h : a.data.toList = b.data.toList) : a = b := by
  cases a
  cases b
  exact congrArg _ (Array.ext' h)
theorem sameC_eq {a b : Value} (h : sameC a b = true) : a = b := by
  unfold sameC at h
  split at h
  case h_3 => exact congrArg _ (bytes_eq (eq_of_beq h))
  all_goals simp_all
theorem sameL_eq : ∀ {a b : List Value}, sameL a b = true → a = b
  | [], [], _ => rfl
  | x :: r, y :: t, h => by
    simp only [sameL, Bool.and_eq_true] at h
    rw [sameC_eq h.1, sameL_eq h.2]
  | [], _ :: _, h => by simp [sameL] at h
  | _ :: _, [], h => by simp [sameL] at h
theorem sameV_eq {a b : Value} (h : sameV a b = true) : a = b := by
  unfold sameV at h
  split at h
  · exact congrArg Value.agg (Array.ext' (sameL_eq h))
  · exact congrArg Value.tuple (Array.ext' (sameL_eq h))
  · exact sameC_eq h
theorem sameB_eq {a b : Option Blk} (h : sameB a b = true) : a = b := by
  unfold sameB at h
  split at h
  · simp only [Bool.and_eq_true, beq_iff_eq] at h
    obtain ⟨⟨h1, rfl⟩, rfl⟩ := h
    rw [Array.ext' (sameL_eq h1)]
  · simp only [Bool.and_eq_true, beq_iff_eq, Array.isEmpty_iff] at h
    obtain ⟨⟨rfl, rfl⟩, rfl⟩ := h
    rfl
  · cases h

/-- A heap that is laid as a function says. -/
def layT (G : Nat → Option Blk) : Nat → Tr
  | 0 => .nil
  | n + 1 => match G n with
    | some k => (layT G n).put (n + 1) n k
    | none => layT G n
theorem get_layT (G : Nat → Option Blk) : ∀ n b, (layT G n).get b = if b < n then G b else none
  | 0, b => by simp [layT, Tr.get]
  | n + 1, b => by
    simp only [layT]
    split
    · rename_i k hk
      rw [Tr.get_put _ _ _ _ _ (by omega), get_layT G n b]
      by_cases h : b = n
      · subst h; simp [hk]
      · by_cases h2 : b < n
        · simp [h, h2, show b < n + 1 by omega]
        · simp [h, h2, show ¬ b < n + 1 by omega]
    · rename_i hk
      rw [get_layT G n b]
      by_cases h : b = n
      · subst h; simp [hk]
      · by_cases h2 : b < n
        · simp [h2, show b < n + 1 by omega]
        · simp [h2, show ¬ b < n + 1 by omega]

theorem mask_get (r : List Tmp) (env : Env) (t : Nat) : (maskOf (some r) env).getD t undef = if t ∈ r then env.getD t undef else undef := by
  simp only [maskOf, Array.getD_eq_getD_getElem?, Array.getElem?_mapIdx]
  cases env[t]? with
  | none => simp
  | some v => simp [List.contains_iff_mem]
theorem ev1_mask {ao : AOper} {env : Env} {x : Operand} (hx : x ∈ ao.op.opds) : ev1 (maskOf (some ao.reads) env) x = ev1 env x := ev1_congr fun t ht => by
  rw [mask_get, if_pos]
  subst ht
  exact List.mem_append_left _ (List.mem_filterMap.2 ⟨.tmp t, hx, rfl⟩)
theorem aStep_mask {ao : AOper} {env : Env} {H : AHeap} : aStep (maskOf (some ao.reads) env) H ao.op = aStep env H ao.op := aStep_congr fun _ hx => ev1_mask hx
theorem doOp_mask {call : CallT} {ao : AOper} {env : Env} {H : AHeap} : doOp call ao (maskOf (some ao.reads) env) H = doOp call ao env H := by
  unfold doOp
  rw [aStep_mask]
theorem wants_mask {ao : AOper} {env : Env} : wants (maskOf (some ao.reads) env) ao.guard = wants env ao.guard := by
  cases hg : ao.guard with
  | none => rfl
  | some g =>
    obtain ⟨t, b⟩ := g
    simp only [wants]
    rw [mask_get, if_pos (show t ∈ ao.reads from List.mem_append_right _ (by simp [hg]))]

theorem mapM_get {α β : Type} {f : α → Option β} : ∀ {xs : List α} {ys : List β}, xs.mapM f = some ys → xs.length = ys.length ∧ ∀ (i : Nat) (x : α), xs[i]? = some x → ∃ y, ys[i]? = some y ∧ f x = some y
  | [], ys, h => by
    simp only [List.mapM_nil, Option.pure_def, Option.some.injEq] at h
    subst h
    exact ⟨rfl, fun i x hx => by simp at hx⟩
  | x :: r, ys, h => by
    simp only [List.mapM_cons, Option.bind_eq_bind, Option.bind_eq_some_iff, Option.pure_def, Option.some.injEq] at h
    obtain ⟨y, hy, ys', hr, rfl⟩ := h
    obtain ⟨h1, h2⟩ := mapM_get hr
    refine ⟨by simp [h1], fun i z hz => ?_⟩
    cases i with
    | zero =>
      simp only [List.getElem?_cons_zero, Option.some.injEq] at hz
      subst hz
      exact ⟨y, rfl, hy⟩
    | succ i => exact h2 i z (by simpa using hz)

theorem VR.ptr_some {ρ : Ren} {v v' : Value} {b : Nat} (h : VR ρ v v') (hp : ptrOf v = some b) : ∃ lb, ρ b = some lb := by
  cases h <;> simp only [ptrOf, Option.some.injEq, reduceCtorEq] at hp
  case ptr hb => exact ⟨_, hp ▸ hb⟩
  case slice0 => simp at hp
  case slice hb hn _ _ _ => rw [if_neg hn] at hp; simp only [Option.some.injEq] at hp; exact ⟨_, hp ▸ hb⟩
  case map hb => exact ⟨_, hp ▸ hb⟩

theorem look_opd {op : AOp} (h : isLook op = true) : lookOpd op ∈ op.opds := by
  cases op <;> simp_all [isLook, lookOpd, AOp.opds]

theorem first_chain (as : List AOper) : ∀ d i, ∃ j, i ≤ j ∧ j ≤ i + d ∧ (j = i + d ∨ chainAt as j = true) ∧ ∀ q, i ≤ q → q < j → chainAt as q = false
  | 0, i => ⟨i, Nat.le_refl _, Nat.le_refl _, .inl rfl, fun q h1 h2 => by omega⟩
  | d + 1, i => by
    cases h : chainAt as i with
    | true => exact ⟨i, Nat.le_refl _, by omega, .inr h, fun q h1 h2 => by omega⟩
    | false =>
      obtain ⟨j, h1, h2, h3, h4⟩ := first_chain as d (i + 1)
      refine ⟨j, by omega, by omega, ?_, fun q g1 g2 => ?_⟩
      · rcases h3 with h3 | h3
        · exact .inl (by omega)
        · exact .inr h3
      · by_cases e : q = i
        · rw [e]; exact h
        · exact h4 q (by omega) g2

theorem BR.cut {P : Program} {ρ ρ₂ : Ren} {w w₂ : World} {l l₂ : Loc} {k : Blk} {n : Nat} (h : BR P ρ w l k) (h2 : BR P ρ₂ w₂ l₂ k) (hd : Dom ρ₂ n) : BR P (ρ.cut n) w l k := by
  cases k with
  | gone => trivial
  | iter m s seen c => obtain ⟨m', hg, h0, hr⟩ := h; obtain ⟨_, _, _, hr2⟩ := h2; exact ⟨m', hg, h0, hr.cut hr2 hd⟩
  | map es clock =>
    obtain ⟨es', hg, hs, hr⟩ := h
    obtain ⟨es2, _, _, hr2⟩ := h2
    refine ⟨es', hg, hs, fun i x hx => ?_⟩
    obtain ⟨y, hy, a1, a2, a3⟩ := hr i x hx
    obtain ⟨y2, _, b1, b2, _⟩ := hr2 i x hx
    exact ⟨y, hy, a1.cut b1 hd, a2.cut b2 hd, a3⟩
  | cells c e ro =>
    cases ro with
    | false =>
      obtain ⟨c', e', he', hg, h1, h2', h3, h4, hr⟩ := h
      obtain ⟨c2, e2, _, _, _, _, _, _, hr2⟩ := h2
      refine ⟨c', e', he', hg, h1, h2', h3, h4, fun i x hx => ?_⟩
      obtain ⟨y, hy, a1⟩ := hr i x hx
      obtain ⟨y2, _, b1⟩ := hr2 i x hx
      exact ⟨y, hy, a1.cut b1 hd⟩
    | true =>
      obtain ⟨c', e', fz, hg, hr⟩ := h
      obtain ⟨c2, e2, fz2, _, hr2⟩ := h2
      refine ⟨c', e', fz, hg, fun i x hx => ?_⟩
      obtain ⟨y, hy, a1⟩ := hr i x hx
      obtain ⟨y2, _, b1⟩ := hr2 i x hx
      exact ⟨y, hy, a1.cut b1 hd⟩

theorem Ren.cut_all {ρ : Ren} {n : Nat} (hd : Dom ρ n) : ρ.cut n = ρ := by
  funext b
  unfold Ren.cut
  split
  · rfl
  · rename_i h
    cases hb : ρ b with
    | none => rfl
    | some l => exact absurd (hd b l hb) h

/-- A block made over a heap of which nothing is known. -/
theorem PG.fresh {P : Program} {ρ ρ₁ : Ren} {G : Nat → Option Blk} {w w' : World} (hR : Rel P ρ G w) {n : Nat} (hfree : ρ n = none) {Hx : AHeap} (hxn : Hx.next = n) (hx : ∀ b, own (Hx.get b) = false) {bk : Blk}
    (hp : Post P (ρ.cut n) Hx w ρ₁ (Hx.push bk) w') :
    PG P n ρ G w (ρ.join (n + 1) ρ₁) (fun b => if b = n then some bk else G b) w' ∧ (∀ b l, ρ₁ b = some l → ρ b = some l ∨ b = n) ∧ ρ₁ n ≠ none := by
  have hdom : Dom ρ₁ (n + 1) := by have := hp.dom; rwa [AHeap.next_push, hxn] at this
  have hext : Ext ρ (ρ.join (n + 1) ρ₁) := fun b l hb => by
    unfold Ren.join
    split
    · refine hp.ext b l ?_
      have : b ≠ n := fun e => by subst e; rw [hfree] at hb; cases hb
      rw [Ren.cut_eq (by omega)]
      exact hb
    · exact hb
  have hjoin : Ext ρ₁ (ρ.join (n + 1) ρ₁) := fun b l hb => by
    unfold Ren.join
    rw [if_pos (hdom b l hb)]
    exact hb
  have hold1 : ∀ b l, ρ₁ b = some l → (b < n ∧ ρ b = some l) ∨ (b = n ∧ w.heap.size ≤ l.blk) := fun b l hb => by
    rcases hp.new b l hb with h | ⟨hge, h⟩
    · exact .inl (Ren.cut_some h)
    · refine .inr ⟨by have := hdom b l hb; omega, ?_⟩
      rcases h with h | ⟨b0, l0, _, ho, _⟩
      · exact h
      · rw [hx b0] at ho; cases ho
  have hframe : ∀ r, r < w.heap.size → w'.heap[r]? = w.heap[r]? := fun r hr => hp.frame r hr fun b l _ ho => by rw [hx b] at ho; cases ho
  have hnew : ∀ b l, (ρ.join (n + 1) ρ₁) b = some l → (b ≠ n ∧ ρ b = some l) ∨ (b = n ∧ ρ₁ b = some l ∧ w.heap.size ≤ l.blk) := fun b l hb => by
    unfold Ren.join at hb
    split at hb
    · rcases hold1 b l hb with ⟨h1, h2⟩ | ⟨h1, h2⟩
      · exact .inl ⟨by omega, h2⟩
      · exact .inr ⟨h1, hb, h2⟩
    · exact .inl ⟨by omega, hb⟩
  refine ⟨⟨⟨fun b l hb => ?_, fun b b' l l' hb hb' hne hl hl' ho => ?_⟩, hext, hp.size, fun r hr _ => hframe r hr, fun b l hb => ?_, fun b l hb ho => ?_, hp.os, hp.tape, hp.output⟩, fun b l hb => ?_, hp.full n (by omega) (by rw [AHeap.next_push]; omega)⟩
  · rcases hnew b l hb with ⟨h1, h2⟩ | ⟨h1, h2, _⟩
    · obtain ⟨k, hk, hbr⟩ := hR.blk b l h2
      exact ⟨k, by simp only [h1, if_false]; exact hk, hbr.keep hext fun hl => hframe _ (hR.lt h2 (by rw [hk]; exact hl))⟩
    · obtain ⟨k, hk, hbr⟩ := hp.rel.blk b l h2
      rw [AHeap.get_push, if_pos (by omega)] at hk
      simp only [Option.some.injEq] at hk
      subst hk
      exact ⟨bk, by simp only [h1, if_true], hbr.keep hjoin fun _ => rfl⟩
  · rcases hnew b l hb with ⟨h1, h2⟩ | ⟨h1, h2, h3⟩
    · rcases hnew b' l' hb' with ⟨g1, g2⟩ | ⟨g1, g2, g3⟩
      · simp only [h1, g1, if_false] at hl hl' ho
        exact hR.inj b b' l l' h2 g2 hne hl hl' ho
      · simp only [h1, if_false] at hl
        have := hR.lt h2 hl
        omega
    · rcases hnew b' l' hb' with ⟨g1, g2⟩ | ⟨g1, g2, g3⟩
      · simp only [g1, if_false] at hl'
        have := hR.lt g2 hl'
        omega
      · omega
  · rcases hnew b l hb with ⟨h1, h2⟩ | ⟨h1, h2, h3⟩
    · exact .inl h2
    · exact .inr ⟨by omega, .inl h3⟩
  · have : b ≠ n := fun e => by subst e; rw [hfree] at hb; cases hb
    simpa only [this, if_false] using ho
  · rcases hold1 b l hb with ⟨_, h⟩ | ⟨h, _⟩
    · exact .inl h
    · exact .inr h

/-- All that is given of a region. -/
structure Ctx (P : Program) (call : CallT) (ops : Array Oper) (as : List AOper) (looks : List (List Nat)) (env env' : Env) (H H' : AHeap) (l : List Met) (ρ0 : Ren) (w0 : World) (tm0 : Array Value) : Prop where
  hcall : CallsOK P call
  hm : ops.toList.mapM (compileOper P ops) = some as
  hev : evalMet call as env H = some (l, env', H')
  hlk : looksOK as looks l H' = true
  hdl : drawLooks ops as = some looks
  hE0 : EnvR ρ0 env tm0
  hR0 : Rel P ρ0 H.get w0
  hD0 : Dom ρ0 H.next

/-- What is known of each block that stands. -/
def Cont (as : List AOper) (l : List Met) (H' : AHeap) (L : Nat → Bool) (ρ : Ren) (G : Nat → Option Blk) (m : Nat) : Prop :=
  ∀ b lb, ρ b = some lb → (b < (heapAt l H' m).next ∧ G b = (heapAt l H' m).get b) ∨
    (∃ g, m ≤ g ∧ g < as.length ∧ L g = true ∧ b = (heapAt l H' g).next ∧ (heapAt l H' (g + 1)).next = b + 1 ∧ G b = (heapAt l H' (g + 1)).get b)

structure Inv (P : Program) (ops : Array Oper) (as : List AOper) (l : List Met) (env : Env) (H H' : AHeap) (ρ0 : Ren) (w0 : World) (L : Nat → Bool) (ρ : Ren) (G : Nat → Option Blk) (m : Nat) (tmps : Array Value) (w : World) : Prop where
  closed : ∀ i, i < as.length → L i = true → ∀ j, anc (befs [] ops.toList) i j = true → L j = true
  mle : m ≤ as.length
  mat : m = 0 ∨ ∃ j, m = j + 1 ∧ j < as.length ∧ chainAt as j = true
  cin : ∀ q, q < m → chainAt as q = true → L q = true
  cout : ∀ q, m ≤ q → chainAt as q = true → L q = false
  env : EnvR ρ (envL as l env L as.length) tmps
  pg : PG P H.next ρ0 H.get w0 ρ G w
  cont : Cont as l H' L ρ G m
  off : ∀ k, k < as.length → L k = false → ∀ b, (heapAt l H' k).next ≤ b → b < (heapAt l H' (k + 1)).next → ρ b = none
  on : ∀ k, k < as.length → L k = true → ∀ b, (heapAt l H' k).next ≤ b → b < (heapAt l H' (k + 1)).next → ρ b ≠ none

section
variable {P : Program} {call : CallT} {ops : Array Oper} {as : List AOper} {looks : List (List Nat)} {env env' : Env} {H H' : AHeap} {l : List Met} {ρ0 : Ren} {w0 : World} {tm0 : Array Value}

theorem Ctx.len (C : Ctx P call ops as looks env env' H H' l ρ0 w0 tm0) : ops.size = as.length := by simpa using (mapM_get C.hm).1
theorem Ctx.wit (C : Ctx P call ops as looks env env' H H' l ρ0 w0 tm0) {k : Nat} (hk : k ≤ as.length) : ∃ ρk wk tk, EnvR ρk (evAt l env' k) tk ∧ Post P ρ0 H w0 ρk (heapAt l H' k) wk :=
  (met_wit C.hcall C.hm C.hev C.hE0 C.hR0 C.hD0 k hk).1
theorem Ctx.mono (C : Ctx P call ops as looks env env' H H' l ρ0 w0 tm0) {i : Nat} : ∀ {j : Nat}, i ≤ j → j ≤ as.length → (heapAt l H' i).next ≤ (heapAt l H' j).next
  | 0, h, _ => by rw [show i = 0 by omega]; exact Nat.le_refl _
  | j + 1, h, hj => by
    rcases Nat.lt_or_ge i (j + 1) with hlt | hge
    · exact Nat.le_trans (C.mono (by omega) (by omega)) ((met_wit C.hcall C.hm C.hev C.hE0 C.hR0 C.hD0 j (by omega)).2 (by omega))
    · rw [show i = j + 1 by omega]; exact Nat.le_refl _
theorem Ctx.met (C : Ctx P call ops as looks env env' H H' l ρ0 w0 tm0) {k : Nat} {ao : AOper} (h : as[k]? = some ao) : ∃ m, MetAt call l env' H' k ao m := (met_spec C.hev).2.2.2 k ao h
theorem Ctx.keep (C : Ctx P call ops as looks env env' H H' l ρ0 w0 tm0) {i : Nat} : ∀ {j : Nat}, i ≤ j → j ≤ as.length → (∀ q, i ≤ q → q < j → chainAt as q = false) → ∀ b, b < (heapAt l H' i).next → (heapAt l H' j).get b = (heapAt l H' i).get b
  | 0, h, _, _, b, _ => by rw [show i = 0 by omega]
  | j + 1, h, hj, hc, b, hb => by
    rcases Nat.lt_or_ge i (j + 1) with hlt | hge
    · have ih := C.keep (i := i) (j := j) (by omega) (by omega) (fun q h1 h2 => hc q h1 (by omega)) b hb
      have hao : as[j]? = some as[j] := List.getElem?_eq_getElem (by omega)
      obtain ⟨m, hm⟩ := C.met hao
      rcases not_chain hao hm (hc j (by omega) (by omega)) with ⟨_, he⟩ | ⟨_, bk, he⟩
      · rw [he, ih]
      · have := C.mono (i := i) (j := j) (by omega) (by omega)
        rw [he, AHeap.get_push, if_neg (by omega), ih]
    · rw [show i = j + 1 by omega]
theorem Ctx.pair (C : Ctx P call ops as looks env env' H H' l ρ0 w0 tm0) {i j : Nat} {x y : AOper} (hj : j < i) (hx : as[i]? = some x) (hy : as[j]? = some y) :
    anc (befs [] ops.toList) i j = true ∨ (clash x y = false ∧ (isChain x.op && isChain y.op) = false) := by
  have hi : i < ops.size := by rw [C.len]; exact (List.getElem?_eq_some_iff.1 hx).1
  have h := (order_spec C.hdl).2.1 i hi j hj
  unfold pairOK at h
  rw [hx, hy] at h
  simp only [Bool.or_eq_true, Bool.and_eq_true, Bool.not_eq_true'] at h
  exact h
theorem chainAt_some {k : Nat} (h : chainAt as k = true) : ∃ x, as[k]? = some x ∧ isChain x.op = true := by
  unfold chainAt at h
  split at h
  · exact ⟨_, by assumption, h⟩
  · cases h
theorem Ctx.chain (C : Ctx P call ops as looks env env' H H' l ρ0 w0 tm0) {i j : Nat} (hj : j < i) (hi : chainAt as i = true) (hc : chainAt as j = true) : anc (befs [] ops.toList) i j = true := by
  obtain ⟨x, hx, hcx⟩ := chainAt_some hi
  obtain ⟨y, hy, hcy⟩ := chainAt_some hc
  rcases C.pair hj hx hy with h | ⟨_, h⟩
  · exact h
  · rw [hcx, hcy] at h; cases h
theorem Ctx.disj (C : Ctx P call ops as looks env env' H H' l ρ0 w0 tm0) {i j b : Nat} (hi : i < as.length) (hj : j < as.length) (h1 : (heapAt l H' i).next ≤ b) (h2 : b < (heapAt l H' (i + 1)).next)
    (h3 : (heapAt l H' j).next ≤ b) (h4 : b < (heapAt l H' (j + 1)).next) : i = j := by
  rcases Nat.lt_trichotomy i j with h | h | h
  · have := C.mono (i := i + 1) (j := j) (by omega) (by omega); omega
  · exact h
  · have := C.mono (i := j + 1) (j := i) (by omega) (by omega); omega
/-- What was looked at over another heap. -/
theorem Ctx.look (C : Ctx P call ops as looks env env' H H' l ρ0 w0 tm0) {k j : Nat} {ao : AOper} {m : Met} (hk : as[k]? = some ao) (hm : l[k]? = some m) (hx : (isLook ao.op || isFresh ao.op) = true) (hc : chainAt as j = true) (hne : k ≠ j)
    (h1 : anc (befs [] ops.toList) k j = false) (h2 : anc (befs [] ops.toList) j k = false) :
    (j < k → (isLook ao.op = false ∨ yields ao m (heapAt l H' (k + 1)) (heapAt l H' j) = true)) ∧ (k < j → yields ao m (heapAt l H' (k + 1)) (heapAt l H' (j + 1)) = true) := by
  have hkn : k < as.length := (List.getElem?_eq_some_iff.1 hk).1
  obtain ⟨y, hy, hcy⟩ := chainAt_some hc
  have hjn : j < as.length := (List.getElem?_eq_some_iff.1 hy).1
  have hall := C.hlk
  unfold looksOK at hall
  rw [List.all_eq_true] at hall
  have h := hall k (List.mem_range.2 hkn)
  rw [hk, hm, (order_spec C.hdl).2.2.2] at h
  have hl : ((List.range ops.size).map (lookAt as (befs [] ops.toList) ops.size))[k]? = some (lookAt as (befs [] ops.toList) ops.size k) := by
    rw [List.getElem?_map, List.getElem?_range (by rw [C.len]; exact hkn)]
    rfl
  rw [hl] at h
  simp only [List.all_eq_true] at h
  have hin : j ∈ lookAt as (befs [] ops.toList) ops.size k := by
    unfold lookAt
    rw [hk]
    simp only [hx, if_true]
    rw [List.mem_filter, List.mem_range]
    refine ⟨by rw [C.len]; exact hjn, ?_⟩
    rw [hy, h1, h2]
    simp [hne, hcy]
  have hj := h j hin
  refine ⟨fun hlt => ?_, fun hlt => ?_⟩
  · rw [if_pos hlt] at hj
    simpa using hj
  · rw [if_neg (by omega)] at hj
    exact hj

theorem Inv.domN (C : Ctx P call ops as looks env env' H H' l ρ0 w0 tm0) {L : Nat → Bool} {ρ : Ren} {G : Nat → Option Blk} {m : Nat} {tmps : Array Value} {w : World} (I : Inv P ops as l env H H' ρ0 w0 L ρ G m tmps w) : Dom ρ (heapAt l H' as.length).next := by
  intro b lb hb
  rcases I.cont b lb hb with ⟨h, _⟩ | ⟨g, _, hg, _, hb', hn, _⟩
  · have := C.mono I.mle (Nat.le_refl _); omega
  · have := C.mono (i := g + 1) (j := as.length) (by omega) (Nat.le_refl _); omega

theorem Inv.no (C : Ctx P call ops as looks env env' H H' l ρ0 w0 tm0) {L : Nat → Bool} {ρ : Ren} {G : Nat → Option Blk} {m : Nat} {tmps : Array Value} {w : World} (I : Inv P ops as l env H H' ρ0 w0 L ρ G m tmps w) {k : Nat} (hL : L k = false)
    (hanc : ∀ j, anc (befs [] ops.toList) k j = true → L j = true) (hc : chainAt as k = true) : m ≤ k ∧ ∀ q, m ≤ q → q < k → chainAt as q = false := by
  refine ⟨?_, fun q h1 h2 => ?_⟩
  · rcases Nat.lt_or_ge k m with h | h
    · rw [I.cin k h hc] at hL; cases hL
    · exact h
  · cases hq : chainAt as q with
    | false => rfl
    | true =>
      have h3 := hanc q (C.chain h2 hc hq)
      rw [I.cout q h1 hq] at h3
      cases h3

theorem Inv.conv (C : Ctx P call ops as looks env env' H H' l ρ0 w0 tm0) {L : Nat → Bool} {ρ : Ren} {G : Nat → Option Blk} {m : Nat} {tmps : Array Value} {w : World} (I : Inv P ops as l env H H' ρ0 w0 L ρ G m tmps w) {k : Nat} (hk : k < as.length) (hL : L k = false)
    (hmk : m ≤ k) (hno : ∀ q, m ≤ q → q < k → chainAt as q = false) : ∀ b lb, ρ b = some lb → (b < (heapAt l H' k).next ∧ G b = (heapAt l H' k).get b) ∨
      (∃ g, k + 1 ≤ g ∧ g < as.length ∧ L g = true ∧ b = (heapAt l H' g).next ∧ (heapAt l H' (g + 1)).next = b + 1 ∧ G b = (heapAt l H' (g + 1)).get b) := by
  intro b lb hb
  rcases I.cont b lb hb with ⟨h1, h2⟩ | ⟨g, h1, h2, h3, h4, h5, h6⟩
  · have := C.mono (i := m) (j := k) hmk (by omega)
    exact .inl ⟨by omega, by rw [h2, C.keep hmk (by omega) hno b h1]⟩
  · rcases Nat.lt_trichotomy g k with h | h | h
    · have := C.mono (i := g + 1) (j := k) (by omega) (by omega)
      exact .inl ⟨by omega, by rw [h6, C.keep (i := g + 1) (j := k) (by omega) (by omega) (fun q a b => hno q (by omega) b) b (by omega)]⟩
    · rw [h, hL] at h3; cases h3
    · exact .inr ⟨g, by omega, h2, h3, h4, h5, h6⟩

theorem Inv.step (C : Ctx P call ops as looks env env' H H' l ρ0 w0 tm0) {L : Nat → Bool} {ρ : Ren} {G : Nat → Option Blk} {m : Nat} {a : Act} {w : World} (I : Inv P ops as l env H H' ρ0 w0 L ρ G m a.tmps w) {k : Nat} (hk : k < as.length) (hL : L k = false)
    (hanc : ∀ j, anc (befs [] ops.toList) k j = true → L j = true) {ρ' : Ren} {G' : Nat → Option Blk} {m' : Nat} {w' : World} {v' : Value} (hm' : (chainAt as k = true ∧ m' = k + 1) ∨ (chainAt as k = false ∧ m' = m))
    (hv : VR ρ' (pv l k) v') {n1 : Nat} (hn1 : H.next ≤ n1) (hpg : PG P n1 ρ G w ρ' G' w') (hcont : Cont as l H' (fun j => L j || j == k) ρ' G' m')
    (hoff : ∀ b, ρ' b ≠ none → ρ b ≠ none ∨ ((heapAt l H' k).next ≤ b ∧ b < (heapAt l H' (k + 1)).next)) (hon : ∀ b, (heapAt l H' k).next ≤ b → b < (heapAt l H' (k + 1)).next → ρ' b ≠ none) :
    Inv P ops as l env H H' ρ0 w0 (fun j => L j || j == k) ρ' G' m' (a.put (dstAt as k) v').tmps w' := by
  refine ⟨?_, ?_, ?_, ?_, ?_, ?_, I.pg.trans hn1 hpg, hcont, ?_, ?_⟩
  · intro i hi hLi j hj
    simp only [Bool.or_eq_true, beq_iff_eq] at hLi ⊢
    rcases hLi with h | h
    · exact .inl (I.closed i hi h j hj)
    · subst h; exact .inl (hanc j hj)
  · rcases hm' with ⟨_, h⟩ | ⟨_, h⟩
    · omega
    · rw [h]; exact I.mle
  · rcases hm' with ⟨h1, h⟩ | ⟨_, h⟩
    · exact .inr ⟨k, h, hk, h1⟩
    · rw [h]; exact I.mat
  · intro q hq hc
    simp only [Bool.or_eq_true, beq_iff_eq]
    rcases hm' with ⟨h1, h⟩ | ⟨_, h⟩
    · by_cases e : q = k
      · exact .inr e
      · left
        obtain ⟨hmk, hno⟩ := I.no C hL hanc h1
        rcases Nat.lt_or_ge q m with hqm | hqm
        · exact I.cin q hqm hc
        · rw [hno q hqm (by omega)] at hc; cases hc
    · exact .inl (I.cin q (by omega) hc)
  · intro q hq hc
    simp only [Bool.or_eq_false_iff, beq_eq_false_iff_ne]
    rcases hm' with ⟨h1, h⟩ | ⟨h1, h⟩
    · have := (I.no C hL hanc h1).1
      exact ⟨I.cout q (by omega) hc, by omega⟩
    · refine ⟨I.cout q (by omega) hc, fun e => ?_⟩
      rw [e, h1] at hc; cases hc
  · have hE' : EnvR ρ' (put (envL as l env L as.length) (dstAt as k) (pv l k)) (a.put (dstAt as k) v').tmps := EnvR.put (I.env.ext hpg.ext) hv _
    refine ⟨?_, fun t => ?_⟩
    · have := hE'.1
      rwa [size_put, size_envL, ← size_envL as l env (fun j => L j || j == k) as.length] at this
    · have h := hE'.2 t
      change VR ρ' ((put _ _ _).getD t undef) _ at h
      show VR ρ' ((envL as l env (fun j => L j || j == k) as.length).getD t undef) _
      rw [get_put, size_envL] at h
      rw [envL_list hL]
      · by_cases hc : dstAt as k = some t ∧ t < env.size
        · rw [if_pos hc] at h
          rw [if_pos ⟨hk, hc⟩]
          exact h
        · rw [if_neg hc] at h
          rw [if_neg (fun e => hc e.2)]
          exact h
      · intro q hkq hLq hdk hdq
        have get : ∀ {i : Nat}, dstAt as i = some t → ∃ x, as[i]? = some x ∧ x.dst = some t := fun {i} h => by
          unfold dstAt at h
          cases hi : as[i]? with
          | none => rw [hi] at h; cases h
          | some x => rw [hi] at h; exact ⟨x, rfl, h⟩
        obtain ⟨x, hx, hxd⟩ := get hdq
        obtain ⟨y, hy, hyd⟩ := get hdk
        rcases C.pair hkq hx hy with h | ⟨h, _⟩
        · have := I.closed q (List.getElem?_eq_some_iff.1 hx).1 hLq k h
          rw [hL] at this; cases this
        · unfold clash at h
          rw [hxd, hyd] at h
          simp at h
  · intro k' hk' hLk' b h1 h2
    simp only [Bool.or_eq_false_iff, beq_eq_false_iff_ne] at hLk'
    cases hb : ρ' b with
    | none => rfl
    | some lb =>
      rcases hoff b (by rw [hb]; simp) with h | ⟨h3, h4⟩
      · exact absurd (I.off k' hk' hLk'.1 b h1 h2) h
      · exact absurd (C.disj hk' hk h1 h2 h3 h4) hLk'.2
  · intro k' hk' hLk' b h1 h2
    simp only [Bool.or_eq_true, beq_iff_eq] at hLk'
    rcases hLk' with h | h
    · cases hb : ρ b with
      | none => exact absurd hb (I.on k' hk' h b h1 h2)
      | some lb => rw [hpg.ext b lb hb]; simp
    · subst h; exact hon b h1 h2

end
end Go.Aev
