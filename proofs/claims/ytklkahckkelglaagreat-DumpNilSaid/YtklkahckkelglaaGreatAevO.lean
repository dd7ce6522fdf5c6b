/- Regions that draw their order, second part: what the evaluator met, operation by operation; frames under a choice of operations. -/
import Derived.Test.YtklkahckkelglaaGreatAevN
namespace Go.Aev
open Go

def evAt (l : List Met) (env' : Env) (j : Nat) : Env := match l[j]? with | some m => m.env | none => env'
def dstAt (as : List AOper) (k : Nat) : Option Tmp := (as[k]?).bind (·.dst)
def pv (l : List Met) (k : Nat) : Value := ((l[k]?).bind (·.val)).getD left

/-- What was met at operation k. -/
def MetAt (call : CallT) (l : List Met) (env' : Env) (H' : AHeap) (k : Nat) (ao : AOper) (m : Met) : Prop :=
  l[k]? = some m ∧ ((wants m.env ao.guard = some true ∧ ∃ v, m.val = some v ∧ doOp call ao m.env m.heap = some (v, heapAt l H' (k + 1)) ∧ evAt l env' (k + 1) = put m.env ao.dst v) ∨
    (wants m.env ao.guard = some false ∧ m.val = none ∧ heapAt l H' (k + 1) = m.heap ∧ evAt l env' (k + 1) = put m.env ao.dst left))

theorem met_spec {call : CallT} : ∀ {as : List AOper} {env env' : Env} {H H' : AHeap} {l : List Met}, evalMet call as env H = some (l, env', H') →
    l.length = as.length ∧ evAt l env' 0 = env ∧ heapAt l H' 0 = H ∧ ∀ k ao, as[k]? = some ao → ∃ m, MetAt call l env' H' k ao m
  | [], env, env', H, H', l, h => by
    simp only [evalMet, Option.some.injEq, Prod.mk.injEq] at h
    obtain ⟨rfl, rfl, rfl⟩ := h
    exact ⟨rfl, rfl, rfl, fun k ao hk => by simp at hk⟩
  | o :: r, env, env', H, H', l, h => by
    simp only [evalMet] at h
    have shift : ∀ (m0 : Met) (l0 : List Met) (e0 : Env) (h0 : AHeap), (∀ k ao, r[k]? = some ao → ∃ m, MetAt call l0 e0 h0 k ao m) → ∀ k ao, (o :: r)[k + 1]? = some ao → ∃ m, MetAt call (m0 :: l0) e0 h0 (k + 1) ao m := by
      intro m0 l0 e0 h0 hr k ao hk
      obtain ⟨m, h1, h2⟩ := hr k ao (by simpa using hk)
      exact ⟨m, by simpa using h1, h2⟩
    split at h
    · rename_i hw
      split at h
      · rename_i v H1 hdo
        split at h
        · rename_i l1 e1 h1 hr
          simp only [Option.some.injEq, Prod.mk.injEq] at h
          obtain ⟨rfl, rfl, rfl⟩ := h
          obtain ⟨i1, i2, i3, i4⟩ := met_spec hr
          refine ⟨by simp [i1], rfl, rfl, fun k ao hk => ?_⟩
          cases k with
          | zero =>
            simp only [List.getElem?_cons_zero, Option.some.injEq] at hk
            subst hk
            refine ⟨_, rfl, .inl ⟨hw, v, rfl, ?_, ?_⟩⟩
            · show doOp call o env H = some (v, heapAt l1 h1 0)
              rw [i3]; exact hdo
            · show evAt l1 e1 0 = _
              rw [i2]
          | succ k => exact shift _ _ _ _ i4 k ao hk
        · cases h
      · cases h
    · rename_i hw
      split at h
      · rename_i l1 e1 h1 hr
        simp only [Option.some.injEq, Prod.mk.injEq] at h
        obtain ⟨rfl, rfl, rfl⟩ := h
        obtain ⟨i1, i2, i3, i4⟩ := met_spec hr
        refine ⟨by simp [i1], rfl, rfl, fun k ao hk => ?_⟩
        cases k with
        | zero =>
          simp only [List.getElem?_cons_zero, Option.some.injEq] at hk
          subst hk
          refine ⟨_, rfl, .inr ⟨hw, rfl, ?_, ?_⟩⟩
          · show heapAt l1 h1 0 = H
            exact i3
          · show evAt l1 e1 0 = _
            rw [i2]
        | succ k => exact shift _ _ _ _ i4 k ao hk
      · cases h
    · cases h

/-- The frame, where some of the operations alone were carried out. -/
def envL (as : List AOper) (l : List Met) (env : Env) (L : Nat → Bool) : Nat → Env
  | 0 => env
  | k + 1 => if L k then put (envL as l env L k) (dstAt as k) (pv l k) else envL as l env L k

theorem size_put (env : Env) (d : Option Tmp) (v : Value) : (put env d v).size = env.size := by cases d <;> simp [put]
theorem get_put (env : Env) (d : Option Tmp) (v : Value) (t : Nat) : (put env d v).getD t undef = if d = some t ∧ t < env.size then v else env.getD t undef := by
  cases d with
  | none => simp [put]
  | some d =>
    simp only [put, Array.getD_eq_getD_getElem?, Array.getElem?_setIfInBounds, Option.some.injEq]
    by_cases h : d = t
    · subst h
      by_cases hl : d < env.size
      · simp [hl]
      · simp [hl]
    · simp [h]
theorem size_envL (as : List AOper) (l : List Met) (env : Env) (L : Nat → Bool) : ∀ k, (envL as l env L k).size = env.size
  | 0 => rfl
  | k + 1 => by
    simp only [envL]
    split
    · rw [size_put, size_envL]
    · exact size_envL as l env L k

theorem evAt_envL {call : CallT} {as : List AOper} {env env' : Env} {H H' : AHeap} {l : List Met} (h : evalMet call as env H = some (l, env', H')) : ∀ k, k ≤ as.length → evAt l env' k = envL as l env (fun _ => true) k
  | 0, _ => (met_spec h).2.1
  | k + 1, hk => by
    have ih := evAt_envL h k (by omega)
    obtain ⟨m, hm, hc⟩ := (met_spec h).2.2.2 k as[k] (List.getElem?_eq_getElem (by omega))
    have hme : m.env = evAt l env' k := by simp [evAt, hm]
    have hd : dstAt as k = as[k].dst := by simp [dstAt, List.getElem?_eq_getElem (show k < as.length by omega)]
    simp only [envL, if_true]
    rw [← ih, hd, ← hme]
    rcases hc with ⟨_, v, hv, _, he⟩ | ⟨_, hv, _, he⟩
    · rw [he]; simp [pv, hm, hv]
    · rw [he]; simp [pv, hm, hv]

theorem envL_agree {as : List AOper} {l : List Met} {env : Env} {L : Nat → Bool} {k t : Nat} (hk : L k = false) (h1 : ∀ q, q < k → dstAt as q = some t → L q = true) (h2 : ∀ q, k < q → dstAt as q = some t → L q = false) :
    ∀ q, (envL as l env L q).getD t undef = (envL as l env (fun _ => true) (min q k)).getD t undef
  | 0 => by simp [envL]
  | q + 1 => by
    have ih := envL_agree (l := l) (env := env) hk h1 h2 q
    by_cases hq : q < k
    · rw [show min (q + 1) k = q + 1 by omega]
      rw [show min q k = q by omega] at ih
      simp only [envL, if_true]
      rw [get_put, ← ih]
      by_cases hd : dstAt as q = some t
      · rw [h1 q hq hd]
        simp only [if_true]
        rw [get_put, size_envL, size_envL]
      · rw [if_neg (fun e : dstAt as q = some t ∧ t < _ => hd e.1)]
        split
        · rw [get_put, if_neg (fun e => hd e.1)]
        · rfl
    · rw [show min (q + 1) k = min q k by omega, ← ih]
      simp only [envL]
      split
      · rename_i hL
        rw [get_put]
        split
        · rename_i hd
          have hqk : k < q := by
            rcases Nat.lt_or_ge k q with h | h
            · exact h
            · have : q = k := by omega
              rw [this, hk] at hL; cases hL
          rw [h2 q hqk hd.1] at hL
          cases hL
        · rfl
      · rfl

theorem envL_list {as : List AOper} {l : List Met} {env : Env} {L : Nat → Bool} {k t : Nat} (hk : L k = false) (h : ∀ q, k < q → L q = true → dstAt as k = some t → dstAt as q ≠ some t) :
    ∀ q, (envL as l env (fun j => L j || j == k) q).getD t undef = if k < q ∧ dstAt as k = some t ∧ t < env.size then pv l k else (envL as l env L q).getD t undef
  | 0 => by simp [envL]
  | q + 1 => by
    have ih := envL_list (l := l) (env := env) hk h q
    by_cases hqk : q = k
    · subst hqk
      simp only [envL, hk, Bool.false_or, beq_self_eq_true, if_true, Bool.false_eq_true, if_false]
      rw [get_put, ih, size_envL]
      rw [if_neg (show ¬ (q < q ∧ _) from fun e => absurd e.1 (Nat.lt_irrefl _))]
      by_cases hc : dstAt as q = some t ∧ t < env.size
      · rw [if_pos hc, if_pos ⟨by omega, hc⟩]
      · rw [if_neg hc, if_neg (fun e => hc e.2)]
    · have hb : (q == k) = false := beq_eq_false_iff_ne.2 hqk
      simp only [envL, hb, Bool.or_false]
      by_cases hL : L q = true
      · rw [if_pos hL, if_pos hL, get_put, get_put, ih, size_envL, size_envL]
        by_cases hd : dstAt as q = some t ∧ t < env.size
        · rw [if_pos hd, if_pos hd]
          by_cases hc : k < q + 1 ∧ dstAt as k = some t ∧ t < env.size
          · exact absurd hd.1 (h q (by omega) hL hc.2.1)
          · rw [if_neg hc]
        · rw [if_neg hd, if_neg hd]
          by_cases hc : k < q ∧ dstAt as k = some t ∧ t < env.size
          · rw [if_pos hc, if_pos ⟨by omega, hc.2⟩]
          · rw [if_neg hc, if_neg (fun e => hc ⟨by omega, e.2⟩)]
      · have hL' : L q = false := by simpa using hL
        rw [hL']
        simp only [Bool.false_eq_true, if_false]
        rw [ih]
        by_cases hc : k < q ∧ dstAt as k = some t ∧ t < env.size
        · rw [if_pos hc, if_pos ⟨by omega, hc.2⟩]
        · rw [if_neg hc, if_neg (fun e => hc ⟨by omega, e.2⟩)]

end Go.Aev
