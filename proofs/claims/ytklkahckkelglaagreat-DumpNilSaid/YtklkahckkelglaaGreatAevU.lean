/- The fast twin tells what the evaluator tells. -/
import Derived.Test.YtklkahckkelglaaGreatAevT
namespace Go.Aev
open Go

/-- A twin's calls are the evaluator's. -/
structure Twin (callQ : CallQ) (call : CallT) : Prop where
  fn : ∀ f args H v H', callQ (.fn f args) H = some (.val v, H') → call (.fn f args) H = some (.val v, H')
  loop : ∀ c q H x q' H', callQ (.loop c q) H = some (.exit x q', H') → call (.loop none c q.env) H = some (.exit x q'.env, H')

section
variable {callQ : CallQ} {call : CallT}

theorem doOpQ_ok (ht : Twin callQ call) {o : AOper} {q : QEnv} {H H' : AHeap} {v : Value} (h : doOpQ callQ o q H = some (v, H')) : doOp call o q.env H = some (v, H') := by
  unfold doOpQ at h
  unfold doOp
  rw [← aStepQ_eq]
  split at h
  · rename_i hs; rw [hs]; exact h
  · rename_i hs; rw [hs]; exact h
  · rename_i f args hs
    rw [hs]
    split at h
    · rename_i v0 H0 hc
      simp only [ht.fn _ _ _ _ _ hc]
      exact h
    · cases h
  · cases h

theorem evalOpsQ_ok (ht : Twin callQ call) : ∀ {ops : List AOper} {q q' : QEnv} {H H' : AHeap}, evalOpsQ callQ ops q H = some (q', H') → evalOps call ops q.env H = some (q'.env, H')
  | [], q, q', H, H', h => by
    simp only [evalOpsQ, Option.some.injEq, Prod.mk.injEq] at h
    obtain ⟨rfl, rfl⟩ := h
    rfl
  | o :: r, q, q', H, H', h => by
    simp only [evalOpsQ] at h
    simp only [evalOps, ← wantsQ_eq]
    split at h
    · rename_i hw
      split at h
      · rename_i v H1 hd
        have := evalOpsQ_ok ht h
        rw [putQ_env] at this
        simp only [hw, doOpQ_ok ht hd, this]
      · cases h
    · rename_i hw
      have := evalOpsQ_ok ht h
      rw [putQ_env] at this
      simp only [hw, this]
    · cases h

theorem evalMetQ_ok (ht : Twin callQ call) : ∀ {ops : List AOper} {q q' : QEnv} {H H' : AHeap} {l : List MetQ}, evalMetQ callQ ops q H = some (l, q', H') → evalMet call ops q.env H = some (l.map MetQ.met, q'.env, H')
  | [], q, q', H, H', l, h => by
    simp only [evalMetQ, Option.some.injEq, Prod.mk.injEq] at h
    obtain ⟨rfl, rfl, rfl⟩ := h
    rfl
  | o :: r, q, q', H, H', l, h => by
    simp only [evalMetQ] at h
    simp only [evalMet, ← wantsQ_eq]
    split at h
    · rename_i hw
      split at h
      · rename_i v H1 hd
        split at h
        · rename_i l1 e1 h1 hr
          simp only [Option.some.injEq, Prod.mk.injEq] at h
          obtain ⟨rfl, rfl, rfl⟩ := h
          have := evalMetQ_ok ht hr
          rw [putQ_env] at this
          simp only [hw, doOpQ_ok ht hd, this]
          rfl
        · cases h
      · cases h
    · rename_i hw
      split at h
      · rename_i l1 e1 h1 hr
        simp only [Option.some.injEq, Prod.mk.injEq] at h
        obtain ⟨rfl, rfl, rfl⟩ := h
        have := evalMetQ_ok ht hr
        rw [putQ_env] at this
        simp only [hw, this]
        rfl
      · cases h
    · cases h

theorem heapAtQ_eq (l : List MetQ) (H : AHeap) (j : Nat) : heapAtQ l H j = heapAt (l.map MetQ.met) H j := by
  unfold heapAtQ heapAt
  rw [List.getElem?_map]
  cases l[j]? <;> rfl
theorem yieldsQ_eq (o : AOper) (m : MetQ) (next H : AHeap) : yieldsQ o m next H = yields o m.met next H := by
  unfold yieldsQ yields
  simp only [qv_eq, aStepQ_eq]
  rfl
theorem looksOKQ_eq (ops : List AOper) (looks : List (List Nat)) (l : List MetQ) (H : AHeap) : looksOKQ ops looks l H = looksOK ops looks (l.map MetQ.met) H := by
  unfold looksOKQ looksOK
  congr 1
  funext k
  rw [List.getElem?_map]
  cases ops[k]? with
  | none => rfl
  | some o =>
    cases looks[k]? with
    | none => rfl
    | some js =>
      cases l[k]? with
      | none => rfl
      | some m => simp only [Option.map_some, heapAtQ_eq, yieldsQ_eq]
theorem evalDrawQ_ok (ht : Twin callQ call) {ops : List AOper} {looks : List (List Nat)} {q q' : QEnv} {H H' : AHeap} (h : evalDrawQ callQ ops looks q H = some (q', H')) : evalDraw call ops looks q.env H = some (q'.env, H') := by
  unfold evalDrawQ at h
  unfold evalDraw
  split at h
  · rename_i l e h1 hm
    rw [evalMetQ_ok ht hm]
    rw [looksOKQ_eq] at h
    split at h
    · rename_i hl
      simp only [Option.some.injEq, Prod.mk.injEq] at h
      obtain ⟨rfl, rfl⟩ := h
      simp only [hl, if_true]
    · cases h
  · cases h

theorem evalCodeQ_ok (ht : Twin callQ call) : ∀ (c : ACode) {q q' : QEnv} {H H' : AHeap} {x : AExit}, evalCodeQ callQ c q H = some (x, q', H') → evalCode call c q.env H = some (x, q'.env, H') := by
  intro c
  induction c with
  | skip =>
    intro q q' H H' x h
    simp only [evalCodeQ, Option.some.injEq, Prod.mk.injEq] at h
    obtain ⟨rfl, rfl, rfl⟩ := h
    rfl
  | region ops =>
    intro q q' H H' x h
    simp only [evalCodeQ] at h
    split at h
    · rename_i e H1 he
      simp only [Option.some.injEq, Prod.mk.injEq] at h
      obtain ⟨rfl, rfl, rfl⟩ := h
      simp only [evalCode, evalOpsQ_ok ht he, Option.map_some]
    · cases h
  | draw ops looks =>
    intro q q' H H' x h
    simp only [evalCodeQ] at h
    split at h
    · rename_i e H1 he
      simp only [Option.some.injEq, Prod.mk.injEq] at h
      obtain ⟨rfl, rfl, rfl⟩ := h
      simp only [evalCode, evalDrawQ_ok ht he, Option.map_some]
    · cases h
  | seq a b iha ihb =>
    intro q q' H H' x h
    simp only [evalCodeQ] at h
    simp only [evalCode]
    split at h
    · rename_i q1 H1 h1
      rw [iha h1]
      exact ihb h
    · rename_i hne
      rw [iha h]
      cases x with
      | normal => exact absurd h (hne _ _)
      | ret => rfl
      | exit i => rfl
  | cond c a b iha ihb =>
    intro q q' H H' x h
    simp only [evalCodeQ, qv_eq] at h
    simp only [evalCode]
    split at h
    · rename_i hc; rw [hc]; exact iha h
    · rename_i hc; rw [hc]; exact ihb h
    · cases h
  | block id c ih =>
    intro q q' H H' x h
    simp only [evalCodeQ] at h
    simp only [evalCode]
    split at h
    · rename_i i q1 H1 h1
      rw [ih h1]
      split at h
      · rename_i hi
        simp only [Option.some.injEq, Prod.mk.injEq] at h
        obtain ⟨rfl, rfl, rfl⟩ := h
        simp only [hi, if_true]
      · rename_i hi
        simp only [Option.some.injEq, Prod.mk.injEq] at h
        obtain ⟨rfl, rfl, rfl⟩ := h
        simp only [hi, if_false]
    · rename_i hne
      rw [ih h]
      cases x with
      | normal => rfl
      | ret => rfl
      | exit i => exact absurd h (hne _ _ _)
  | loop keep c ih =>
    intro q q' H H' x h
    simp only [evalCodeQ] at h
    split at h
    · split at h
      · rename_i x1 q1 H1 h1
        simp only [Option.some.injEq, Prod.mk.injEq] at h
        obtain ⟨rfl, rfl, rfl⟩ := h
        simp only [evalCode, ht.loop _ _ _ _ _ _ h1]
      · cases h
    · cases h
  | exit id =>
    intro q q' H H' x h
    simp only [evalCodeQ, Option.some.injEq, Prod.mk.injEq] at h
    obtain ⟨rfl, rfl, rfl⟩ := h
    rfl
  | ret =>
    intro q q' H H' x h
    simp only [evalCodeQ, Option.some.injEq, Prod.mk.injEq] at h
    obtain ⟨rfl, rfl, rfl⟩ := h
    rfl

theorem resOfQ_eq (q : QEnv) (H : AHeap) : resOfQ q H = resOf q.env H := funext fun r => by
  cases r with
  | tmp t => simp only [resOfQ, resOf, QEnv.getD_env]
  | cell t n => cases n <;> simp only [resOfQ, resOf, QEnv.getD_env]
theorem resultOfQ_eq (q : QEnv) (H : AHeap) (rs : List ARes) : resultOfQ q H rs = resultOf q.env H rs := by
  unfold resultOfQ resultOf
  rw [resOfQ_eq]
  rfl

theorem startTr_get : ∀ (l : List Value) (i : Nat) (t : VT) (j : Nat), (startTr l i t).get j = if i ≤ j ∧ j < i + l.length then l.getD (j - i) undef else t.get j
  | [], i, t, j => by
    rw [if_neg (by simp only [List.length_nil]; omega)]
    rfl
  | v :: r, i, t, j => by
    simp only [startTr]
    rw [startTr_get r (i + 1), VT.get_put _ _ _ _ _ (Nat.lt_succ_self i)]
    by_cases h1 : j = i
    · subst h1
      rw [if_neg (by omega), if_pos rfl, if_pos (by simp)]
      simp
    · by_cases h2 : i + 1 ≤ j ∧ j < i + 1 + r.length
      · rw [if_pos h2, if_pos (by simp only [List.length_cons]; omega)]
        rw [show j - i = (j - (i + 1)) + 1 by omega]
        simp
      · rw [if_neg h2, if_neg h1, if_neg (by simp only [List.length_cons]; omega)]

theorem startQ_env (args : Array Value) (n : Nat) : (startQ args n).env = args ++ Array.replicate (n - args.size) undef := by
  apply Array.ext_getElem?
  intro i
  simp only [startQ, QEnv.env, List.getElem?_toArray, List.getElem?_map]
  by_cases h : i < args.size + (n - args.size)
  · rw [List.getElem?_range h]
    simp only [Option.map_some]
    rw [startTr_get]
    by_cases h1 : i < args.size
    · rw [if_pos (by simp only [Array.length_toList]; omega), Array.getElem?_append_left h1]
      simp [List.getD_eq_getElem?_getD, h1]
    · rw [if_neg (by simp only [Array.length_toList]; omega), Array.getElem?_append_right (by omega), Array.getElem?_replicate, if_pos (by omega)]
      rfl
  · rw [List.getElem?_eq_none (by simp; omega), Array.getElem?_eq_none (by simp; omega)]
    rfl

theorem evQ_ok (T : Table) : ∀ k, Twin (evQ T k) (evN T k)
  | 0 => ⟨fun f args H v H' h => by simp [evQ] at h, fun c q H x q' H' h => by simp [evQ] at h⟩
  | k + 1 => by
    have ih := evQ_ok T k
    refine ⟨fun f args H v H' h => ?_, fun c q H x q' H' h => ?_⟩
    · simp only [evQ, evBodyQ] at h
      simp only [evN, evBody]
      split at h
      · rename_i p hp
        rw [hp]
        split at h
        · rename_i v1 H1 h1
          simp only [Option.some.injEq, Prod.mk.injEq, OutQ.val.injEq] at h
          obtain ⟨rfl, rfl⟩ := h
          simp only [h1, Option.map_some]
        · cases h
      · rename_i hp
        rw [hp]
        split at h
        · rename_i af haf
          simp only [haf]
          split at h
          · rename_i q1 H1 h1
            have h2 := evalCodeQ_ok ih _ h1
            rw [startQ_env] at h2
            split at h
            · rename_i v1 hr
              simp only [Option.some.injEq, Prod.mk.injEq, OutQ.val.injEq] at h
              obtain ⟨rfl, rfl⟩ := h
              rw [resultOfQ_eq] at hr
              simp only [h2, hr, Option.map_some]
            · cases h
          · rename_i q1 H1 h1
            have h2 := evalCodeQ_ok ih _ h1
            rw [startQ_env] at h2
            split at h
            · rename_i v1 hr
              simp only [Option.some.injEq, Prod.mk.injEq, OutQ.val.injEq] at h
              obtain ⟨rfl, rfl⟩ := h
              rw [resultOfQ_eq] at hr
              simp only [h2, hr, Option.map_some]
            · cases h
          · cases h
        · cases h
    · simp only [evQ, evBodyQ] at h
      simp only [evN, evBody, maskOf]
      split at h
      · rename_i q1 H1 h1
        rw [evalCodeQ_ok ih _ h1]
        exact ih.loop _ _ _ _ _ _ h
      · rename_i x1 q1 H1 hne h1
        simp only [Option.some.injEq, Prod.mk.injEq, OutQ.exit.injEq] at h
        obtain ⟨⟨rfl, rfl⟩, rfl⟩ := h
        rw [evalCodeQ_ok ih _ h1]
        cases x1 with
        | normal => exact absurd rfl hne
        | ret => rfl
        | exit i => rfl
      · cases h

end
end Go.Aev
