/- The relation between the abstract heap and the model's world: a renaming of blocks; what it keeps. -/
import Derived.Test.YtklkahckkelglaaGreatAevC
import Derived.Laws.Entries
import Derived.Laws.AppendOwn
import Derived.Below
namespace Go.Aev
open Go

/-- Where an abstract block stands: the block, the place in it where it begins, how many cells that has, the size of an element. -/
structure Loc where
  blk : Nat
  base : Nat
  tot : Nat
  esz : Nat
abbrev Ren := Nat → Option Loc

inductive VR (ρ : Ren) : Value → Value → Prop
  | undef (v : Value) : VR ρ (.tuple #[]) v
  | left : VR ρ .nilIface (.tuple #[])
  | anyc {v : Value} (h : isCell v = true) : VR ρ (.chan none) v
  | bool (b : Bool) : VR ρ (.bool b) (.bool b)
  | int (k : IntKind) (n : Int) : VR ρ (.int k n) (.int k n)
  | string (s : ByteArray) : VR ρ (.string s) (.string s)
  | ptrN : VR ρ (.pointer none) (.pointer none)
  | ptr {b o : Nat} {l : Loc} (h : ρ b = some l) : VR ρ (.pointer (some ⟨b, o, none⟩)) (.pointer (some ⟨l.blk, l.base + o, none⟩))
  | sliceN : VR ρ (.slice none 0 0) (.slice none 0 0)
  | slice0 {a a' : Addr} {c c' : Nat} (h : c = 0 → c' = 0) : VR ρ (.slice (some a) 0 c) (.slice (some a') 0 c')
  | slice {b o n c c' : Nat} {l : Loc} (h : ρ b = some l) (hn : n ≠ 0) (hc : n ≤ c') (he : c = n → c' = n) (hg : c = n + 1 → o = 0 ∧ l.base = 0 ∧ c' * l.esz = l.tot) :
      VR ρ (.slice (some ⟨b, o, none⟩) n c) (.slice (some ⟨l.blk, l.base + o, none⟩) n c')
  | mapN : VR ρ (.map none) (.map none)
  | map {b : Nat} {l : Loc} (h : ρ b = some l) : VR ρ (.map (some b)) (.map (some l.blk))
  | nilFunc : VR ρ .nilFunc .nilFunc
  | func {f : FuncId} {xs ys xs' ys' : Array Value} (h1 : xs.size = xs'.size) (h2 : ys.size = ys'.size)
      (h3 : ∀ i, VR ρ (xs.getD i (.tuple #[])) (xs'.getD i (.tuple #[]))) (h4 : ∀ i, VR ρ (ys.getD i (.tuple #[])) (ys'.getD i (.tuple #[]))) :
      VR ρ (.func (.func f) xs ys) (.func (.func f) xs' ys')
  | agg {xs xs' : Array Value} (h1 : xs.size = xs'.size) (h2 : ∀ i, VR ρ (xs.getD i (.tuple #[])) (xs'.getD i (.tuple #[]))) : VR ρ (.agg xs) (.agg xs')
  | tuple {xs xs' : Array Value} (h1 : xs.size = xs'.size) (h2 : ∀ i, VR ρ (xs.getD i (.tuple #[])) (xs'.getD i (.tuple #[]))) : VR ρ (.tuple xs) (.tuple xs')

/-- Two rows of values, one by one. -/
def VRs (ρ : Ren) (xs ys : Array Value) : Prop := xs.size = ys.size ∧ ∀ i, VR ρ (xs.getD i (.tuple #[])) (ys.getD i (.tuple #[]))

def Ext (ρ ρ' : Ren) : Prop := ∀ b l, ρ b = some l → ρ' b = some l
theorem Ext.refl (ρ : Ren) : Ext ρ ρ := fun _ _ h => h
theorem Ext.trans {ρ ρ' ρ'' : Ren} (h : Ext ρ ρ') (h' : Ext ρ' ρ'') : Ext ρ ρ'' := fun b l e => h' b l (h b l e)

theorem VR.ext {ρ ρ' : Ren} (h : Ext ρ ρ') {v v' : Value} (hv : VR ρ v v') : VR ρ' v v' := by
  induction hv with
  | undef v => exact .undef v
  | left => exact .left
  | anyc hc => exact .anyc hc
  | bool b => exact .bool b
  | int k n => exact .int k n
  | string s => exact .string s
  | ptrN => exact .ptrN
  | ptr hb => exact .ptr (h _ _ hb)
  | sliceN => exact .sliceN
  | slice0 hc => exact .slice0 hc
  | slice hb hn hc he hg => exact .slice (h _ _ hb) hn hc he hg
  | mapN => exact .mapN
  | map hb => exact .map (h _ _ hb)
  | nilFunc => exact .nilFunc
  | func h1 h2 _ _ h3 h4 => exact .func h1 h2 h3 h4
  | agg h1 _ h2 => exact .agg h1 h2
  | tuple h1 _ h2 => exact .tuple h1 h2
theorem VRs.ext {ρ ρ' : Ren} (h : Ext ρ ρ') {xs ys : Array Value} (hv : VRs ρ xs ys) : VRs ρ' xs ys := ⟨hv.1, fun i => (hv.2 i).ext h⟩

theorem VRs.get {ρ : Ren} {xs ys : Array Value} (h : VRs ρ xs ys) {i : Nat} {x : Value} (hx : xs[i]? = some x) : ∃ y, ys[i]? = some y ∧ VR ρ x y := by
  have hi : i < xs.size := (Array.getElem?_eq_some_iff.1 hx).1
  have hj : i < ys.size := h.1 ▸ hi
  refine ⟨ys[i], Array.getElem?_eq_getElem hj, ?_⟩
  have := h.2 i
  simp only [Array.getD_eq_getD_getElem?, hx, Array.getElem?_eq_getElem hj, Option.getD_some] at this
  exact this
theorem VRs.mk {ρ : Ren} {xs ys : Array Value} (h1 : xs.size = ys.size) (h2 : ∀ (i : Nat) (x y : Value), xs[i]? = some x → ys[i]? = some y → VR ρ x y) : VRs ρ xs ys := by
  refine ⟨h1, fun i => ?_⟩
  by_cases hi : i < xs.size
  · have hj : i < ys.size := h1 ▸ hi
    simp only [Array.getD_eq_getD_getElem?, Array.getElem?_eq_getElem hi, Array.getElem?_eq_getElem hj, Option.getD_some]
    exact h2 i _ _ (Array.getElem?_eq_getElem hi) (Array.getElem?_eq_getElem hj)
  · have hj : ¬ i < ys.size := h1 ▸ hi
    simp only [Array.getD_eq_getD_getElem?, Array.getElem?_eq_none (Nat.le_of_not_lt hi), Array.getElem?_eq_none (Nat.le_of_not_lt hj), Option.getD_none]
    exact .undef _

theorem plainC_VR {ρ : Ren} {v : Value} (h : plainC v = true) : VR ρ v v := by
  unfold plainC at h
  split at h <;> first | exact .bool _ | exact .int _ _ | exact .string _ | exact .ptrN | exact .sliceN | exact .mapN | exact .nilFunc | cases h
theorem plain_VR {ρ : Ren} {v : Value} (h : plain v = true) : VR ρ v v := by
  unfold plain at h
  split at h
  · rename_i cs
    have hm := Array.all_eq_true.1 h
    refine .agg rfl fun i => ?_
    by_cases hi : i < cs.size
    · simp only [Array.getD_eq_getD_getElem?, Array.getElem?_eq_getElem hi, Option.getD_some]
      exact plainC_VR (hm i hi)
    · simp only [Array.getD_eq_getD_getElem?, Array.getElem?_eq_none (Nat.le_of_not_lt hi), Option.getD_none]
      exact .undef _
  · exact plainC_VR h
theorem VRs.one {ρ : Ren} {v v' : Value} (h : VR ρ v v') : VRs ρ #[v] #[v'] := .mk rfl fun i x y hx hy => by
  have hi : i < 1 := by simpa using (Array.getElem?_eq_some_iff.1 hx).1
  obtain rfl : i = 0 := by omega
  simp at hx hy
  exact hx ▸ hy ▸ h
theorem plain_VRs {ρ : Ren} {v : Value} (h : plain v = true) : VRs ρ v.cells v.cells := by
  unfold plain at h
  split at h
  · rename_i cs
    refine .mk rfl fun i x y hx hy => ?_
    simp only [Value.cells] at hx hy
    rw [hx] at hy
    obtain rfl : x = y := by simpa using hy
    obtain ⟨hi, rfl⟩ := Array.getElem?_eq_some_iff.1 hx
    exact plainC_VR (Array.all_eq_true.1 h i hi)
  · have hc : v.cells = #[v] := by unfold plainC at h; split at h <;> first | rfl | cases h
    rw [hc]
    exact .one (plainC_VR h)

/-- The frame of an act, and the abstract one. -/
def EnvR (ρ : Ren) (env : Env) (tmps : Array Value) : Prop := VRs ρ env tmps

theorem EnvR.eval {ρ : Ren} {env : Env} {a : Act} (h : EnvR ρ env a.tmps) {x : Operand} (hx : okOpd x = true) : VR ρ (ev1 env x) (a.eval x) := by
  cases x with
  | tmp t => exact h.2 t
  | const v => exact plain_VR hx
  | global g => cases hx
  | func f => exact .func rfl rfl (fun i => by simp; exact .undef _) (fun i => by simp; exact .undef _)

theorem VRs.set {ρ : Ren} {xs ys : Array Value} (h : VRs ρ xs ys) {v v' : Value} (hv : VR ρ v v') (d : Nat) : VRs ρ (xs.setIfInBounds d v) (ys.setIfInBounds d v') := by
  refine .mk (by simpa using h.1) fun i x y hx hy => ?_
  rw [Array.getElem?_setIfInBounds] at hx hy
  by_cases hd : d = i
  · subst hd
    rw [if_pos rfl] at hx hy
    by_cases hl : d < xs.size
    · have hl' : d < ys.size := h.1 ▸ hl
      simp [hl] at hx; simp [hl'] at hy
      exact hx ▸ hy ▸ hv
    · simp [hl] at hx
  · rw [if_neg hd] at hx hy
    obtain ⟨z, hz, hr⟩ := h.get hx
    rw [hy] at hz
    obtain rfl : y = z := by simpa using hz
    exact hr
theorem EnvR.put {ρ : Ren} {env : Env} {a : Act} (h : EnvR ρ env a.tmps) {v v' : Value} (hv : VR ρ v v') (d : Option Tmp) : EnvR ρ (Aev.put env d v) (a.put d v').tmps := by
  cases d with
  | none => exact h
  | some d => exact VRs.set h hv d

/-- What is written by the abstract evaluator. -/
def own : Option Blk → Bool
  | some (.cells _ _ false) | some (.map _ _) | some (.iter _ _ _ _) => true
  | _ => false
def live : Option Blk → Bool
  | some .gone | none => false
  | _ => true

/-- A block, and where it stands. -/
def BR (P : Program) (ρ : Ren) (w : World) (l : Loc) : Blk → Prop
  | .cells c e false => ∃ c' e', e' = e ∧ w.heap[l.blk]? = some (.cells c' e' (0, 0)) ∧ l.base = 0 ∧ c'.size = l.tot ∧ l.esz = P.cellsOf e ∧ c.size ≤ c'.size ∧ ∀ (i : Nat) (x : Value), c[i]? = some x → ∃ y : Value, c'[i]? = some y ∧ VR ρ x y
  | .cells c _ true => ∃ c' e' fz, w.heap[l.blk]? = some (.cells c' e' fz) ∧ ∀ (i : Nat) (x : Value), c[i]? = some x → ∃ y : Value, c'[l.base + i]? = some y ∧ VR ρ x y
  | .map es clock => ∃ es', w.heap[l.blk]? = some (.map es' clock) ∧ es.size = es'.size ∧ ∀ (i : Nat) (x : MapEntry), es[i]? = some x → ∃ y : MapEntry, es'[i]? = some y ∧ VR ρ x.key y.key ∧ VR ρ x.val y.val ∧ x.born = y.born
  | .iter m s seen c => ∃ m', w.heap[l.blk]? = some (.mapIter m' s seen c) ∧ l.base = 0 ∧ VR ρ (.map m) (.map m')
  | .gone => True

structure Rel (P : Program) (ρ : Ren) (G : Nat → Option Blk) (w : World) : Prop where
  blk : ∀ b l, ρ b = some l → ∃ k, G b = some k ∧ BR P ρ w l k
  inj : ∀ b b' l l', ρ b = some l → ρ b' = some l' → b ≠ b' → live (G b) = true → live (G b') = true → (own (G b) = true ∨ own (G b') = true) → l.blk ≠ l'.blk
def Dom (ρ : Ren) (n : Nat) : Prop := ∀ b l, ρ b = some l → b < n

structure Post (P : Program) (ρ : Ren) (H : AHeap) (w : World) (ρ' : Ren) (H' : AHeap) (w' : World) : Prop where
  rel : Rel P ρ' H'.get w'
  dom : Dom ρ' H'.next
  mono : H.next ≤ H'.next
  ext : Ext ρ ρ'
  size : w.heap.size ≤ w'.heap.size
  frame : ∀ r, r < w.heap.size → (∀ b l, ρ b = some l → own (H.get b) = true → l.blk ≠ r) → w'.heap[r]? = w.heap[r]?
  new : ∀ b l, ρ' b = some l → ρ b = some l ∨ (H.next ≤ b ∧ (w.heap.size ≤ l.blk ∨ ∃ b0 l0, ρ b0 = some l0 ∧ own (H.get b0) = true ∧ l0.blk = l.blk))
  stat : ∀ b, b < H.next → own (H'.get b) = true → own (H.get b) = true
  liv : ∀ b, b < H.next → live (H'.get b) = true → live (H.get b) = true
  full : ∀ b, H.next ≤ b → b < H'.next → ρ' b ≠ none
  os : w'.os = w.os
  tape : w'.tape = w.tape
  output : w'.output = w.output

theorem Post.refl {P : Program} {ρ : Ren} {H : AHeap} {w : World} (h : Rel P ρ H.get w) (hd : Dom ρ H.next) : Post P ρ H w ρ H w :=
  ⟨h, hd, Nat.le_refl _, Ext.refl ρ, Nat.le_refl _, fun _ _ _ => rfl, fun _ _ h => .inl h, fun _ _ h => h, fun _ _ h => h, fun _ h1 h2 => absurd h2 (by omega), rfl, rfl, rfl⟩

theorem Post.trans {P : Program} {ρ ρ₁ ρ₂ : Ren} {H H₁ H₂ : AHeap} {w w₁ w₂ : World} (hd : Dom ρ H.next)
    (h : Post P ρ H w ρ₁ H₁ w₁) (h' : Post P ρ₁ H₁ w₁ ρ₂ H₂ w₂) : Post P ρ H w ρ₂ H₂ w₂ := by
  refine ⟨h'.rel, h'.dom, Nat.le_trans h.mono h'.mono, h.ext.trans h'.ext, Nat.le_trans h.size h'.size, ?_, ?_, ?_, ?_, ?_, h'.os.trans h.os, h'.tape.trans h.tape, h'.output.trans h.output⟩
  · intro r hr hno
    rw [h'.frame r (Nat.lt_of_lt_of_le hr h.size), h.frame r hr hno]
    intro b l hb ho hl
    rcases h.new b l hb with hb0 | ⟨_, hn | ⟨b0, l0, hb0, ho0, hl0⟩⟩
    · exact hno b l hb0 (h.stat b (hd b l hb0) ho) hl
    · omega
    · exact hno b0 l0 hb0 ho0 (hl0.trans hl)
  · intro b l hb
    rcases h'.new b l hb with hb1 | ⟨hge, hn⟩
    · exact h.new b l hb1
    · refine .inr ⟨Nat.le_trans h.mono hge, ?_⟩
      rcases hn with hn | ⟨b0, l0, hb0, ho0, hl0⟩
      · exact .inl (Nat.le_trans h.size hn)
      · rcases h.new b0 l0 hb0 with hb00 | ⟨_, hn | ⟨b1, l1, hb1, ho1, hl1⟩⟩
        · exact .inr ⟨b0, l0, hb00, h.stat b0 (hd b0 l0 hb00) ho0, hl0⟩
        · exact .inl (hl0 ▸ hn)
        · exact .inr ⟨b1, l1, hb1, ho1, hl1.trans hl0⟩
  · intro b hb ho
    exact h.stat b hb (h'.stat b (Nat.lt_of_lt_of_le hb h.mono) ho)
  · intro b hb ho
    exact h.liv b hb (h'.liv b (Nat.lt_of_lt_of_le hb h.mono) ho)
  · intro b hb hb'
    rcases Nat.lt_or_ge b H₁.next with hlt | hge
    · cases e : ρ₁ b with
      | none => exact absurd e (h.full b hb hlt)
      | some l => rw [h'.ext b l e]; simp
    · exact h'.full b hge hb'

theorem own_live {k : Option Blk} (h : own k = true) : live k = true := by
  unfold own at h
  split at h <;> first | rfl | cases h

theorem BR.lt {P : Program} {ρ : Ren} {w : World} {l : Loc} {k : Blk} (h : BR P ρ w l k) (hl : live (some k) = true) : l.blk < w.heap.size := by
  cases k with
  | gone => cases hl
  | map es clock => obtain ⟨es', hg, _⟩ := h; exact (Array.getElem?_eq_some_iff.1 hg).1
  | iter m s seen c => obtain ⟨m', hg, _⟩ := h; exact (Array.getElem?_eq_some_iff.1 hg).1
  | cells c e ro =>
    cases ro with
    | false => obtain ⟨c', e', _, hg, _⟩ := h; exact (Array.getElem?_eq_some_iff.1 hg).1
    | true => obtain ⟨c', e', fz, hg, _⟩ := h; exact (Array.getElem?_eq_some_iff.1 hg).1

theorem BR.keep {P : Program} {ρ ρ' : Ren} {w w' : World} {l : Loc} {k : Blk} (h : BR P ρ w l k) (he : Ext ρ ρ') (hw : live (some k) = true → w'.heap[l.blk]? = w.heap[l.blk]?) : BR P ρ' w' l k := by
  cases k with
  | gone => trivial
  | map es clock =>
    obtain ⟨es', hg, hs, hr⟩ := h
    exact ⟨es', (hw rfl).trans hg, hs, fun i x hx => let ⟨y, hy, h1, h2, h3⟩ := hr i x hx; ⟨y, hy, h1.ext he, h2.ext he, h3⟩⟩
  | iter m s seen c => obtain ⟨m', hg, h0, hr⟩ := h; exact ⟨m', (hw rfl).trans hg, h0, hr.ext he⟩
  | cells c e ro =>
    cases ro with
    | false =>
      obtain ⟨c', e', he', hg, h1, h2, h3, h4, hr⟩ := h
      exact ⟨c', e', he', (hw rfl).trans hg, h1, h2, h3, h4, fun i x hx => let ⟨y, hy, h1⟩ := hr i x hx; ⟨y, hy, h1.ext he⟩⟩
    | true =>
      obtain ⟨c', e', fz, hg, hr⟩ := h
      exact ⟨c', e', fz, (hw rfl).trans hg, fun i x hx => let ⟨y, hy, h1⟩ := hr i x hx; ⟨y, hy, h1.ext he⟩⟩

theorem Rel.lt {P : Program} {ρ : Ren} {G : Nat → Option Blk} {w : World} (h : Rel P ρ G w) {b : Nat} {l : Loc} (hb : ρ b = some l) (hl : live (G b) = true) : l.blk < w.heap.size := by
  obtain ⟨k, hk, hbr⟩ := h.blk b l hb
  exact hbr.lt (hk ▸ hl)

/-- One block more. -/
def Ren.add (ρ : Ren) (n : Nat) (l : Loc) : Ren := fun b => if b = n then some l else ρ b
theorem Ren.add_new (ρ : Ren) (n : Nat) (l : Loc) : ρ.add n l n = some l := by simp [Ren.add]
theorem Ren.add_ext {ρ : Ren} {n : Nat} {l : Loc} (hd : Dom ρ n) : Ext ρ (ρ.add n l) := fun b l' h => by
  have : b ≠ n := by have := hd b l' h; omega
  simp [Ren.add, this, h]

/-- A world in which one object more stands. -/
structure Grew (w w' : World) (o : Obj) : Prop where
  heap : w'.heap = w.heap.push o
  os : w'.os = w.os
  tape : w'.tape = w.tape
  output : w'.output = w.output
theorem Grew.old {w w' : World} {o : Obj} (h : Grew w w' o) {r : Nat} (hr : r < w.heap.size) : w'.heap[r]? = w.heap[r]? := by
  rw [h.heap, Array.getElem?_push_lt hr, Array.getElem?_eq_getElem hr]
theorem Grew.new {w w' : World} {o : Obj} (h : Grew w w' o) : w'.heap[w.heap.size]? = some o := by
  rw [h.heap, Array.getElem?_push_size]
theorem Grew.size {w w' : World} {o : Obj} (h : Grew w w' o) : w'.heap.size = w.heap.size + 1 := by
  rw [h.heap, Array.size_push]

theorem Post.push {P : Program} {ρ : Ren} {H : AHeap} {w w' : World} (hR : Rel P ρ H.get w) (hD : Dom ρ H.next) {o : Obj} (hw : Grew w w' o) {k : Blk} {l : Loc}
    (hl : l.blk = w.heap.size) (hb : BR P (ρ.add H.next l) w' l k) : Post P ρ H w (ρ.add H.next l) (H.push k) w' := by
  have he : Ext ρ (ρ.add H.next l) := Ren.add_ext hD
  have hold : ∀ b, b ≠ H.next → (H.push k).get b = H.get b := fun b hb => by rw [AHeap.get_push, if_neg hb]
  have hnew : (H.push k).get H.next = some k := by rw [AHeap.get_push, if_pos rfl]
  refine ⟨⟨?_, ?_⟩, ?_, by simp, he, by rw [hw.size]; omega, fun r hr _ => hw.old hr, ?_, ?_, ?_, ?_, hw.os, hw.tape, hw.output⟩
  · intro b l' hb'
    by_cases hbn : b = H.next
    · subst hbn
      obtain rfl : l = l' := by simpa [Ren.add] using hb'
      exact ⟨k, hnew, hb⟩
    · have hb0 : ρ b = some l' := by simpa [Ren.add, hbn] using hb'
      obtain ⟨k', hk', hbr⟩ := hR.blk b l' hb0
      exact ⟨k', (hold b hbn).trans hk', hbr.keep he fun hlive => hw.old (hbr.lt hlive)⟩
  · intro b b' l1 l2 h1 h2 hne hl1 hl2 ho
    by_cases hbn : b = H.next
    · subst hbn
      have hbn' : b' ≠ H.next := fun e => hne e.symm
      obtain rfl : l = l1 := by simpa [Ren.add] using h1
      have h20 : ρ b' = some l2 := by simpa [Ren.add, hbn'] using h2
      rw [hold b' hbn'] at hl2
      have := hR.lt h20 hl2
      omega
    · by_cases hbn' : b' = H.next
      · subst hbn'
        obtain rfl : l = l2 := by simpa [Ren.add] using h2
        have h10 : ρ b = some l1 := by simpa [Ren.add, hbn] using h1
        rw [hold b hbn] at hl1
        have := hR.lt h10 hl1
        omega
      · rw [hold b hbn] at hl1 ho
        rw [hold b' hbn'] at hl2 ho
        exact hR.inj b b' l1 l2 (by simpa [Ren.add, hbn] using h1) (by simpa [Ren.add, hbn'] using h2) hne hl1 hl2 ho
  · intro b l' hb'
    by_cases hbn : b = H.next
    · subst hbn; simp
    · have hb0 : ρ b = some l' := by simpa [Ren.add, hbn] using hb'
      have := hD b l' hb0
      simp; omega
  · intro b l' hb'
    by_cases hbn : b = H.next
    · subst hbn
      obtain rfl : l = l' := by simpa [Ren.add] using hb'
      exact .inr ⟨Nat.le_refl _, .inl (by omega)⟩
    · exact .inl (by simpa [Ren.add, hbn] using hb')
  · intro b hb' ho
    rwa [hold b (by omega)] at ho
  · intro b hb' ho
    rwa [hold b (by omega)] at ho
  · intro b h1 h2
    have : b = H.next := by simp at h2; omega
    rw [this, Ren.add_new]; simp

/-- A world in which one block turned. -/
structure Turned (w w' : World) (r : Nat) : Prop where
  size : w'.heap.size = w.heap.size
  other : ∀ i, i ≠ r → w'.heap[i]? = w.heap[i]?
  os : w'.os = w.os
  tape : w'.tape = w.tape
  output : w'.output = w.output

theorem Post.set {P : Program} {ρ : Ren} {H : AHeap} {w w' : World} (hR : Rel P ρ H.get w) (hD : Dom ρ H.next) {b : Nat} {l : Loc} (hb : ρ b = some l) (ho : own (H.get b) = true)
    (hw : Turned w w' l.blk) {k : Blk} (hk : BR P ρ w' l k) : Post P ρ H w ρ (H.set b k) w' := by
  have hold : ∀ b', b' ≠ b → (H.set b k).get b' = H.get b' := fun b' h => by rw [AHeap.get_set, if_neg h]
  have hnew : (H.set b k).get b = some k := by rw [AHeap.get_set, if_pos rfl]
  refine ⟨⟨?_, ?_⟩, hD, Nat.le_refl _, Ext.refl ρ, by rw [hw.size]; exact Nat.le_refl _, ?_, fun _ _ h => .inl h, ?_, ?_, fun _ h1 h2 => absurd h2 (by simp; omega), hw.os, hw.tape, hw.output⟩
  · intro b' l' hb'
    by_cases hbb : b' = b
    · subst hbb
      obtain rfl : l = l' := by simpa [hb] using hb'
      exact ⟨k, hnew, hk⟩
    · obtain ⟨k', hk', hbr⟩ := hR.blk b' l' hb'
      refine ⟨k', (hold b' hbb).trans hk', hbr.keep (Ext.refl ρ) fun hlive => hw.other _ ?_⟩
      exact fun e => hR.inj b b' l l' hb hb' (fun e => hbb e.symm) (own_live ho) (hk' ▸ hlive) (.inl ho) e.symm
  · intro b1 b2 l1 l2 h1 h2 hne hl1 hl2 ho'
    by_cases hb1 : b1 = b
    · subst hb1
      have hb2 : b2 ≠ b1 := fun e => hne e.symm
      rw [hold b2 hb2] at hl2
      exact hR.inj b1 b2 l1 l2 h1 h2 hne (own_live ho) hl2 (.inl ho)
    · by_cases hb2 : b2 = b
      · subst hb2
        rw [hold b1 hb1] at hl1
        exact hR.inj b1 b2 l1 l2 h1 h2 hne hl1 (own_live ho) (.inr ho)
      · rw [hold b1 hb1] at hl1 ho'
        rw [hold b2 hb2] at hl2 ho'
        exact hR.inj b1 b2 l1 l2 h1 h2 hne hl1 hl2 ho'
  · intro r hr hno
    exact hw.other r fun e => hno b l hb ho e.symm
  · intro b' _ ho'
    by_cases hbb : b' = b
    · exact hbb ▸ ho
    · rwa [hold b' hbb] at ho'
  · intro b' _ ho'
    by_cases hbb : b' = b
    · exact hbb ▸ own_live ho
    · rwa [hold b' hbb] at ho'

/-- An append in place: the block goes on as a new one. -/
theorem Post.move {P : Program} {ρ : Ren} {H : AHeap} {w w' : World} (hR : Rel P ρ H.get w) (hD : Dom ρ H.next) {b : Nat} {l : Loc} (hb : ρ b = some l) (ho : own (H.get b) = true)
    (hw : Turned w w' l.blk) {k : Blk} (hk : BR P (ρ.add H.next l) w' l k) : Post P ρ H w (ρ.add H.next l) ((H.push k).set b .gone) w' := by
  have he : Ext ρ (ρ.add H.next l) := Ren.add_ext hD
  have hbn : b ≠ H.next := by have := hD b l hb; omega
  have hold : ∀ b', b' ≠ b → b' ≠ H.next → ((H.push k).set b .gone).get b' = H.get b' := fun b' h h' => by
    rw [AHeap.get_set, if_neg h, AHeap.get_push, if_neg h']
  have hnew : ((H.push k).set b .gone).get H.next = some k := by rw [AHeap.get_set, if_neg (Ne.symm hbn), AHeap.get_push, if_pos rfl]
  have hgone : ((H.push k).set b .gone).get b = some .gone := by rw [AHeap.get_set, if_pos rfl]
  have hlt : l.blk < w.heap.size := hR.lt hb (own_live ho)
  refine ⟨⟨?_, ?_⟩, ?_, by simp, he, by rw [hw.size]; exact Nat.le_refl _, ?_, ?_, ?_, ?_, ?_, hw.os, hw.tape, hw.output⟩
  · intro b' l' hb'
    by_cases hbb : b' = b
    · subst hbb; exact ⟨.gone, hgone, trivial⟩
    · by_cases hb'n : b' = H.next
      · subst hb'n
        obtain rfl : l = l' := by simpa [Ren.add] using hb'
        exact ⟨k, hnew, hk⟩
      · have hb0 : ρ b' = some l' := by simpa [Ren.add, hb'n] using hb'
        obtain ⟨k', hk', hbr⟩ := hR.blk b' l' hb0
        refine ⟨k', (hold b' hbb hb'n).trans hk', hbr.keep he fun hlive => hw.other _ ?_⟩
        exact fun e => hR.inj b b' l l' hb hb0 (fun e => hbb e.symm) (own_live ho) (hk' ▸ hlive) (.inl ho) e.symm
  · intro b1 b2 l1 l2 h1 h2 hne hl1 hl2 ho'
    have g1 : b1 ≠ b := fun e => by subst e; rw [hgone] at hl1; cases hl1
    have g2 : b2 ≠ b := fun e => by subst e; rw [hgone] at hl2; cases hl2
    by_cases hb1 : b1 = H.next
    · subst hb1
      have hb2 : b2 ≠ H.next := fun e => hne e.symm
      obtain rfl : l = l1 := by simpa [Ren.add] using h1
      have h20 : ρ b2 = some l2 := by simpa [Ren.add, hb2] using h2
      rw [hold b2 g2 hb2] at hl2
      exact hR.inj b b2 l l2 hb h20 (Ne.symm g2) (own_live ho) hl2 (.inl ho)
    · have h10 : ρ b1 = some l1 := by simpa [Ren.add, hb1] using h1
      rw [hold b1 g1 hb1] at hl1
      by_cases hb2 : b2 = H.next
      · subst hb2
        obtain rfl : l = l2 := by simpa [Ren.add] using h2
        exact hR.inj b1 b l1 l h10 hb g1 hl1 (own_live ho) (.inr ho)
      · have h20 : ρ b2 = some l2 := by simpa [Ren.add, hb2] using h2
        rw [hold b2 g2 hb2] at hl2
        rw [hold b1 g1 hb1, hold b2 g2 hb2] at ho'
        exact hR.inj b1 b2 l1 l2 h10 h20 hne hl1 hl2 ho'
  · intro b' l' hb'
    by_cases hb'n : b' = H.next
    · subst hb'n; simp
    · have hb0 : ρ b' = some l' := by simpa [Ren.add, hb'n] using hb'
      have := hD b' l' hb0
      simp; omega
  · intro r hr hno
    exact hw.other r fun e => hno b l hb ho e.symm
  · intro b' l' hb'
    by_cases hb'n : b' = H.next
    · subst hb'n
      obtain rfl : l = l' := by simpa [Ren.add] using hb'
      exact .inr ⟨Nat.le_refl _, .inr ⟨b, l, hb, ho, rfl⟩⟩
    · exact .inl (by simpa [Ren.add, hb'n] using hb')
  · intro b' hlt' ho'
    by_cases hbb : b' = b
    · exact hbb ▸ ho
    · rwa [hold b' hbb (by omega)] at ho'
  · intro b' hlt' ho'
    by_cases hbb : b' = b
    · exact hbb ▸ own_live ho
    · rwa [hold b' hbb (by omega)] at ho'
  · intro b' h1 h2
    have : b' = H.next := by simp at h2; omega
    rw [this, Ren.add_new]; simp

theorem Post.kill {P : Program} {ρ ρ' : Ren} {H H' : AHeap} {w w' : World} (h : Post P ρ H w ρ' H' w') (b : Nat) : Post P ρ H w ρ' (H'.set b .gone) w' := by
  have hold : ∀ b', b' ≠ b → (H'.set b .gone).get b' = H'.get b' := fun b' e => by rw [AHeap.get_set, if_neg e]
  have hgone : (H'.set b .gone).get b = some .gone := by rw [AHeap.get_set, if_pos rfl]
  refine ⟨⟨?_, ?_⟩, h.dom, h.mono, h.ext, h.size, h.frame, h.new, ?_, ?_, h.full, h.os, h.tape, h.output⟩
  · intro b' l hb
    by_cases e : b' = b
    · subst e; exact ⟨.gone, hgone, trivial⟩
    · obtain ⟨k, hk, hbr⟩ := h.rel.blk b' l hb
      exact ⟨k, (hold b' e).trans hk, hbr⟩
  · intro b1 b2 l1 l2 h1 h2 hne hl1 hl2 ho
    have e1 : b1 ≠ b := fun e => by subst e; rw [hgone] at hl1; cases hl1
    have e2 : b2 ≠ b := fun e => by subst e; rw [hgone] at hl2; cases hl2
    rw [hold b1 e1] at hl1 ho
    rw [hold b2 e2] at hl2 ho
    exact h.rel.inj b1 b2 l1 l2 h1 h2 hne hl1 hl2 ho
  · intro b' hb ho
    by_cases e : b' = b
    · subst e; rw [hgone] at ho; cases ho
    · rw [hold b' e] at ho; exact h.stat b' hb ho
  · intro b' hb ho
    by_cases e : b' = b
    · subst e; rw [hgone] at ho; cases ho
    · rw [hold b' e] at ho; exact h.liv b' hb ho

end Go.Aev
