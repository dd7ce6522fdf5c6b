/- What the abstract evaluator reads, writes and makes stands so in the model's world. -/
import Derived.Test.YtklkahckkelglaaGreatAevD
import Derived.Laws.CopyRow
import Derived.Laws.Tables
namespace Go.Aev
open Go

theorem cell_of_heap {w : World} {r o : Nat} {c : Array Value} {e : TypeId} {fz : Nat × Nat} (h : w.heap[r]? = some (.cells c e fz)) : w.cell? ⟨r, o, none⟩ = c[o]? := by
  simp [World.cell?, h]

theorem isCell_VR {ρ : Ren} {v v' : Value} (h : VR ρ v v') (hc : isCell v = true) : v'.oneCell' = true ∧ isCell v' = true := by
  cases h <;> first | exact ⟨rfl, rfl⟩ | cases hc | skip
  rename_i h
  cases v' <;> first | exact ⟨rfl, rfl⟩ | cases h

theorem cells_VR {ρ : Ren} {v v' : Value} (h : VR ρ v v') (hc : v.cells.all isCell = true) : VRs ρ v.cells v'.cells ∧ v'.cells.all isCell = true ∧ v'.cells.all (·.oneCell') = true := by
  have key : ∀ xs ys : Array Value, VRs ρ xs ys → xs.all isCell = true → VRs ρ xs ys ∧ ys.all isCell = true ∧ ys.all (·.oneCell') = true := by
    intro xs ys hv ha
    refine ⟨hv, ?_, ?_⟩
    all_goals
      rw [Array.all_eq_true]
      intro i hi
      have hi' : i < xs.size := hv.1 ▸ hi
      have hx := Array.all_eq_true.1 ha i hi'
      obtain ⟨y, hy, hr⟩ := hv.get (Array.getElem?_eq_getElem hi')
      rw [Array.getElem?_eq_getElem hi] at hy
      obtain rfl : ys[i] = y := by simpa using hy
      first | exact (isCell_VR hr hx).2 | exact (isCell_VR hr hx).1
  by_cases hv : isCell v = true
  · have h1 : v.cells = #[v] := by cases v <;> first | rfl | cases hv
    have h2 : v'.cells = #[v'] := by have := (isCell_VR h hv).2; cases v' <;> first | rfl | cases this
    rw [h1] at hc
    rw [h1, h2]
    exact key _ _ (.one h) hc
  · cases h with
    | undef => simp [Value.cells, isCell] at hc
    | left => simp [Value.cells, isCell] at hc
    | tuple => simp [Value.cells, isCell] at hc
    | agg h1 h2 => exact key _ _ ⟨h1, h2⟩ hc
    | _ => exact absurd rfl hv

/-- The cells of a block, wherever it came from. -/
theorem BR.cells {P : Program} {ρ : Ren} {w : World} {l : Loc} {c : Array Value} {e : TypeId} {ro : Bool} (h : BR P ρ w l (.cells c e ro)) :
    ∃ c' e' fz, w.heap[l.blk]? = some (.cells c' e' fz) ∧ ∀ (i : Nat) (x : Value), c[i]? = some x → ∃ y : Value, c'[l.base + i]? = some y ∧ VR ρ x y := by
  cases ro with
  | true => exact h
  | false =>
    obtain ⟨c', e', _, hg, h1, h2, h3, h4, hr⟩ := h
    exact ⟨c', e', (0, 0), hg, fun i x hx => by rw [h1, Nat.zero_add]; exact hr i x hx⟩

theorem rd_sound {P : Program} {ρ : Ren} {H : AHeap} {w : World} (hR : Rel P ρ H.get w) {p p' x : Value} (hp : VR ρ p p') (h : rd H p = some x) :
    ∃ r o y, p' = .pointer (some ⟨r, o, none⟩) ∧ w.cell? ⟨r, o, none⟩ = some y ∧ VR ρ x y := by
  unfold rd at h
  split at h
  · rename_i b o
    cases hp with
    | ptr hb =>
      rename_i l
      obtain ⟨k, hk, hbr⟩ := hR.blk b l hb
      split at h
      · rename_i c e ro hk'
        rw [hk] at hk'
        obtain rfl : k = _ := by simpa using hk'
        obtain ⟨c', e', fz, hg, hr⟩ := hbr.cells
        obtain ⟨y, hy, hv⟩ := hr o x h
        exact ⟨_, _, y, rfl, by rw [cell_of_heap hg]; exact hy, hv⟩
      · cases h
  · cases h

theorem rdN_sound {P : Program} {ρ : Ren} {H : AHeap} {w : World} (hR : Rel P ρ H.get w) {p p' : Value} {n : Nat} {xs : Array Value} (hp : VR ρ p p') (h : rdN H n p = some xs) :
    ∃ r o ys, p' = .pointer (some ⟨r, o, none⟩) ∧ ys.size = n ∧ xs.size = n ∧ VRs ρ xs ys ∧ ∀ (j : Nat) v, ys.toList[j]? = some v → w.cell? ((⟨r, o, none⟩ : Addr).add j) = some v := by
  unfold rdN at h
  split at h
  · rename_i b o
    cases hp with
    | ptr hb =>
      rename_i l
      obtain ⟨k, hk, hbr⟩ := hR.blk b l hb
      split at h
      · rename_i c e ro hk'
        rw [hk] at hk'
        obtain rfl : k = _ := by simpa using hk'
        obtain ⟨c', e', fz, hg, hr⟩ := hbr.cells
        split at h
        · rename_i hle
          obtain rfl : c.extract o (o + n) = xs := by simpa using h
          have hlen : ∀ j, j < n → ∃ y, c'[l.base + o + j]? = some y ∧ VR ρ (c.getD (o + j) (.tuple #[])) y := fun j hj => by
            have hc : o + j < c.size := by omega
            obtain ⟨y, hy, hv⟩ := hr (o + j) _ (Array.getElem?_eq_getElem hc)
            refine ⟨y, by rw [Nat.add_assoc]; exact hy, ?_⟩
            simpa [Array.getD_eq_getD_getElem?, Array.getElem?_eq_getElem hc] using hv
          have hsz : n = 0 ∨ l.base + o + n ≤ c'.size := by
            by_cases h0 : n = 0
            · exact .inl h0
            · obtain ⟨y, hy, _⟩ := hlen (n - 1) (by omega)
              have := (Array.getElem?_eq_some_iff.1 hy).1
              exact .inr (by omega)
          refine ⟨l.blk, l.base + o, c'.extract (l.base + o) (l.base + o + n), rfl, ?_, by simp; omega, ?_, ?_⟩
          · rcases hsz with h0 | h1
            · subst h0; simp; omega
            · simp; omega
          · refine .mk ?_ ?_
            · rcases hsz with h0 | h1
              · subst h0; simp; omega
              · simp; omega
            · intro i x y hx hy
              have hi : i < n := by
                have := (Array.getElem?_eq_some_iff.1 hx).1
                simp at this; omega
              obtain ⟨z, hz, hv⟩ := hlen i hi
              rw [Array.getElem?_extract] at hx hy
              split at hx
              · split at hy
                · rw [hz] at hy
                  obtain rfl : z = y := by simpa using hy
                  have hc : o + i < c.size := by omega
                  rw [Array.getElem?_eq_getElem hc] at hx
                  obtain rfl : c[o + i] = x := by simpa using hx
                  simpa [Array.getD_eq_getD_getElem?, Array.getElem?_eq_getElem hc] using hv
                · cases hy
              · cases hx
          · intro j v hv
            have hadd : (⟨l.blk, l.base + o, none⟩ : Addr).add j = ⟨l.blk, l.base + o + j, none⟩ := Addr.add_lit _ _ _
            rw [hadd, cell_of_heap hg]
            rw [Array.getElem?_toList, Array.getElem?_extract] at hv
            split at hv
            · exact hv
            · cases hv
        · cases h
      · cases h
  · cases h

theorem size_wrL (vs : List Value) : ∀ (c : Array Value) (o : Nat), (wrL c o vs).size = c.size := by
  induction vs with
  | nil => intro c o; rfl
  | cons v r ih => intro c o; simp only [wrL]; rw [ih]; simp
theorem get_wrL (vs : List Value) : ∀ (c : Array Value) (o : Nat) (i : Nat), o + vs.length ≤ c.size →
    (wrL c o vs)[i]? = if o ≤ i ∧ i < o + vs.length then vs[i - o]? else c[i]? := by
  induction vs with
  | nil => intro c o i _; simp only [wrL, List.length_nil]; rw [if_neg (by omega)]
  | cons v r ih =>
    intro c o i h
    simp only [List.length_cons] at h
    simp only [wrL]
    rw [ih _ _ _ (by simp; omega)]
    by_cases h1 : o + 1 ≤ i ∧ i < o + 1 + r.length
    · rw [if_pos h1, if_pos (by simp only [List.length_cons]; omega)]
      rw [show i - o = (i - (o + 1)) + 1 by omega, List.getElem?_cons_succ]
    · rw [if_neg h1, Array.getElem?_setIfInBounds]
      by_cases h2 : o = i
      · subst h2
        rw [if_pos rfl, if_pos (by omega), if_pos (by simp only [List.length_cons]; omega)]
        simp
      · rw [if_neg h2, if_neg (by simp only [List.length_cons]; omega)]

theorem get_splice (c : List Value) (o : Nat) (vs : List Value) (i : Nat) (h : o + vs.length ≤ c.length) :
    (c.take o ++ vs ++ c.drop (o + vs.length))[i]? = if o ≤ i ∧ i < o + vs.length then vs[i - o]? else c[i]? := by
  have ht : (c.take o).length = o := by simp; omega
  by_cases h1 : i < o
  · rw [if_neg (by omega), List.append_assoc, List.getElem?_append_left (by omega), List.getElem?_take, if_pos h1]
  · by_cases h2 : i < o + vs.length
    · rw [if_pos ⟨by omega, h2⟩, List.append_assoc, List.getElem?_append_right (by omega), List.getElem?_append_left (by omega), ht]
    · rw [if_neg (by omega), List.getElem?_append_right (by simp; omega), List.getElem?_drop]
      congr 1
      simp; omega

theorem Turned.setRow (w : World) (g : Nat) (cs : Array Value) : Turned w (w.setRow g cs) g :=
  ⟨setRow_size w g cs, fun i hi => setRow_other w g i cs hi, rfl, rfl, rfl⟩

theorem wr_sound {P : Program} {ρ : Ren} {H H' : AHeap} {w : World} (hR : Rel P ρ H.get w) (hD : Dom ρ H.next) {p p' : Value} {vs vs' : Array Value} (hp : VR ρ p p') (hv : VRs ρ vs vs')
    (h : wr H vs p = some H') : ∃ r o w', p' = .pointer (some ⟨r, o, none⟩) ∧ (storeCells ⟨r, o, none⟩ vs'.toList).run P w = .ok () w' ∧ Post P ρ H w ρ H' w' := by
  unfold wr at h
  split at h
  · rename_i b o
    cases hp with
    | ptr hb =>
      rename_i l
      obtain ⟨k, hk, hbr⟩ := hR.blk b l hb
      split at h
      · rename_i c e hk'
        split at h
        · rename_i hc
          simp only [Bool.and_eq_true, decide_eq_true_eq] at hc
          obtain rfl : _ = H' := by simpa using h
          rw [hk] at hk'
          obtain rfl : k = _ := by simpa using hk'
          obtain ⟨c', e', he', hg, h1, h2, h3, h4, hr⟩ := hbr
          have hfit : 0 + o + 0 + vs'.toList.length ≤ c'.size := by simp [← hv.1]; omega
          have hone : ∀ v ∈ vs'.toList, v.oneCell' = true := fun v hm => by
            obtain ⟨i, hi, rfl⟩ := List.getElem_of_mem hm
            have hi' : i < vs'.size := by simpa using hi
            have hi2 : i < vs.size := hv.1 ▸ hi'
            obtain ⟨y, hy, hvr⟩ := hv.get (Array.getElem?_eq_getElem hi2)
            rw [Array.getElem?_eq_getElem hi'] at hy
            obtain rfl : vs'[i] = y := by simpa using hy
            exact (isCell_VR hvr (Array.all_eq_true.1 hc.2 i hi2)).1
          have hst := run_storeCells_at (P := P) l.blk (l.base + o) e' vs'.toList 0 c' w hg (by rw [h1]; exact hfit) hone
          refine ⟨_, _, _, rfl, hst, Post.set hR hD hb (by rw [hk]; rfl) (Turned.setRow w _ _) ?_⟩
          refine ⟨_, e', he', setRow_heap w l.blk c' _ e' (0, 0) hg, h1, ?_, h3, ?_, ?_⟩
          · simp only [h1, Nat.zero_add, Nat.add_zero, List.size_toArray, List.length_append, List.length_take, List.length_drop, Array.length_toList]
            simp [← hv.1] at hfit
            rw [← hv.1]
            omega
          · simp only [h1, Nat.zero_add, Nat.add_zero, List.size_toArray, List.length_append, List.length_take, List.length_drop, Array.length_toList, size_wrL]
            rw [← hv.1]
            omega
          · intro i x hx
            rw [h1]
            simp only [Nat.zero_add, Nat.add_zero, List.getElem?_toArray]
            rw [get_splice _ _ _ _ (by simp [← hv.1]; omega)]
            rw [get_wrL _ _ _ _ (by simp; omega)] at hx
            simp only [Array.length_toList] at hx ⊢
            simp only [← hv.1]
            split at hx
            · rename_i hin
              rw [if_pos hin]
              rw [Array.getElem?_toList] at hx ⊢
              exact hv.get hx
            · rename_i hin
              rw [if_neg hin, Array.getElem?_toList]
              exact hr i x hx
        · cases h
      · cases h
  · cases h

theorem run_newRow (P : Program) (w : World) (e : TypeId) (c : Array Value) : (newRow e c).run P w = .ok ⟨w.heap.size, 0, none⟩ (w.alloc (.cells c e)) := rfl
theorem Grew.alloc (w : World) (o : Obj) : Grew w (w.alloc o) o := ⟨rfl, rfl, rfl, rfl⟩
theorem Grew.drew {w : World} (o : Obj) : Grew w (w.drew.alloc o) o := ⟨rfl, rfl, rfl, rfl⟩

/-- A new row of cells. -/
theorem new_sound {P : Program} {ρ : Ren} {H : AHeap} {w w' : World} (hR : Rel P ρ H.get w) (hD : Dom ρ H.next) {c c' : Array Value} (e : TypeId) (hw : Grew w w' (.cells c' e)) (hs : c.size ≤ c'.size)
    (hv : ∀ (i : Nat) (x : Value), c[i]? = some x → ∃ y : Value, c'[i]? = some y ∧ VR ρ x y) :
    Post P ρ H w (ρ.add H.next ⟨w.heap.size, 0, c'.size, P.cellsOf e⟩) (H.push (.cells c e false)) w' :=
  Post.push hR hD hw rfl ⟨c', e, rfl, hw.new, rfl, rfl, rfl, hs, fun i x hx => let ⟨y, hy, hr⟩ := hv i x hx; ⟨y, hy, hr.ext (Ren.add_ext hD)⟩⟩

/-- What an operation comes to, in the model. -/
inductive StepR (P : Program) (ρ : Ren) (H : AHeap) (w : World) (o : Oper) (a : Act) : Res → Prop
  | val {v v' : Value} {H' : AHeap} {w' : World} {ρ' : Ren} (h : (execOp a.eval o).run P w = .ok (.value v') w') (hv : VR ρ' v v') (hp : Post P ρ H w ρ' H' w') : StepR P ρ H w o a (.val v H')
  | unit {H' : AHeap} {w' : World} {ρ' : Ren} (h : (execOp a.eval o).run P w = .ok .skip w') (hp : Post P ρ H w ρ' H' w') : StepR P ρ H w o a (.unit H')
  | call {f : FuncId} {args args' : Array Value} (h : (execOp a.eval o).run P w = .ok (.enter f args') w) (hv : VRs ρ args args') : StepR P ρ H w o a (.call f args)

section
variable {P : Program} {ρ : Ren} {H : AHeap} {w : World} {o : Oper} {a : Act} {env : Env}

theorem StepR.pure (hR : Rel P ρ H.get w) (hD : Dom ρ H.next) {v v' : Value} (h : (execOp a.eval o).run P w = .ok (.value v') w) (hv : VR ρ v v') : StepR P ρ H w o a (.val v H) :=
  .val h hv (Post.refl hR hD)

end
end Go.Aev
