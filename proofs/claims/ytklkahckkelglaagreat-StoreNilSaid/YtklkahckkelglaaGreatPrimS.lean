/- slices.Sorted(maps.Keys(m)) at a map without entries, by the library's contract, as a function that the evaluator takes as it is told. -/
import Derived.Test.YtklkahckkelglaaGreatAevS
import Derived.Test.YtklkahckkelglaaGreatProg
import Derived.Shelf.SlIterI.Nil
import Derived.Shelf.SortM.Plain
import Derived.Shelf.SortM.SortNone
namespace Go.Proofs.YtklkahckkelglaaGreat.lays
open Go.RowKit Go.Maps Go.Sort Go.Shelf
def keysJob_ren : Go.Shelf.Ren := ⟨fun | 7 => 125 | 10 => 224 | n => n, fun | 23 => 106 | 26 => 3 | 3 => 115 | 28 => 209 | 0 => 0 | 27 => 208 | 33 => 117 | 4 => 4 | n => n, fun | n => n⟩
theorem keysJob : Go.Proofs.SlLaysZI.n7 Tryz.prog keysJob_ren where
  mixed := by kernel_rfl
  f7 := ⟨"maps.Keys[map[int]haycroft/device.job,int,haycroft/device.job]", by decide, Tryz.func125.trans (congrArg some (by kernel_rfl))⟩
  f10 := ⟨"maps.Keys[map[int]haycroft/device.job,int,haycroft/device.job]$1", by decide, Tryz.func224.trans (congrArg some (by kernel_rfl))⟩
  t0 := Tryz.underlying0
  a0 := Tryz.isAgg0
  z0 := Tryz.sizeOf0
  v0 := Tryz.zeroValue0
  t4 := Tryz.underlying4
  a4 := Tryz.isAgg4
  z4 := Tryz.sizeOf4
  v4 := Tryz.zeroValue4
  t23 := Tryz.underlying106
  a23 := Tryz.isAgg106
  z23 := Tryz.sizeOf106
  v23 := Tryz.zeroValue106
  t26 := Tryz.underlying3
  a26 := Tryz.isAgg3
  z26 := Tryz.sizeOf3
  v26 := Tryz.zeroValue3
  t27 := Tryz.underlying208
  a27 := Tryz.isAgg208
  z27 := Tryz.sizeOf208
  v27 := Tryz.zeroValue208
  t28 := Tryz.underlying209
  a28 := Tryz.isAgg209
  z28 := Tryz.sizeOf209
  v28 := Tryz.zeroValue209
  t33 := Tryz.underlying117
  a33 := Tryz.isAgg117
  z33 := Tryz.sizeOf117
  v33 := Tryz.zeroValue117
def sortedInt_ren : Go.Shelf.Ren := ⟨fun | 6 => 124 | 8 => 195 | 9 => 223 | 11 => 286 | 13 => 145 | 12 => 326 | 23 => 246 | 24 => 247 | 14 => 384 | 15 => 385 | 16 => 386 | 17 => 387 | 18 => 388 | 19 => 389 | 20 => 390 | 21 => 391 | 22 => 392 | 25 => 439 | 26 => 337 | 27 => 338 | 28 => 440 | 29 => 441 | 30 => 312 | 31 => 470 | n => n, fun | 26 => 3 | 28 => 209 | 24 => 27 | 0 => 0 | 3 => 3 | 37 => 235 | 48 => 338 | 50 => 24 | 4 => 4 | 40 => 350 | 39 => 349 | 45 => 354 | 5 => 5 | 9 => 9 | 51 => 444 | 55 => 447 | 57 => 498 | 58 => 357 | 33 => 117 | n => n, fun | n => n⟩
theorem sortedInt : Go.Proofs.SlLaysZI.n6 Tryz.prog sortedInt_ren where
  mixed := by kernel_rfl
  f6 := ⟨"slices.Sorted[int]", by decide, Tryz.func124.trans (congrArg some (by kernel_rfl))⟩
  f8 := ⟨"slices.Collect[int]", by decide, Tryz.func195.trans (congrArg some (by kernel_rfl))⟩
  f11 := ⟨"slices.AppendSeq[[]int,int]", by decide, Tryz.func286.trans (congrArg some (by kernel_rfl))⟩
  t0 := Tryz.underlying0
  a0 := Tryz.isAgg0
  z0 := Tryz.sizeOf0
  v0 := Tryz.zeroValue0
  t24 := Tryz.underlying27
  a24 := Tryz.isAgg27
  z24 := Tryz.sizeOf27
  v24 := Tryz.zeroValue27
  t26 := Tryz.underlying3
  a26 := Tryz.isAgg3
  z26 := Tryz.sizeOf3
  v26 := Tryz.zeroValue3
  t28 := Tryz.underlying209
  a28 := Tryz.isAgg209
  z28 := Tryz.sizeOf209
  v28 := Tryz.zeroValue209
  i26 := by kernel_rfl
def sortInt_ren : Go.Shelf.Ren := ⟨fun | 5 => 223 | 8 => 145 | 7 => 326 | 19 => 246 | 20 => 247 | 10 => 384 | 11 => 385 | 12 => 386 | 13 => 387 | 14 => 388 | 15 => 389 | 16 => 390 | 17 => 391 | 18 => 392 | 30 => 439 | 31 => 337 | 32 => 338 | 33 => 440 | 34 => 441 | 35 => 312 | 40 => 470 | n => n, fun | 23 => 27 | 25 => 3 | 3 => 3 | 32 => 235 | 22 => 27 | 0 => 0 | 44 => 338 | 46 => 24 | 4 => 4 | 36 => 350 | 35 => 349 | 41 => 354 | 5 => 5 | 9 => 9 | 53 => 444 | 57 => 447 | 63 => 498 | 64 => 357 | n => n, fun | n => n⟩
theorem sortInt : Go.Proofs.SlLaysM.n5 Tryz.prog sortInt_ren where
  mixed := by kernel_rfl
  f5 := ⟨"slices.Sort[[]int,int]", by decide, Tryz.func223.trans (congrArg some (by kernel_rfl))⟩
  f7 := ⟨"slices.pdqsortOrdered[int]", by decide, Tryz.func326.trans (congrArg some (by kernel_rfl))⟩
  f8 := Tryz.func145.trans (congrArg some (by kernel_rfl))
  f10 := ⟨"slices.insertionSortOrdered[int]", by decide, Tryz.func384.trans (congrArg some (by kernel_rfl))⟩
  f11 := ⟨"slices.heapSortOrdered[int]", by decide, Tryz.func385.trans (congrArg some (by kernel_rfl))⟩
  f12 := ⟨"slices.breakPatternsOrdered[int]", by decide, Tryz.func386.trans (congrArg some (by kernel_rfl))⟩
  f13 := ⟨"slices.choosePivotOrdered[int]", by decide, Tryz.func387.trans (congrArg some (by kernel_rfl))⟩
  f14 := ⟨"slices.reverseRangeOrdered[int]", by decide, Tryz.func388.trans (congrArg some (by kernel_rfl))⟩
  f15 := ⟨"slices.partialInsertionSortOrdered[int]", by decide, Tryz.func389.trans (congrArg some (by kernel_rfl))⟩
  f16 := ⟨"cmp.Less[int]", by decide, Tryz.func390.trans (congrArg some (by kernel_rfl))⟩
  f17 := ⟨"slices.partitionEqualOrdered[int]", by decide, Tryz.func391.trans (congrArg some (by kernel_rfl))⟩
  f18 := ⟨"slices.partitionOrdered[int]", by decide, Tryz.func392.trans (congrArg some (by kernel_rfl))⟩
  f19 := Tryz.func246.trans (congrArg some (by kernel_rfl))
  f20 := Tryz.func247.trans (congrArg some (by kernel_rfl))
  f30 := ⟨"slices.siftDownOrdered[int]", by decide, Tryz.func439.trans (congrArg some (by kernel_rfl))⟩
  f31 := Tryz.func337.trans (congrArg some (by kernel_rfl))
  f32 := Tryz.func338.trans (congrArg some (by kernel_rfl))
  f33 := ⟨"slices.medianAdjacentOrdered[int]", by decide, Tryz.func440.trans (congrArg some (by kernel_rfl))⟩
  f34 := ⟨"slices.medianOrdered[int]", by decide, Tryz.func441.trans (congrArg some (by kernel_rfl))⟩
  f35 := ⟨"cmp.isNaN[int]", by decide, Tryz.func312.trans (congrArg some (by kernel_rfl))⟩
  f40 := ⟨"slices.order2Ordered[int]", by decide, Tryz.func470.trans (congrArg some (by kernel_rfl))⟩
  t0 := Tryz.underlying0
  a0 := Tryz.isAgg0
  z0 := Tryz.sizeOf0
  v0 := Tryz.zeroValue0
  t3 := Tryz.underlying3
  a3 := Tryz.isAgg3
  z3 := Tryz.sizeOf3
  v3 := Tryz.zeroValue3
  t4 := Tryz.underlying4
  a4 := Tryz.isAgg4
  z4 := Tryz.sizeOf4
  v4 := Tryz.zeroValue4
  t5 := Tryz.underlying5
  a5 := Tryz.isAgg5
  z5 := Tryz.sizeOf5
  v5 := Tryz.zeroValue5
  t9 := Tryz.underlying9
  a9 := Tryz.isAgg9
  z9 := Tryz.sizeOf9
  v9 := Tryz.zeroValue9
  t22 := Tryz.underlying27
  a22 := Tryz.isAgg27
  z22 := Tryz.sizeOf27
  v22 := Tryz.zeroValue27
  t23 := Tryz.underlying27
  a23 := Tryz.isAgg27
  z23 := Tryz.sizeOf27
  v23 := Tryz.zeroValue27
  t25 := Tryz.underlying3
  a25 := Tryz.isAgg3
  z25 := Tryz.sizeOf3
  v25 := Tryz.zeroValue3
  t32 := Tryz.underlying235
  a32 := Tryz.isAgg235
  z32 := Tryz.sizeOf235
  v32 := Tryz.zeroValue235
  t35 := Tryz.underlying349
  a35 := Tryz.isAgg349
  z35 := Tryz.sizeOf349
  v35 := Tryz.zeroValue349
  t36 := Tryz.underlying350
  a36 := Tryz.isAgg350
  z36 := Tryz.sizeOf350
  v36 := Tryz.zeroValue350
  t41 := Tryz.underlying354
  a41 := Tryz.isAgg354
  z41 := Tryz.sizeOf354
  v41 := Tryz.zeroValue354
  t44 := Tryz.underlying338
  a44 := Tryz.isAgg338
  z44 := Tryz.sizeOf338
  v44 := Tryz.zeroValue338
  t46 := Tryz.underlying24
  a46 := Tryz.isAgg24
  z46 := Tryz.sizeOf24
  v46 := Tryz.zeroValue24
  t53 := Tryz.underlying444
  a53 := Tryz.isAgg444
  z53 := Tryz.sizeOf444
  v53 := Tryz.zeroValue444
  t57 := Tryz.underlying447
  a57 := Tryz.isAgg447
  z57 := Tryz.sizeOf447
  v57 := Tryz.zeroValue447
  t63 := Tryz.underlying498
  a63 := Tryz.isAgg498
  z63 := Tryz.sizeOf498
  v63 := Tryz.zeroValue498
  t64 := Tryz.underlying357
  a64 := Tryz.isAgg357
  z64 := Tryz.sizeOf357
  v64 := Tryz.zeroValue357
end Go.Proofs.YtklkahckkelglaaGreat.lays
namespace Go.Aev
open Go Go.Proofs Go.RowKit Go.Maps Go.Sort Go.Shelf Go.Proofs.YtklkahckkelglaaGreat.lays

theorem sorts (m : Nat) : AnyZI.SortsIn Tryz.prog sortedInt_ren Fence.wide m :=
  ⟨fun blk off cap ss W hH hblk hsz => callsIn_wide.2 (AnyM.slices_Sort_int sortInt blk off cap ss W hH hblk hsz),
   fun p cap W => callsIn_wide.2 (AnyM.slices_Sort_int_none sortInt p cap W)⟩

/-- slices.Sorted of an iterator over the keys of a map without entries: the nil slice. -/
theorem sorted_none {w : World} {Bm b clock : Nat} (hBm : Bm < w.heap.size) (hm : w.cell? ⟨Bm, 0, none⟩ = some (.map (some b))) (hb : w.heap[b]? = some (.map #[] clock)) :
    Calls Tryz.prog 124 #[.func (.func 224) #[] #[.pointer (some ⟨Bm, 0, none⟩)]] w fun e w' => e = .returned (.slice none 0 0) ∧ Below w.heap.size w w' := by
  refine (callsIn_wide (n := 6)).1 ?_
  have hown : w.ownsMap (H := Unit) Tryz.prog 3 (fun _ => some (.nil, [])) b 0 (.map []) :=
    ⟨#[], clock, hb, ⟨by simp, ⟨by simp, by simp, by simp⟩, by simp⟩, by simp, by simp⟩
  have hseq : SeqGives Fence.wide 3 Tryz.prog 224 #[.pointer (some ⟨Bm, 0, none⟩)] encZ (fun ss => ss.Perm (intKeys (H := Unit) (.map []))) 0 w :=
    AnyZI.keys_gives (ρ := keysJob_ren) { keysJob with } Fence.wide _ trivial rfl (by omega) Bm b 0 (.map []) w hBm hm hown
  have cS := AnyZI.sorted_in sortedInt Fence.wide 6 trivial trivial trivial trivial rfl (by omega) (sorts _) (enters_of Tryz.func223 (by kernel_rfl) rfl) 224 #[.pointer (some ⟨Bm, 0, none⟩)] trivial (enters_of Tryz.func224 (by kernel_rfl) rfl) _ 0 (by decide) (by decide) w hseq
  change CallsIn _ _ Tryz.prog 124 _ _ _ at cS
  refine cS.mono ?_
  rintro e w' ⟨v, ss, rfl, hS, hrow, hnil, hb⟩
  have : ss = [] := by simpa [intKeys] using hS
  exact ⟨by rw [hnil.2 this], hb⟩

def sortedNone (args : Array Value) (H : AHeap) : Option (Value × AHeap) :=
  match args.toList with
  | [.func (.func f) xs ys] =>
    match xs.toList, ys.toList with
    | [], [.pointer (some ⟨b, 0, none⟩)] =>
      bif Nat.beq f 224 then
        match H.get b with
        | some (.cells cs _ false) =>
          match cs.toList with
          | [.map (some r)] => match H.get r with
            | some (.map es _) => match es.toList with
              | [] => some (.slice none 0 0, H)
              | _ => none
            | _ => none
          | _ => none
        | _ => none
      else none
    | _, _ => none
  | _ => none

theorem Post.below {P : Program} {ρ : Ren} {H : AHeap} {w w' : World} (hR : Rel P ρ H.get w) (hD : Dom ρ H.next) (hb : Below w.heap.size w w') : Post P ρ H w ρ H w' := by
  refine ⟨⟨fun b l h => ?_, hR.inj⟩, hD, Nat.le_refl _, Ext.refl ρ, hb.size, fun r hr _ => hb.block r hr, fun _ _ h => .inl h, fun _ _ h => h, fun _ _ h => h, fun _ h1 h2 => absurd h2 (by omega), hb.os, hb.tape, hb.output⟩
  obtain ⟨k, hk, hbr⟩ := hR.blk b l h
  exact ⟨k, hk, hbr.keep (Ext.refl ρ) fun hl => hb.block _ (hbr.lt hl)⟩

theorem VRs.list1 {ρ : Ren} {xs ys : Array Value} (h : VRs ρ xs ys) {x : Value} (hx : xs.toList = [x]) : ∃ y, ys = #[y] ∧ VR ρ x y := by
  have hs : ys.size = 1 := by rw [← h.1]; have := congrArg List.length hx; simpa using this
  obtain ⟨y, hy⟩ : ∃ y, ys[0]? = some y := ⟨ys[0], Array.getElem?_eq_getElem (by omega)⟩
  have hx0 : xs[0]? = some x := by rw [← Array.getElem?_toList, hx]; rfl
  obtain ⟨z, hz, hr⟩ := h.get hx0
  rw [hy] at hz
  obtain rfl : y = z := by simpa using hz
  refine ⟨y, ?_, hr⟩
  apply Array.ext_getElem?
  intro i
  cases i with
  | zero => simp [hy]
  | succ i => rw [Array.getElem?_eq_none (by omega)]; simp

set_option maxRecDepth 100000 in
theorem sortedNone_ok (args : Array Value) (H : AHeap) (v : Value) (H' : AHeap) (h : sortedNone args H = some (v, H')) : CallOK Tryz.prog 124 args H v H' := by
  unfold sortedNone at h
  split at h
  case h_2 => cases h
  rename_i f xs ys hargs
  split at h
  case h_2 => cases h
  rename_i b hxs hys
  cases hf : Nat.beq f 224 with
  | false => rw [hf] at h; cases h
  | true =>
  rw [hf, cond_true] at h
  obtain rfl := Nat.eq_of_beq_eq_true hf
  split at h
  case h_2 => cases h
  rename_i cs e hb
  split at h
  case h_2 => cases h
  rename_i r hcs
  split at h
  case h_2 => cases h
  rename_i es clock hr
  split at h
  case h_2 => cases h
  rename_i hes
  simp only [Option.some.injEq, Prod.mk.injEq] at h
  obtain ⟨rfl, rfl⟩ := h
  intro ρ w args' hR hD hv
  obtain ⟨y, rfl, hy⟩ := hv.list1 hargs
  cases hy with
  | func h1 h2 h3 h4 =>
    rename_i xs' ys'
    have hx' : xs' = #[] := by
      have : xs'.size = 0 := by rw [← h1]; have := congrArg List.length hxs; simpa using this
      exact Array.eq_empty_of_size_eq_zero this
    subst hx'
    obtain ⟨z, rfl, hz⟩ := VRs.list1 ⟨h2, h4⟩ hys
    cases hz with
    | ptr hl =>
      rename_i l
      obtain ⟨k, hk, hbr⟩ := hR.blk b l hl
      rw [hb] at hk
      obtain rfl := Option.some.inj hk
      obtain ⟨c', e', _, hg, hbase, _, _, _, hcell⟩ := hbr
      have hc0 : cs[0]? = some (.map (some r)) := by rw [← Array.getElem?_toList, hcs]; rfl
      obtain ⟨mv, hmv, hmr⟩ := hcell 0 _ hc0
      cases hmr with
      | map hlr =>
        rename_i lr
        obtain ⟨k2, hk2, hbr2⟩ := hR.blk r lr hlr
        rw [hr] at hk2
        obtain rfl := Option.some.inj hk2
        obtain ⟨es', hg2, hsz, _⟩ := hbr2
        have hes' : es' = #[] := by
          have : es'.size = 0 := by rw [← hsz]; have := congrArg List.length hes; simpa using this
          exact Array.eq_empty_of_size_eq_zero this
        subst hes'
        rw [hbase, Nat.add_zero]
        refine (sorted_none (Array.getElem?_eq_some_iff.1 hg).1 (by simp [World.cell?, hg, hmv]) hg2).mono ?_
        rintro e w' ⟨rfl, hbel⟩
        exact ⟨_, ρ, rfl, .sliceN, Post.below hR hD hbel⟩

/-- All functions by their translation, but for slices.Sorted. -/
def sortT (P : Program) (f : FuncId) : Table := { fn := plainFn P, prim := fun g => bif Nat.beq g f then some sortedNone else none }
set_option maxRecDepth 100000 in
theorem sortT_ok : TableOK Tryz.prog (sortT Tryz.prog 124) := by
  refine ⟨fun f af h => plainFn_ok h, fun f p h => ?_⟩
  simp only [sortT] at h
  cases hf : Nat.beq f 124 with
  | false => rw [hf] at h; cases h
  | true =>
    rw [hf] at h
    obtain rfl := Option.some.inj h
    obtain rfl := Nat.eq_of_beq_eq_true hf
    exact ⟨⟨Tryz.f124, Tryz.func124, rfl, by kernel_rfl⟩, sortedNone_ok⟩
end Go.Aev
