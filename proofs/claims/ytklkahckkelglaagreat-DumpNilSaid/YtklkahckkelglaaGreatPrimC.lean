/- The evaluator's table with strings.Builder's two functions. -/
import Derived.Test.YtklkahckkelglaaGreatPrimB
namespace Go.Aev
open Go Go.Proofs Go.RowKit Go.Proofs.YtklkahckkelglaaGreat.laysB

theorem VRs.one_inv {ρ : Ren} {xs ys : Array Value} (h : VRs ρ xs ys) {x : Value} (hx : xs.toList = [x]) : ∃ y, ys = #[y] ∧ VR ρ x y := by
  have hs : ys.size = 1 := by rw [← h.1]; have := congrArg List.length hx; simpa using this
  obtain ⟨y, hy⟩ : ∃ y, ys[0]? = some y := ⟨ys[0], Array.getElem?_eq_getElem (by omega)⟩
  have hx0 : xs[0]? = some x := by rw [← Array.getElem?_toList, hx]; rfl
  obtain ⟨z, hz, hr⟩ := h.get hx0
  rw [hy] at hz
  obtain rfl : y = z := by simpa using hz
  refine ⟨y, ?_, hr⟩
  apply Array.ext_getElem?
  intro i
  cases i with
  | zero => simp [hy]
  | succ i => rw [Array.getElem?_eq_none (by omega)]; simp

def checkP (args : Array Value) (H : AHeap) : Option (Value × AHeap) :=
  match args.toList with
  | [.pointer (some ⟨b, 0, none⟩)] =>
    match H.get b with
    | some (.cells cs e false) =>
      bif Nat.beq e 253 then
        match cs.toList with
        | [.pointer none, v] => some (.tuple #[], H.set b (.cells #[.pointer (some ⟨b, 0, none⟩), v] e false))
        | [.pointer (some ⟨c, 0, none⟩), _] => bif Nat.beq c b then some (.tuple #[], H) else none
        | _ => none
      else none
    | _ => none
  | _ => none

set_option maxRecDepth 100000 in
theorem checkP_ok (args : Array Value) (H : AHeap) (v : Value) (H' : AHeap) (h : checkP args H = some (v, H')) : CallOK Tryz.prog 260 args H v H' := by
  unfold checkP at h
  split at h
  case h_2 => cases h
  rename_i b hargs
  split at h
  case h_2 => cases h
  rename_i cs e hb
  cases he : Nat.beq e 253 with
  | false => rw [he] at h; cases h
  | true =>
  rw [he, cond_true] at h
  obtain rfl := Nat.eq_of_beq_eq_true he
  intro ρ w args' hR hD hv
  obtain ⟨y, rfl, hy⟩ := hv.one_inv hargs
  cases hy with
  | ptr hl =>
    rename_i l
    obtain ⟨k, hk, hbr⟩ := hR.blk b l hl
    rw [hb] at hk
    obtain rfl := Option.some.inj hk
    obtain ⟨c', e', rfl, hg, hbase, htot, hesz, hle, hcell⟩ := hbr
    rw [hbase, Nat.zero_add]
    have hcl : ∀ j, w.cell? ⟨l.blk, j, none⟩ = c'[j]? := fun j => by simp [World.cell?, hg]
    split at h
    · rename_i v1 hcs
      simp only [Option.some.injEq, Prod.mk.injEq] at h
      obtain ⟨rfl, rfl⟩ := h
      have hsz : cs.size = 2 := by have := congrArg List.length hcs; simpa using this
      obtain ⟨y0, hy0, hr0⟩ := hcell 0 (.pointer none) (by rw [← Array.getElem?_toList, hcs]; rfl)
      obtain ⟨y1, hy1, hr1⟩ := hcell 1 v1 (by rw [← Array.getElem?_toList, hcs]; rfl)
      cases hr0
      refine (check_fresh l.blk w ((hcl 0).trans hy0) c'.size (by omega) (by simp [World.shape?, hg]) (by simp [World.frozen?, hg])).mono ?_
      rintro e w' ⟨rfl, rfl⟩
      refine ⟨_, ρ, rfl, .undef _, ?_⟩
      refine Post.set (w' := w.setCell ⟨l.blk, 0, none⟩ (.pointer (some ⟨l.blk, 0, none⟩))) hR hD hl (by rw [hb]; rfl) ⟨by simp [World.setCell], fun i hi => ?_, rfl, rfl, rfl⟩ ?_
      · simp only [World.setCell, Array.getElem?_modify]
        rw [if_neg (Ne.symm hi)]
      · refine ⟨c'.setIfInBounds 0 (.pointer (some ⟨l.blk, 0, none⟩)), _, rfl, ?_, hbase, by simpa using htot, hesz, by simp; omega, ?_⟩
        · simp [World.setCell, Array.getElem?_modify, hg]
        · intro i x hx
          match i with
          | 0 =>
            obtain rfl : x = .pointer (some ⟨b, 0, none⟩) := by simpa using hx.symm
            refine ⟨.pointer (some ⟨l.blk, 0, none⟩), ?_, ?_⟩
            · rw [Array.getElem?_setIfInBounds, if_pos rfl, if_pos (by omega)]
            · have := VR.ptr (ρ := ρ) (b := b) (o := 0) hl
              rwa [hbase] at this
          | 1 =>
            obtain rfl : x = v1 := by simpa using hx.symm
            exact ⟨y1, by rw [Array.getElem?_setIfInBounds, if_neg (by decide)]; exact hy1, hr1⟩
          | i + 2 => simp at hx
    · rename_i c v1 hcs
      cases hc : Nat.beq c b with
      | false => rw [hc] at h; cases h
      | true =>
      rw [hc, cond_true] at h
      obtain rfl := Nat.eq_of_beq_eq_true hc
      simp only [Option.some.injEq, Prod.mk.injEq] at h
      obtain ⟨rfl, rfl⟩ := h
      obtain ⟨y0, hy0, hr0⟩ := hcell 0 (.pointer (some ⟨c, 0, none⟩)) (by rw [← Array.getElem?_toList, hcs]; rfl)
      cases hr0 with
      | ptr hl2 =>
        rw [hl] at hl2
        obtain rfl := Option.some.inj hl2
        rw [hbase, Nat.zero_add] at hy0
        refine (check_used l.blk w ((hcl 0).trans hy0)).mono ?_
        rintro e w' ⟨rfl, rfl⟩
        exact ⟨_, ρ, rfl, .undef _, Post.refl hR hD⟩
    · cases h

def byteL : List Value → Option (List UInt8)
  | [] => some []
  | .int .u8 n :: r => if 0 ≤ n ∧ n < 256 then (byteL r).map (UInt8.ofNat n.toNat :: ·) else none
  | _ :: _ => none
theorem byteL_get : ∀ {vs : List Value} {l : List UInt8}, byteL vs = some l → vs.length = l.length ∧ ∀ (j : Nat) (x : UInt8), l[j]? = some x → vs[j]? = some (Value.int .u8 x.toNat)
  | [], l, h => by
    obtain rfl : [] = l := by simpa [byteL] using h
    exact ⟨rfl, fun j x hx => by simp at hx⟩
  | v :: r, l, h => by
    unfold byteL at h
    split at h
    · rename_i heq; cases heq
    · rename_i n r' heq
      simp only [List.cons.injEq] at heq
      obtain ⟨rfl, rfl⟩ := heq
      split at h
      · rename_i hn
        simp only [Option.map_eq_some_iff] at h
        obtain ⟨l', hl', rfl⟩ := h
        obtain ⟨h1, h2⟩ := byteL_get hl'
        refine ⟨by simp [h1], fun j x hx => ?_⟩
        cases j with
        | zero =>
          have hx' : x = UInt8.ofNat n.toNat := by simpa using hx.symm
          subst hx'
          simp only [List.getElem?_cons_zero, Option.some.injEq, Value.int.injEq, true_and]
          rw [UInt8.toNat_ofNat']
          omega
        | succ j => simpa using h2 j x (by simpa using hx)
      · cases h
    · cases h

def stringP (args : Array Value) (H : AHeap) : Option (Value × AHeap) :=
  match args.toList with
  | [.pointer (some ⟨b, 0, none⟩)] =>
    match H.get b with
    | some (.cells cs _ false) =>
      match cs.toList with
      | [_, .slice (some ⟨g, 0, none⟩) n _] =>
        match H.get g with
        | some (.cells ds e false) =>
          bif Nat.beq e 5 && !Nat.beq n 0 && Nat.ble n ds.size && Nat.ble n 1000000 then
            match byteL (ds.toList.take n) with
            | some l => some (.string ⟨l.toArray⟩, H.set g .gone)
            | none => none
          else none
        | _ => none
      | _ => none
    | _ => none
  | _ => none

set_option maxRecDepth 100000 in
theorem stringP_ok (args : Array Value) (H : AHeap) (v : Value) (H' : AHeap) (h : stringP args H = some (v, H')) : CallOK Tryz.prog 169 args H v H' := by
  unfold stringP at h
  split at h
  case h_2 => cases h
  rename_i b hargs
  split at h
  case h_2 => cases h
  rename_i cs e hb
  split at h
  case h_2 => cases h
  rename_i v0 g n cc hcs
  split at h
  case h_2 => cases h
  rename_i ds e2 hgg
  cases hc : (Nat.beq e2 5 && !Nat.beq n 0 && Nat.ble n ds.size && Nat.ble n 1000000) with
  | false => rw [hc] at h; cases h
  | true =>
  rw [hc, cond_true] at h
  simp only [Bool.and_eq_true, Bool.not_eq_true'] at hc
  obtain ⟨⟨⟨he2, hn0⟩, hnd⟩, hnm⟩ := hc
  obtain rfl := Nat.eq_of_beq_eq_true he2
  have hnd := Nat.le_of_ble_eq_true hnd
  have hnm := Nat.le_of_ble_eq_true hnm
  have hn0 : n ≠ 0 := fun e => by subst e; cases hn0
  split at h
  case h_2 => cases h
  rename_i l hl8
  simp only [Option.some.injEq, Prod.mk.injEq] at h
  obtain ⟨rfl, rfl⟩ := h
  obtain ⟨hlen, hget⟩ := byteL_get hl8
  have hln : l.length = n := by rw [← hlen, List.length_take, Array.length_toList]; omega
  intro ρ w args' hR hD hv
  obtain ⟨y, rfl, hy⟩ := hv.one_inv hargs
  cases hy with
  | ptr hl =>
    rename_i lb
    obtain ⟨k, hk, hbr⟩ := hR.blk b lb hl
    rw [hb] at hk
    obtain rfl := Option.some.inj hk
    obtain ⟨c', e', _, hg, hbase, _, _, _, hcell⟩ := hbr
    rw [hbase, Nat.zero_add]
    obtain ⟨y1, hy1, hr1⟩ := hcell 1 (.slice (some ⟨g, 0, none⟩) n cc) (by rw [← Array.getElem?_toList, hcs]; rfl)
    cases hr1 with
    | slice0 => exact absurd rfl hn0
    | slice hlg hn1 hcap hx1 hx2 =>
      rename_i cap lg
      obtain ⟨k2, hk2, hbr2⟩ := hR.blk g lg hlg
      rw [hgg] at hk2
      obtain rfl := Option.some.inj hk2
      obtain ⟨d', e3, rfl, hg2, hbase2, htot, hesz, hle2, hcell2⟩ := hbr2
      rw [hbase2, Nat.zero_add] at hy1
      have hcl : ∀ j x, l[j]? = some x → w.cell? ((⟨lg.blk, 0, none⟩ : Addr).add j) = some (.int .u8 x.toNat) := by
        intro j x hx
        have h1 := hget j x hx
        have hj : j < n := by rw [← hln]; exact (List.getElem?_eq_some_iff.1 hx).1
        rw [List.getElem?_take_of_lt hj, Array.getElem?_toList] at h1
        obtain ⟨z, hz, hr⟩ := hcell2 j _ h1
        cases hr
        have ha : ((⟨lg.blk, 0, none⟩ : Addr).add j) = ⟨lg.blk, j, none⟩ := by
          cases j with
          | zero => rfl
          | succ j => simp [Addr.add]
        rw [ha]
        simpa [World.cell?, hg2] using hz
      have hc1 : w.cell? ⟨lb.blk, 1, none⟩ = some (.slice (some ⟨lg.blk, 0, none⟩) l.length cap) := by rw [hln]; simp [World.cell?, hg, hy1]
      refine (string_exact stringL stringX lb.blk lg.blk cap d' l w hc1 hg2 (by omega) (by intro e; subst e; simp at hln; omega) (by omega) (by omega) hcl).mono ?_
      rintro e w' ⟨rfl, rfl⟩
      refine ⟨_, ρ, rfl, .string _, ?_⟩
      refine Post.set (w' := w.drew.freeze ⟨lg.blk, 0, none⟩ l.length) hR hD hlg (by rw [hgg]; rfl) ⟨?_, fun i hi => ?_, ?_, ?_, ?_⟩ trivial
      · unfold World.freeze
        split
        · rfl
        · simp only [Array.size_modify]; rfl
      · unfold World.freeze
        split
        · rfl
        · simp only [Array.getElem?_modify]
          rw [if_neg (Ne.symm hi)]
          rfl
      · unfold World.freeze; split <;> rfl
      · unfold World.freeze; split <;> rfl
      · unfold World.freeze; split <;> rfl

def buildT (P : Program) : Table :=
  { fn := plainFn P, prim := fun g => bif Nat.beq g 260 then some checkP else bif Nat.beq g 169 then some stringP else none }
set_option maxRecDepth 100000 in
theorem buildT_ok : TableOK Tryz.prog (buildT Tryz.prog) := by
  refine ⟨fun f af h => plainFn_ok h, fun f p h => ?_⟩
  simp only [buildT] at h
  cases hf : Nat.beq f 260 with
  | true =>
    rw [hf] at h
    obtain rfl := Option.some.inj h
    obtain rfl := Nat.eq_of_beq_eq_true hf
    exact ⟨⟨Tryz.f260, Tryz.func260, rfl, by kernel_rfl⟩, checkP_ok⟩
  | false =>
    rw [hf, cond_false] at h
    cases hf2 : Nat.beq f 169 with
    | true =>
      rw [hf2] at h
      obtain rfl := Option.some.inj h
      obtain rfl := Nat.eq_of_beq_eq_true hf2
      exact ⟨⟨Tryz.f169, Tryz.func169, rfl, by kernel_rfl⟩, stringP_ok⟩
    | false => rw [hf2] at h; cases h
end Go.Aev
