/- A logic over the abstract evaluator: what code comes to, whatever the fuel. Frames are functions; each operation is told over values. -/
import Derived.Test.YtklkahckkelglaaGreatAevS
namespace Go.Aev
open Go

abbrev FE := Nat → Value
def arr (n : Nat) (g : FE) : Env := ((List.range n).map g).toArray
def evF (n : Nat) (g : FE) : Operand → Value
  | .tmp t => bif Nat.blt t n then g t else undef
  | .const v => v
  | .global b => .pointer (some ⟨b, 0, none⟩)
  | .func f => .func (.func f) #[] #[]
def putF (n : Nat) (g : FE) (d : Option Tmp) (v : Value) : FE :=
  match d with
  | some d => bif Nat.blt d n then (fun i => bif Nat.beq i d then v else g i) else g
  | none => g

theorem bltT {a b : Nat} (h : a < b) : Nat.blt a b = true := by simpa using h
theorem bltF {a b : Nat} (h : ¬ a < b) : Nat.blt a b = false := by
  cases e : Nat.blt a b with
  | false => rfl
  | true => exact absurd (by simpa using e) h
theorem arr_size (n : Nat) (g : FE) : (arr n g).size = n := by simp [arr]
theorem arr_getD (n : Nat) (g : FE) (t : Nat) : (arr n g).getD t undef = bif Nat.blt t n then g t else undef := by
  simp only [arr, Array.getD_eq_getD_getElem?, List.getElem?_toArray, List.getElem?_map]
  by_cases h : t < n
  · rw [List.getElem?_range h, bltT h]
    rfl
  · rw [List.getElem?_eq_none (by simp; omega), bltF h]
    rfl
theorem evF_eq (n : Nat) (g : FE) : evF n g = ev1 (arr n g) := funext fun x => by
  cases x with
  | tmp t => exact (arr_getD n g t).symm
  | const v => rfl
  | global b => rfl
  | func f => rfl
theorem putF_arr (n : Nat) (g : FE) (d : Option Tmp) (v : Value) : arr n (putF n g d v) = put (arr n g) d v := by
  cases d with
  | none => rfl
  | some d =>
    apply Array.ext_getElem?
    intro i
    simp only [putF, put, Array.getElem?_setIfInBounds, arr_size]
    by_cases h : d < n
    · rw [bltT h]
      simp only [cond_true, arr, List.getElem?_toArray, List.getElem?_map]
      by_cases hi : i < n
      · rw [List.getElem?_range hi]
        simp only [Option.map_some]
        by_cases e : d = i
        · subst e; simp [h]
        · have : Nat.beq i d = false := by cases h : Nat.beq i d with | false => rfl | true => exact absurd (Nat.eq_of_beq_eq_true h).symm e
          rw [if_neg e, this]; rfl
      · rw [List.getElem?_eq_none (by simp; omega)]
        simp only [Option.map_none]
        rw [if_neg (show ¬ d = i from fun e => hi (by rw [← e]; exact h))]
    · rw [bltF h]
      simp only [cond_false]
      by_cases e : d = i
      · subst e
        rw [if_pos rfl, if_neg h]
        simp [arr, h]
      · rw [if_neg e]
def boundV (d : Nat) : Option Value → Option Nat
  | none => some d
  | some (.int _ i) => if 0 ≤ i then some i.toNat else none
  | some _ => none
theorem boundV_eq (env : Env) (d : Nat) (x : Option Operand) : boundV d (x.map (ev1 env)) = bound env d x := by
  cases x with
  | none => rfl
  | some y =>
    simp only [boundV, bound, Option.map_some]
    split <;> simp_all

def v_move (x : Value) (H : AHeap) : Option Res := some (.val (x) H)
def v_pick (c : Value) (a : Value) (b : Value) (H : AHeap) : Option Res := match c with
    | .bool t => some (.val (if t then a else b) H)
    | _ => none
def v_new (e : TypeId) (cs : Array Value) (H : AHeap) : Option Res := some (.val (.pointer (some ⟨H.next, 0, none⟩)) (H.push (.cells cs e false)))
def v_box (e : TypeId) (x : Value) (H : AHeap) : Option Res :=
    let v := x
    if v.cells.all isCell then some (.val (.pointer (some ⟨H.next, 0, none⟩)) (H.push (.cells v.cells e false))) else none
def v_build (zero : Array Value) (places : Array (Nat × Nat)) (parts : List (Nat × Value)) (H : AHeap) : Option Res :=
    let ps := parts
    if ps.all (fun p => p.2.cells.all isCell) then
      match Instr.fill (fun i => places[i]?) zero ps with
      | some cs => some (.val (.agg cs) H)
      | none => none
    else none
def v_buildArr (zero : Array Value) (size : Nat) (parts : List (Nat × Value)) (H : AHeap) : Option Res :=
    let ps := parts
    if ps.all (fun p => p.2.cells.all isCell) then
      match Instr.fill (fun i => some (i * size, size)) zero ps with
      | some cs => some (.val (.agg cs) H)
      | none => none
    else none
def v_buildSlice (e : TypeId) (size : Nat) (len : Nat) (cells : Array Value) (parts : List (Nat × Value)) (H : AHeap) : Option Res :=
    let ps := parts
    if ps.all (fun p => p.2.cells.all isCell) then
      match Instr.fill (fun i => some (i * size, size)) cells ps with
      | some cs => some (.val (.slice (some ⟨H.next, 0, none⟩) len len) (H.push (.cells cs e false)))
      | none => none
    else none
def v_load (x : Value) (H : AHeap) : Option Res := (rd H (x)).map fun v => .val v H
def v_loadN (n : Nat) (x : Value) (H : AHeap) : Option Res := (rdN H n (x)).map fun vs => .val (.agg vs) H
def v_store (n : Nat) (x : Value) (v : Value) (H : AHeap) : Option Res :=
    let y := v
    if y.cells.size = n then (wr H y.cells (x)).map fun H' => .unit H' else none
def v_nilCheck (x : Value) (H : AHeap) : Option Res := match x with
    | .pointer (some a) => some (.val (.pointer (some a)) H)
    | .func (.func f) a b => some (.val (.func (.func f) a b) H)
    | _ => none
def v_bin (op : BinOp) (x : Value) (y : Value) (H : AHeap) : Option Res := (aBin op (x) (y)).map fun v => .val v H
def v_eq (neg : Bool) (k : EqK) (x : Value) (y : Value) (H : AHeap) : Option Res := (aEq k (x) (y)).map fun b => .val (.bool (if neg then !b else b)) H
def v_un (op : UnOp) (x : Value) (H : AHeap) : Option Res := match op, x with
    | .neg, .int k n => some (.val (.int k (k.wrap (0 - n))) H)
    | .xor, .int k n => some (.val (aBits k (· ^^^ ·) (if k.signed then -1 else k.max) n) H)
    | .not, .bool b => some (.val (.bool !b) H)
    | _, _ => none
def v_toInt (k : IntKind) (x : Value) (H : AHeap) : Option Res := match x with
    | .int _ n => some (.val (.int k (k.wrap n)) H)
    | _ => none
def v_sameStr (x : Value) (H : AHeap) : Option Res := match x with
    | .string s => some (.val (.string s) H)
    | _ => none
def v_bytesStr (x : Value) (H : AHeap) : Option Res := match x with
    | .slice _ 0 _ => some (.val (.string .empty) H)
    | .slice (some a) n _ => match rdN H n (.pointer (some a)) with
      | some vs => (u8s vs.toList).map fun ns => .val (.string (ns.foldl (fun r n => r.push (UInt8.ofNat n.toNat)) ByteArray.empty)) H
      | none => none
    | _ => none
def v_makeFunc (f : FuncId) (first : List Value) (captured : List Value) (H : AHeap) : Option Res := some (.val (.func (.func f) first.toArray captured.toArray) H)
def v_makeMap (H : AHeap) : Option Res := some (.val (.map (some H.next)) (H.push (.map #[] 0)))
def v_makeSlice (e : TypeId) (size : Nat) (bytes : Nat) (zero : Array Value) (l : Value) (c : Value) (H : AHeap) : Option Res := match l, c with
    | .int _ n, .int _ m =>
      if n = m ∧ 0 ≤ n ∧ n * bytes ≤ 140737488355328 ∧ n ≤ 140737488355328 then
        some (.val (.slice (some ⟨H.next, 0, none⟩) n.toNat n.toNat) (H.push (.cells ((List.replicate n.toNat zero.toList).flatten).toArray e false)))
      else none
    | _, _ => none
def v_sliceStr (x : Value) (lo : Option Value) (hi : Option Value) (H : AHeap) : Option Res := match x with
    | .string s => match boundV 0 lo, boundV s.size hi with
      | some l, some h => if l ≤ h ∧ h ≤ s.size then some (.val (.string (s.extract l h)) H) else none
      | _, _ => none
    | _ => none
def v_sliceSl (size : Nat) (x : Value) (lo : Option Value) (hi : Option Value) (mx : Option Value) (H : AHeap) : Option Res := match x with
    | .slice a n c => match boundV 0 lo, boundV n hi, boundV n mx with
      | some l, some h, some m =>
        if l ≤ h ∧ h ≤ m ∧ m ≤ n then
          match mx with
          | none => some (.val (cut a size l h (c == n && h == n)) H)
          | some _ => some (.val (cut a size l h (h == m)) H)
        else none
      | _, _, _ => none
    | _ => none
def v_sliceArr (len : Nat) (size : Nat) (x : Value) (lo : Option Value) (hi : Option Value) (H : AHeap) : Option Res := match x with
    | .pointer (some ⟨b, o, none⟩) => match boundV 0 lo, boundV len hi with
      | some l, some h => if l ≤ h ∧ h ≤ len then some (.val (cut (some ⟨b, o, none⟩) size l h (h == len)) H) else none
      | _, _ => none
    | _ => none
def v_off (n : Nat) (x : Value) (H : AHeap) : Option Res := (addOff n (x)).map fun v => .val v H
def v_field (o : Nat) (x : Value) (H : AHeap) : Option Res := match x with
    | .agg cs => (cs[o]?).map fun v => .val v H
    | _ => none
def v_fieldN (o : Nat) (n : Nat) (x : Value) (H : AHeap) : Option Res := match x with
    | .agg cs => some (.val (.agg (cs.extract o (o + n))) H)
    | _ => none
def v_ixArr (len : Nat) (size : Nat) (x : Value) (i : Value) (H : AHeap) : Option Res := match x, i with
    | .pointer (some ⟨b, o, none⟩), .int _ j => if 0 ≤ j ∧ j < len then some (.val (.pointer (some ⟨b, o + j.toNat * size, none⟩)) H) else none
    | _, _ => none
def v_ixSl (size : Nat) (x : Value) (i : Value) (H : AHeap) : Option Res := match x, i with
    | .slice (some ⟨b, o, none⟩) n _, .int _ j => if 0 ≤ j ∧ j < n then some (.val (.pointer (some ⟨b, o + j.toNat * size, none⟩)) H) else none
    | _, _ => none
def v_ixStr (x : Value) (i : Value) (H : AHeap) : Option Res := match x, i with
    | .string s, .int _ j => if 0 ≤ j then (s[j.toNat]?).map fun b => .val (.int .u8 b.toNat) H else none
    | _, _ => none
def v_ixAgg (len : Nat) (x : Value) (i : Value) (H : AHeap) : Option Res := match x, i with
    | .agg cs, .int _ j => if 0 ≤ j ∧ j < len then (cs[j.toNat]?).map fun v => .val v H else none
    | _, _ => none
def v_lookup (key : KeyK) (zero : Value) (ok : Bool) (m : Value) (k : Value) (H : AHeap) : Option Res :=
    let kv := k
    if keyOK key kv then
      match m with
      | .map none => some (.val (if ok then .tuple #[zero, .bool false] else zero) H)
      | m => match mapAt H m with
        | some (es, _) => match findK key kv es.toList 0 with
          | some (some (_, v)) => some (.val (if ok then .tuple #[v, .bool true] else v) H)
          | some none => some (.val (if ok then .tuple #[zero, .bool false] else zero) H)
          | none => none
        | none => none
    else none
def v_update (key : KeyK) (m : Value) (k : Value) (v : Value) (H : AHeap) : Option Res :=
    let kv := k
    let x := v
    if keyOK key kv && known x then
      match m with
      | .map (some r) => match mapAt H (.map (some r)) with
        | some (es, clock) => match findK key kv es.toList 0 with
          | some (some (i, _)) => some (.unit (H.set r (.map (es.modify i fun e => { e with key := kv, val := x }) clock)))
          | some none => some (.unit (H.set r (.map (es.push { key := kv, val := x, born := clock }) (clock + 1))))
          | none => none
        | none => none
      | _ => none
    else none
def v_extract (x : Value) (i : Nat) (H : AHeap) : Option Res := match x with
    | .tuple vs => (vs[i]?).map fun v => .val v H
    | _ => none
def v_call (f : FuncId) (args : List Value) (H : AHeap) : Option Res := some (.call f args.toArray)
def v_callV (x : Value) (args : List Value) (H : AHeap) : Option Res := match x with
    | .func (.func f) first captured => some (.call f (first ++ args.toArray ++ captured))
    | _ => none
def v_aload (k : IntKind) (x : Value) (H : AHeap) : Option Res := match rd H (x) with
    | some (.int k' n) => if k = k' then some (.val (.int k n) H) else none
    | _ => none
def v_astore (x : Value) (v : Value) (H : AHeap) : Option Res := match v with
    | .int k n => (wr H #[.int k n] (x)).map fun H' => .val (.tuple #[]) H'
    | _ => none
def v_acas (k : IntKind) (x : Value) (old : Value) (now : Value) (H : AHeap) : Option Res := match rd H (x), old, now with
    | some (.int k' n), .int k1 o, .int k2 m =>
      if k = k' ∧ k = k1 ∧ k = k2 then
        match wr H #[.int k m] (x) with
        | some H' => if n == o then some (.val (.bool true) H') else some (.val (.bool false) H)
        | none => none
      else none
    | _, _, _ => none
def v_aadd (k : IntKind) (x : Value) (y : Value) (H : AHeap) : Option Res := match rd H (x), y with
    | some (.int k' n), .int k1 m =>
      if k = k' ∧ k = k1 then (wr H #[.int k (k.wrap (n + m))] (x)).map fun H' => .val (.int k (k.wrap (n + m))) H'
      else none
    | _, _ => none
def v_append (e : TypeId) (size : Nat) (bytes : Nat) (a : Value) (b : Value) (H : AHeap) : Option Res := match a, b with
    | .slice base n c, .slice src m _ =>
      let news := match src with
        | none => some #[]
        | some s => rdN H (m * size) (.pointer (some s))
      match news with
      | none => none
      | some vs =>
        if vs.size ≠ m * size then none else
        if m = 0 then some (.val (.slice base n c) H) else
        if ¬ ((n + m) * bytes ≤ 140737488355328 ∧ n + m ≤ 140737488355328 ∧ vs.all isCell = true) then none else
        match base with
        | none => some (.val (.slice (some ⟨H.next, 0, none⟩) m (m + 1)) (H.push (.cells vs e false)))
        | some ad => match rdN H (n * size) (.pointer (some ad)) with
          | none => none
          | some olds =>
            if c = n then some (.val (.slice (some ⟨H.next, 0, none⟩) (n + m) (n + m + 1)) (H.push (.cells (olds ++ vs) e false)))
            else match H.get ad.block, ad.off with
              | some (.cells cs e' false), 0 =>
                if c = n + 1 ∧ n ≠ 0 ∧ e' = e ∧ cs.size = n * size then some (.val (.slice (some ⟨H.next, 0, none⟩) (n + m) (n + m + 1)) ((H.push (.cells (olds ++ vs) e false)).set ad.block .gone))
                else none
              | _, _ => none
    | _, _ => none
def v_lenStr (x : Value) (H : AHeap) : Option Res := match x with
    | .string s => some (.val (goInt s.size) H)
    | _ => none
def v_lenSl (x : Value) (H : AHeap) : Option Res := match x with
    | .slice _ n _ => some (.val (goInt n) H)
    | _ => none
def v_lenMap (x : Value) (H : AHeap) : Option Res := match x with
    | .map none => some (.val (goInt 0) H)
    | m => (mapAt H m).map fun p => .val (goInt p.1.size) H
def v_lenArr (n : Nat) (H : AHeap) : Option Res := some (.val (goInt n) H)
def v_delete (key : KeyK) (m : Value) (k : Value) (H : AHeap) : Option Res :=
    let kv := k
    if keyOK key kv then
      match m with
      | .map none => some (.val (.tuple #[]) H)
      | .map (some r) => match mapAt H (.map (some r)) with
        | some (es, clock) => match findK key kv es.toList 0 with
          | some (some (i, _)) => some (.val (.tuple #[]) (H.set r (.map (es.eraseIdxIfInBounds i) clock)))
          | some none => some (.val (.tuple #[]) H)
          | none => none
        | none => none
      | _ => none
    else none
def v_clearMap (m : Value) (H : AHeap) : Option Res := match m with
    | .map none => some (.val (.tuple #[]) H)
    | .map (some r) => match mapAt H (.map (some r)) with
      | some (_, clock) => some (.val (.tuple #[]) (H.set r (.map #[] clock)))
      | none => none
    | _ => none
def v_clearSl (zero : Array Value) (x : Value) (H : AHeap) : Option Res := match x with
    | .slice _ 0 _ => some (.val (.tuple #[]) H)
    | .slice (some a) n _ => (wr H ((List.replicate n zero.toList).flatten).toArray (.pointer (some a))).map fun H' => .val (.tuple #[]) H'
    | _ => none
def v_rangeMap (x : Value) (H : AHeap) : Option Res := match x with
    | .map m => match m with
      | none => some (.val (.pointer (some ⟨H.next, 0, none⟩)) (H.push (.iter none 0 #[] 0)))
      | some r => match mapAt H (.map (some r)) with
        | some (_, clock) => some (.val (.pointer (some ⟨H.next, 0, none⟩)) (H.push (.iter (some r) clock #[] clock)))
        | none => none
    | _ => none
def v_nextMap (x : Value) (H : AHeap) : Option Res := match x with
    | .pointer (some ⟨b, 0, none⟩) => match H.get b with
      | some (.iter none _ _ _) => some (.val (.tuple #[.bool false]) H)
      | some (.iter (some r) since seen last) => match mapAt H (.map (some r)) with
        | some (es, clock) =>
          if !seen.isEmpty && !es.toList.isEmpty && es.toList.all (fun e => e.born ≥ last) then none else
          match es.toList.filter fun e => !seen.contains e.born with
          | [] => some (.val (.tuple #[.bool false]) H)
          | [e] => if e.born < since then some (.val (.tuple #[.bool true, e.key, e.val]) (H.set b (.iter (some r) since (seen.push e.born) clock))) else none
          | _ => none
        | none => none
      | _ => none
    | _ => none
def v_entryMap (x : Value) (H : AHeap) : Option Res := match x with
    | .pointer (some ⟨b, 0, none⟩) => match H.get b with
      | some (.iter (some r) _ seen last) => match mapAt H (.map (some r)), seen.back? with
        | some (es, clock), some stamp =>
          if clock = last then match es.toList.find? fun e => e.born == stamp with
            | some e => some (.val (.tuple #[e.key, e.val]) H)
            | none => none
          else none
        | _, _ => none
      | _ => none
    | _ => none
def v_stop (H : AHeap) : Option Res := none
def v_minI (x : Value) (y : Value) (H : AHeap) : Option Res := match x, y with
    | .int k a, .int _ b => some (.val (.int k (if b < a then b else a)) H)
    | _, _ => none
def v_maxI (x : Value) (y : Value) (H : AHeap) : Option Res := match x, y with
    | .int k a, .int _ b => some (.val (.int k (if b > a then b else a)) H)
    | _, _ => none

/-- One operation over values. -/
def aStepV (nf : Nat) (g : FE) (H : AHeap) (op : AOp) : Option Res :=
  match op with
  | .move x => v_move (evF nf g x) H
  | .pick c a b => v_pick (evF nf g c) (evF nf g a) (evF nf g b) H
  | .new e cs => v_new e cs H
  | .box e x => v_box e (evF nf g x) H
  | .build zero places parts => v_build zero places (parts.map fun p => (p.1, evF nf g p.2)) H
  | .buildArr zero size parts => v_buildArr zero size (parts.map fun p => (p.1, evF nf g p.2)) H
  | .buildSlice e size len cells parts => v_buildSlice e size len cells (parts.map fun p => (p.1, evF nf g p.2)) H
  | .load x => v_load (evF nf g x) H
  | .loadN n x => v_loadN n (evF nf g x) H
  | .store n x v => v_store n (evF nf g x) (evF nf g v) H
  | .nilCheck x => v_nilCheck (evF nf g x) H
  | .bin op x y => v_bin op (evF nf g x) (evF nf g y) H
  | .eq neg k x y => v_eq neg k (evF nf g x) (evF nf g y) H
  | .un op x => v_un op (evF nf g x) H
  | .toInt k x => v_toInt k (evF nf g x) H
  | .sameStr x => v_sameStr (evF nf g x) H
  | .bytesStr x => v_bytesStr (evF nf g x) H
  | .makeFunc f first captured => v_makeFunc f (first.map (evF nf g)) (captured.map (evF nf g)) H
  | .makeMap  => v_makeMap H
  | .makeSlice e size bytes zero l c => v_makeSlice e size bytes zero (evF nf g l) (evF nf g c) H
  | .sliceStr x lo hi => v_sliceStr (evF nf g x) (lo.map (evF nf g)) (hi.map (evF nf g)) H
  | .sliceSl size x lo hi mx => v_sliceSl size (evF nf g x) (lo.map (evF nf g)) (hi.map (evF nf g)) (mx.map (evF nf g)) H
  | .sliceArr len size x lo hi => v_sliceArr len size (evF nf g x) (lo.map (evF nf g)) (hi.map (evF nf g)) H
  | .off n x => v_off n (evF nf g x) H
  | .field o x => v_field o (evF nf g x) H
  | .fieldN o n x => v_fieldN o n (evF nf g x) H
  | .ixArr len size x i => v_ixArr len size (evF nf g x) (evF nf g i) H
  | .ixSl size x i => v_ixSl size (evF nf g x) (evF nf g i) H
  | .ixStr x i => v_ixStr (evF nf g x) (evF nf g i) H
  | .ixAgg len x i => v_ixAgg len (evF nf g x) (evF nf g i) H
  | .lookup key zero ok m k => v_lookup key zero ok (evF nf g m) (evF nf g k) H
  | .update key m k v => v_update key (evF nf g m) (evF nf g k) (evF nf g v) H
  | .extract x i => v_extract (evF nf g x) i H
  | .call f args => v_call f (args.map (evF nf g)) H
  | .callV x args => v_callV (evF nf g x) (args.map (evF nf g)) H
  | .aload k x => v_aload k (evF nf g x) H
  | .astore x v => v_astore (evF nf g x) (evF nf g v) H
  | .acas k x old now => v_acas k (evF nf g x) (evF nf g old) (evF nf g now) H
  | .aadd k x y => v_aadd k (evF nf g x) (evF nf g y) H
  | .append e size bytes a b => v_append e size bytes (evF nf g a) (evF nf g b) H
  | .lenStr x => v_lenStr (evF nf g x) H
  | .lenSl x => v_lenSl (evF nf g x) H
  | .lenMap x => v_lenMap (evF nf g x) H
  | .lenArr n => v_lenArr n H
  | .delete key m k => v_delete key (evF nf g m) (evF nf g k) H
  | .clearMap m => v_clearMap (evF nf g m) H
  | .clearSl zero x => v_clearSl zero (evF nf g x) H
  | .rangeMap x => v_rangeMap (evF nf g x) H
  | .nextMap x => v_nextMap (evF nf g x) H
  | .entryMap x => v_entryMap (evF nf g x) H
  | .stop  => v_stop H
  | .minI x y => v_minI (evF nf g x) (evF nf g y) H
  | .maxI x y => v_maxI (evF nf g x) (evF nf g y) H
theorem aStepV_eq (n : Nat) (g : FE) (H : AHeap) (op : AOp) : aStepV n g H op = aStep (arr n g) H op := by
  cases op <;> simp only [aStepV, aStep, v_move, v_pick, v_new, v_box, v_build, v_buildArr, v_buildSlice, v_load, v_loadN, v_store, v_nilCheck, v_bin, v_eq, v_un, v_toInt, v_sameStr, v_bytesStr, v_makeFunc, v_makeMap, v_makeSlice, v_sliceStr, v_sliceSl, v_sliceArr, v_off, v_field, v_fieldN, v_ixArr, v_ixSl, v_ixStr, v_ixAgg, v_lookup, v_update, v_extract, v_call, v_callV, v_aload, v_astore, v_acas, v_aadd, v_append, v_lenStr, v_lenSl, v_lenMap, v_lenArr, v_delete, v_clearMap, v_clearSl, v_rangeMap, v_nextMap, v_entryMap, v_stop, v_minI, v_maxI, evF_eq, boundV_eq, List.map_map, Function.comp_def] <;> first | rfl | (rename_i a b c d mx; cases mx <;> rfl)

/-! ## more fuel, the same answer -/
def LeC (c c' : CallT) : Prop := ∀ e H r, c e H = some r → c' e H = some r
theorem doOp_mono {c c' : CallT} (h : LeC c c') {o : AOper} {e : Env} {H : AHeap} {r : Value × AHeap} (hr : doOp c o e H = some r) : doOp c' o e H = some r := by
  unfold doOp at hr ⊢
  split at hr
  · exact hr
  · exact hr
  · rename_i f args hs
    split at hr
    · rename_i v H' hc
      rw [h _ _ _ hc]
      exact hr
    · cases hr
  · cases hr
theorem evalOps_mono {c c' : CallT} (h : LeC c c') : ∀ (ops : List AOper) {e : Env} {H : AHeap} {r : Env × AHeap}, evalOps c ops e H = some r → evalOps c' ops e H = some r
  | [], _, _, _, hr => hr
  | o :: ops, e, H, r, hr => by
    unfold evalOps at hr ⊢
    split at hr
    · rename_i hw
      split at hr
      · rename_i v H' hd
        simp only [doOp_mono h hd]
        exact evalOps_mono h ops hr
      · cases hr
    · exact evalOps_mono h ops hr
    · cases hr
theorem evalMet_mono {c c' : CallT} (h : LeC c c') : ∀ (ops : List AOper) {e : Env} {H : AHeap} {r : List Met × Env × AHeap}, evalMet c ops e H = some r → evalMet c' ops e H = some r
  | [], _, _, _, hr => hr
  | o :: ops, e, H, r, hr => by
    unfold evalMet at hr ⊢
    split at hr
    · rename_i hw
      split at hr
      · rename_i v H' hd
        simp only [doOp_mono h hd]
        split at hr
        · rename_i l e' h' hm
          rw [evalMet_mono h ops hm]
          exact hr
        · cases hr
      · cases hr
    · split at hr
      · rename_i l e' h' hm
        rw [evalMet_mono h ops hm]
        exact hr
      · cases hr
    · cases hr
theorem evalDraw_mono {c c' : CallT} (h : LeC c c') {ops : List AOper} {lk : List (List Nat)} {e : Env} {H : AHeap} {r : Env × AHeap} (hr : evalDraw c ops lk e H = some r) : evalDraw c' ops lk e H = some r := by
  unfold evalDraw at hr ⊢
  split at hr
  · rename_i hm
    rw [evalMet_mono h ops hm]
    exact hr
  · cases hr
theorem evalCode_mono {c c' : CallT} (h : LeC c c') : ∀ (a : ACode) {e : Env} {H : AHeap} {r : AExit × Env × AHeap}, evalCode c a e H = some r → evalCode c' a e H = some r := by
  intro a
  induction a with
  | skip => exact fun hr => hr
  | region ops =>
    intro e H r hr
    simp only [evalCode, Option.map_eq_some_iff] at hr ⊢
    obtain ⟨x, hx, rfl⟩ := hr
    exact ⟨x, evalOps_mono h ops hx, rfl⟩
  | draw ops lk =>
    intro e H r hr
    simp only [evalCode, Option.map_eq_some_iff] at hr ⊢
    obtain ⟨x, hx, rfl⟩ := hr
    exact ⟨x, evalDraw_mono h hx, rfl⟩
  | seq a b iha ihb =>
    intro e H r hr
    simp only [evalCode] at hr ⊢
    split at hr
    · rename_i e1 H1 ha
      rw [iha ha]
      exact ihb hr
    · rename_i hn
      cases ha : evalCode c a e H with
      | none => rw [ha] at hr; cases hr
      | some p =>
        obtain ⟨x, e1, H1⟩ := p
        rw [iha ha]
        rw [ha] at hr
        cases x with
        | normal => exact absurd ha (hn _ _)
        | ret => exact hr
        | exit i => exact hr
  | cond x a b iha ihb =>
    intro e H r hr
    simp only [evalCode] at hr ⊢
    split at hr
    · rename_i hx; exact iha hr
    · rename_i hx; exact ihb hr
    · cases hr
  | block id a iha =>
    intro e H r hr
    simp only [evalCode] at hr ⊢
    cases ha : evalCode c a e H with
    | none => rw [ha] at hr; cases hr
    | some p => rw [iha ha]; rw [ha] at hr; exact hr
  | loop keep a iha =>
    intro e H r hr
    simp only [evalCode] at hr ⊢
    split at hr
    · rename_i x e1 H1 hc
      rw [h _ _ _ hc]
      exact hr
    · cases hr
  | exit id => exact fun hr => hr
  | ret => exact fun hr => hr
theorem evBody_mono {T : Table} {c c' : CallT} (h : LeC c c') : LeC (evBody T c) (evBody T c') := by
  intro e H r hr
  cases e with
  | fn f args =>
    simp only [evBody] at hr ⊢
    split at hr
    · rename_i p hp
      exact hr
    · rename_i hp
      split at hr
      · rename_i af haf
        cases hc : evalCode c af.body (args ++ Array.replicate (af.ntmps - args.size) undef) H with
        | none => rw [hc] at hr; cases hr
        | some p =>
          rw [evalCode_mono h _ hc]
          rw [hc] at hr
          exact hr
      · cases hr
  | loop keep a env =>
    simp only [evBody] at hr ⊢
    split at hr
    · rename_i e1 H1 hc
      rw [evalCode_mono h _ hc]
      exact h _ _ _ hr
    · rename_i x e1 H1 hn hc
      rw [evalCode_mono h _ hc]
      cases x with
      | normal => exact absurd rfl hn
      | ret => exact hr
      | exit i => exact hr
    · cases hr
theorem evN_succ (T : Table) : ∀ k, LeC (evN T k) (evN T (k + 1))
  | 0 => fun _ _ _ h => by cases h
  | k + 1 => evBody_mono (evN_succ T k)
theorem evN_mono (T : Table) {k k' : Nat} (h : k ≤ k') : LeC (evN T k) (evN T k') := by
  induction h with
  | refl => exact fun _ _ _ h => h
  | step _ ih => exact fun e H r hr => evN_succ T _ e H r (ih e H r hr)

/-! ## the logic -/
/-- A call, whatever the fuel. -/
def Fn (T : Table) (f : FuncId) (args : Array Value) (H : AHeap) (Q : Value → AHeap → Prop) : Prop :=
  ∃ k v H', evN T k (.fn f args) H = some (.val v, H') ∧ Q v H'
theorem Fn.mono {T : Table} {f : FuncId} {args : Array Value} {H : AHeap} {Q Q' : Value → AHeap → Prop} (h : Fn T f args H Q) (hq : ∀ v H', Q v H' → Q' v H') : Fn T f args H Q' :=
  let ⟨k, v, H', h1, h2⟩ := h
  ⟨k, v, H', h1, hq v H' h2⟩

/-- An operation's outcome. -/
def stR (T : Table) (H : AHeap) (r : Option Res) (v : Value) (H' : AHeap) : Prop :=
  match r with
  | some (.val u H1) => u = v ∧ H1 = H'
  | some (.unit H1) => undef = v ∧ H1 = H'
  | some (.call f args) => ∃ k, evN T k (.fn f args) H = some (.val v, H')
  | none => False
/-- An operation, and what comes behind it (named once: the kernel compares it once). -/
def st (T : Table) (H : AHeap) (r : Option Res) (K : Value → AHeap → Prop) : Prop := ∃ v H', stR T H r v H' ∧ K v H'
theorem st_val {T : Table} {H : AHeap} {v : Value} {H1 : AHeap} {K : Value → AHeap → Prop} : st T H (some (.val v H1)) K = K v H1 := by
  simp only [st, stR]
  apply propext
  exact ⟨fun ⟨_, _, ⟨h1, h2⟩, h⟩ => h1 ▸ h2 ▸ h, fun h => ⟨_, _, ⟨rfl, rfl⟩, h⟩⟩
theorem st_unit {T : Table} {H : AHeap} {H1 : AHeap} {K : Value → AHeap → Prop} : st T H (some (.unit H1)) K = K undef H1 := by
  simp only [st, stR]
  apply propext
  exact ⟨fun ⟨_, _, ⟨h1, h2⟩, h⟩ => h1 ▸ h2 ▸ h, fun h => ⟨_, _, ⟨rfl, rfl⟩, h⟩⟩
theorem st_call {T : Table} {H : AHeap} {f : FuncId} {args : Array Value} {K : Value → AHeap → Prop} : st T H (some (.call f args)) K = Fn T f args H K := by
  simp only [st, stR, Fn]
  apply propext
  exact ⟨fun ⟨v, H', ⟨k, h1⟩, h⟩ => ⟨k, v, H', h1, h⟩, fun ⟨k, v, H', h1, h⟩ => ⟨v, H', ⟨k, h1⟩, h⟩⟩
/-- An operation with a guard: none where it was left out. -/
def gdR (v : Value) (b : Bool) (H : AHeap) (A : (Option Value → AHeap → Prop) → Prop) (o : Option Value) (H' : AHeap) : Prop :=
  match v with
  | .bool c => (c = b → A fun o1 H1 => o1 = o ∧ H1 = H') ∧ (c ≠ b → none = o ∧ H = H')
  | .nilIface => none = o ∧ H = H'
  | _ => False
def gd (v : Value) (b : Bool) (H : AHeap) (A : (Option Value → AHeap → Prop) → Prop) (K : Option Value → AHeap → Prop) : Prop := ∃ o H', gdR v b H A o H' ∧ K o H'
def gv (v : Option Value) : Value := match v with | some v => v | none => left
def gy (v : Option Value) (P : Value → Prop) : Prop := match v with | some v => P v | none => True
/-- A branch. -/
def br (v : Value) (A B : Prop) : Prop :=
  match v with
  | .bool c => (c = true → A) ∧ (c = false → B)
  | _ => False
def seqP (x : AExit) (A B : Prop) : Prop :=
  match x with
  | .normal => A
  | _ => B
def blkP (x : AExit) (id : Nat) (A B : Prop) : Prop :=
  match x with
  | .exit i => bif Nat.beq i id then A else B
  | _ => B
def retP (x : AExit) (A : Prop) : Prop :=
  match x with
  | .normal | .ret => A
  | _ => False
def opt {α : Type} (o : Option α) (K : α → Prop) : Prop :=
  match o with
  | some v => K v
  | none => False

structure MetF where
  g : FE
  heap : AHeap
  val : Option Value
def MetF.met (n : Nat) (m : MetF) : Met := ⟨arr n m.g, m.heap, m.val⟩

/-- An operation; moves and calls as they are. -/
def wpOp (T : Table) (n : Nat) (op : AOp) (g : FE) (H : AHeap) (K : Value → AHeap → Prop) : Prop :=
  match op with
  | .move x => K (evF n g x) H
  | .call f args => Fn T f (args.map (evF n g)).toArray H K
  | op => st T H (aStepV n g H op) K
theorem wpOp_st {T : Table} {n : Nat} {op : AOp} {g : FE} {H : AHeap} {K : Value → AHeap → Prop} (h : wpOp T n op g H K) : st T H (aStepV n g H op) K := by
  unfold wpOp at h
  split at h
  · simp only [aStepV, v_move, st_val]; exact h
  · simp only [aStepV, v_call, st_call]; exact h
  · exact h
def wp1 (T : Table) (n : Nat) (o : AOper) (g : FE) (H : AHeap) (K : Option Value → FE → AHeap → Prop) : Prop :=
  match o.guard with
  | none => wpOp T n o.op g H fun v H' => K (some v) (putF n g o.dst v) H'
  | some (t, b) => gd (evF n g (.tmp t)) b H (fun k => wpOp T n o.op g H fun v H' => k (some v) H') fun v H' => K v (putF n g o.dst (gv v)) H'
def wpO (T : Table) (n : Nat) : List AOper → FE → AHeap → (FE → AHeap → Prop) → Prop
  | [], g, H, K => K g H
  | o :: r, g, H, K => wp1 T n o g H fun _ g' H' => wpO T n r g' H' K
def wpM (T : Table) (n : Nat) : List AOper → FE → AHeap → (List MetF → FE → AHeap → Prop) → Prop
  | [], g, H, K => K [] g H
  | o :: r, g, H, K => wp1 T n o g H fun v g' H' => wpM T n r g' H' fun l g'' H'' => K (⟨g, H, v⟩ :: l) g'' H''

def heapAtF (l : List MetF) (H : AHeap) (j : Nat) : AHeap := match l[j]? with | some m => m.heap | none => H
/-- A look yields at another moment what it yielded. -/
def ylk (p : Option Nat) (nx : Nat) (r : Option Res) (v : Value) : Prop :=
  (match p with | some b => b < nx | none => True) ∧ (match r with | some (.val u _) => sameV u v = true | _ => False)
def yl (n : Nat) (o : AOper) (m : MetF) (next H : AHeap) : Prop :=
  gy m.val fun v => bif isLook o.op then ylk (ptrOf (evF n m.g (lookOpd o.op))) H.next (aStepV n m.g H o.op) v else sameB (H.get m.heap.next) (next.get m.heap.next) = true
def oblK (n : Nat) (o : AOper) (m : MetF) (l : List MetF) (H : AHeap) (k : Nat) (j : Nat) : List Prop :=
  bif Nat.blt j k then (bif isLook o.op then [yl n o m (heapAtF l H (k + 1)) (heapAtF l H j)] else []) else [yl n o m (heapAtF l H (k + 1)) (heapAtF l H (j + 1))]
def oblL (n : Nat) (ops : List AOper) (looks : List (List Nat)) (l : List MetF) (H : AHeap) : List Nat → List Prop
  | [] => []
  | k :: r =>
    match ops[k]?, looks[k]?, l[k]? with
    | some o, some js, some m => (js.flatMap fun j => oblK n o m l H k j) ++ oblL n ops looks l H r
    | _, _, _ => [False]
def owe (l : List Prop) (Q : Prop) : Prop :=
  match l with
  | [] => Q
  | p :: r => p ∧ owe r Q

def envOf : List (Nat × Value) → FE
  | [] => fun _ => undef
  | (t, v) :: r => fun i => bif Nat.beq i t then v else envOf r i
def maskF (keep : Option (List Tmp)) (g : FE) : FE :=
  match keep with
  | none => g
  | some l => envOf (l.map fun t => (t, g t))
def wpL (T : Table) (n : Nat) (keep : Option (List Tmp)) (c : ACode) (g : FE) (H : AHeap) (Q : AExit → FE → AHeap → Prop) : Prop :=
  ∃ k x g' H', evN T k (.loop keep c (arr n (maskF keep g))) H = some (.exit x (arr n g'), H') ∧ Q x g' H'

def wpC (T : Table) (n : Nat) : ACode → FE → AHeap → (AExit → FE → AHeap → Prop) → Prop
  | .skip, g, H, Q => Q .normal g H
  | .region ops, g, H, Q => wpO T n ops g H fun g' H' => Q .normal g' H'
  | .draw ops looks, g, H, Q => wpM T n ops g H fun l g' H' => owe (oblL n ops looks l H' (List.range ops.length)) (Q .normal g' H')
  | .seq a b, g, H, Q => wpC T n a g H fun x g' H' => seqP x (wpC T n b g' H' Q) (Q x g' H')
  | .cond c a b, g, H, Q => br (evF n g c) (wpC T n a g H Q) (wpC T n b g H Q)
  | .block id c, g, H, Q => wpC T n c g H fun x g' H' => blkP x id (Q .normal g' H') (Q x g' H')
  | .loop keep c, g, H, Q => wpL T n keep c g H Q
  | .exit id, g, H, Q => Q (.exit id) g H
  | .ret, g, H, Q => Q .ret g H

def resP (n : Nat) (g : FE) (H : AHeap) (r : ARes) (K : Value → Prop) : Prop :=
  match r with
  | .tmp t => K (evF n g (.tmp t))
  | .cell t none => opt (rd H (evF n g (.tmp t))) K
  | .cell t (some m) => opt (rdN H m (evF n g (.tmp t))) fun vs => K (.agg vs)
def ressP (n : Nat) (g : FE) (H : AHeap) : List ARes → List Value → (List Value → Prop) → Prop
  | [], acc, K => K acc
  | r :: rs, acc, K => resP n g H r fun v => ressP n g H rs (acc ++ [v]) K
def tupV : List Value → Value
  | [v] => v
  | vs => .tuple vs.toArray
def argF (args : Array Value) : FE := fun i => args.getD i undef
/-- A function's text. -/
def fnP (T : Table) (f : FuncId) (args : Array Value) (H : AHeap) (Q : Value → AHeap → Prop) : Prop :=
  match T.prim f, T.fn f with
  | none, some af => bif Nat.ble args.size af.ntmps then wpC T af.ntmps af.body (argF args) H fun x g' H' => retP x (ressP af.ntmps g' H' af.results [] fun vs => Q (tupV vs) H') else False
  | _, _ => False

/-! ## it is sound -/
def One (call : CallT) (n : Nat) (o : AOper) (g : FE) (H : AHeap) (v : Option Value) (g' : FE) (H' : AHeap) : Prop :=
  (wants (arr n g) o.guard = some true ∧ ∃ u, v = some u ∧ doOp call o (arr n g) H = some (u, H') ∧ g' = putF n g o.dst u) ∨
  (wants (arr n g) o.guard = some false ∧ v = none ∧ H' = H ∧ g' = putF n g o.dst left)
theorem One.mono {c c' : CallT} (h : LeC c c') {n : Nat} {o : AOper} {g : FE} {H : AHeap} {v : Option Value} {g' : FE} {H' : AHeap} (h1 : One c n o g H v g' H') : One c' n o g H v g' H' := by
  rcases h1 with ⟨hw, u, h2, h3, h4⟩ | h1
  · exact .inl ⟨hw, u, h2, doOp_mono h h3, h4⟩
  · exact .inr h1

variable {T : Table} {n : Nat}

theorem st_sound {o : AOper} {g : FE} {H : AHeap} {K : Value → AHeap → Prop} (h : st T H (aStepV n g H o.op) K) : ∃ k v H', doOp (evN T k) o (arr n g) H = some (v, H') ∧ K v H' := by
  rw [aStepV_eq] at h
  obtain ⟨v, H', h1, h⟩ := h
  unfold stR at h1
  unfold doOp
  split at h1
  · rename_i u H1 hs; obtain ⟨rfl, rfl⟩ := h1; exact ⟨0, _, _, by rw [hs], h⟩
  · rename_i H1 hs; obtain ⟨rfl, rfl⟩ := h1; exact ⟨0, _, _, by rw [hs], h⟩
  · rename_i f args hs
    obtain ⟨k, h1⟩ := h1
    exact ⟨k, v, H', by rw [hs]; simp only [h1], h⟩
  · exact h1.elim
theorem wp1_sound {o : AOper} {g : FE} {H : AHeap} {K : Option Value → FE → AHeap → Prop} (h : wp1 T n o g H K) : ∃ k v g' H', One (evN T k) n o g H v g' H' ∧ K v g' H' := by
  unfold wp1 at h
  split at h
  · rename_i hg
    obtain ⟨k, v, H', h1, h2⟩ := st_sound (wpOp_st h)
    exact ⟨k, some v, _, H', .inl ⟨by rw [hg]; rfl, v, rfl, h1, rfl⟩, h2⟩
  · rename_i t b hg
    rw [evF_eq] at h
    obtain ⟨o', H', h1, h⟩ := h
    unfold gdR at h1
    simp only [ev1] at h1
    split at h1
    · rename_i c hc
      by_cases e : c = b
      · obtain ⟨k, v, H2, h3, rfl, rfl⟩ := st_sound (wpOp_st (h1.1 e))
        exact ⟨k, some v, _, H2, .inl ⟨by rw [hg]; simp [wants, hc, e], v, rfl, h3, rfl⟩, h⟩
      · obtain ⟨rfl, rfl⟩ := h1.2 e
        exact ⟨0, none, _, H, .inr ⟨by rw [hg]; simp [wants, hc, e], rfl, rfl, rfl⟩, h⟩
    · rename_i hc
      obtain ⟨rfl, rfl⟩ := h1
      exact ⟨0, none, _, H, .inr ⟨by rw [hg]; simp [wants, hc], rfl, rfl, rfl⟩, h⟩
    · exact h1.elim
theorem One.ops {k : CallT} {o : AOper} {r : List AOper} {g : FE} {H : AHeap} {v : Option Value} {g' : FE} {H' : AHeap} (h : One k n o g H v g' H') : evalOps k (o :: r) (arr n g) H = evalOps k r (arr n g') H' := by
  rcases h with ⟨hw, u, rfl, hd, rfl⟩ | ⟨hw, rfl, rfl, rfl⟩
  · simp only [evalOps, hw, hd, putF_arr]
  · simp only [evalOps, hw, putF_arr]
theorem wpO_sound : ∀ (ops : List AOper) {g : FE} {H : AHeap} {K : FE → AHeap → Prop}, wpO T n ops g H K → ∃ k g' H', evalOps (evN T k) ops (arr n g) H = some (arr n g', H') ∧ K g' H'
  | [], g, H, K, h => ⟨0, g, H, rfl, h⟩
  | o :: r, g, H, K, h => by
    obtain ⟨k1, v, g1, H1, ho, hk⟩ := wp1_sound h
    obtain ⟨k2, g2, H2, h2, hq⟩ := wpO_sound r hk
    refine ⟨max k1 k2, g2, H2, ?_, hq⟩
    rw [(ho.mono (evN_mono T (Nat.le_max_left k1 k2))).ops]
    exact evalOps_mono (evN_mono T (Nat.le_max_right k1 k2)) r h2
theorem One.met {k : CallT} {o : AOper} {r : List AOper} {g : FE} {H : AHeap} {v : Option Value} {g' : FE} {H' : AHeap} (h : One k n o g H v g' H') {l : List Met} {e : Env} {H2 : AHeap}
    (hr : evalMet k r (arr n g') H' = some (l, e, H2)) : evalMet k (o :: r) (arr n g) H = some (⟨arr n g, H, v⟩ :: l, e, H2) := by
  rcases h with ⟨hw, u, rfl, hd, rfl⟩ | ⟨hw, rfl, rfl, rfl⟩
  · rw [putF_arr] at hr; simp only [evalMet, hw, hd, hr]
  · rw [putF_arr] at hr; simp only [evalMet, hw, hr]
theorem wpM_sound : ∀ (ops : List AOper) {g : FE} {H : AHeap} {K : List MetF → FE → AHeap → Prop}, wpM T n ops g H K → ∃ k l g' H', evalMet (evN T k) ops (arr n g) H = some (l.map (MetF.met n), arr n g', H') ∧ K l g' H'
  | [], g, H, K, h => ⟨0, [], g, H, rfl, h⟩
  | o :: r, g, H, K, h => by
    obtain ⟨k1, v, g1, H1, ho, hk⟩ := wp1_sound h
    obtain ⟨k2, l, g2, H2, h2, hq⟩ := wpM_sound r hk
    refine ⟨max k1 k2, ⟨g, H, v⟩ :: l, g2, H2, ?_, hq⟩
    rw [(ho.mono (evN_mono T (Nat.le_max_left k1 k2))).met (evalMet_mono (evN_mono T (Nat.le_max_right k1 k2)) r h2)]
    rfl

theorem heapAtF_eq (l : List MetF) (H : AHeap) (j : Nat) : heapAt (l.map (MetF.met n)) H j = heapAtF l H j := by
  unfold heapAt heapAtF
  rw [List.getElem?_map]
  cases l[j]? <;> rfl
theorem yl_sound {o : AOper} {m : MetF} {next H : AHeap} (h : yl n o m next H) : yields o (m.met n) next H = true := by
  unfold yl gy at h
  unfold yields
  simp only [MetF.met]
  split at h
  case h_2 hv => rw [hv]
  case h_1 v hv =>
    rw [hv]
    cases hl : isLook o.op with
    | true =>
      rw [hl] at h
      simp only [cond_true, ylk, evF_eq, aStepV_eq] at h
      simp only [↓reduceIte, Bool.and_eq_true]
      refine ⟨?_, ?_⟩
      · have := h.1
        split at this <;> simp_all
      · have := h.2
        split at this
        · rename_i u H1 hs; rw [hs]; exact this
        · exact this.elim
    | false =>
      rw [hl] at h
      simpa using h
theorem owe_all {l : List Prop} {Q : Prop} (h : owe l Q) : (∀ p ∈ l, p) ∧ Q := by
  induction l with
  | nil => exact ⟨fun p hp => (nomatch hp), h⟩
  | cons x r ih => exact ⟨fun p hp => (List.mem_cons.1 hp).elim (fun e => e ▸ h.1) ((ih h.2).1 p), (ih h.2).2⟩
theorem oblL_sound {ops : List AOper} {looks : List (List Nat)} {l : List MetF} {H : AHeap} : ∀ ks : List Nat, (∀ p ∈ oblL n ops looks l H ks, p) →
    (ks.all fun k => match ops[k]?, looks[k]?, (l.map (MetF.met n))[k]? with
      | some o, some js, some m => js.all fun j => if j < k then !isLook o.op || yields o m (heapAt (l.map (MetF.met n)) H (k + 1)) (heapAt (l.map (MetF.met n)) H j) else yields o m (heapAt (l.map (MetF.met n)) H (k + 1)) (heapAt (l.map (MetF.met n)) H (j + 1))
      | _, _, _ => false) = true
  | [], _ => rfl
  | k :: r, h => by
    rw [List.all_cons]
    unfold oblL at h
    cases ho : ops[k]? with
    | none => rw [ho] at h; exact (h False (by simp)).elim
    | some o =>
      cases hj : looks[k]? with
      | none => rw [ho, hj] at h; exact (h False (by simp)).elim
      | some js =>
        cases hl : l[k]? with
        | none => rw [ho, hj, hl] at h; exact (h False (by simp)).elim
        | some m =>
          rw [ho, hj, hl] at h
          simp only at h
          have hr := oblL_sound r fun p hp => h p (List.mem_append_right _ hp)
          rw [hr]
          simp only [List.getElem?_map, hl, Option.map_some, Bool.and_true, List.all_eq_true]
          intro j hjm
          have hp := fun p (hp : p ∈ oblK n o m l H k j) => h p (List.mem_append_left _ (List.mem_flatMap.2 ⟨j, hjm, hp⟩))
          unfold oblK at hp
          simp only [heapAtF_eq]
          by_cases hlt : j < k
          · rw [if_pos hlt]
            rw [bltT hlt] at hp
            simp only [cond_true] at hp
            cases hi : isLook o.op with
            | false => rfl
            | true =>
              rw [hi] at hp
              simp only [cond_true, List.mem_singleton, forall_eq] at hp
              simp only [Bool.not_true, Bool.false_or]
              exact yl_sound hp
          · rw [if_neg hlt]
            rw [bltF hlt] at hp
            simp only [cond_false, List.mem_singleton, forall_eq] at hp
            exact yl_sound hp

theorem envOf_map (g : FE) (l : List Nat) (i : Nat) : envOf (l.map fun t => (t, g t)) i = if l.contains i then g i else undef := by
  induction l with
  | nil => rfl
  | cons t r ih =>
    simp only [List.map_cons, envOf, List.contains_cons]
    cases h : Nat.beq i t with
    | true => have := Nat.eq_of_beq_eq_true h; subst this; simp
    | false =>
      have hne : ¬ i = t := fun e => by subst e; simp at h
      rw [cond_false, ih]
      have : (i == t) = false := by simpa using hne
      rw [this, Bool.false_or]
theorem maskF_arr (keep : Option (List Tmp)) (g : FE) : arr n (maskF keep g) = maskOf keep (arr n g) := by
  cases keep with
  | none => rfl
  | some l =>
    apply Array.ext_getElem?
    intro i
    simp only [maskF, maskOf, arr, List.getElem?_toArray, List.getElem?_map, Array.getElem?_mapIdx]
    by_cases h : i < n
    · rw [List.getElem?_range h]
      simp only [Option.map_some, envOf_map]
    · rw [List.getElem?_eq_none (by simp; omega)]
      rfl
theorem maskF_twice (keep : Option (List Tmp)) (g : FE) : maskOf keep (arr n (maskF keep g)) = maskOf keep (arr n g) := by
  rw [← maskF_arr, ← maskF_arr]
  congr 1
  funext i
  cases keep with
  | none => rfl
  | some l =>
    simp only [maskF, envOf_map]
    split <;> rfl
theorem loop_mask {k : Nat} {keep : Option (List Tmp)} {c : ACode} {g : FE} {H : AHeap} : evN T k (.loop keep c (arr n (maskF keep g))) H = evN T k (.loop keep c (arr n g)) H := by
  cases k with
  | zero => rfl
  | succ k => simp only [evN, evBody, maskF_twice]

theorem wpC_sound : ∀ (c : ACode) {g : FE} {H : AHeap} {Q : AExit → FE → AHeap → Prop}, wpC T n c g H Q → ∃ k x g' H', evalCode (evN T k) c (arr n g) H = some (x, arr n g', H') ∧ Q x g' H' := by
  intro c
  induction c with
  | skip => exact fun h => ⟨0, _, _, _, rfl, h⟩
  | exit id => exact fun h => ⟨0, _, _, _, rfl, h⟩
  | ret => exact fun h => ⟨0, _, _, _, rfl, h⟩
  | region ops =>
    intro g H Q h
    obtain ⟨k, g', H', h1, h2⟩ := wpO_sound ops h
    exact ⟨k, _, g', H', by simp only [evalCode, h1, Option.map_some], h2⟩
  | draw ops looks =>
    intro g H Q h
    obtain ⟨k, l, g', H', h1, h2⟩ := wpM_sound ops h
    obtain ⟨ha, hq⟩ := owe_all h2
    refine ⟨k, _, g', H', ?_, hq⟩
    simp only [evalCode, evalDraw, h1]
    have := oblL_sound _ ha
    rw [if_pos (show looksOK ops looks (l.map (MetF.met n)) H' = true from this)]
    rfl
  | seq a b iha ihb =>
    intro g H Q h
    obtain ⟨k1, x, g1, H1, h1, hq⟩ := iha h
    cases x with
    | normal =>
      obtain ⟨k2, x2, g2, H2, h2, hq2⟩ := ihb hq
      refine ⟨max k1 k2, x2, g2, H2, ?_, hq2⟩
      simp only [evalCode, evalCode_mono (evN_mono T (Nat.le_max_left k1 k2)) _ h1]
      exact evalCode_mono (evN_mono T (Nat.le_max_right k1 k2)) _ h2
    | ret => exact ⟨k1, _, g1, H1, by simp only [evalCode, h1], hq⟩
    | exit i => exact ⟨k1, _, g1, H1, by simp only [evalCode, h1], hq⟩
  | cond c a b iha ihb =>
    intro g H Q h
    simp only [wpC, evF_eq] at h
    unfold br at h
    split at h
    · rename_i t ht
      cases t with
      | true => obtain ⟨k, x, g', H', h1, h2⟩ := iha (h.1 rfl); exact ⟨k, x, g', H', by simp only [evalCode, ht, h1], h2⟩
      | false => obtain ⟨k, x, g', H', h1, h2⟩ := ihb (h.2 rfl); exact ⟨k, x, g', H', by simp only [evalCode, ht, h1], h2⟩
    · exact h.elim
  | block id c ih =>
    intro g H Q h
    obtain ⟨k, x, g1, H1, h1, hq⟩ := ih h
    cases x with
    | normal => exact ⟨k, _, g1, H1, by simp only [evalCode, h1], hq⟩
    | ret => exact ⟨k, _, g1, H1, by simp only [evalCode, h1], hq⟩
    | exit i =>
      simp only [blkP] at hq
      clear ih
      by_cases e : i = id
      · subst e
        refine ⟨k, .normal, g1, H1, by simp only [evalCode, h1, ↓reduceIte], ?_⟩
        simpa using hq
      · refine ⟨k, .exit i, g1, H1, by simp only [evalCode, h1, e, ↓reduceIte], ?_⟩
        have : Nat.beq i id = false := by cases h : Nat.beq i id with | false => rfl | true => exact absurd (Nat.eq_of_beq_eq_true h) e
        rw [this] at hq
        exact hq
  | loop keep c ih =>
    intro g H Q h
    obtain ⟨k, x, g', H', h1, h2⟩ := h
    rw [loop_mask] at h1
    exact ⟨k, x, g', H', by simp only [evalCode, h1], h2⟩

/-- A loop's round. -/
theorem wpL_of {keep : Option (List Tmp)} {c : ACode} {g : FE} {H : AHeap} {Q : AExit → FE → AHeap → Prop}
    (h : wpC T n c (maskF keep g) H fun x g' H' => seqP x (wpL T n keep c g' H' Q) (Q x g' H')) : wpL T n keep c g H Q := by
  obtain ⟨k1, x, g1, H1, h1, hq⟩ := wpC_sound c h
  rw [maskF_arr] at h1
  cases x with
  | normal =>
    obtain ⟨k2, x2, g2, H2, h2, hq2⟩ := hq
    rw [loop_mask] at h2
    refine ⟨max k1 k2 + 1, x2, g2, H2, ?_, hq2⟩
    rw [loop_mask]
    simp only [evN, evBody, evalCode_mono (evN_mono T (Nat.le_max_left k1 k2)) _ h1]
    exact evN_mono T (Nat.le_max_right k1 k2) _ _ _ h2
  | ret => exact ⟨k1 + 1, _, g1, H1, by rw [loop_mask]; simp only [evN, evBody, h1], hq⟩
  | exit i => exact ⟨k1 + 1, _, g1, H1, by rw [loop_mask]; simp only [evN, evBody, h1], hq⟩

theorem resP_sound {g : FE} {H : AHeap} {r : ARes} {K : Value → Prop} (h : resP n g H r K) : ∃ v, resOf (arr n g) H r = some v ∧ K v := by
  unfold resP at h
  simp only [evF_eq] at h
  split at h
  · exact ⟨_, rfl, h⟩
  · unfold opt at h
    split at h
    · rename_i v hv; exact ⟨v, hv, h⟩
    · exact h.elim
  · unfold opt at h
    split at h
    · rename_i v hv; exact ⟨_, by simp only [resOf]; simp only [ev1] at hv; rw [hv]; rfl, h⟩
    · exact h.elim
theorem ressP_sound {g : FE} {H : AHeap} : ∀ (rs : List ARes) {acc : List Value} {K : List Value → Prop}, ressP n g H rs acc K → ∃ vs, rs.mapM (resOf (arr n g) H) = some vs ∧ K (acc ++ vs)
  | [], acc, K, h => ⟨[], rfl, by simpa [ressP] using h⟩
  | r :: rs, acc, K, h => by
    obtain ⟨v, h1, h2⟩ := resP_sound h
    obtain ⟨vs, h3, h4⟩ := ressP_sound rs h2
    refine ⟨v :: vs, ?_, by simpa using h4⟩
    rw [List.mapM_cons, h1, h3]
    rfl
theorem argF_arr {args : Array Value} (h : args.size ≤ n) : arr n (argF args) = args ++ Array.replicate (n - args.size) undef := by
  apply Array.ext_getElem?
  intro i
  simp only [arr, List.getElem?_toArray, List.getElem?_map, Array.getElem?_append, Array.getElem?_replicate]
  by_cases hi : i < n
  · rw [List.getElem?_range hi]
    simp only [Option.map_some]
    by_cases ha : i < args.size
    · rw [if_pos ha, Array.getElem?_eq_getElem ha]; simp [argF, ha]
    · rw [if_neg ha, if_pos (by omega)]; simp [argF, ha]
  · rw [List.getElem?_eq_none (by simp; omega), if_neg (by omega), if_neg (by omega)]
    rfl
theorem fn_of {f : FuncId} {args : Array Value} {H : AHeap} {Q : Value → AHeap → Prop} (h : fnP T f args H Q) : Fn T f args H Q := by
  unfold fnP at h
  split at h
  · rename_i af hp hf
    by_cases hs : args.size ≤ af.ntmps
    · rw [show Nat.ble args.size af.ntmps = true from Nat.ble_eq_true_of_le hs, cond_true] at h
      obtain ⟨k, x, g', H', h1, hq⟩ := wpC_sound _ h
      rw [argF_arr hs] at h1
      have fin : ∀ {A : Prop}, (x = .normal ∨ x = .ret) → (ressP af.ntmps g' H' af.results [] fun vs => Q (tupV vs) H') → Fn T f args H Q := by
        intro _ hx hr
        obtain ⟨vs, h3, h4⟩ := ressP_sound _ hr
        refine ⟨k + 1, tupV vs, H', ?_, by simpa using h4⟩
        have hres : resultOf (arr af.ntmps g') H' af.results = some (tupV vs) := by
          unfold resultOf
          rw [h3]
          unfold tupV
          cases vs with
          | nil => rfl
          | cons v r => cases r <;> rfl
        simp only [evN, evBody, hp, hf]
        rcases hx with rfl | rfl <;> simp only [h1, hres, Option.map_some]
      cases x with
      | normal => exact fin (A := True) (.inl rfl) hq
      | ret => exact fin (A := True) (.inr rfl) hq
      | exit i => exact hq.elim
    · have : Nat.ble args.size af.ntmps = false := by
        cases hb : Nat.ble args.size af.ntmps with
        | false => rfl
        | true => exact absurd (Nat.le_of_ble_eq_true hb) hs
      rw [this] at h
      exact h.elim
  · exact h.elim

/-! ## printed texts: loops by their number -/
def ACode.loops : ACode → List (Option (List Tmp) × ACode) → List (Option (List Tmp) × ACode)
  | .seq a b, r => a.loops (b.loops r)
  | .cond _ a b, r => a.loops (b.loops r)
  | .block _ a, r => a.loops r
  | .loop k a, r => (k, a) :: a.loops r
  | _, r => r
def nthLoop : List (Option (List Tmp) × ACode) → Nat → Option (List Tmp) × ACode
  | [], _ => (none, .skip)
  | x :: _, 0 => x
  | _ :: r, i + 1 => nthLoop r i
def afOf (T : Table) (f : FuncId) : AFun := match T.fn f with | some a => a | none => { ntmps := 0, body := .skip, results := [] }
/-- What is handed on of a frame. -/
def maskO (outs : List Nat) (g : FE) : FE := envOf (outs.map fun t => (t, g t))
/-- The loop i of a function. -/
def lpP (T : Table) (f i : Nat) (outs : List Nat) (g : FE) (H : AHeap) (Q : AExit → FE → AHeap → Prop) : Prop :=
  wpL T (afOf T f).ntmps (nthLoop ((afOf T f).body.loops []) i).1 (nthLoop ((afOf T f).body.loops []) i).2 g H fun x g' H' => Q x (maskO outs g') H'
/-- A round of it. -/
def lpB (T : Table) (f i : Nat) (outs : List Nat) (g : FE) (H : AHeap) (Q : AExit → FE → AHeap → Prop) : Prop :=
  wpC T (afOf T f).ntmps (nthLoop ((afOf T f).body.loops []) i).2 (maskF (nthLoop ((afOf T f).body.loops []) i).1 g) H fun x g' H' => seqP x (lpP T f i outs g' H' Q) (Q x (maskO outs g') H')
theorem lp_of {f i : Nat} {outs : List Nat} {g : FE} {H : AHeap} {Q : AExit → FE → AHeap → Prop} (h : lpB T f i outs g H Q) : lpP T f i outs g H Q := wpL_of h
/-- A continuation that has a name. -/
def jn {α : Sort _} (K : α) (B : α → Prop) : Prop := B K

end Go.Aev

