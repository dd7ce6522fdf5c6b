/- The evaluator's fast twin: for the kernel. Frames are tries; an operation's kind is looked up before its text is laid out. -/
import Derived.Test.YtklkahckkelglaaGreatAevS
namespace Go.Aev
open Go

/-- A frame as a trie. -/
inductive VT where
  | nil
  | node (v : Value) (l r : VT)
def VT.get : VT → Nat → Value
  | .nil, _ => undef
  | .node v l r, n =>
    match n with
    | 0 => v
    | m + 1 => bif Nat.beq (m % 2) 0 then l.get (m / 2) else r.get (m / 2)
def VT.val : VT → Value
  | .nil => undef
  | .node v _ _ => v
def VT.left : VT → VT
  | .nil => .nil
  | .node _ l _ => l
def VT.right : VT → VT
  | .nil => .nil
  | .node _ _ r => r
def VT.put : Nat → VT → Nat → Value → VT
  | 0, t, _, _ => t
  | k + 1, t, n, b =>
    match n with
    | 0 => .node b t.left t.right
    | m + 1 => bif Nat.beq (m % 2) 0 then .node t.val (t.left.put k (m / 2) b) t.right else .node t.val t.left (t.right.put k (m / 2) b)
theorem VT.get_zero (t : VT) : t.get 0 = t.val := by cases t <;> rfl
theorem VT.get_succ (t : VT) (m : Nat) : t.get (m + 1) = if m % 2 = 0 then t.left.get (m / 2) else t.right.get (m / 2) := by
  cases t with
  | nil => simp only [VT.get, VT.left, VT.right]; split <;> rfl
  | node v l r => simp only [VT.get, VT.left, VT.right, beq_even, cond_dec]
theorem VT.get_put : ∀ (k : Nat) (t : VT) (n : Nat) (b : Value) (m : Nat), n < k → (t.put k n b).get m = if m = n then b else t.get m := by
  intro k
  induction k with
  | zero => intro t n b m h; omega
  | succ k ih =>
    intro t n b m h
    cases n with
    | zero =>
      simp only [VT.put]
      cases m with
      | zero => simp [VT.get]
      | succ m => rw [if_neg (by omega), VT.get_succ, VT.get_succ]; rfl
    | succ n =>
      simp only [VT.put, beq_even, cond_dec]
      have hn : n / 2 < k := by omega
      by_cases hp : n % 2 = 0
      · rw [if_pos hp]
        cases m with
        | zero => rw [if_neg (by omega), VT.get_zero, VT.get_zero]; rfl
        | succ m =>
          rw [VT.get_succ, VT.get_succ]
          simp only [VT.left, VT.right]
          rw [ih _ _ _ _ hn]
          by_cases hq : m % 2 = 0
          · rw [if_pos hq, if_pos hq]
            by_cases he : m = n
            · rw [if_pos (by omega), if_pos (by omega)]
            · rw [if_neg (by omega), if_neg (by omega)]
          · rw [if_neg hq, if_neg hq, if_neg (by omega)]
      · rw [if_neg hp]
        cases m with
        | zero => rw [if_neg (by omega), VT.get_zero, VT.get_zero]; rfl
        | succ m =>
          rw [VT.get_succ, VT.get_succ]
          simp only [VT.left, VT.right]
          rw [ih _ _ _ _ hn]
          by_cases hq : m % 2 = 0
          · rw [if_pos hq, if_pos hq, if_neg (by omega)]
          · rw [if_neg hq, if_neg hq]
            by_cases he : m = n
            · rw [if_pos (by omega), if_pos (by omega)]
            · rw [if_neg (by omega), if_neg (by omega)]

theorem blt_false {a b : Nat} (h : ¬ a < b) : Nat.blt a b = false := by
  cases e : Nat.blt a b with
  | false => rfl
  | true => exact absurd (by simpa using e) h
theorem blt_true {a b : Nat} (h : a < b) : Nat.blt a b = true := by simpa using h

structure QEnv where
  n : Nat
  tr : VT
def QEnv.get (q : QEnv) (t : Nat) : Value := bif Nat.blt t q.n then q.tr.get t else undef
def QEnv.env (q : QEnv) : Env := ((List.range q.n).map q.tr.get).toArray
theorem QEnv.getD_env (q : QEnv) (t : Nat) : q.env.getD t undef = q.get t := by
  simp only [QEnv.env, QEnv.get, Array.getD_eq_getD_getElem?, List.getElem?_toArray, List.getElem?_map]
  by_cases h : t < q.n
  · rw [List.getElem?_range h, blt_true h]
    rfl
  · rw [List.getElem?_eq_none (by simp; omega), blt_false h]
    rfl
theorem QEnv.size_env (q : QEnv) : q.env.size = q.n := by simp [QEnv.env]
def putQ (q : QEnv) (dst : Option Tmp) (v : Value) : QEnv :=
  match dst with
  | some d => bif Nat.blt d q.n then { q with tr := q.tr.put (d + 1) d v } else q
  | none => q
theorem putQ_env (q : QEnv) (dst : Option Tmp) (v : Value) : (putQ q dst v).env = put q.env dst v := by
  cases dst with
  | none => rfl
  | some d =>
    apply Array.ext_getElem?
    intro i
    simp only [putQ, put, Array.getElem?_setIfInBounds, QEnv.size_env]
    by_cases h : d < q.n
    · rw [blt_true h]
      simp only [cond_true, QEnv.env, List.getElem?_toArray, List.getElem?_map]
      by_cases hi : i < q.n
      · rw [List.getElem?_range hi]
        simp only [Option.map_some, VT.get_put _ _ _ _ _ (Nat.lt_succ_self d)]
        by_cases e : d = i
        · subst e; simp [h]
        · rw [if_neg (Ne.symm e), if_neg e]
      · rw [List.getElem?_eq_none (by simp; omega)]
        simp only [Option.map_none]
        rw [if_neg (show ¬ d = i from fun e => hi (by rw [← e]; exact h))]
    · rw [blt_false h]
      simp only [cond_false]
      by_cases e : d = i
      · subst e
        rw [if_pos rfl, if_neg h]
        simp [QEnv.env, h]
      · rw [if_neg e]

def qv (q : QEnv) : Operand → Value
  | .tmp t => q.get t
  | .const v => v
  | .global g => .pointer (some ⟨g, 0, none⟩)
  | .func f => .func (.func f) #[] #[]
theorem qv_eq (q : QEnv) : qv q = ev1 q.env := funext fun x => by
  cases x with
  | tmp t => exact (q.getD_env t).symm
  | const v => rfl
  | global g => rfl
  | func f => rfl
def boundQ (q : QEnv) (d : Nat) : Option Operand → Option Nat
  | none => some d
  | some x => match qv q x with
    | .int _ i => if 0 ≤ i then some i.toNat else none
    | _ => none
theorem boundQ_eq (q : QEnv) : boundQ q = bound q.env := funext fun d => funext fun x => by
  cases x with
  | none => rfl
  | some y =>
    simp only [boundQ, bound, qv_eq]
    rfl


def q_move (x : Operand) (q : QEnv) (H : AHeap) : Option Res := some (.val (qv q x) H)
def q_pick (c : Operand) (a : Operand) (b : Operand) (q : QEnv) (H : AHeap) : Option Res := match qv q c with
    | .bool t => some (.val (if t then qv q a else qv q b) H)
    | _ => none
def q_new (e : TypeId) (cs : Array Value) (q : QEnv) (H : AHeap) : Option Res := some (.val (.pointer (some ⟨H.next, 0, none⟩)) (H.push (.cells cs e false)))
def q_box (e : TypeId) (x : Operand) (q : QEnv) (H : AHeap) : Option Res :=
    let v := qv q x
    if v.cells.all isCell then some (.val (.pointer (some ⟨H.next, 0, none⟩)) (H.push (.cells v.cells e false))) else none
def q_build (zero : Array Value) (places : Array (Nat × Nat)) (parts : List (Nat × Operand)) (q : QEnv) (H : AHeap) : Option Res :=
    let ps := parts.map fun (i, x) => (i, qv q x)
    if ps.all (fun p => p.2.cells.all isCell) then
      match Instr.fill (fun i => places[i]?) zero ps with
      | some cs => some (.val (.agg cs) H)
      | none => none
    else none
def q_buildArr (zero : Array Value) (size : Nat) (parts : List (Nat × Operand)) (q : QEnv) (H : AHeap) : Option Res :=
    let ps := parts.map fun (i, x) => (i, qv q x)
    if ps.all (fun p => p.2.cells.all isCell) then
      match Instr.fill (fun i => some (i * size, size)) zero ps with
      | some cs => some (.val (.agg cs) H)
      | none => none
    else none
def q_buildSlice (e : TypeId) (size : Nat) (len : Nat) (cells : Array Value) (parts : List (Nat × Operand)) (q : QEnv) (H : AHeap) : Option Res :=
    let ps := parts.map fun (i, x) => (i, qv q x)
    if ps.all (fun p => p.2.cells.all isCell) then
      match Instr.fill (fun i => some (i * size, size)) cells ps with
      | some cs => some (.val (.slice (some ⟨H.next, 0, none⟩) len len) (H.push (.cells cs e false)))
      | none => none
    else none
def q_load (x : Operand) (q : QEnv) (H : AHeap) : Option Res := (rd H (qv q x)).map fun v => .val v H
def q_loadN (n : Nat) (x : Operand) (q : QEnv) (H : AHeap) : Option Res := (rdN H n (qv q x)).map fun vs => .val (.agg vs) H
def q_store (n : Nat) (x : Operand) (v : Operand) (q : QEnv) (H : AHeap) : Option Res :=
    let y := qv q v
    if y.cells.size = n then (wr H y.cells (qv q x)).map fun H' => .unit H' else none
def q_nilCheck (x : Operand) (q : QEnv) (H : AHeap) : Option Res := match qv q x with
    | .pointer (some a) => some (.val (.pointer (some a)) H)
    | .func (.func f) a b => some (.val (.func (.func f) a b) H)
    | _ => none
def q_bin (op : BinOp) (x : Operand) (y : Operand) (q : QEnv) (H : AHeap) : Option Res := (aBin op (qv q x) (qv q y)).map fun v => .val v H
def q_eq (neg : Bool) (k : EqK) (x : Operand) (y : Operand) (q : QEnv) (H : AHeap) : Option Res := (aEq k (qv q x) (qv q y)).map fun b => .val (.bool (if neg then !b else b)) H
def q_un (op : UnOp) (x : Operand) (q : QEnv) (H : AHeap) : Option Res := match op, qv q x with
    | .neg, .int k n => some (.val (.int k (k.wrap (0 - n))) H)
    | .xor, .int k n => some (.val (aBits k (· ^^^ ·) (if k.signed then -1 else k.max) n) H)
    | .not, .bool b => some (.val (.bool !b) H)
    | _, _ => none
def q_toInt (k : IntKind) (x : Operand) (q : QEnv) (H : AHeap) : Option Res := match qv q x with
    | .int _ n => some (.val (.int k (k.wrap n)) H)
    | _ => none
def q_sameStr (x : Operand) (q : QEnv) (H : AHeap) : Option Res := match qv q x with
    | .string s => some (.val (.string s) H)
    | _ => none
def q_bytesStr (x : Operand) (q : QEnv) (H : AHeap) : Option Res := match qv q x with
    | .slice _ 0 _ => some (.val (.string .empty) H)
    | .slice (some a) n _ => match rdN H n (.pointer (some a)) with
      | some vs => (u8s vs.toList).map fun ns => .val (.string (ns.foldl (fun r n => r.push (UInt8.ofNat n.toNat)) ByteArray.empty)) H
      | none => none
    | _ => none
def q_makeFunc (f : FuncId) (first : List Operand) (captured : List Operand) (q : QEnv) (H : AHeap) : Option Res := some (.val (.func (.func f) (first.map (qv q)).toArray (captured.map (qv q)).toArray) H)
def q_makeMap  (q : QEnv) (H : AHeap) : Option Res := some (.val (.map (some H.next)) (H.push (.map #[] 0)))
def q_makeSlice (e : TypeId) (size : Nat) (bytes : Nat) (zero : Array Value) (l : Operand) (c : Operand) (q : QEnv) (H : AHeap) : Option Res := match qv q l, qv q c with
    | .int _ n, .int _ m =>
      if n = m ∧ 0 ≤ n ∧ n * bytes ≤ 140737488355328 ∧ n ≤ 140737488355328 then
        some (.val (.slice (some ⟨H.next, 0, none⟩) n.toNat n.toNat) (H.push (.cells ((List.replicate n.toNat zero.toList).flatten).toArray e false)))
      else none
    | _, _ => none
def q_sliceStr (x : Operand) (lo : Option Operand) (hi : Option Operand) (q : QEnv) (H : AHeap) : Option Res := match qv q x with
    | .string s => match boundQ q 0 lo, boundQ q s.size hi with
      | some l, some h => if l ≤ h ∧ h ≤ s.size then some (.val (.string (s.extract l h)) H) else none
      | _, _ => none
    | _ => none
def q_sliceSl (size : Nat) (x : Operand) (lo : Option Operand) (hi : Option Operand) (mx : Option Operand) (q : QEnv) (H : AHeap) : Option Res := match qv q x with
    | .slice a n c => match boundQ q 0 lo, boundQ q n hi, boundQ q n mx with
      | some l, some h, some m =>
        if l ≤ h ∧ h ≤ m ∧ m ≤ n then
          match mx with
          | none => some (.val (cut a size l h (c == n && h == n)) H)
          | some _ => some (.val (cut a size l h (h == m)) H)
        else none
      | _, _, _ => none
    | _ => none
def q_sliceArr (len : Nat) (size : Nat) (x : Operand) (lo : Option Operand) (hi : Option Operand) (q : QEnv) (H : AHeap) : Option Res := match qv q x with
    | .pointer (some ⟨b, o, none⟩) => match boundQ q 0 lo, boundQ q len hi with
      | some l, some h => if l ≤ h ∧ h ≤ len then some (.val (cut (some ⟨b, o, none⟩) size l h (h == len)) H) else none
      | _, _ => none
    | _ => none
def q_off (n : Nat) (x : Operand) (q : QEnv) (H : AHeap) : Option Res := (addOff n (qv q x)).map fun v => .val v H
def q_field (o : Nat) (x : Operand) (q : QEnv) (H : AHeap) : Option Res := match qv q x with
    | .agg cs => (cs[o]?).map fun v => .val v H
    | _ => none
def q_fieldN (o : Nat) (n : Nat) (x : Operand) (q : QEnv) (H : AHeap) : Option Res := match qv q x with
    | .agg cs => some (.val (.agg (cs.extract o (o + n))) H)
    | _ => none
def q_ixArr (len : Nat) (size : Nat) (x : Operand) (i : Operand) (q : QEnv) (H : AHeap) : Option Res := match qv q x, qv q i with
    | .pointer (some ⟨b, o, none⟩), .int _ j => if 0 ≤ j ∧ j < len then some (.val (.pointer (some ⟨b, o + j.toNat * size, none⟩)) H) else none
    | _, _ => none
def q_ixSl (size : Nat) (x : Operand) (i : Operand) (q : QEnv) (H : AHeap) : Option Res := match qv q x, qv q i with
    | .slice (some ⟨b, o, none⟩) n _, .int _ j => if 0 ≤ j ∧ j < n then some (.val (.pointer (some ⟨b, o + j.toNat * size, none⟩)) H) else none
    | _, _ => none
def q_ixStr (x : Operand) (i : Operand) (q : QEnv) (H : AHeap) : Option Res := match qv q x, qv q i with
    | .string s, .int _ j => if 0 ≤ j then (s[j.toNat]?).map fun b => .val (.int .u8 b.toNat) H else none
    | _, _ => none
def q_ixAgg (len : Nat) (x : Operand) (i : Operand) (q : QEnv) (H : AHeap) : Option Res := match qv q x, qv q i with
    | .agg cs, .int _ j => if 0 ≤ j ∧ j < len then (cs[j.toNat]?).map fun v => .val v H else none
    | _, _ => none
def q_lookup (key : KeyK) (zero : Value) (ok : Bool) (m : Operand) (k : Operand) (q : QEnv) (H : AHeap) : Option Res :=
    let kv := qv q k
    if keyOK key kv then
      match qv q m with
      | .map none => some (.val (if ok then .tuple #[zero, .bool false] else zero) H)
      | m => match mapAt H m with
        | some (es, _) => match findK key kv es.toList 0 with
          | some (some (_, v)) => some (.val (if ok then .tuple #[v, .bool true] else v) H)
          | some none => some (.val (if ok then .tuple #[zero, .bool false] else zero) H)
          | none => none
        | none => none
    else none
def q_update (key : KeyK) (m : Operand) (k : Operand) (v : Operand) (q : QEnv) (H : AHeap) : Option Res :=
    let kv := qv q k
    let x := qv q v
    if keyOK key kv && known x then
      match qv q m with
      | .map (some r) => match mapAt H (.map (some r)) with
        | some (es, clock) => match findK key kv es.toList 0 with
          | some (some (i, _)) => some (.unit (H.set r (.map (es.modify i fun e => { e with key := kv, val := x }) clock)))
          | some none => some (.unit (H.set r (.map (es.push { key := kv, val := x, born := clock }) (clock + 1))))
          | none => none
        | none => none
      | _ => none
    else none
def q_extract (x : Operand) (i : Nat) (q : QEnv) (H : AHeap) : Option Res := match qv q x with
    | .tuple vs => (vs[i]?).map fun v => .val v H
    | _ => none
def q_call (f : FuncId) (args : List Operand) (q : QEnv) (H : AHeap) : Option Res := some (.call f (args.map (qv q)).toArray)
def q_callV (x : Operand) (args : List Operand) (q : QEnv) (H : AHeap) : Option Res := match qv q x with
    | .func (.func f) first captured => some (.call f (first ++ (args.map (qv q)).toArray ++ captured))
    | _ => none
def q_aload (k : IntKind) (x : Operand) (q : QEnv) (H : AHeap) : Option Res := match rd H (qv q x) with
    | some (.int k' n) => if k = k' then some (.val (.int k n) H) else none
    | _ => none
def q_astore (x : Operand) (v : Operand) (q : QEnv) (H : AHeap) : Option Res := match qv q v with
    | .int k n => (wr H #[.int k n] (qv q x)).map fun H' => .val (.tuple #[]) H'
    | _ => none
def q_acas (k : IntKind) (x : Operand) (old : Operand) (now : Operand) (q : QEnv) (H : AHeap) : Option Res := match rd H (qv q x), qv q old, qv q now with
    | some (.int k' n), .int k1 o, .int k2 m =>
      if k = k' ∧ k = k1 ∧ k = k2 then
        match wr H #[.int k m] (qv q x) with
        | some H' => if n == o then some (.val (.bool true) H') else some (.val (.bool false) H)
        | none => none
      else none
    | _, _, _ => none
def q_aadd (k : IntKind) (x : Operand) (y : Operand) (q : QEnv) (H : AHeap) : Option Res := match rd H (qv q x), qv q y with
    | some (.int k' n), .int k1 m =>
      if k = k' ∧ k = k1 then (wr H #[.int k (k.wrap (n + m))] (qv q x)).map fun H' => .val (.int k (k.wrap (n + m))) H'
      else none
    | _, _ => none
def q_append (e : TypeId) (size : Nat) (bytes : Nat) (a : Operand) (b : Operand) (q : QEnv) (H : AHeap) : Option Res := match qv q a, qv q b with
    | .slice base n c, .slice src m _ =>
      let news := match src with
        | none => some #[]
        | some s => rdN H (m * size) (.pointer (some s))
      match news with
      | none => none
      | some vs =>
        if vs.size ≠ m * size then none else
        if m = 0 then some (.val (.slice base n c) H) else
        if ¬ ((n + m) * bytes ≤ 140737488355328 ∧ n + m ≤ 140737488355328 ∧ vs.all isCell = true) then none else
        match base with
        | none => some (.val (.slice (some ⟨H.next, 0, none⟩) m (m + 1)) (H.push (.cells vs e false)))
        | some ad => match rdN H (n * size) (.pointer (some ad)) with
          | none => none
          | some olds =>
            if c = n then some (.val (.slice (some ⟨H.next, 0, none⟩) (n + m) (n + m + 1)) (H.push (.cells (olds ++ vs) e false)))
            else match H.get ad.block, ad.off with
              | some (.cells cs e' false), 0 =>
                if c = n + 1 ∧ n ≠ 0 ∧ e' = e ∧ cs.size = n * size then some (.val (.slice (some ⟨H.next, 0, none⟩) (n + m) (n + m + 1)) ((H.push (.cells (olds ++ vs) e false)).set ad.block .gone))
                else none
              | _, _ => none
    | _, _ => none
def q_lenStr (x : Operand) (q : QEnv) (H : AHeap) : Option Res := match qv q x with
    | .string s => some (.val (goInt s.size) H)
    | _ => none
def q_lenSl (x : Operand) (q : QEnv) (H : AHeap) : Option Res := match qv q x with
    | .slice _ n _ => some (.val (goInt n) H)
    | _ => none
def q_lenMap (x : Operand) (q : QEnv) (H : AHeap) : Option Res := match qv q x with
    | .map none => some (.val (goInt 0) H)
    | m => (mapAt H m).map fun p => .val (goInt p.1.size) H
def q_lenArr (n : Nat) (q : QEnv) (H : AHeap) : Option Res := some (.val (goInt n) H)
def q_delete (key : KeyK) (m : Operand) (k : Operand) (q : QEnv) (H : AHeap) : Option Res :=
    let kv := qv q k
    if keyOK key kv then
      match qv q m with
      | .map none => some (.val (.tuple #[]) H)
      | .map (some r) => match mapAt H (.map (some r)) with
        | some (es, clock) => match findK key kv es.toList 0 with
          | some (some (i, _)) => some (.val (.tuple #[]) (H.set r (.map (es.eraseIdxIfInBounds i) clock)))
          | some none => some (.val (.tuple #[]) H)
          | none => none
        | none => none
      | _ => none
    else none
def q_clearMap (m : Operand) (q : QEnv) (H : AHeap) : Option Res := match qv q m with
    | .map none => some (.val (.tuple #[]) H)
    | .map (some r) => match mapAt H (.map (some r)) with
      | some (_, clock) => some (.val (.tuple #[]) (H.set r (.map #[] clock)))
      | none => none
    | _ => none
def q_clearSl (zero : Array Value) (x : Operand) (q : QEnv) (H : AHeap) : Option Res := match qv q x with
    | .slice _ 0 _ => some (.val (.tuple #[]) H)
    | .slice (some a) n _ => (wr H ((List.replicate n zero.toList).flatten).toArray (.pointer (some a))).map fun H' => .val (.tuple #[]) H'
    | _ => none
def q_rangeMap (x : Operand) (q : QEnv) (H : AHeap) : Option Res := match qv q x with
    | .map m => match m with
      | none => some (.val (.pointer (some ⟨H.next, 0, none⟩)) (H.push (.iter none 0 #[] 0)))
      | some r => match mapAt H (.map (some r)) with
        | some (_, clock) => some (.val (.pointer (some ⟨H.next, 0, none⟩)) (H.push (.iter (some r) clock #[] clock)))
        | none => none
    | _ => none
def q_nextMap (x : Operand) (q : QEnv) (H : AHeap) : Option Res := match qv q x with
    | .pointer (some ⟨b, 0, none⟩) => match H.get b with
      | some (.iter none _ _ _) => some (.val (.tuple #[.bool false]) H)
      | some (.iter (some r) since seen last) => match mapAt H (.map (some r)) with
        | some (es, clock) =>
          if !seen.isEmpty && !es.toList.isEmpty && es.toList.all (fun e => e.born ≥ last) then none else
          match es.toList.filter fun e => !seen.contains e.born with
          | [] => some (.val (.tuple #[.bool false]) H)
          | [e] => if e.born < since then some (.val (.tuple #[.bool true, e.key, e.val]) (H.set b (.iter (some r) since (seen.push e.born) clock))) else none
          | _ => none
        | none => none
      | _ => none
    | _ => none
def q_entryMap (x : Operand) (q : QEnv) (H : AHeap) : Option Res := match qv q x with
    | .pointer (some ⟨b, 0, none⟩) => match H.get b with
      | some (.iter (some r) _ seen last) => match mapAt H (.map (some r)), seen.back? with
        | some (es, clock), some stamp =>
          if clock = last then match es.toList.find? fun e => e.born == stamp with
            | some e => some (.val (.tuple #[e.key, e.val]) H)
            | none => none
          else none
        | _, _ => none
      | _ => none
    | _ => none
def q_stop  (q : QEnv) (H : AHeap) : Option Res := none
def q_minI (x : Operand) (y : Operand) (q : QEnv) (H : AHeap) : Option Res := match qv q x, qv q y with
    | .int k a, .int _ b => some (.val (.int k (if b < a then b else a)) H)
    | _, _ => none
def q_maxI (x : Operand) (y : Operand) (q : QEnv) (H : AHeap) : Option Res := match qv q x, qv q y with
    | .int k a, .int _ b => some (.val (.int k (if b > a then b else a)) H)
    | _, _ => none

/-- One operation, its kind looked up first. -/
def aStepQ (op : AOp) : QEnv → AHeap → Option Res :=
  match op with
  | .move x => q_move x
  | .pick c a b => q_pick c a b
  | .new e cs => q_new e cs
  | .box e x => q_box e x
  | .build zero places parts => q_build zero places parts
  | .buildArr zero size parts => q_buildArr zero size parts
  | .buildSlice e size len cells parts => q_buildSlice e size len cells parts
  | .load x => q_load x
  | .loadN n x => q_loadN n x
  | .store n x v => q_store n x v
  | .nilCheck x => q_nilCheck x
  | .bin op x y => q_bin op x y
  | .eq neg k x y => q_eq neg k x y
  | .un op x => q_un op x
  | .toInt k x => q_toInt k x
  | .sameStr x => q_sameStr x
  | .bytesStr x => q_bytesStr x
  | .makeFunc f first captured => q_makeFunc f first captured
  | .makeMap  => q_makeMap 
  | .makeSlice e size bytes zero l c => q_makeSlice e size bytes zero l c
  | .sliceStr x lo hi => q_sliceStr x lo hi
  | .sliceSl size x lo hi mx => q_sliceSl size x lo hi mx
  | .sliceArr len size x lo hi => q_sliceArr len size x lo hi
  | .off n x => q_off n x
  | .field o x => q_field o x
  | .fieldN o n x => q_fieldN o n x
  | .ixArr len size x i => q_ixArr len size x i
  | .ixSl size x i => q_ixSl size x i
  | .ixStr x i => q_ixStr x i
  | .ixAgg len x i => q_ixAgg len x i
  | .lookup key zero ok m k => q_lookup key zero ok m k
  | .update key m k v => q_update key m k v
  | .extract x i => q_extract x i
  | .call f args => q_call f args
  | .callV x args => q_callV x args
  | .aload k x => q_aload k x
  | .astore x v => q_astore x v
  | .acas k x old now => q_acas k x old now
  | .aadd k x y => q_aadd k x y
  | .append e size bytes a b => q_append e size bytes a b
  | .lenStr x => q_lenStr x
  | .lenSl x => q_lenSl x
  | .lenMap x => q_lenMap x
  | .lenArr n => q_lenArr n
  | .delete key m k => q_delete key m k
  | .clearMap m => q_clearMap m
  | .clearSl zero x => q_clearSl zero x
  | .rangeMap x => q_rangeMap x
  | .nextMap x => q_nextMap x
  | .entryMap x => q_entryMap x
  | .stop  => q_stop 
  | .minI x y => q_minI x y
  | .maxI x y => q_maxI x y
theorem aStepQ_eq (op : AOp) (q : QEnv) (H : AHeap) : aStepQ op q H = aStep q.env H op := by
  cases op <;> simp only [aStepQ, aStep, q_move, q_pick, q_new, q_box, q_build, q_buildArr, q_buildSlice, q_load, q_loadN, q_store, q_nilCheck, q_bin, q_eq, q_un, q_toInt, q_sameStr, q_bytesStr, q_makeFunc, q_makeMap, q_makeSlice, q_sliceStr, q_sliceSl, q_sliceArr, q_off, q_field, q_fieldN, q_ixArr, q_ixSl, q_ixStr, q_ixAgg, q_lookup, q_update, q_extract, q_call, q_callV, q_aload, q_astore, q_acas, q_aadd, q_append, q_lenStr, q_lenSl, q_lenMap, q_lenArr, q_delete, q_clearMap, q_clearSl, q_rangeMap, q_nextMap, q_entryMap, q_stop, q_minI, q_maxI, qv_eq, boundQ_eq] <;> rfl

/-! the evaluator, over such frames -/
inductive EntryQ where
  | fn (f : FuncId) (args : Array Value)
  | loop (c : ACode) (env : QEnv)
inductive OutQ where
  | val (v : Value)
  | exit (e : AExit) (env : QEnv)
abbrev CallQ := EntryQ → AHeap → Option (OutQ × AHeap)

def wantsQ (q : QEnv) : Option (Tmp × Bool) → Option Bool
  | none => some true
  | some (t, b) => match q.get t with
    | .bool c => some (c == b)
    | .nilIface => some false
    | _ => none
theorem wantsQ_eq (q : QEnv) (g : Option (Tmp × Bool)) : wantsQ q g = wants q.env g := by
  cases g with
  | none => rfl
  | some g =>
    obtain ⟨t, b⟩ := g
    simp only [wantsQ, wants, QEnv.getD_env]
    rfl

def doOpQ (call : CallQ) (o : AOper) (q : QEnv) (H : AHeap) : Option (Value × AHeap) :=
  match aStepQ o.op q H with
  | some (.val v H') => some (v, H')
  | some (.unit H') => some (undef, H')
  | some (.call f args) => match call (.fn f args) H with
    | some (.val v, H') => some (v, H')
    | _ => none
  | none => none
def evalOpsQ (call : CallQ) : List AOper → QEnv → AHeap → Option (QEnv × AHeap)
  | [], q, H => some (q, H)
  | o :: r, q, H =>
    match wantsQ q o.guard with
    | some true =>
      match doOpQ call o q H with
      | some (v, H') => evalOpsQ call r (putQ q o.dst v) H'
      | none => none
    | some false => evalOpsQ call r (putQ q o.dst left) H
    | none => none

structure MetQ where
  env : QEnv
  heap : AHeap
  val : Option Value
def MetQ.met (m : MetQ) : Met := ⟨m.env.env, m.heap, m.val⟩
def evalMetQ (call : CallQ) : List AOper → QEnv → AHeap → Option (List MetQ × QEnv × AHeap)
  | [], q, H => some ([], q, H)
  | o :: r, q, H =>
    match wantsQ q o.guard with
    | some true =>
      match doOpQ call o q H with
      | some (v, H') => match evalMetQ call r (putQ q o.dst v) H' with
        | some (l, e, h) => some (⟨q, H, some v⟩ :: l, e, h)
        | none => none
      | none => none
    | some false => match evalMetQ call r (putQ q o.dst left) H with
      | some (l, e, h) => some (⟨q, H, none⟩ :: l, e, h)
      | none => none
    | none => none
def heapAtQ (l : List MetQ) (H : AHeap) (j : Nat) : AHeap := match l[j]? with | some m => m.heap | none => H
def yieldsQ (o : AOper) (m : MetQ) (next : AHeap) (H : AHeap) : Bool :=
  match m.val with
  | none => true
  | some v =>
    if isLook o.op then
      (match ptrOf (qv m.env (lookOpd o.op)) with | some b => b < H.next | none => true) &&
      (match aStepQ o.op m.env H with
       | some (.val u _) => sameV u v
       | _ => false)
    else sameB (H.get m.heap.next) (next.get m.heap.next)
def looksOKQ (ops : List AOper) (looks : List (List Nat)) (l : List MetQ) (H : AHeap) : Bool :=
  (List.range ops.length).all fun k =>
    match ops[k]?, looks[k]?, l[k]? with
    | some o, some js, some m => js.all fun j => if j < k then !isLook o.op || yieldsQ o m (heapAtQ l H (k + 1)) (heapAtQ l H j) else yieldsQ o m (heapAtQ l H (k + 1)) (heapAtQ l H (j + 1))
    | _, _, _ => false
def allNil : List (List Nat) → Bool
  | [] => true
  | l :: r => l.isEmpty && allNil r
def evalDrawQ (call : CallQ) (ops : List AOper) (looks : List (List Nat)) (q : QEnv) (H : AHeap) : Option (QEnv × AHeap) :=
  match evalMetQ call ops q H with
  | some (l, e, h) => if looksOKQ ops looks l h then some (e, h) else none
  | none => none

def evalCodeQ (call : CallQ) : ACode → QEnv → AHeap → Option (AExit × QEnv × AHeap)
  | .skip, q, H => some (.normal, q, H)
  | .region ops, q, H => match evalOpsQ call ops q H with
    | some (e, H') => some (.normal, e, H')
    | none => none
  | .draw ops looks, q, H => match evalDrawQ call ops looks q H with
    | some (e, H') => some (.normal, e, H')
    | none => none
  | .seq a b, q, H =>
    match evalCodeQ call a q H with
    | some (.normal, q', H') => evalCodeQ call b q' H'
    | r => r
  | .cond c a b, q, H =>
    match qv q c with
    | .bool true => evalCodeQ call a q H
    | .bool false => evalCodeQ call b q H
    | _ => none
  | .block id c, q, H =>
    match evalCodeQ call c q H with
    | some (.exit i, q', H') => if i = id then some (.normal, q', H') else some (.exit i, q', H')
    | r => r
  | .loop keep c, q, H =>
    match keep with
    | none => match call (.loop c q) H with
      | some (.exit x q', H') => some (x, q', H')
      | _ => none
    | some _ => none
  | .exit id, q, H => some (.exit id, q, H)
  | .ret, q, H => some (.ret, q, H)

def resOfQ (q : QEnv) (H : AHeap) : ARes → Option Value
  | .tmp t => some (q.get t)
  | .cell t none => rd H (q.get t)
  | .cell t (some n) => (rdN H n (q.get t)).map .agg
def resultOfQ (q : QEnv) (H : AHeap) (rs : List ARes) : Option Value :=
  match rs.mapM (resOfQ q H) with
  | some [v] => some v
  | some vs => some (.tuple vs.toArray)
  | none => none

def startTr : List Value → Nat → VT → VT
  | [], _, t => t
  | v :: r, i, t => startTr r (i + 1) (t.put (i + 1) i v)
/-- A function's first frame. -/
def startQ (args : Array Value) (ntmps : Nat) : QEnv := ⟨args.size + (ntmps - args.size), startTr args.toList 0 .nil⟩

def evBodyQ (T : Table) (call : CallQ) : EntryQ → AHeap → Option (OutQ × AHeap)
  | .fn f args, H =>
    match T.prim f with
    | some p => match p args H with
      | some (v, H') => some (.val v, H')
      | none => none
    | none =>
      match T.fn f with
      | some af =>
        match evalCodeQ call af.body (startQ args af.ntmps) H with
        | some (.normal, q, H') => match resultOfQ q H' af.results with
          | some v => some (.val v, H')
          | none => none
        | some (.ret, q, H') => match resultOfQ q H' af.results with
          | some v => some (.val v, H')
          | none => none
        | _ => none
      | none => none
  | .loop c q, H =>
    match evalCodeQ call c q H with
    | some (.normal, q', H') => call (.loop c q') H'
    | some (x, q', H') => some (.exit x q', H')
    | none => none
def evQ (T : Table) : Nat → CallQ
  | 0 => fun _ _ => none
  | k + 1 => evBodyQ T (evQ T k)

end Go.Aev

