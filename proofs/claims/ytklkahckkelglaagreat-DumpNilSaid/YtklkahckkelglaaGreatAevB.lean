/- The abstract operations, what each does to the abstract heap, and the abstract evaluator. -/
import Derived.Test.YtklkahckkelglaaGreatAevA
namespace Go.Aev
open Go

abbrev Env := Array Value

/-- What may stand in one cell. -/
def isCell : Value → Bool
  | .agg _ | .tuple _ | .nilIface => false
  | _ => true
/-- Not the value of a temporary that nothing was put into. -/
def known : Value → Bool
  | .tuple vs => vs.size != 0
  | .nilIface => false
  | _ => true
/-- What is put where an operation is left out. -/
def left : Value := .nilIface

inductive EqK where
  | bool | pointer | slice | map | func | flat (offs : List (Nat × Nat))
  deriving Inhabited
inductive KeyK where
  | one (kd : Nat) | flat (offs : List (Nat × Nat))
  deriving Inhabited

inductive AOp where
  | move (x : Operand)
  | pick (c a b : Operand)
  | new (elem : TypeId) (cells : Array Value)
  | box (elem : TypeId) (x : Operand)
  | build (zero : Array Value) (places : Array (Nat × Nat)) (parts : List (Nat × Operand))
  | buildArr (zero : Array Value) (size : Nat) (parts : List (Nat × Operand))
  | buildSlice (elem : TypeId) (size len : Nat) (cells : Array Value) (parts : List (Nat × Operand))
  | load (x : Operand)
  | loadN (n : Nat) (x : Operand)
  | store (n : Nat) (x v : Operand)
  | nilCheck (x : Operand)
  | bin (op : BinOp) (x y : Operand)
  | eq (neg : Bool) (k : EqK) (x y : Operand)
  | un (op : UnOp) (x : Operand)
  | toInt (k : IntKind) (x : Operand)
  | sameStr (x : Operand)
  | bytesStr (x : Operand)
  | makeFunc (f : FuncId) (first captured : List Operand)
  | makeMap
  | makeSlice (elem : TypeId) (size bytes : Nat) (zero : Array Value) (l c : Operand)
  | sliceStr (x : Operand) (lo hi : Option Operand)
  | sliceSl (size : Nat) (x : Operand) (lo hi mx : Option Operand)
  | sliceArr (len size : Nat) (x : Operand) (lo hi : Option Operand)
  | off (n : Nat) (x : Operand)
  | field (o : Nat) (x : Operand)
  | fieldN (o n : Nat) (x : Operand)
  | ixArr (len size : Nat) (x i : Operand)
  | ixSl (size : Nat) (x i : Operand)
  | ixStr (x i : Operand)
  | ixAgg (len : Nat) (x i : Operand)
  | lookup (key : KeyK) (zero : Value) (ok : Bool) (m k : Operand)
  | update (key : KeyK) (m k v : Operand)
  | extract (x : Operand) (i : Nat)
  | call (f : FuncId) (args : List Operand)
  | callV (x : Operand) (args : List Operand)
  | aload (k : IntKind) (x : Operand)
  | astore (x v : Operand)
  | acas (k : IntKind) (x old now : Operand)
  | aadd (k : IntKind) (x y : Operand)
  | append (elem : TypeId) (size bytes : Nat) (a b : Operand)
  | lenStr (x : Operand)
  | lenSl (x : Operand)
  | lenMap (x : Operand)
  | lenArr (n : Nat)
  | delete (key : KeyK) (m k : Operand)
  | clearMap (m : Operand)
  | clearSl (zero : Array Value) (x : Operand)
  | rangeMap (x : Operand)
  | nextMap (x : Operand)
  | entryMap (x : Operand)
  | stop
  | minI (x y : Operand)
  | maxI (x y : Operand)
  deriving Inhabited

structure AOper where
  dst : Option Tmp
  op : AOp
  guard : Option (Tmp × Bool)
  deriving Inhabited

/-- What an operation comes to: a value; nothing; a call. -/
inductive Res where
  | val (v : Value) (H : AHeap)
  | unit (H : AHeap)
  | call (f : FuncId) (args : Array Value)

def ev1 (env : Env) : Operand → Value
  | .tmp t => env.getD t undef
  | .const v => v
  | .global g => .pointer (some ⟨g, 0, none⟩)
  | .func f => .func (.func f) #[] #[]

/-! memory -/
def rd (H : AHeap) : Value → Option Value
  | .pointer (some ⟨b, o, none⟩) =>
    match H.get b with
    | some (.cells c _ _) => c[o]?
    | _ => none
  | _ => none
def rdN (H : AHeap) (n : Nat) : Value → Option (Array Value)
  | .pointer (some ⟨b, o, none⟩) =>
    match H.get b with
    | some (.cells c _ _) => if o + n ≤ c.size then some (c.extract o (o + n)) else none
    | _ => none
  | _ => none
def wrL (c : Array Value) (o : Nat) : List Value → Array Value
  | [] => c
  | v :: r => wrL (c.setIfInBounds o v) (o + 1) r
def wr (H : AHeap) (vs : Array Value) : Value → Option AHeap
  | .pointer (some ⟨b, o, none⟩) =>
    match H.get b with
    | some (.cells c e false) => if o + vs.size ≤ c.size && vs.all isCell then some (H.set b (.cells (wrL c o vs.toList) e false)) else none
    | _ => none
  | _ => none
def addOff (n : Nat) : Value → Option Value
  | .pointer (some ⟨b, o, none⟩) => some (.pointer (some ⟨b, o + n, none⟩))
  | _ => none

/-! numbers, strings -/
def aBits (k : IntKind) (f : BitVec k.bits → BitVec k.bits → BitVec k.bits) (x y : Int) : Value :=
  .int k (k.wrap (f (BitVec.ofInt k.bits x) (BitVec.ofInt k.bits y)).toNat)
def aInt (op : BinOp) (k : IntKind) (x y : Int) : Option Value :=
  match op with
  | .add => some (.int k (k.wrap (x + y)))
  | .sub => some (.int k (k.wrap (x - y)))
  | .mul => some (.int k (k.wrap (x * y)))
  | .quo => if y = 0 then none else some (.int k (k.wrap (x.tdiv y)))
  | .rem => if y = 0 then none else some (.int k (x.tmod y))
  | .and => some (aBits k (· &&& ·) x y)
  | .or => some (aBits k (· ||| ·) x y)
  | .xor => some (aBits k (· ^^^ ·) x y)
  | .andNot => some (aBits k (fun a b => a &&& ~~~b) x y)
  | .eql => some (.bool (x == y))
  | .neq => some (.bool (x != y))
  | .lss => some (.bool (x < y))
  | .leq => some (.bool (x ≤ y))
  | .gtr => some (.bool (x > y))
  | .geq => some (.bool (x ≥ y))
  | _ => none
def aShift (op : BinOp) (k : IntKind) (x y : Int) : Option Value :=
  if y < 0 then none else
  match op with
  | .shl => some (.int k (k.wrap (x * 2 ^ (min y.toNat k.bits))))
  | .shr => some (.int k (x.fdiv (2 ^ (min y.toNat k.bits))))
  | _ => none
def aStr (op : BinOp) (x y : ByteArray) : Option Value :=
  match op with
  | .add => if ((x.size + y.size : Nat) : Int) > IntKind.i64.max then none else some (.string (x ++ y))
  | .eql => some (.bool (x.toList == y.toList))
  | .neq => some (.bool !(x.toList == y.toList))
  | .lss => some (.bool (Op.bytesLess x.toList y.toList))
  | .leq => some (.bool (Op.bytesLess x.toList y.toList || x.toList == y.toList))
  | .gtr => some (.bool !(Op.bytesLess x.toList y.toList || x.toList == y.toList))
  | .geq => some (.bool !Op.bytesLess x.toList y.toList)
  | _ => none
def isShift : BinOp → Bool
  | .shl | .shr => true
  | _ => false
def aBin (op : BinOp) : Value → Value → Option Value
  | .int k a, .int k' b => if isShift op then aShift op k a b else if k = k' then aInt op k a b else none
  | .string a, .string b => aStr op a b
  | _, _ => none

/-! equality -/
def eqOne (kd : Nat) (x y : Value) : Option Bool :=
  match kd, x, y with
  | 0, .bool a, .bool b => some (a == b)
  | 1, .int k a, .int k' b => if k = k' then some (a == b) else none
  | 2, .string a, .string b => some (a.toList == b.toList)
  | _, _, _ => none
def eqFlat (xs ys : Array Value) : List (Nat × Nat) → Option Bool
  | [] => some true
  | (o, kd) :: r =>
    match xs[o]?, ys[o]? with
    | some x, some y =>
      match eqOne kd x y with
      | some true => eqFlat xs ys r
      | some false => some false
      | none => none
    | _, _ => none
def aEq : EqK → Value → Value → Option Bool
  | .bool, .bool a, .bool b => some (a == b)
  | .pointer, .pointer none, .pointer b => some b.isNone
  | .pointer, .pointer (some _), .pointer none => some false
  | .slice, .slice none _ _, .slice b _ _ => some b.isNone
  | .slice, .slice (some _) _ _, .slice none _ _ => some false
  | .map, .map none, .map b => some b.isNone
  | .map, .map (some _), .map none => some false
  | .func, .nilFunc, .nilFunc => some true
  | .func, .nilFunc, .func _ _ _ => some false
  | .func, .func _ _ _, .nilFunc => some false
  | .flat offs, .agg xs, .agg ys => eqFlat xs ys offs
  | _, _, _ => none

/-! maps -/
def keyEq : KeyK → Value → Value → Option Bool
  | .one kd, x, y => eqOne kd x y
  | .flat offs, .agg xs, .agg ys => if xs.size = ys.size then eqFlat xs ys offs else none
  | _, _, _ => none
def keyOK : KeyK → Value → Bool
  | .one kd, v => (eqOne kd v v).isSome
  | .flat offs, .agg xs => (eqFlat xs xs offs).isSome && offs.map (·.1) == List.range xs.size
  | _, _ => false
def findK (key : KeyK) (k : Value) : List MapEntry → Nat → Option (Option (Nat × Value))
  | [], _ => some none
  | e :: es, i =>
    match keyEq key k e.key with
    | some true => some (some (i, e.val))
    | some false => findK key k es (i + 1)
    | none => none
def mapAt (H : AHeap) : Value → Option (Array MapEntry × Nat)
  | .map (some r) => match H.get r with
    | some (.map es clock) => some (es, clock)
    | _ => none
  | _ => none

/-! slices. A slice's cap is its len where the capacity is known to be the length ('exact'); else it is not known. -/
def bound (env : Env) (d : Nat) : Option Operand → Option Nat
  | none => some d
  | some x => match ev1 env x with
    | .int _ i => if 0 ≤ i then some i.toNat else none
    | _ => none
def cut (a : Option Addr) (size l h : Nat) (exact : Bool) : Value :=
  .slice (a.map fun (x : Addr) => { x with off := x.off + l * size }) (h - l) (if exact then h - l else h - l + 2)

def u8s : List Value → Option (List Int)
  | [] => some []
  | .int .u8 n :: r => (u8s r).map (n :: ·)
  | _ :: _ => none

/-- One operation. -/
def aStep (env : Env) (H : AHeap) : AOp → Option Res
  | .move x => some (.val (ev1 env x) H)
  | .pick c a b => match ev1 env c with
    | .bool t => some (.val (if t then ev1 env a else ev1 env b) H)
    | _ => none
  | .new e cs => some (.val (.pointer (some ⟨H.next, 0, none⟩)) (H.push (.cells cs e false)))
  | .box e x =>
    let v := ev1 env x
    if v.cells.all isCell then some (.val (.pointer (some ⟨H.next, 0, none⟩)) (H.push (.cells v.cells e false))) else none
  | .build zero places parts =>
    let ps := parts.map fun (i, x) => (i, ev1 env x)
    if ps.all (fun p => p.2.cells.all isCell) then
      match Instr.fill (fun i => places[i]?) zero ps with
      | some cs => some (.val (.agg cs) H)
      | none => none
    else none
  | .buildArr zero size parts =>
    let ps := parts.map fun (i, x) => (i, ev1 env x)
    if ps.all (fun p => p.2.cells.all isCell) then
      match Instr.fill (fun i => some (i * size, size)) zero ps with
      | some cs => some (.val (.agg cs) H)
      | none => none
    else none
  | .buildSlice e size len cells parts =>
    let ps := parts.map fun (i, x) => (i, ev1 env x)
    if ps.all (fun p => p.2.cells.all isCell) then
      match Instr.fill (fun i => some (i * size, size)) cells ps with
      | some cs => some (.val (.slice (some ⟨H.next, 0, none⟩) len len) (H.push (.cells cs e false)))
      | none => none
    else none
  | .load x => (rd H (ev1 env x)).map fun v => .val v H
  | .loadN n x => (rdN H n (ev1 env x)).map fun vs => .val (.agg vs) H
  | .store n x v =>
    let y := ev1 env v
    if y.cells.size = n then (wr H y.cells (ev1 env x)).map fun H' => .unit H' else none
  | .nilCheck x => match ev1 env x with
    | .pointer (some a) => some (.val (.pointer (some a)) H)
    | .func (.func f) a b => some (.val (.func (.func f) a b) H)
    | _ => none
  | .bin op x y => (aBin op (ev1 env x) (ev1 env y)).map fun v => .val v H
  | .eq neg k x y => (aEq k (ev1 env x) (ev1 env y)).map fun b => .val (.bool (if neg then !b else b)) H
  | .un op x => match op, ev1 env x with
    | .neg, .int k n => some (.val (.int k (k.wrap (0 - n))) H)
    | .xor, .int k n => some (.val (aBits k (· ^^^ ·) (if k.signed then -1 else k.max) n) H)
    | .not, .bool b => some (.val (.bool !b) H)
    | _, _ => none
  | .toInt k x => match ev1 env x with
    | .int _ n => some (.val (.int k (k.wrap n)) H)
    | _ => none
  | .sameStr x => match ev1 env x with
    | .string s => some (.val (.string s) H)
    | _ => none
  | .bytesStr x => match ev1 env x with
    | .slice _ 0 _ => some (.val (.string .empty) H)
    | .slice (some a) n _ => match rdN H n (.pointer (some a)) with
      | some vs => (u8s vs.toList).map fun ns => .val (.string (ns.foldl (fun r n => r.push (UInt8.ofNat n.toNat)) ByteArray.empty)) H
      | none => none
    | _ => none
  | .makeFunc f first captured => some (.val (.func (.func f) (first.map (ev1 env)).toArray (captured.map (ev1 env)).toArray) H)
  | .makeMap => some (.val (.map (some H.next)) (H.push (.map #[] 0)))
  | .makeSlice e size bytes zero l c => match ev1 env l, ev1 env c with
    | .int _ n, .int _ m =>
      if n = m ∧ 0 ≤ n ∧ n * bytes ≤ 140737488355328 ∧ n ≤ 140737488355328 then
        some (.val (.slice (some ⟨H.next, 0, none⟩) n.toNat n.toNat) (H.push (.cells ((List.replicate n.toNat zero.toList).flatten).toArray e false)))
      else none
    | _, _ => none
  | .sliceStr x lo hi => match ev1 env x with
    | .string s => match bound env 0 lo, bound env s.size hi with
      | some l, some h => if l ≤ h ∧ h ≤ s.size then some (.val (.string (s.extract l h)) H) else none
      | _, _ => none
    | _ => none
  | .sliceSl size x lo hi mx => match ev1 env x with
    | .slice a n c => match bound env 0 lo, bound env n hi, bound env n mx with
      | some l, some h, some m =>
        if l ≤ h ∧ h ≤ m ∧ m ≤ n then
          match mx with
          | none => some (.val (cut a size l h (c == n && h == n)) H)
          | some _ => some (.val (cut a size l h (h == m)) H)
        else none
      | _, _, _ => none
    | _ => none
  | .sliceArr len size x lo hi => match ev1 env x with
    | .pointer (some ⟨b, o, none⟩) => match bound env 0 lo, bound env len hi with
      | some l, some h => if l ≤ h ∧ h ≤ len then some (.val (cut (some ⟨b, o, none⟩) size l h (h == len)) H) else none
      | _, _ => none
    | _ => none
  | .off n x => (addOff n (ev1 env x)).map fun v => .val v H
  | .field o x => match ev1 env x with
    | .agg cs => (cs[o]?).map fun v => .val v H
    | _ => none
  | .fieldN o n x => match ev1 env x with
    | .agg cs => some (.val (.agg (cs.extract o (o + n))) H)
    | _ => none
  | .ixArr len size x i => match ev1 env x, ev1 env i with
    | .pointer (some ⟨b, o, none⟩), .int _ j => if 0 ≤ j ∧ j < len then some (.val (.pointer (some ⟨b, o + j.toNat * size, none⟩)) H) else none
    | _, _ => none
  | .ixSl size x i => match ev1 env x, ev1 env i with
    | .slice (some ⟨b, o, none⟩) n _, .int _ j => if 0 ≤ j ∧ j < n then some (.val (.pointer (some ⟨b, o + j.toNat * size, none⟩)) H) else none
    | _, _ => none
  | .ixStr x i => match ev1 env x, ev1 env i with
    | .string s, .int _ j => if 0 ≤ j then (s[j.toNat]?).map fun b => .val (.int .u8 b.toNat) H else none
    | _, _ => none
  | .ixAgg len x i => match ev1 env x, ev1 env i with
    | .agg cs, .int _ j => if 0 ≤ j ∧ j < len then (cs[j.toNat]?).map fun v => .val v H else none
    | _, _ => none
  | .lookup key zero ok m k =>
    let kv := ev1 env k
    if keyOK key kv then
      match ev1 env m with
      | .map none => some (.val (if ok then .tuple #[zero, .bool false] else zero) H)
      | m => match mapAt H m with
        | some (es, _) => match findK key kv es.toList 0 with
          | some (some (_, v)) => some (.val (if ok then .tuple #[v, .bool true] else v) H)
          | some none => some (.val (if ok then .tuple #[zero, .bool false] else zero) H)
          | none => none
        | none => none
    else none
  | .update key m k v =>
    let kv := ev1 env k
    let x := ev1 env v
    if keyOK key kv && known x then
      match ev1 env m with
      | .map (some r) => match mapAt H (.map (some r)) with
        | some (es, clock) => match findK key kv es.toList 0 with
          | some (some (i, _)) => some (.unit (H.set r (.map (es.modify i fun e => { e with key := kv, val := x }) clock)))
          | some none => some (.unit (H.set r (.map (es.push { key := kv, val := x, born := clock }) (clock + 1))))
          | none => none
        | none => none
      | _ => none
    else none
  | .extract x i => match ev1 env x with
    | .tuple vs => (vs[i]?).map fun v => .val v H
    | _ => none
  | .call f args => some (.call f (args.map (ev1 env)).toArray)
  | .callV x args => match ev1 env x with
    | .func (.func f) first captured => some (.call f (first ++ (args.map (ev1 env)).toArray ++ captured))
    | _ => none
  | .aload k x => match rd H (ev1 env x) with
    | some (.int k' n) => if k = k' then some (.val (.int k n) H) else none
    | _ => none
  | .astore x v => match ev1 env v with
    | .int k n => (wr H #[.int k n] (ev1 env x)).map fun H' => .val (.tuple #[]) H'
    | _ => none
  | .acas k x old now => match rd H (ev1 env x), ev1 env old, ev1 env now with
    | some (.int k' n), .int k1 o, .int k2 m =>
      if k = k' ∧ k = k1 ∧ k = k2 then
        match wr H #[.int k m] (ev1 env x) with
        | some H' => if n == o then some (.val (.bool true) H') else some (.val (.bool false) H)
        | none => none
      else none
    | _, _, _ => none
  | .aadd k x y => match rd H (ev1 env x), ev1 env y with
    | some (.int k' n), .int k1 m =>
      if k = k' ∧ k = k1 then (wr H #[.int k (k.wrap (n + m))] (ev1 env x)).map fun H' => .val (.int k (k.wrap (n + m))) H'
      else none
    | _, _ => none
  | .append e size bytes a b => match ev1 env a, ev1 env b with
    | .slice base n c, .slice src m _ =>
      let news := match src with
        | none => some #[]
        | some s => rdN H (m * size) (.pointer (some s))
      match news with
      | none => none
      | some vs =>
        if vs.size ≠ m * size then none else
        if m = 0 then some (.val (.slice base n c) H) else
        if ¬ ((n + m) * bytes ≤ 140737488355328 ∧ n + m ≤ 140737488355328 ∧ vs.all isCell = true) then none else
        match base with
        | none => some (.val (.slice (some ⟨H.next, 0, none⟩) m (m + 1)) (H.push (.cells vs e false)))
        | some ad => match rdN H (n * size) (.pointer (some ad)) with
          | none => none
          | some olds =>
            if c = n then some (.val (.slice (some ⟨H.next, 0, none⟩) (n + m) (n + m + 1)) (H.push (.cells (olds ++ vs) e false)))
            else match H.get ad.block, ad.off with
              | some (.cells cs e' false), 0 =>
                if c = n + 1 ∧ n ≠ 0 ∧ e' = e ∧ cs.size = n * size then some (.val (.slice (some ⟨H.next, 0, none⟩) (n + m) (n + m + 1)) ((H.push (.cells (olds ++ vs) e false)).set ad.block .gone))
                else none
              | _, _ => none
    | _, _ => none
  | .lenStr x => match ev1 env x with
    | .string s => some (.val (goInt s.size) H)
    | _ => none
  | .lenSl x => match ev1 env x with
    | .slice _ n _ => some (.val (goInt n) H)
    | _ => none
  | .lenMap x => match ev1 env x with
    | .map none => some (.val (goInt 0) H)
    | m => (mapAt H m).map fun p => .val (goInt p.1.size) H
  | .lenArr n => some (.val (goInt n) H)
  | .delete key m k =>
    let kv := ev1 env k
    if keyOK key kv then
      match ev1 env m with
      | .map none => some (.val (.tuple #[]) H)
      | .map (some r) => match mapAt H (.map (some r)) with
        | some (es, clock) => match findK key kv es.toList 0 with
          | some (some (i, _)) => some (.val (.tuple #[]) (H.set r (.map (es.eraseIdxIfInBounds i) clock)))
          | some none => some (.val (.tuple #[]) H)
          | none => none
        | none => none
      | _ => none
    else none
  | .clearMap m => match ev1 env m with
    | .map none => some (.val (.tuple #[]) H)
    | .map (some r) => match mapAt H (.map (some r)) with
      | some (_, clock) => some (.val (.tuple #[]) (H.set r (.map #[] clock)))
      | none => none
    | _ => none
  | .clearSl zero x => match ev1 env x with
    | .slice _ 0 _ => some (.val (.tuple #[]) H)
    | .slice (some a) n _ => (wr H ((List.replicate n zero.toList).flatten).toArray (.pointer (some a))).map fun H' => .val (.tuple #[]) H'
    | _ => none
  | .rangeMap x => match ev1 env x with
    | .map m => match m with
      | none => some (.val (.pointer (some ⟨H.next, 0, none⟩)) (H.push (.iter none 0 #[] 0)))
      | some r => match mapAt H (.map (some r)) with
        | some (_, clock) => some (.val (.pointer (some ⟨H.next, 0, none⟩)) (H.push (.iter (some r) clock #[] clock)))
        | none => none
    | _ => none
  | .nextMap x => match ev1 env x with
    | .pointer (some ⟨b, 0, none⟩) => match H.get b with
      | some (.iter none _ _ _) => some (.val (.tuple #[.bool false]) H)
      | some (.iter (some r) since seen last) => match mapAt H (.map (some r)) with
        | some (es, clock) =>
          if !seen.isEmpty && !es.toList.isEmpty && es.toList.all (fun e => e.born ≥ last) then none else
          match es.toList.filter fun e => !seen.contains e.born with
          | [] => some (.val (.tuple #[.bool false]) H)
          | [e] => if e.born < since then some (.val (.tuple #[.bool true, e.key, e.val]) (H.set b (.iter (some r) since (seen.push e.born) clock))) else none
          | _ => none
        | none => none
      | _ => none
    | _ => none
  | .entryMap x => match ev1 env x with
    | .pointer (some ⟨b, 0, none⟩) => match H.get b with
      | some (.iter (some r) _ seen last) => match mapAt H (.map (some r)), seen.back? with
        | some (es, clock), some stamp =>
          if clock = last then match es.toList.find? fun e => e.born == stamp with
            | some e => some (.val (.tuple #[e.key, e.val]) H)
            | none => none
          else none
        | _, _ => none
      | _ => none
    | _ => none
  | .stop => none
  | .minI x y => match ev1 env x, ev1 env y with
    | .int k a, .int _ b => some (.val (.int k (if b < a then b else a)) H)
    | _, _ => none
  | .maxI x y => match ev1 env x, ev1 env y with
    | .int k a, .int _ b => some (.val (.int k (if b > a then b else a)) H)
    | _, _ => none

/-! the evaluator -/
inductive ACode where
  | skip
  | region (ops : List AOper)
  | draw (ops : List AOper) (looks : List (List Nat))
  | seq (a b : ACode)
  | cond (c : Operand) (a b : ACode)
  | block (id : Nat) (c : ACode)
  | loop (keep : Option (List Tmp)) (c : ACode)
  | exit (id : Nat)
  | ret
  deriving Inhabited

inductive ARes where
  | tmp (t : Tmp)
  | cell (t : Tmp) (n : Option Nat)
  deriving Inhabited

structure AFun where
  ntmps : Nat
  body : ACode
  results : List ARes
  deriving Inhabited

inductive AExit where
  | normal | ret | exit (id : Nat)
  deriving DecidableEq, Inhabited

inductive Entry where
  | fn (f : FuncId) (args : Array Value)
  | loop (keep : Option (List Tmp)) (c : ACode) (env : Env)
inductive Out where
  | val (v : Value)
  | exit (e : AExit) (env : Env)

abbrev CallT := Entry → AHeap → Option (Out × AHeap)

def put (env : Env) (dst : Option Tmp) (v : Value) : Env :=
  match dst with
  | some d => env.setIfInBounds d v
  | none => env
def wants (env : Env) : Option (Tmp × Bool) → Option Bool
  | none => some true
  | some (t, b) => match env.getD t undef with
    | .bool c => some (c == b)
    | .nilIface => some false
    | _ => none

/-- One operation, carried out: its value, and the heap. -/
def doOp (call : CallT) (o : AOper) (env : Env) (H : AHeap) : Option (Value × AHeap) :=
  match aStep env H o.op with
  | some (.val v H') => some (v, H')
  | some (.unit H') => some (undef, H')
  | some (.call f args) => match call (.fn f args) H with
    | some (.val v, H') => some (v, H')
    | _ => none
  | none => none

def evalOps (call : CallT) : List AOper → Env → AHeap → Option (Env × AHeap)
  | [], env, H => some (env, H)
  | o :: r, env, H =>
    match wants env o.guard with
    | some true =>
      match doOp call o env H with
      | some (v, H') => evalOps call r (put env o.dst v) H'
      | none => none
    | some false => evalOps call r (put env o.dst left) H
    | none => none

/-! a region that draws its order -/
def sameC : Value → Value → Bool
  | .bool a, .bool b => a == b
  | .int k a, .int j b => k == j && a == b
  | .string a, .string b => a.data.toList == b.data.toList
  | .pointer a, .pointer b => a == b
  | .slice a n c, .slice b m d => a == b && n == m && c == d
  | .map a, .map b => a == b
  | .nilFunc, .nilFunc => true
  | _, _ => false
def sameL : List Value → List Value → Bool
  | [], [] => true
  | x :: r, y :: t => sameC x y && sameL r t
  | _, _ => false
def sameV : Value → Value → Bool
  | .agg a, .agg b => sameL a.toList b.toList
  | .tuple a, .tuple b => sameL a.toList b.toList
  | x, y => sameC x y
/-- What was met at an operation: the frame and the heap ahead of it, and its value (none: it was left out). -/
structure Met where
  env : Env
  heap : AHeap
  val : Option Value
def evalMet (call : CallT) : List AOper → Env → AHeap → Option (List Met × Env × AHeap)
  | [], env, H => some ([], env, H)
  | o :: r, env, H =>
    match wants env o.guard with
    | some true =>
      match doOp call o env H with
      | some (v, H') => match evalMet call r (put env o.dst v) H' with
        | some (l, e, h) => some (⟨env, H, some v⟩ :: l, e, h)
        | none => none
      | none => none
    | some false => match evalMet call r (put env o.dst left) H with
      | some (l, e, h) => some (⟨env, H, none⟩ :: l, e, h)
      | none => none
    | none => none
/-- The heap behind operation j (the one ahead of the next one). -/
def heapAt (l : List Met) (H : AHeap) (j : Nat) : AHeap := match l[j]? with | some m => m.heap | none => H
/-- The block that a value points to. -/
def ptrOf : Value → Option Nat
  | .pointer (some a) => some a.block
  | .map (some r) => some r
  | .slice (some a) n _ => if n = 0 then none else some a.block
  | _ => none
/-- Through which operand an operation looks. -/
def lookOpd : AOp → Operand
  | .load x | .loadN _ x | .lookup _ _ _ x _ | .lenMap x | .aload _ x | .bytesStr x => x
  | _ => .const (.tuple #[])
def isLook : AOp → Bool
  | .load _ | .loadN _ _ | .lookup _ _ _ _ _ | .lenMap _ | .aload _ _ | .bytesStr _ => true
  | _ => false
def sameB : Option Blk → Option Blk → Bool
  | some (.cells a e r), some (.cells b f q) => sameL a.toList b.toList && e == f && r == q
  | some (.map a c), some (.map b d) => a.isEmpty && b.isEmpty && c == d
  | _, _ => false
/-- What was met at an operation is met behind operation j, too: a look yields what it yielded; what was made stands as it was made. -/
def yields (o : AOper) (m : Met) (next : AHeap) (H : AHeap) : Bool :=
  match m.val with
  | none => true
  | some v =>
    if isLook o.op then
      (match ptrOf (ev1 m.env (lookOpd o.op)) with | some b => b < H.next | none => true) &&
      (match aStep m.env H o.op with
       | some (.val u _) => sameV u v
       | _ => false)
    else sameB (H.get m.heap.next) (next.get m.heap.next)
def looksOK (ops : List AOper) (looks : List (List Nat)) (l : List Met) (H : AHeap) : Bool :=
  (List.range ops.length).all fun k =>
    match ops[k]?, looks[k]?, l[k]? with
    | some o, some js, some m => js.all fun j => if j < k then !isLook o.op || yields o m (heapAt l H (k + 1)) (heapAt l H j) else yields o m (heapAt l H (k + 1)) (heapAt l H (j + 1))
    | _, _, _ => false
def evalDraw (call : CallT) (ops : List AOper) (looks : List (List Nat)) (env : Env) (H : AHeap) : Option (Env × AHeap) :=
  match evalMet call ops env H with
  | some (l, e, h) => if looksOK ops looks l h then some (e, h) else none
  | none => none

def maskOf (keep : Option (List Tmp)) (env : Env) : Env :=
  match keep with
  | none => env
  | some l => env.mapIdx fun i v => if l.contains i then v else undef

def evalCode (call : CallT) : ACode → Env → AHeap → Option (AExit × Env × AHeap)
  | .skip, env, H => some (.normal, env, H)
  | .region ops, env, H => (evalOps call ops env H).map fun (e, H') => (.normal, e, H')
  | .draw ops looks, env, H => (evalDraw call ops looks env H).map fun (e, H') => (.normal, e, H')
  | .seq a b, env, H =>
    match evalCode call a env H with
    | some (.normal, env', H') => evalCode call b env' H'
    | r => r
  | .cond c a b, env, H =>
    match ev1 env c with
    | .bool true => evalCode call a env H
    | .bool false => evalCode call b env H
    | _ => none
  | .block id c, env, H =>
    match evalCode call c env H with
    | some (.exit i, env', H') => if i = id then some (.normal, env', H') else some (.exit i, env', H')
    | r => r
  | .loop keep c, env, H =>
    match call (.loop keep c env) H with
    | some (.exit x env', H') => some (x, env', H')
    | _ => none
  | .exit id, env, H => some (.exit id, env, H)
  | .ret, env, H => some (.ret, env, H)

def resOf (env : Env) (H : AHeap) : ARes → Option Value
  | .tmp t => some (env.getD t undef)
  | .cell t none => rd H (env.getD t undef)
  | .cell t (some n) => (rdN H n (env.getD t undef)).map .agg
def resultOf (env : Env) (H : AHeap) (rs : List ARes) : Option Value :=
  match rs.mapM (resOf env H) with
  | some [v] => some v
  | some vs => some (.tuple vs.toArray)
  | none => none

/-- The functions that there are; those that a law of their own tells of. -/
structure Table where
  fn : FuncId → Option AFun
  prim : FuncId → Option (Array Value → AHeap → Option (Value × AHeap))

def evBody (T : Table) (call : CallT) : Entry → AHeap → Option (Out × AHeap)
  | .fn f args, H =>
    match T.prim f with
    | some p => (p args H).map fun (v, H') => (.val v, H')
    | none =>
      match T.fn f with
      | some af =>
        match evalCode call af.body (args ++ Array.replicate (af.ntmps - args.size) undef) H with
        | some (.normal, env, H') | some (.ret, env, H') => (resultOf env H' af.results).map fun v => (.val v, H')
        | _ => none
      | none => none
  | .loop keep c env, H =>
    match evalCode call c (maskOf keep env) H with
    | some (.normal, env', H') => call (.loop keep c env') H'
    | some (x, env', H') => some (.exit x env', H')
    | none => none

def evN (T : Table) : Nat → CallT
  | 0 => fun _ _ => none
  | k + 1 => evBody T (evN T k)

end Go.Aev
