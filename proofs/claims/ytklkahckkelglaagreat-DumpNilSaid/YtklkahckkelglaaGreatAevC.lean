/- The translation of the model's code into the abstract evaluator's: what the types say is put into the operations. -/
import Derived.Test.YtklkahckkelglaaGreatAevB
namespace Go.Aev
open Go

/-- A value without addresses: it is related to itself. -/
def plainC : Value → Bool
  | .bool _ | .int _ _ | .string _ | .pointer none | .slice none 0 0 | .map none | .nilFunc => true
  | _ => false
def plain : Value → Bool
  | .agg cs => cs.all plainC
  | v => plainC v
def okOpd : Operand → Bool
  | .tmp _ => true
  | .const v => plain v
  | .global _ => false
  | .func _ => true

/-- The scalars of a struct's fields. -/
def fieldScalars (P : Program) (rec : TypeId → Nat → Option (List (Nat × Nat))) (lim base : Nat) : List Field → Option (List (Nat × Nat))
  | [] => some []
  | f :: r =>
    if f.name = "_" ∨ P.cellsOf f.type = 0 ∨ lim < f.offset + P.cellsOf f.type then none else
    match rec f.type (base + f.offset), fieldScalars P rec lim base r with
    | some l, some m => some (l ++ m)
    | _, _ => none
/-- The scalars of a type, by their places: of a struct of numbers, strings, bools, and of such structs; none: it is no such type. -/
def scalars (P : Program) : Nat → TypeId → Nat → Option (List (Nat × Nat))
  | 0, _, _ => none
  | d + 1, t, base =>
    match P.underlying t with
    | some .bool => some [(base, 0)]
    | some (.int _) => some [(base, 1)]
    | some .string => some [(base, 2)]
    | some (.struct fs) => if P.stoodInHeld t then none else fieldScalars P (scalars P d) (P.cellsOf t) base fs.toList
    | _ => none

def eqKind (P : Program) (t : TypeId) : Option EqK :=
  match P.underlying t with
  | some .bool => some .bool
  | some (.pointer _) => some .pointer
  | some (.slice _) => some .slice
  | some (.map _ _) => some .map
  | some (.func _ _ _) => some .func
  | some (.struct _) => if P.eqGuardType P.depth t then none else (scalars P 100 t 0).map .flat
  | _ => none
def keyKind (P : Program) (t : TypeId) : Option KeyK :=
  match P.underlying t with
  | some .bool => some (.one 0)
  | some (.int _) => some (.one 1)
  | some .string => some (.one 2)
  | some (.struct _) => (scalars P 100 t 0).map .flat
  | _ => none

/-- A type's size in cells, and in bytes; its nought. -/
def sizes (P : Program) (t : TypeId) : Option (Nat × Nat × Array Value) :=
  match P.info? t with
  | some i => match i.zero with
    | some z => if plain z && z.cells.size == i.size then some (i.size, i.bytes, z.cells) else none
    | none => none
  | none => none
def isAggT (P : Program) (t : TypeId) : Option Bool :=
  match P.underlying t with
  | some (.struct _) | some (.array _ _) => some true
  | some _ => some false
  | none => none
def fieldsOf (P : Program) (t : TypeId) : Option (Array Field) :=
  match P.underlying t with
  | some (.struct fs) => some fs
  | _ => none

inductive Atom where
  | load (k : IntKind) | store | cas (k : IntKind) | add (k : IntKind)
def atomicOf (name : String) : Option Atom :=
  if name = "sync/atomic.LoadUint64" then some (.load .u64)
  else if name = "sync/atomic.StoreUint64" then some .store
  else if name = "sync/atomic.CompareAndSwapUint64" then some (.cas .u64)
  else if name = "sync/atomic.AddUint64" then some (.add .u64)
  else if name = "sync/atomic.AddInt64" then some (.add .i64)
  else if name = "sync/atomic.LoadInt64" then some (.load .i64)
  else none

def compileCall (P : Program) (c : Call) : Option AOp :=
  if !c.args.all okOpd then none else
  match c.callee with
  | .value (.func f) =>
    match P.funcs[f]? with
    | none => none
    | some fn =>
      if fn.name == "runtime.NumGoroutine" then none
      else if fn.body.isSome then some (.call f c.args.toList)
      else if !(fn.origin == "") then none
      else match atomicOf fn.name, c.args.toList with
        | some (.load k), [x] => some (.aload k x)
        | some .store, [x, v] => some (.astore x v)
        | some (.cas k), [x, o, n] => some (.acas k x o n)
        | some (.add k), [x, y] => some (.aadd k x y)
        | _, _ => none
  | .value x => if okOpd x then some (.callV x c.args.toList) else none
  | .builtin b =>
    match b, c.args.toList, c.argTypes.toList with
    | .append, [x, y], [t, t'] =>
      if t ≠ t' then none else
      match P.underlying t with
      | some (.slice e) => match sizes P e with
        | some (s, b, _) => if s = 0 then none else some (.append e s b x y)
        | none => none
      | _ => none
    | .len, [x], [t] =>
      match P.underlying t with
      | some .string => some (.lenStr x)
      | some (.slice _) => some (.lenSl x)
      | some (.map _ _) => some (.lenMap x)
      | some (.array n _) => some (.lenArr n)
      | _ => none
    | .delete, [m, k], [t, _] =>
      match P.underlying t with
      | some (.map kt _) => (keyKind P kt).map fun key => .delete key m k
      | _ => none
    | .clear, [m], [t] =>
      match P.underlying t with
      | some (.map _ _) => some (.clearMap m)
      | some (.slice e) => match sizes P e with
        | some (s, _, z) => if s = 0 then none else some (.clearSl z m)
        | none => none
      | _ => none
    | .min, [x, y], _ => some (.minI x y)
    | .max, [x, y], _ => some (.maxI x y)
    | _, _, _ => none
  | _ => none

/-- A nil interface value is moved: nothing looks at it. -/
def nilMove : Op → Bool
  | .move (.const .nilIface) | .assign (.const .nilIface) => true
  | _ => false
def compileOp (P : Program) (o : Oper) : Option AOp :=
  if nilMove o.op then some (.move (.const (.tuple #[]))) else
  if !o.op.operands.all okOpd then none else
  match o.op with
  | .move x | .assign x => some (.move x)
  | .pick c a b => some (.pick c a b)
  | .alloc e => (sizes P e).map fun (_, _, z) => .new e z
  | .box e x => some (.box e x)
  | .build t parts =>
    match sizes P t, P.underlying t with
    | some (_, _, z), some (.struct fs) =>
      match fs.toList.mapM (fun f => (P.info? f.type).map fun i => (f.offset, i.size)) with
      | some ps => some (.build z ps.toArray parts.toList)
      | none => none
    | some (_, _, z), some (.array _ e) =>
      match P.info? e with
      | some i => some (.buildArr z i.size parts.toList)
      | none => none
    | _, _ => none
  | .buildSlice t len parts =>
    match P.underlying t with
    | some (.slice e) => match sizes P e with
      | some (s, _, z) => if s = 0 ∨ len * s > 2 ^ 24 then none else some (.buildSlice e s len ((List.replicate len z.toList).flatten).toArray parts.toList)
      | none => none
    | _ => none
  | .load t x => match isAggT P t, P.info? t with
    | some true, some i => some (.loadN i.size x)
    | some false, some _ => some (.load x)
    | _, _ => none
  | .store t x v => match P.info? t with
    | some i => some (.store i.size x v)
    | none => none
  | .nilCheck x => some (.nilCheck x)
  | .binOp op t x y _ =>
    match P.underlying t with
    | some (.int _) => some (.bin op x y)
    | some .string => some (.bin op x y)
    | _ => match op with
      | .eql => (eqKind P t).map fun k => .eq false k x y
      | .neq => (eqKind P t).map fun k => .eq true k x y
      | _ => none
  | .unOp op _ x => some (.un op x)
  | .convert s d x =>
    match P.underlying s, P.underlying d with
    | some (.int _), some (.int k) => some (.toInt k x)
    | some .string, some .string => some (.sameStr x)
    | some (.slice e), some .string => match P.underlying e with
      | some (.int .u8) => some (.bytesStr x)
      | _ => none
    | _, _ => none
  | .makeFunc (.func f) a b => some (.makeFunc f a.toList b.toList)
  | .makeMap _ none => some .makeMap
  | .makeSlice t l c =>
    match P.underlying t with
    | some (.slice e) => match sizes P e with
      | some (s, b, z) => if s = 0 then none else some (.makeSlice e s b z l c)
      | none => none
    | _ => none
  | .slice t x lo hi mx =>
    match P.underlying t with
    | some .string => if mx.isSome then none else some (.sliceStr x lo hi)
    | some (.slice e) => if mx.isSome && hi.isNone then none else (P.info? e).map fun i => .sliceSl i.size x lo hi mx
    | some (.array n e) => if mx.isSome then none else (P.info? e).map fun i => .sliceArr n i.size x lo hi
    | _ => none
  | .fieldAddr t x i =>
    match fieldsOf P t with
    | some fs => match fs[i]? with
      | some f => match P.info? f.type with
        | some j => if j.size = 0 then none else some (.off f.offset x)
        | none => none
      | none => none
    | none => none
  | .field t x i =>
    match fieldsOf P t with
    | some fs => match fs[i]? with
      | some f => match isAggT P f.type, P.info? f.type with
        | some true, some j => some (.fieldN f.offset j.size x)
        | some false, _ => some (.field f.offset x)
        | _, _ => none
      | none => none
    | none => none
  | .indexAddr t x i =>
    match P.underlying t with
    | some (.array n e) => (P.info? e).map fun j => .ixArr n j.size x i
    | some (.slice e) => (P.info? e).map fun j => .ixSl j.size x i
    | _ => none
  | .index t x i =>
    match P.underlying t with
    | some .string => some (.ixStr x i)
    | some (.array n e) => match isAggT P e, P.info? e with
      | some false, some j => if j.size = 1 then some (.ixAgg n x i) else none
      | _, _ => none
    | _ => none
  | .lookup t x i ok =>
    match P.underlying t with
    | some (.map k e) => match keyKind P k, sizes P e, P.info? e with
      | some key, some _, some j => j.zero.map fun z => .lookup key z ok x i
      | _, _, _ => none
    | _ => none
  | .mapUpdate t m k v | .insert t m k v =>
    match P.underlying t with
    | some (.map kt _) => (keyKind P kt).map fun key => .update key m k v
    | _ => none
  | .extract x i => some (.extract x i)
  | .range t x =>
    match P.underlying t with
    | some (.map _ _) => some (.rangeMap x)
    | _ => none
  | .next x false => some (.nextMap x)
  | .entry x => some (.entryMap x)
  | .call c => compileCall P c
  | _ => none

def compileOper (P : Program) (ops : Array Oper) (o : Oper) : Option AOper :=
  match compileOp P o with
  | none => none
  | some a =>
    match o.guard with
    | none => some { dst := o.dst, op := a, guard := none }
    | some (j, b) => match (ops[j]?).bind (·.dst) with
      | some d => some { dst := o.dst, op := a, guard := some (d, b) }
      | none => none

/-- Which kinds of operations leave the heap as it is, whatever it is. -/
def isPure : AOp → Bool
  | .move _ | .pick _ _ _ | .build _ _ _ | .buildArr _ _ _ | .nilCheck _ | .bin _ _ _ | .eq _ _ _ _ | .un _ _ | .toInt _ _ | .sameStr _ | .makeFunc _ _ _
  | .sliceStr _ _ _ | .sliceSl _ _ _ _ _ | .sliceArr _ _ _ _ _ | .off _ _ | .field _ _ | .fieldN _ _ _ | .ixArr _ _ _ _ | .ixSl _ _ _ | .ixStr _ _
  | .ixAgg _ _ _ | .extract _ _ | .lenStr _ | .lenSl _ | .lenArr _ | .minI _ _ | .maxI _ _ => true
  | _ => false
def isFresh : AOp → Bool
  | .new _ _ | .box _ _ | .buildSlice _ _ _ _ _ | .makeMap | .makeSlice _ _ _ _ _ _ => true
  | _ => false

/-- A number, worked out before it is handed on. -/
def force {α : Type} (n : Nat) (k : Nat → α) : α :=
  match n with
  | 0 => k 0
  | m + 1 => k (m + 1)
theorem force_eq {α : Type} (n : Nat) (k : Nat → α) : force n k = k n := by cases n <;> rfl
/-- The operations that one waits for, through others too, as bits. -/
def edgeBits (acc : List Nat) : List Edge → Nat
  | [] => 0
  | e :: r => if Region.binds .any e && Nat.blt e.on acc.length then 2 ^ e.on ||| (acc.getD e.on 0 ||| edgeBits acc r) else edgeBits acc r
def befs (acc : List Nat) : List Oper → List Nat
  | [] => acc
  | o :: r => force (edgeBits acc o.after.toList) fun n => befs (acc ++ [n]) r
/-- Does operation i wait for j, through others too? -/
def anc (b : List Nat) (i j : Nat) : Bool := (b.getD i 0).testBit j
def AOp.opds : AOp → List Operand
  | .move x | .box _ x | .load x | .loadN _ x | .nilCheck x | .un _ x | .toInt _ x | .sameStr x | .bytesStr x | .off _ x | .field _ x | .fieldN _ _ x | .extract x _ | .aload _ x
  | .lenStr x | .lenSl x | .lenMap x | .clearMap x | .clearSl _ x | .rangeMap x | .nextMap x | .entryMap x => [x]
  | .pick c a b => [c, a, b]
  | .new _ _ | .makeMap | .lenArr _ | .stop => []
  | .build _ _ ps | .buildArr _ _ ps | .buildSlice _ _ _ _ ps => ps.map (·.2)
  | .store _ x v | .astore x v => [x, v]
  | .bin _ x y | .eq _ _ x y | .ixArr _ _ x y | .ixSl _ x y | .ixStr x y | .ixAgg _ x y | .aadd _ x y | .append _ _ _ x y | .minI x y | .maxI x y | .makeSlice _ _ _ _ x y | .lookup _ _ _ x y | .delete _ x y => [x, y]
  | .makeFunc _ xs ys => xs ++ ys
  | .sliceStr x lo hi | .sliceArr _ _ x lo hi => x :: (lo.toList ++ hi.toList)
  | .sliceSl _ x lo hi mx => x :: (lo.toList ++ (hi.toList ++ mx.toList))
  | .update _ m k v => [m, k, v]
  | .call _ xs => xs
  | .callV x xs => x :: xs
  | .acas _ x y z => [x, y, z]
def AOper.reads (o : AOper) : List Tmp := (o.op.opds.filterMap fun | .tmp t => some t | _ => none) ++ (o.guard.map (·.1)).toList
def clash (x y : AOper) : Bool :=
  (match x.dst with
   | some d => y.reads.contains d || y.dst == some d
   | none => false) ||
  (match y.dst with
   | some d => x.reads.contains d
   | none => false)
def isHeavy (a : AOp) : Bool := !(isLook a || isPure a)
def isChain (a : AOp) : Bool := isHeavy a && !isFresh a
/-- Two of a region's operations, j ahead of i in the text, are in an order, or touch nothing of each other's. -/
def pairOK (as : List AOper) (b : List Nat) (i j : Nat) : Bool :=
  anc b i j ||
  match as[i]?, as[j]? with
  | some x, some y => !clash x y && !(isChain x.op && isChain y.op)
  | _, _ => false
def lookAt (as : List AOper) (b : List Nat) (n i : Nat) : List Nat :=
  match as[i]? with
  | some x => if isLook x.op || isFresh x.op then (List.range n).filter fun j => i != j && !anc b i j && !anc b j i && (match as[j]? with | some y => isChain y.op | none => false) else []
  | none => []
def edgesOK (i : Nat) : List Oper → Bool
  | [] => true
  | o :: r => o.after.toList.all (fun e => !Region.binds .any e || Nat.blt e.on i) && edgesOK (i + 1) r
/-- For each operation the heavy ones to which it stands in no order; none: two that are in no order touch what the other one does. -/
def drawLooks (ops : Array Oper) (as : List AOper) : Option (List (List Nat)) :=
  let b := befs [] ops.toList
  if as.all (fun x => !isLook x.op || okOpd (lookOpd x.op)) && (List.range ops.size).all (fun i => (List.range i).all fun j => pairOK as b i j) && edgesOK 0 ops.toList then
    some ((List.range ops.size).map (lookAt as b ops.size))
  else none

def compileCode (P : Program) : Code → List (List Tmp) → Option (ACode × List (List Tmp))
  | .skip, hs => some (.skip, hs)
  | .region _ ops draw, hs =>
    match ops.toList.mapM (compileOper P ops) with
    | none => none
    | some as => if draw then (drawLooks ops as).map fun l => (.draw as l, hs) else some (.region as, hs)
  | .seq a b, hs =>
    match compileCode P a hs with
    | none => none
    | some (a', hs) => (compileCode P b hs).map fun (b', hs) => (.seq a' b', hs)
  | .cond c a b, hs =>
    if !okOpd c then none else
    match compileCode P a hs with
    | none => none
    | some (a', hs) => (compileCode P b hs).map fun (b', hs) => (.cond c a' b', hs)
  | .block id c, hs => (compileCode P c hs).map fun (c', hs) => (.block id c', hs)
  | .loop c, hs =>
    match hs with
    | [] => (compileCode P c []).map fun (c', hs) => (.loop none c', hs)
    | h :: hs => (compileCode P c hs).map fun (c', hs) => (.loop (some h) c', hs)
  | .exit id, hs => some (.exit id, hs)
  | .ret, hs => some (.ret, hs)
  | _, _ => none

def compileRes (P : Program) : ResultVar → Option ARes
  | .tmp t => some (.tmp t)
  | .cell a t => match isAggT P t, P.info? t with
    | some true, some i => some (.cell a (some i.size))
    | some false, some _ => some (.cell a none)
    | _, _ => none

def compileFun (P : Program) (hs : List (List Tmp)) (f : FuncId) : Option AFun :=
  match P.funcs[f]? with
  | none => none
  | some fn =>
    match fn.body with
    | none => none
    | some c => match compileCode P c hs, fn.results.toList.mapM (compileRes P) with
      | some (c', _), some rs => some { ntmps := fn.ntmps, body := c', results := rs }
      | _, _ => none

end Go.Aev
