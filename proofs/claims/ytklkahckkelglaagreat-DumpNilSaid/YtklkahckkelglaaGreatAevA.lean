/- The abstract heap of the abstract evaluator: a trie from block numbers to blocks, with its laws. -/
import Derived.Calls
import Derived.Tactics
import Derived.LoopN
namespace Go.Aev
open Go

/-- A block of the abstract heap. 'ro': it came in, and is only read. 'gone': it was moved by an append, and is used no more. -/
inductive Blk where
  | cells (c : Array Value) (elem : TypeId) (ro : Bool)
  | map (es : Array MapEntry) (clock : Nat)
  | iter (m : Option Nat) (since : Nat) (seen : Array Nat) (last : Nat)
  | gone
  deriving Inhabited

inductive Tr where
  | nil
  | node (v : Option Blk) (l r : Tr)

def Tr.get : Tr → Nat → Option Blk
  | .nil, _ => none
  | .node v l r, n =>
    match n with
    | 0 => v
    | m + 1 => bif Nat.beq (m % 2) 0 then l.get (m / 2) else r.get (m / 2)

def Tr.val : Tr → Option Blk
  | .nil => none
  | .node v _ _ => v
def Tr.left : Tr → Tr
  | .nil => .nil
  | .node _ l _ => l
def Tr.right : Tr → Tr
  | .nil => .nil
  | .node _ _ r => r

def Tr.put : Nat → Tr → Nat → Blk → Tr
  | 0, t, _, _ => t
  | k + 1, t, n, b =>
    match n with
    | 0 => .node (some b) t.left t.right
    | m + 1 => bif Nat.beq (m % 2) 0 then .node t.val (t.left.put k (m / 2) b) t.right else .node t.val t.left (t.right.put k (m / 2) b)

theorem Tr.get_zero (t : Tr) : t.get 0 = t.val := by cases t <;> rfl
theorem cond_dec {α : Type} (p : Prop) [Decidable p] (x y : α) : (bif decide p then x else y) = if p then x else y := by by_cases h : p <;> simp [h]
theorem beq_even (m : Nat) : Nat.beq (m % 2) 0 = decide (m % 2 = 0) := by
  rcases Nat.mod_two_eq_zero_or_one m with h | h <;> simp [h] <;> rfl
theorem Tr.get_succ (t : Tr) (m : Nat) : t.get (m + 1) = if m % 2 = 0 then t.left.get (m / 2) else t.right.get (m / 2) := by
  cases t with
  | nil => simp only [Tr.get, Tr.left, Tr.right]; split <;> rfl
  | node v l r => simp only [Tr.get, Tr.left, Tr.right, beq_even, cond_dec]

theorem Tr.get_put : ∀ (k : Nat) (t : Tr) (n : Nat) (b : Blk) (m : Nat), n < k → (t.put k n b).get m = if m = n then some b else t.get m := by
  intro k
  induction k with
  | zero => intro t n b m h; omega
  | succ k ih =>
    intro t n b m h
    cases n with
    | zero =>
      simp only [Tr.put]
      cases m with
      | zero => simp [Tr.get]
      | succ m => rw [if_neg (by omega), Tr.get_succ, Tr.get_succ]; rfl
    | succ n =>
      simp only [Tr.put, beq_even, cond_dec]
      have hn : n / 2 < k := by omega
      by_cases hp : n % 2 = 0
      · rw [if_pos hp]
        cases m with
        | zero => rw [if_neg (by omega), Tr.get_zero, Tr.get_zero]; rfl
        | succ m =>
          rw [Tr.get_succ, Tr.get_succ]
          simp only [Tr.left, Tr.right]
          rw [ih _ _ _ _ hn]
          by_cases hq : m % 2 = 0
          · rw [if_pos hq, if_pos hq]
            by_cases he : m = n
            · rw [if_pos (by omega), if_pos (by omega)]
            · rw [if_neg (by omega), if_neg (by omega)]
          · rw [if_neg hq, if_neg hq, if_neg (by omega)]
      · rw [if_neg hp]
        cases m with
        | zero => rw [if_neg (by omega), Tr.get_zero, Tr.get_zero]; rfl
        | succ m =>
          rw [Tr.get_succ, Tr.get_succ]
          simp only [Tr.left, Tr.right]
          rw [ih _ _ _ _ hn]
          by_cases hq : m % 2 = 0
          · rw [if_pos hq, if_pos hq, if_neg (by omega)]
          · rw [if_neg hq, if_neg hq]
            by_cases he : m = n
            · rw [if_pos (by omega), if_pos (by omega)]
            · rw [if_neg (by omega), if_neg (by omega)]

/-- The abstract heap: blocks are numbered as they are made. -/
structure AHeap where
  next : Nat
  tr : Tr

def AHeap.get (H : AHeap) (b : Nat) : Option Blk := H.tr.get b
def AHeap.set (H : AHeap) (b : Nat) (k : Blk) : AHeap := { H with tr := H.tr.put (b + 1) b k }
def AHeap.push (H : AHeap) (k : Blk) : AHeap := { next := H.next + 1, tr := H.tr.put (H.next + 1) H.next k }
def AHeap.empty : AHeap := { next := 0, tr := .nil }

theorem AHeap.get_set (H : AHeap) (b : Nat) (k : Blk) (m : Nat) : (H.set b k).get m = if m = b then some k else H.get m :=
  Tr.get_put _ _ _ _ _ (by omega)
theorem AHeap.get_push (H : AHeap) (k : Blk) (m : Nat) : (H.push k).get m = if m = H.next then some k else H.get m :=
  Tr.get_put _ _ _ _ _ (by omega)
@[simp] theorem AHeap.next_set (H : AHeap) (b : Nat) (k : Blk) : (H.set b k).next = H.next := rfl
@[simp] theorem AHeap.next_push (H : AHeap) (k : Blk) : (H.push k).next = H.next + 1 := rfl
theorem AHeap.get_empty (b : Nat) : AHeap.empty.get b = none := rfl

end Go.Aev
