/-
  Sx1: symbolic values, a symbolic heap, and what it means that an activation and a world fit them.
-/
import Derived.Test.YtlobbcodnkfbiaaDoorSx0
import Derived.Calls
import Derived.Orders
import Derived.LoopN
import Derived.Below
import Derived.KernelRfl
namespace Go.Proofs.YtlobbcodnkfbiaaDoor.Sx
open Go

/-- A symbolic value: blocks that are known bear an index of our own. 'row' stands for n cells, inside a list alone. -/
inductive SV where
  | any
  | c (v : Value)
  | ptr (b off : Nat)
  | slc (b off len cap : Nat)
  | ep (b base m : Nat) (i : Int)
  | sl (b base m : Nat) (lo hi : Int)
  | fn (f : Fn) (first caps : List SV)
  | agg (cs : List SV)
  | tup (vs : List SV)
  | row (k : IntKind) (n : Nat) (xs : List Int)

def SV.isRow : SV → Bool
  | .row .. => true
  | _ => false

mutual
inductive Rel (n : Nat) (ρ : Nat → Nat) : SV → Value → Prop
  | any (v : Value) : Rel n ρ .any v
  | c (v : Value) : Rel n ρ (.c v) v
  | ptr (b o : Nat) : b < n → Rel n ρ (.ptr b o) (.pointer (some ⟨ρ b, o, none⟩))
  | slc (b o l cap : Nat) : b < n → Rel n ρ (.slc b o l cap) (.slice (some ⟨ρ b, o, none⟩) l cap)
  | ep (b base m : Nat) (i : Int) : b < n → 0 ≤ i → i < m → Rel n ρ (.ep b base m i) (.pointer (some ⟨ρ b, base + i.toNat, none⟩))
  | sl (b base m : Nat) (lo hi : Int) : b < n → 0 ≤ lo → lo ≤ hi → hi ≤ m → Rel n ρ (.sl b base m lo hi) (.slice (some ⟨ρ b, if m = lo.toNat then base else base + lo.toNat, none⟩) (hi.toNat - lo.toNat) (m - lo.toNat))
  | fn (f : Fn) (x y : List SV) (xs ys : List Value) : RelL n ρ x xs → RelL n ρ y ys → Rel n ρ (.fn f x y) (.func f xs.toArray ys.toArray)
  | agg (cs : List SV) (vs : List Value) : RelL n ρ cs vs → Rel n ρ (.agg cs) (.agg vs.toArray)
  | tup (cs : List SV) (vs : List Value) : RelL n ρ cs vs → Rel n ρ (.tup cs) (.tuple vs.toArray)
inductive RelL (n : Nat) (ρ : Nat → Nat) : List SV → List Value → Prop
  | nil : RelL n ρ [] []
  | cons (x : SV) (cs : List SV) (v : Value) (vs : List Value) : x.isRow = false → Rel n ρ x v → RelL n ρ cs vs → RelL n ρ (x :: cs) (v :: vs)
  | row (k : IntKind) (m : Nat) (xs : List Int) (cs : List SV) (vs : List Value) : xs.length = m → RelL n ρ cs vs → RelL n ρ (.row k m xs :: cs) (xs.map (Value.int k) ++ vs)
end

mutual
/-- All blocks that it names are below n. -/
def within (n : Nat) : SV → Bool
  | .ptr b _ => Nat.blt b n
  | .slc b _ _ _ => Nat.blt b n
  | .ep b _ _ _ => Nat.blt b n
  | .sl b _ _ _ _ => Nat.blt b n
  | .fn _ x y => withinL n x && withinL n y
  | .agg cs => withinL n cs
  | .tup cs => withinL n cs
  | _ => true
def withinL (n : Nat) : List SV → Bool
  | [] => true
  | x :: l => within n x && withinL n l
end

/-- What is known of a block: its cells, of which none is frozen. -/
inductive SB where
  | cells (cs : List SV) (t : TypeId)
  | junk

def BRel (n : Nat) (ρ : Nat → Nat) : SB → Option Obj → Prop
  | .cells cs t, o => ∃ vs fr, o = some (.cells vs.toArray t fr) ∧ RelL n ρ cs vs ∧ ∀ i, i < vs.length → ¬ (fr.1 ≤ i ∧ i < fr.2)
  | .junk, _ => True

def SB.owned : SB → Bool
  | .cells .. => true
  | .junk => false

/-- A list of pairs, the newest first. -/
def look {α : Type} : List (Nat × α) → Nat → Option α
  | [], _ => none
  | (i, x) :: l, n => if Nat.beq i n then some x else look l n

structure St where
  tmps : List (Nat × SV)
  sz : Nat
  heap : List (Nat × SB)
  next : Nat
  base : Nat

def St.get (σ : St) (t : Nat) : SV :=
  match look σ.tmps t with
  | some x => x
  | none => .any

def St.ev (σ : St) : Operand → SV
  | .tmp t => σ.get t
  | .const v => .c v
  | .func f => .fn (.func f) [] []
  | .global _ => .any

/-- The heap's part: 'w0' the world as the call began, 'own' the old blocks that are the call's to write. -/
structure HMod (w0 : World) (own : Nat → Prop) (heap : List (Nat × SB)) (next : Nat) (ρ : Nat → Nat) (w : World) : Prop where
  rel : ∀ i sb, look heap i = some sb → i < next ∧ BRel next ρ sb w.heap[ρ i]?
  inj : ∀ i j sb sb', look heap i = some sb → look heap j = some sb' → sb.owned = true → sb'.owned = true → i ≠ j → ρ i ≠ ρ j
  mine : ∀ i sb, look heap i = some sb → sb.owned = true → own (ρ i) ∨ w0.heap.size ≤ ρ i
  there : ∀ i, i < next → ρ i < w.heap.size
  os : w.os = w0.os
  tape : w.tape = w0.tape
  output : w.output = w0.output
  size : w0.heap.size ≤ w.heap.size
  block : ∀ g, g < w0.heap.size → ¬ own g → w.heap[g]? = w0.heap[g]?
  glob : GP w
  gsz : NG ≤ w0.heap.size
  gown : ∀ g, g < NG → ¬ own g

def Ext (n : Nat) (ρ ρ' : Nat → Nat) : Prop := ∀ i, i < n → ρ' i = ρ i

structure Mod (w0 : World) (own : Nat → Prop) (ρ0 : Nat × (Nat → Nat)) (σ : St) (ρ : Nat → Nat) (a : Act) (w : World) : Prop where
  defers : a.defers = []
  sz : a.tmps.size = σ.sz
  tmp : ∀ t, Rel σ.next ρ (σ.get t) (a.tmps.getD t undef)
  heap : HMod w0 own σ.heap σ.next ρ w
  base : σ.base ≤ σ.next
  ext : σ.base = ρ0.1 ∧ Ext σ.base ρ0.2 ρ

end Go.Proofs.YtlobbcodnkfbiaaDoor.Sx
