/-
  Sy1: symbolic values, a symbolic heap, and what it means that an activation and a world fit them.
-/
import Derived.Test.YtjiamfajgllelaaSy0
import Derived.Calls
import Derived.Orders
import Derived.LoopN
import Derived.Below
import Derived.KernelRfl
namespace Go.Proofs.Ytjiamfajgllelaa.Sy
open Go

/-- A symbolic value: blocks that are known bear an index of our own. 'row' stands for n cells, inside a list alone. 'gs': a slice of a row of our own ('arr'), elements lo .. hi of w cells each;
    'zs': a slice of length 0 without room; 'rs': a slice that nobody writes, n elements, the cells of each; 'ap', 'rp': the addresses of elements of such. -/
inductive SV where
  | any
  | c (v : Value)
  | ptr (b off : Nat)
  | slc (b off len cap : Nat)
  | ep (b base m : Nat) (i : Int)
  | sl (b base m : Nat) (lo hi : Int)
  | fn (f : Fn) (first caps : List SV)
  | agg (cs : List SV)
  | tup (vs : List SV)
  | row (k : IntKind) (n : Nat) (xs : List Int)
  | gs (b w lo hi : Nat) (mx : Option Nat)
  | ap (b w : Nat) (i : Int) (off : Nat)
  | rs (w n : Nat) (f : Nat → List SV)
  | rp (cs : List SV)
  | ifc (t : TypeId) (x : SV)
  | mp (b : Nat)
  | zs

def SV.isRow : SV → Bool
  | .row .. => true
  | _ => false

/-- Where the blocks lie: 'no': there is none yet (an own slice that is nil); 'cap': how many elements it has room for; 'R': blocks that nobody writes any more, as they are. -/
structure Env where
  at_ : Nat → Nat
  no : Nat → Bool
  cap : Nat → Nat
  R : Nat → Option Obj
instance : CoeFun Env (fun _ => Nat → Nat) := ⟨Env.at_⟩

def GsV (ρ : Env) (b w lo hi : Nat) (mx : Option Nat) (v : Value) : Prop :=
  lo ≤ hi ∧ ((ρ.no b = true ∧ hi = 0 ∧ ∃ a, v = .slice a 0 0) ∨
    (ρ.no b = false ∧ hi ≤ mx.getD (ρ.cap b) ∧ mx.getD (ρ.cap b) ≤ ρ.cap b ∧ ∃ off, v = .slice (some ⟨ρ b, off, none⟩) (hi - lo) (mx.getD (ρ.cap b) - lo) ∧ (lo = 0 ∨ lo < mx.getD (ρ.cap b) → off = lo * w)))

mutual
inductive Rel : Nat → Env → SV → Value → Prop
  | any {n : Nat} {ρ : Env} (v : Value) : Rel n ρ .any v
  | c {n : Nat} {ρ : Env} (v : Value) : Rel n ρ (.c v) v
  | ptr {n : Nat} {ρ : Env} (b o : Nat) : b < n → Rel n ρ (.ptr b o) (.pointer (some ⟨ρ b, o, none⟩))
  | slc {n : Nat} {ρ : Env} (b o l cap : Nat) : b < n → Rel n ρ (.slc b o l cap) (.slice (some ⟨ρ b, o, none⟩) l cap)
  | ep {n : Nat} {ρ : Env} (b base m : Nat) (i : Int) : b < n → 0 ≤ i → i < m → Rel n ρ (.ep b base m i) (.pointer (some ⟨ρ b, base + i.toNat, none⟩))
  | sl {n : Nat} {ρ : Env} (b base m : Nat) (lo hi : Int) : b < n → 0 ≤ lo → lo ≤ hi → hi ≤ m → Rel n ρ (.sl b base m lo hi) (.slice (some ⟨ρ b, if m = lo.toNat then base else base + lo.toNat, none⟩) (hi.toNat - lo.toNat) (m - lo.toNat))
  | fn {n : Nat} {ρ : Env} (f : Fn) (x y : List SV) (xs ys : List Value) : RelL n ρ x xs → RelL n ρ y ys → Rel n ρ (.fn f x y) (.func f xs.toArray ys.toArray)
  | agg {n : Nat} {ρ : Env} (cs : List SV) (vs : List Value) : RelL n ρ cs vs → Rel n ρ (.agg cs) (.agg vs.toArray)
  | tup {n : Nat} {ρ : Env} (cs : List SV) (vs : List Value) : RelL n ρ cs vs → Rel n ρ (.tup cs) (.tuple vs.toArray)
  | gs {n : Nat} {ρ : Env} (b w lo hi : Nat) (mx : Option Nat) (v : Value) : b < n → GsV ρ b w lo hi mx v → Rel n ρ (.gs b w lo hi mx) v
  | ap {n : Nat} {ρ : Env} (b w : Nat) (i : Int) (off : Nat) : b < n → ρ.no b = false → 0 ≤ i → Rel n ρ (.ap b w i off) (.pointer (some ⟨ρ b, i.toNat * w + off, none⟩))
  | rs0 {n : Nat} {ρ : Env} (w : Nat) (f : Nat → List SV) (a : Option Addr) (cap : Nat) : Rel n ρ (.rs w 0 f) (.slice a 0 cap)
  | rs {n : Nat} {ρ : Env} (w m : Nat) (f : Nat → List SV) (g off cap : Nat) (us : List Value) (t : TypeId) (fr : Nat × Nat) : 0 < m → m ≤ cap → ρ.R g = some (.cells us.toArray t fr) → off + m * w ≤ us.length →
      (∀ i, i < m → RelL 0 ρ (f i) ((us.drop (off + i * w)).take w)) → (∀ u ∈ (us.drop off).take (m * w), u.oneCell' = true) → Rel n ρ (.rs w m f) (.slice (some ⟨g, off, none⟩) m cap)
  | rp {n : Nat} {ρ : Env} (cs : List SV) (g off : Nat) (us vs : List Value) (t : TypeId) (fr : Nat × Nat) : ρ.R g = some (.cells us.toArray t fr) → vs <+: us.drop off → RelL 0 ρ cs vs → Rel n ρ (.rp cs) (.pointer (some ⟨g, off, none⟩))
  | ifc {n : Nat} {ρ : Env} (t : TypeId) (x : SV) (v : Value) : Rel n ρ x v → Rel n ρ (.ifc t x) (.iface t v)
  | mp {n : Nat} {ρ : Env} (b : Nat) : b < n → ρ.no b = false → Rel n ρ (.mp b) (.map (some (ρ b)))
  | zs {n : Nat} {ρ : Env} (a : Option Addr) : Rel n ρ .zs (.slice a 0 0)
inductive RelL : Nat → Env → List SV → List Value → Prop
  | nil {n : Nat} {ρ : Env} : RelL n ρ [] []
  | cons {n : Nat} {ρ : Env} (x : SV) (cs : List SV) (v : Value) (vs : List Value) : x.isRow = false → Rel n ρ x v → RelL n ρ cs vs → RelL n ρ (x :: cs) (v :: vs)
  | row {n : Nat} {ρ : Env} (k : IntKind) (m : Nat) (xs : List Int) (cs : List SV) (vs : List Value) : xs.length = m → RelL n ρ cs vs → RelL n ρ (.row k m xs :: cs) (xs.map (Value.int k) ++ vs)
end

mutual
/-- All blocks that it names are below n. -/
def within (n : Nat) : SV → Bool
  | .ptr b _ => Nat.blt b n
  | .slc b _ _ _ => Nat.blt b n
  | .ep b _ _ _ => Nat.blt b n
  | .sl b _ _ _ _ => Nat.blt b n
  | .gs b _ _ _ _ => Nat.blt b n
  | .ap b _ _ _ => Nat.blt b n
  | .mp b => Nat.blt b n
  | .fn _ x y => withinL n x && withinL n y
  | .agg cs => withinL n cs
  | .tup cs => withinL n cs
  | .ifc _ x => within n x
  | _ => true
def withinL (n : Nat) : List SV → Bool
  | [] => true
  | x :: l => within n x && withinL n l
end

/-- What is known of a block: its cells, of which none is frozen; an own row of m elements of w cells each, with or without room behind; a map's entries; an iterator over a string. -/
inductive SB where
  | cells (cs : List SV) (t : TypeId)
  | arr (t : TypeId) (w m : Nat) (f : Nat → List SV)
  | map (m : Nat) (kf vf : Nat → SV)
  | siter (s : ByteArray) (pos : Nat)
  | junk

def Obj.mapEntries : Obj → List MapEntry
  | .map es _ => es.toList
  | _ => []

def BRel (n : Nat) (ρ : Env) (i : Nat) : SB → Option Obj → Prop
  | .cells cs t, o => ρ.no i = false ∧ ∃ vs fr, o = some (.cells vs.toArray t fr) ∧ RelL n ρ cs vs ∧ ∀ i, i < vs.length → ¬ (fr.1 ≤ i ∧ i < fr.2)
  | .arr t w m f, o => (ρ.no i = true ∧ m = 0) ∨ (ρ.no i = false ∧ ∃ us : List Value, o = some (.cells us.toArray t (0, 0)) ∧ ρ.cap i * w ≤ us.length ∧ m ≤ ρ.cap i ∧ ρ.cap i ≤ maxLen ∧ (∀ u ∈ us, u.oneCell' = true) ∧
      ∀ j, j < m → RelL 0 ρ (f j) ((us.drop (j * w)).take w))
  | .map m kf vf, o => ρ.no i = false ∧ ∃ es clock, o = some (.map es clock) ∧ es.size = m ∧ (∀ j e, es[j]? = some e → Rel 0 ρ (kf j) e.key ∧ Rel 0 ρ (vf j) e.val ∧ e.born < clock) ∧ (es.toList.map (·.born)).Pairwise (· < ·)
  | .siter s pos, o => ρ.no i = false ∧ o = some (.stringIter s pos)
  | .junk, _ => True

def SB.owned : SB → Bool
  | .junk => false
  | _ => true

/-- A list of pairs, the newest first. -/
def look {α : Type} : List (Nat × α) → Nat → Option α
  | [], _ => none
  | (i, x) :: l, n => if Nat.beq i n then some x else look l n

structure St where
  tmps : List (Nat × SV)
  sz : Nat
  heap : List (Nat × SB)
  next : Nat
  base : Nat

def St.get (σ : St) (t : Nat) : SV :=
  match look σ.tmps t with
  | some x => x
  | none => .any

def St.ev (σ : St) : Operand → SV
  | .tmp t => σ.get t
  | .const v => .c v
  | .func f => .fn (.func f) [] []
  | .global _ => .any

/-- The heap's part: 'w0' the world as the call began, 'own' the old blocks that are the call's to write. -/
structure HMod (w0 : World) (own : Nat → Prop) (heap : List (Nat × SB)) (next : Nat) (ρ : Env) (w : World) : Prop where
  rel : ∀ i sb, look heap i = some sb → i < next ∧ BRel next ρ i sb w.heap[ρ i]?
  inj : ∀ i j sb sb', look heap i = some sb → look heap j = some sb' → sb.owned = true → sb'.owned = true → ρ.no i = false → ρ.no j = false → i ≠ j → ρ i ≠ ρ j
  mine : ∀ i sb, look heap i = some sb → sb.owned = true → ρ.no i = false → (own (ρ i) ∨ w0.heap.size ≤ ρ i) ∧ ρ i < w.heap.size ∧ ρ.R (ρ i) = none
  os : w.os = w0.os
  tape : w.tape = w0.tape
  output : w.output = w0.output
  size : w0.heap.size ≤ w.heap.size
  block : ∀ g, g < w0.heap.size → ¬ own g → w.heap[g]? = w0.heap[g]?
  glob : GP w
  gsz : NG ≤ w0.heap.size
  gown : ∀ g, g < NG → ¬ own g
  ro : ∀ g o, ρ.R g = some o → w.heap[g]? = some o

def Ext (n : Nat) (ρ ρ' : Env) : Prop := (∀ i, i < n → ρ' i = ρ i ∧ ρ'.no i = ρ.no i ∧ ρ'.cap i = ρ.cap i) ∧ ∀ g o, ρ.R g = some o → ρ'.R g = some o

/-- What is read alone was so, or is new. -/
def RNew (w0 : World) (R R' : Nat → Option Obj) : Prop := ∀ g o, R' g = some o → R g = some o ∨ w0.heap.size ≤ g

structure Mod (w0 : World) (own : Nat → Prop) (ρ0 : Nat × Env) (σ : St) (ρ : Env) (a : Act) (w : World) : Prop where
  defers : a.defers = []
  sz : a.tmps.size = σ.sz
  tmp : ∀ t, Rel σ.next ρ (σ.get t) (a.tmps.getD t undef)
  heap : HMod w0 own σ.heap σ.next ρ w
  base : σ.base ≤ σ.next
  ext : σ.base = ρ0.1 ∧ Ext σ.base ρ0.2 ρ
  rnew : RNew w0 ρ0.2.R ρ.R

end Go.Proofs.Ytjiamfajgllelaa.Sy
