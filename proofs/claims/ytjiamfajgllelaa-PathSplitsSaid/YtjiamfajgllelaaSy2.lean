/-
  Sx2: the evaluator: what becomes of a symbolic state, operation by operation.
-/
import Derived.Test.YtjiamfajgllelaaSy1
namespace Go.Proofs.Ytjiamfajgllelaa.Sy
open Go

def SV.width : SV → Nat
  | .row _ n _ => n
  | _ => 1

def cellAt : List SV → Nat → Option SV
  | [], _ => none
  | .row k n xs :: cs, o => if Nat.blt o n then some (.c (.int k (xs.getD o 0))) else cellAt cs (o - n)
  | x :: _, 0 => some x
  | _ :: cs, o + 1 => cellAt cs o

def dropC : List SV → Nat → Option (List SV)
  | cs, 0 => some cs
  | [], _ + 1 => none
  | .row _ n _ :: cs, o + 1 => if Nat.ble n (o + 1) then dropC cs (o + 1 - n) else none
  | _ :: cs, o + 1 => dropC cs o

def takeC : List SV → Nat → Option (List SV)
  | _, 0 => some []
  | [], _ + 1 => none
  | .row k n xs :: cs, o + 1 => if Nat.ble n (o + 1) then (match takeC cs (o + 1 - n) with | some r => some (.row k n xs :: r) | none => none) else none
  | x :: cs, o + 1 => match takeC cs o with | some r => some (x :: r) | none => none

def widthC : List SV → Nat
  | [] => 0
  | x :: cs => x.width + widthC cs

/-- cells from 'off' on are 'new' -/
def setC (cs : List SV) (off : Nat) (new : List SV) : Option (List SV) :=
  match takeC cs off, dropC cs (off + widthC new) with
  | some a, some b => some (a ++ (new ++ b))
  | _, _ => none

/-- A value as cells: what a variable holds. -/
def SV.cells : SV → Option (List SV)
  | .agg cs => some cs
  | .tup _ => none
  | .row .. => none
  | .any => none
  | .c (.agg _) => none
  | .c (.tuple _) => none
  | x => some [x]

/-- A value as a symbolic value, its cells laid open; bytes beside each other become one row -/
def comp : List Value → List SV
  | [] => []
  | v :: r => match v with
    | .int .u8 a => match comp r with
      | .row .u8 n xs :: q => .row .u8 (n + 1) (a :: xs) :: q
      | q => .row .u8 1 [a] :: q
    | v => .c v :: comp r
def open0 : Value → SV
  | .agg cs => .agg (comp cs.toList)
  | v => .c v

def tySize (P : Program) (t : TypeId) : Option Nat := (P.info? t).map (·.size)
def tyAgg (P : Program) (t : TypeId) : Option Bool :=
  match P.underlying t with
  | some (.struct _) => some true
  | some (.array _ _) => some true
  | some _ => some false
  | none => none
def tyZero (P : Program) (t : TypeId) : Option SV :=
  match P.info? t with
  | some i => match i.zero with
    | some v => some (open0 v)
    | none => none
  | none => none

/-- What lies at a place of a block, as a variable of a type. -/
def readAt (P : Program) (t : TypeId) (cs : List SV) (off : Nat) : Option SV :=
  match tyAgg P t with
  | some true => match tySize P t, dropC cs off with
    | some n, some r => match takeC r n with
      | some x => some (.agg x)
      | none => none
    | _, _ => none
  | some false => cellAt cs off
  | none => none

def kindEq (j k : IntKind) : Bool :=
  match j, k with
  | .i8, .i8 | .i16, .i16 | .i32, .i32 | .i64, .i64 | .u8, .u8 | .u16, .u16 | .u32, .u32 | .u64, .u64 => true
  | _, _ => false

/-- cells that are all integers of one kind -/
def intsK (k : IntKind) : List SV → Option (List Int)
  | [] => some []
  | .c v :: r => match v with
    | .int j a => match kindEq j k, intsK k r with
      | true, some l => some (a :: l)
      | _, _ => none
    | _ => none
  | .row j _ xs :: r => match kindEq j k, r with
    | true, [] => some xs
    | true, r => match intsK k r with
      | some l => some (xs ++ l)
      | none => none
    | _, _ => none
  | _ :: _ => none

def rowAt (k : IntKind) (cs : List SV) (base m : Nat) : Option (List Int) :=
  match dropC cs base with
  | some r => match takeC r m with
    | some l => intsK k l
    | none => none
  | none => none

/-- the kind of an integer's type that takes one cell -/
def elemKind (P : Program) (t : TypeId) : Option IntKind :=
  match P.underlying t, tySize P t with
  | some (.int k), some 1 => some k
  | _, _ => none

/-- a list written from a place on -/
def spl (xs : List Int) (p : Nat) (ys : List Int) : List Int := xs.take p ++ (ys ++ xs.drop (p + ys.length))

/-- a string's byte, its bytes -/
def bAt (s : ByteArray) (i : Int) : Int := ((s.data[i.toNat]?).map (fun b => (b.toNat : Int))).getD 0
def bytesI (s : ByteArray) : List Int := s.data.toList.map fun b => (b.toNat : Int)

def ibits (op : BinOp) (k : IntKind) (x y : Int) : Int :=
  k.wrap ((match op with
    | .and => BitVec.ofInt k.bits x &&& BitVec.ofInt k.bits y
    | .or => BitVec.ofInt k.bits x ||| BitVec.ofInt k.bits y
    | .xor => BitVec.ofInt k.bits x ^^^ BitVec.ofInt k.bits y
    | _ => BitVec.ofInt k.bits x &&& ~~~ BitVec.ofInt k.bits y : BitVec k.bits).toNat : Int)
def ishl (k : IntKind) (x y : Int) : Int := k.wrap (x * 2 ^ (min y.toNat k.bits))
def ishr (k : IntKind) (x y : Int) : Int := x.fdiv (2 ^ (min y.toNat k.bits))

/-- The answer of a silent operation: what must hold, the value, the block that is read. -/
structure Sil where
  obl : Option Prop
  val : SV
  reads : Option Nat

def sv (x : SV) : Option Sil := some ⟨none, x, none⟩

def ibin (op : BinOp) (k : IntKind) (x y : Int) : Option Sil :=
  match op with
  | .add => sv (.c (.int k (k.wrap (x + y))))
  | .sub => sv (.c (.int k (k.wrap (x - y))))
  | .mul => sv (.c (.int k (k.wrap (x * y))))
  | .eql => sv (.c (.bool (x == y)))
  | .neq => sv (.c (.bool (x != y)))
  | .lss => sv (.c (.bool (decide (x < y))))
  | .leq => sv (.c (.bool (decide (x ≤ y))))
  | .gtr => sv (.c (.bool (decide (x > y))))
  | .geq => sv (.c (.bool (decide (x ≥ y))))
  | .and => sv (.c (.int k (ibits .and k x y)))
  | .or => sv (.c (.int k (ibits .or k x y)))
  | .xor => sv (.c (.int k (ibits .xor k x y)))
  | .andNot => sv (.c (.int k (ibits .andNot k x y)))
  | .quo => some ⟨some (y ≠ 0), .c (.int k (k.wrap (x.tdiv y))), none⟩
  | .rem => some ⟨some (y ≠ 0), .c (.int k (x.tmod y)), none⟩
  | _ => none

/-- whether two values of a type are the same, cell by cell; what is left behind them -/
def eqFs (P : Program) (rec_ : TypeId → List SV → List SV → Option (Bool × List SV × List SV)) : List Field → Nat → List SV → List SV → Option (Bool × List SV × List SV)
  | [], _, cs, ds => some (true, cs, ds)
  | f :: fs, o, cs, ds => match Nat.beq f.offset o && f.name != "_", tySize P f.type, rec_ f.type cs ds with
    | true, some n, some (b, r, r') => match fs with
      | [] => some (b, r, r')
      | fs => match eqFs P rec_ fs (o + n) r r' with
        | some (b', q, q') => some (b && b', q, q')
        | none => none
    | _, _, _ => none

def eqT1 (P : Program) : Nat → TypeId → List SV → List SV → Option (Bool × List SV × List SV)
  | 0, _, _, _ => none
  | d + 1, t, cs, ds => match P.underlying t with
    | some .bool => match cs, ds with
      | .c (.bool a) :: r, .c (.bool b) :: r' => some (a == b, r, r')
      | _, _ => none
    | some (.int _) => match cs, ds with
      | .c (.int j a) :: r, .c (.int j' b) :: r' => match kindEq j j' with
        | true => some (a == b, r, r')
        | false => none
      | _, _ => none
    | some .string => match cs, ds with
      | .c (.string a) :: r, .c (.string b) :: r' => some (a.toList == b.toList, r, r')
      | _, _ => none
    | some (.array n e) => match d, elemKind P e with
      | _ + 1, some k => match takeC cs n, dropC cs n, takeC ds n, dropC ds n with
        | some l, some r, some l', some r' => match intsK k l, intsK k l' with
          | some xs, some ys => some (xs == ys, r, r')
          | _, _ => none
        | _, _, _, _ => none
      | _, _ => none
    | some (.struct fs) => match P.stoodInHeld t with
      | false => eqFs P (fun t cs ds => match eqT1 P d t cs ds, tySize P t with
        | some (b, r, r'), some m => match Nat.beq (m + widthC r) (widthC cs) && Nat.beq (m + widthC r') (widthC ds) with
          | true => some (b, r, r')
          | false => none
        | _, _ => none) fs.toList 0 cs ds
      | _ => none
    | _ => none

/-- and the sizes are as they should be -/
def eqT (P : Program) (d : Nat) (t : TypeId) (cs ds : List SV) : Option (Bool × List SV × List SV) :=
  match eqT1 P d t cs ds, tySize P t with
  | some (b, r, r'), some m => match Nat.beq (m + widthC r) (widthC cs) && Nat.beq (m + widthC r') (widthC ds) with
    | true => some (b, r, r')
    | false => none
  | _, _ => none

/-- an obligation that a constant meets is struck -/
def plainly (y : Operand) (s : Option Sil) : Option Sil :=
  match y with
  | .const (.int _ n) => match n with
    | .ofNat (_ + 1) => match s with
      | some ⟨_, v, r⟩ => some ⟨none, v, r⟩
      | none => none
    | _ => s
  | _ => s

def bin (P : Program) (t : TypeId) (op : BinOp) (x y : SV) : Option Sil :=
  match op with
  | .shl | .shr => none
  | _ => match x, y with
    | .c (.int k a), .c (.int k' b) => match kindEq k k' with
      | true => ibin op k a b
      | false => none
    | .c (.bool a), .c (.bool b) => match op, P.underlying t with
      | .eql, some .bool => sv (.c (.bool (a == b)))
      | .neq, some .bool => sv (.c (.bool (!(a == b))))
      | _, _ => none
    | .c (.string a), .c (.string b) => match op with
      | .add => some ⟨some (((a.size + b.size : Nat) : Int) ≤ 9223372036854775807), .c (.string (a ++ b)), none⟩
      | .eql => sv (.c (.bool (a.toList == b.toList)))
      | .neq => sv (.c (.bool (!(a.toList == b.toList))))
      | .lss => sv (.c (.bool (Op.bytesLess a.toList b.toList)))
      | .leq => sv (.c (.bool (Op.bytesLess a.toList b.toList || a.toList == b.toList)))
      | .gtr => sv (.c (.bool (!(Op.bytesLess a.toList b.toList || a.toList == b.toList))))
      | .geq => sv (.c (.bool (!(Op.bytesLess a.toList b.toList))))
      | _ => none
    | .agg cs, .agg ds => match tyAgg P t, P.eqGuardType P.depth t with
      | some true, false => match op, eqT P 20 t cs ds with
        | .eql, some (b, [], []) => sv (.c (.bool b))
        | .neq, some (b, [], []) => sv (.c (.bool (!b)))
        | _, _ => none
      | _, _ => none
    | _, _ => none

def mm1 (f : Int → Int → Int) (k : IntKind) : Int → List SV → Option SV
  | a, [] => some (.c (.int k a))
  | a, .c (.int k' b) :: r => if kindEq k k' then mm1 f k (f a b) r else none
  | _, _ => none
def mm (f : Int → Int → Int) : List SV → Option SV
  | .c (.int k a) :: r => mm1 f k a r
  | _ => none

def mx (x y : Int) : Int := if y > x then y else x
def mn (x y : Int) : Int := if y < x then y else x

def evs (σ : St) (xs : List Operand) : List SV := xs.map σ.ev

def fillC (place : Nat → Option (Nat × Nat)) (cells : List SV) : List (Nat × SV) → Option (List SV)
  | [] => some cells
  | (i, v) :: rest => match place i, v.cells with
    | some (off, size), some cs => if Nat.beq (widthC cs) size then (match setC cells off cs with | some c => fillC place c rest | none => none) else none
    | _, _ => none

def fieldOf (P : Program) (t : TypeId) (f : Nat) : Option (Nat × TypeId × Nat) :=
  match P.underlying t with
  | some (.struct fs) => match fs[f]? with
    | some x => match tySize P x.type with
      | some n => some (x.offset, x.type, n)
      | none => none
    | none => none
  | _ => none

def sizesOf (P : Program) : List Field → Option (List (Nat × Nat))
  | [] => some []
  | f :: l => match tySize P f.type, sizesOf P l with
    | some n, some r => some ((f.offset, n) :: r)
    | _, _ => none

/-- parts of an array that are plain constants -/
def constParts : List (Nat × Operand) → Option (List (Nat × Value))
  | [] => some []
  | (i, .const v) :: r => match v, constParts r with
    | .int k a, some q => some ((i, .int k a) :: q)
    | _, _ => none
  | _ => none
def fillV (zs : List Value) : List (Nat × Value) → Option (List Value)
  | [] => some zs
  | (i, v) :: r => match Nat.blt i zs.length with
    | true => fillV (zs.set i v) r
    | false => none
def zeroL (P : Program) (t : TypeId) : Option (List Value) :=
  match P.info? t with
  | some i => match i.zero with
    | some (.agg cs) => some cs.toList
    | _ => none
  | none => none

def evParts (σ : St) (ps : List (Nat × Operand)) : List (Nat × SV) := ps.map fun p => (p.1, σ.ev p.2)

/-- a bound of a slice expression -/
def bnd (σ : St) (d : Int) : Option Operand → Option Int
  | none => some d
  | some x => match σ.ev x with
    | .c (.int _ a) => some a
    | _ => none
/-- lo + j; nothing is added to a plain 0 -/
def addI (lo : Nat) (j : Int) : Int :=
  match lo with
  | 0 => j
  | lo => (lo : Int) + j
def addN (lo : Nat) (j : Int) : Nat :=
  match lo with
  | 0 => j.toNat
  | lo => lo + j.toNat
def subN (hi lo : Nat) : Nat :=
  match lo with
  | 0 => hi
  | lo => hi - lo
def shiftF (f : Nat → List SV) (l : Nat) : Nat → List SV :=
  match l with
  | 0 => f
  | l => fun i => f (l + i)
theorem addI_eq (lo : Nat) (j : Int) : addI lo j = (lo : Int) + j := by unfold addI; split <;> simp
theorem addN_eq (lo : Nat) (j : Int) : addN lo j = lo + j.toNat := by unfold addN; split <;> simp
theorem subN_eq (hi lo : Nat) : subN hi lo = hi - lo := by unfold subN; split <;> simp
theorem shiftF_eq (f : Nat → List SV) (l : Nat) : shiftF f l = fun i => f (l + i) := by unfold shiftF; split <;> simp

/-- the bounds of a slice expression over n elements -/
def bnds (σ : St) (n : Int) (lo hi mx : Option Operand) : Option (Int × Int × Option Int) :=
  match mx with
  | none => match bnd σ 0 lo, bnd σ n hi with
    | some l, some h => some (l, h, none)
    | _, _ => none
  | some z => match hi with
    | some y => match bnd σ 0 lo, bnd σ 0 (some y), bnd σ 0 (some z) with
      | some l, some h, some k => some (l, h, some k)
      | _, _, _ => none
    | none => none

/-- '[:0:0]' -/
def isNull : Operand → Bool
  | .const (.int _ (.ofNat 0)) => true
  | _ => false
def noneOf (lo hi mx : Option Operand) : Bool :=
  match lo, hi, mx with
  | none, some h, some m => isNull h && isNull m
  | some l, some h, some m => isNull l && isNull h && isNull m
  | _, _, _ => false
/-- a part of a slice -/
def slicing1 (σ : St) (w : Nat) (x : SV) (lo hi mx : Option Operand) : Option Sil :=
  match x with
  | .rs w' n f => match Nat.beq w w', bnds σ n lo hi mx with
    | true, some (l, h, none) => some ⟨some (0 ≤ l ∧ l ≤ h ∧ h ≤ (n : Int)), .rs w' (h - l).toNat (shiftF f l.toNat), none⟩
    | _, _ => none
  | .gs b w' a c m => match Nat.beq w w', bnds σ (subN c a : Nat) lo hi mx with
    | true, some (l, h, none) => some ⟨some (0 ≤ l ∧ l ≤ h ∧ h ≤ ((subN c a : Nat) : Int)), .gs b w' (addN a l) (addN a h) m, none⟩
    | true, some (l, h, some k) => some ⟨some (0 ≤ l ∧ l ≤ h ∧ h ≤ k ∧ k ≤ ((subN c a : Nat) : Int)), .gs b w' (addN a l) (addN a h) (some (addN a k)), none⟩
    | _, _ => none
  | .c (.slice none 0 0) => match bnds σ 0 lo hi mx with
    | some (l, h, none) => some ⟨some (l = 0 ∧ h = 0), .c (.slice none 0 0), none⟩
    | some (l, h, some k) => some ⟨some (l = 0 ∧ h = 0 ∧ k = 0), .c (.slice none 0 0), none⟩
    | _ => none
  | .zs => match bnds σ 0 lo hi mx with
    | some (l, h, none) => some ⟨some (l = 0 ∧ h = 0), .zs, none⟩
    | some (l, h, some k) => some ⟨some (l = 0 ∧ h = 0 ∧ k = 0), .zs, none⟩
    | _ => none
  | _ => none
def slicing (σ : St) (w : Nat) (x : SV) (lo hi mx : Option Operand) : Option Sil :=
  match noneOf lo hi mx with
  | true => match x with
    | .rs .. => sv .zs
    | .gs .. => sv .zs
    | .zs => sv .zs
    | x => slicing1 σ w x lo hi mx
  | false => slicing1 σ w x lo hi mx

def sil (P : Program) (σ : St) (op : Op) : Option Sil :=
  match op with
  | .move x => sv (σ.ev x)
  | .assign x => sv (σ.ev x)
  | .pick c a b => match σ.ev c with
    | .c (.bool t) => match t with
      | true => sv (σ.ev a)
      | false => sv (σ.ev b)
    | _ => none
  | .build t parts => match tyZero P t, P.underlying t with
    | some (.agg z), some (.struct fs) => match sizesOf P fs.toList with
      | some places => match fillC (fun i => places[i]?) z (evParts σ parts.toList) with
        | some cs => sv (.agg cs)
        | none => none
      | none => none
    | some (.agg _), some (.array _ e) => match tySize P e, zeroL P t, constParts parts.toList with
      | some 1, some zs, some qs => match fillV zs qs with
        | some us => sv (.agg (comp us))
        | none => none
      | _, _, _ => none
    | _, _ => none
  | .load t x => match σ.ev x with
    | .ptr b off => match look σ.heap b with
      | some (.cells cs _) => match readAt P t cs off with
        | some v => some ⟨none, v, some b⟩
        | none => none
      | _ => none
    | .ep b base m i => match look σ.heap b, elemKind P t with
      | some (.cells cs _), some k => match rowAt k cs base m with
        | some xs => some ⟨none, .c (.int k (xs.getD i.toNat 0)), some b⟩
        | none => none
      | _, _ => none
    | .ap b w i off => match look σ.heap b with
      | some (.arr _ w' m f) => match Nat.beq w w', readAt P t (f i.toNat) off with
        | true, some v => some ⟨some (i < (m : Int)), v, some b⟩
        | _, _ => none
      | _ => none
    | .rp cs => match readAt P t cs 0 with
      | some v => sv v
      | none => none
    | _ => none
  | .binOp op t x y _ => match op with
    | .shl => match σ.ev x, σ.ev y with
      | .c (.int k a), .c (.int _ b) => plainly y (some ⟨some (0 ≤ b), .c (.int k (ishl k a b)), none⟩)
      | _, _ => none
    | .shr => match σ.ev x, σ.ev y with
      | .c (.int k a), .c (.int _ b) => plainly y (some ⟨some (0 ≤ b), .c (.int k (ishr k a b)), none⟩)
      | _, _ => none
    | .quo => plainly y (bin P t .quo (σ.ev x) (σ.ev y))
    | .rem => plainly y (bin P t .rem (σ.ev x) (σ.ev y))
    | op => bin P t op (σ.ev x) (σ.ev y)
  | .unOp op _ x => match op, σ.ev x with
    | .not, .c (.bool b) => sv (.c (.bool (!b)))
    | .neg, .c (.int k a) => sv (.c (.int k (k.wrap (0 - a))))
    | .xor, .c (.int k a) => sv (.c (.int k (ibits .xor k (if k.signed then -1 else k.max) a)))
    | _, _ => none
  | .convert src dst x => match P.underlying src, P.underlying dst, σ.ev x with
    | some _, some (.int k), .c (.int _ a) => sv (.c (.int k (k.wrap a)))
    | some (.int _), some .string, .c (.int _ a) => sv (.c (.string (Utf8.encode a)))
    | _, _, _ => none
  | .nilCheck x => match σ.ev x with
    | .ptr b o => sv (.ptr b o)
    | .ep b base m i => sv (.ep b base m i)
    | .ap b w i o => sv (.ap b w i o)
    | .rp cs => sv (.rp cs)
    | _ => none
  | .index t x i => match P.underlying t, σ.ev x, σ.ev i with
    | some .string, .c (.string s), .c (.int _ j) => some ⟨some (0 ≤ j ∧ j < (s.size : Int)), .c (.int .u8 (bAt s j)), none⟩
    | _, _, _ => none
  | .slice t x lo hi mx => match P.underlying t, mx with
    | some (.slice e), mx => match tySize P e with
      | some w => slicing σ w (σ.ev x) lo hi mx
      | none => none
    | some (.array n e), none => match σ.ev x, elemKind P e with
      | .ptr b off, some _ => match lo, hi with
        | none, none => sv (.sl b off n 0 n)
        | some l, none => match σ.ev l with
          | .c (.int _ a) => some ⟨some (0 ≤ a ∧ a ≤ n), .sl b off n a n, none⟩
          | _ => none
        | none, some h => match σ.ev h with
          | .c (.int _ c) => some ⟨some (0 ≤ c ∧ c ≤ n), .sl b off n 0 c, none⟩
          | _ => none
        | some l, some h => match σ.ev l, σ.ev h with
          | .c (.int _ a), .c (.int _ c) => some ⟨some (0 ≤ a ∧ a ≤ c ∧ c ≤ n), .sl b off n a c, none⟩
          | _, _ => none
      | _, _ => none
    | some .string, none => match σ.ev x with
      | .c (.string s) => match lo, hi with
        | none, none => sv (.c (.string (s.extract 0 s.size)))
        | some l, none => match σ.ev l with
          | .c (.int _ a) => some ⟨some (0 ≤ a ∧ a ≤ (s.size : Int)), .c (.string (s.extract a.toNat s.size)), none⟩
          | _ => none
        | none, some h => match σ.ev h with
          | .c (.int _ c) => some ⟨some (0 ≤ c ∧ c ≤ (s.size : Int)), .c (.string (s.extract 0 c.toNat)), none⟩
          | _ => none
        | some l, some h => match σ.ev l, σ.ev h with
          | .c (.int _ a), .c (.int _ c) => some ⟨some (0 ≤ a ∧ a ≤ c ∧ c ≤ (s.size : Int)), .c (.string (s.extract a.toNat c.toNat)), none⟩
          | _, _ => none
      | _ => none
    | _, _ => none
  | .makeFunc fn first caps => sv (.fn fn (evs σ first.toList) (evs σ caps.toList))
  | .fieldAddr t x f => match σ.ev x, fieldOf P t f with
    | .ptr b off, some (o, _, n) => if Nat.beq n 0 then none else sv (.ptr b (off + o))
    | .ap b w i off, some (o, _, n) => if Nat.beq n 0 then none else sv (.ap b w i (off + o))
    | .rp cs, some (o, _, n) => if Nat.beq n 0 then none else match dropC cs o with
      | some r => sv (.rp r)
      | none => none
    | _, _ => none
  | .field t x f => match σ.ev x, fieldOf P t f with
    | .agg cs, some (o, ft, _) => match readAt P ft cs o with
      | some v => sv v
      | none => none
    | _, _ => none
  | .extract x i => match σ.ev x with
    | .tup vs => match cellAt vs i with
      | some v => sv v
      | none => none
    | _ => none
  | .call ⟨.builtin b, args, tys⟩ => match b with
    | .max => match mm mx (evs σ args.toList) with
      | some v => sv v
      | none => none
    | .min => match mm mn (evs σ args.toList) with
      | some v => sv v
      | none => none
    | .len => match tys.toList, evs σ args.toList with
      | [t], [.slc _ _ n _] => match P.underlying t with
        | some (.slice _) => sv (.c (.int .i64 n))
        | _ => none
      | [t], [.sl _ _ _ lo hi] => match P.underlying t with
        | some (.slice _) => sv (.c (.int .i64 (hi - lo)))
        | _ => none
      | [t], [.c (.string s)] => match P.underlying t with
        | some .string => sv (.c (.int .i64 s.size))
        | _ => none
      | [t], [.c (.slice none 0 0)] => match P.underlying t with
        | some (.slice _) => sv (.c (.int .i64 0))
        | _ => none
      | [t], [.gs _ _ lo hi _] => match P.underlying t with
        | some (.slice _) => sv (.c (.int .i64 (subN hi lo : Nat)))
        | _ => none
      | [t], [.rs _ n _] => match P.underlying t with
        | some (.slice _) => sv (.c (.int .i64 n))
        | _ => none
      | [t], [.zs] => match P.underlying t with
        | some (.slice _) => sv (.c (.int .i64 0))
        | _ => none
      | _, _ => none
    | _ => none
  | .indexAddr t x i => match P.underlying t with
    | some (.slice e) => match σ.ev x, σ.ev i, tySize P e with
      | .slc b off n _, .c (.int _ (.ofNat j)), some m => if Nat.blt j n then sv (.ptr b (off + j * m)) else none
      | .gs b w lo hi _, .c (.int _ j), some m => match Nat.beq w m with
        | true => some ⟨some (0 ≤ j ∧ j < ((subN hi lo : Nat) : Int)), .ap b w (addI lo j) 0, none⟩
        | false => none
      | .rs w n f, .c (.int _ j), some m => match Nat.beq w m with
        | true => some ⟨some (0 ≤ j ∧ j < (n : Int)), .rp (f j.toNat), none⟩
        | false => none
      | _, _, _ => none
    | some (.array n e) => match σ.ev x, σ.ev i, elemKind P e with
      | .ptr b off, .c (.int _ j), some _ => some ⟨some (0 ≤ j ∧ j < (n : Int)), .ep b off n j, none⟩
      | _, _, _ => none
    | _ => none
  | _ => none

end Go.Proofs.Ytjiamfajgllelaa.Sy
