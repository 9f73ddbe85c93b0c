/-
  Sx2: the evaluator: what becomes of a symbolic state, operation by operation.
-/
import Derived.Test.YtjbialminpdogaaSx1
namespace Go.Proofs.Ytjbialminpdogaa.Sx
open Go

def SV.width : SV → Nat
  | .row _ n _ => n
  | _ => 1

def cellAt : List SV → Nat → Option SV
  | [], _ => none
  | .row k n xs :: cs, o => if Nat.blt o n then some (.c (.int k (xs.getD o 0))) else cellAt cs (o - n)
  | x :: _, 0 => some x
  | _ :: cs, o + 1 => cellAt cs o

def dropC : List SV → Nat → Option (List SV)
  | cs, 0 => some cs
  | [], _ + 1 => none
  | .row _ n _ :: cs, o + 1 => if Nat.ble n (o + 1) then dropC cs (o + 1 - n) else none
  | _ :: cs, o + 1 => dropC cs o

def takeC : List SV → Nat → Option (List SV)
  | _, 0 => some []
  | [], _ + 1 => none
  | .row k n xs :: cs, o + 1 => if Nat.ble n (o + 1) then (match takeC cs (o + 1 - n) with | some r => some (.row k n xs :: r) | none => none) else none
  | x :: cs, o + 1 => match takeC cs o with | some r => some (x :: r) | none => none

def widthC : List SV → Nat
  | [] => 0
  | x :: cs => x.width + widthC cs

/-- cells from 'off' on are 'new' -/
def setC (cs : List SV) (off : Nat) (new : List SV) : Option (List SV) :=
  match takeC cs off, dropC cs (off + widthC new) with
  | some a, some b => some (a ++ (new ++ b))
  | _, _ => none

/-- A value as cells: what a variable holds. -/
def SV.cells : SV → Option (List SV)
  | .agg cs => some cs
  | .tup _ => none
  | .row .. => none
  | .any => none
  | .c (.agg _) => none
  | .c (.tuple _) => none
  | x => some [x]

/-- A value as a symbolic value, its cells laid open. -/
def open1 : Value → SV
  | v => .c v
def open0 : Value → SV
  | .agg cs => .agg (cs.toList.map SV.c)
  | v => .c v

def tySize (P : Program) (t : TypeId) : Option Nat := (P.info? t).map (·.size)
def tyAgg (P : Program) (t : TypeId) : Option Bool :=
  match P.underlying t with
  | some (.struct _) => some true
  | some (.array _ _) => some true
  | some _ => some false
  | none => none
def tyZero (P : Program) (t : TypeId) : Option SV :=
  match P.info? t with
  | some i => match i.zero with
    | some v => some (open0 v)
    | none => none
  | none => none

/-- What lies at a place of a block, as a variable of a type. -/
def readAt (P : Program) (t : TypeId) (cs : List SV) (off : Nat) : Option SV :=
  match tyAgg P t with
  | some true => match tySize P t, dropC cs off with
    | some n, some r => match takeC r n with
      | some x => some (.agg x)
      | none => none
    | _, _ => none
  | some false => cellAt cs off
  | none => none

/-- The answer of a silent operation: what must hold, the value, the block that is read. -/
structure Sil where
  obl : Option Prop
  val : SV
  reads : Option Nat

def sv (x : SV) : Option Sil := some ⟨none, x, none⟩

def ibin (op : BinOp) (k : IntKind) (x y : Int) : Option Sil :=
  match op with
  | .add => sv (.c (.int k (k.wrap (x + y))))
  | .sub => sv (.c (.int k (k.wrap (x - y))))
  | .mul => sv (.c (.int k (k.wrap (x * y))))
  | .eql => sv (.c (.bool (x == y)))
  | .neq => sv (.c (.bool (x != y)))
  | .lss => sv (.c (.bool (decide (x < y))))
  | .leq => sv (.c (.bool (decide (x ≤ y))))
  | .gtr => sv (.c (.bool (decide (x > y))))
  | .geq => sv (.c (.bool (decide (x ≥ y))))
  | .quo => some ⟨some (y ≠ 0), .c (.int k (k.wrap (x.tdiv y))), none⟩
  | .rem => some ⟨some (y ≠ 0), .c (.int k (x.tmod y)), none⟩
  | _ => none

def kindEq (j k : IntKind) : Bool :=
  match j, k with
  | .i8, .i8 | .i16, .i16 | .i32, .i32 | .i64, .i64 | .u8, .u8 | .u16, .u16 | .u32, .u32 | .u64, .u64 => true
  | _, _ => false

/-- an obligation that a constant meets is struck -/
def plainly (y : Operand) (s : Option Sil) : Option Sil :=
  match y with
  | .const (.int _ n) => match n with
    | .ofNat (_ + 1) => match s with
      | some ⟨_, v, r⟩ => some ⟨none, v, r⟩
      | none => none
    | _ => s
  | _ => s

def bin (P : Program) (t : TypeId) (op : BinOp) (x y : SV) : Option Sil :=
  match op with
  | .shl | .shr => none
  | _ => match x, y with
    | .c (.int k a), .c (.int k' b) => match kindEq k k' with
      | true => ibin op k a b
      | false => none
    | .c (.bool a), .c (.bool b) => match op, P.underlying t with
      | .eql, some .bool => sv (.c (.bool (a == b)))
      | .neq, some .bool => sv (.c (.bool (!(a == b))))
      | _, _ => none
    | _, _ => none

def mm1 (f : Int → Int → Int) (k : IntKind) : Int → List SV → Option SV
  | a, [] => some (.c (.int k a))
  | a, .c (.int k' b) :: r => if kindEq k k' then mm1 f k (f a b) r else none
  | _, _ => none
def mm (f : Int → Int → Int) : List SV → Option SV
  | .c (.int k a) :: r => mm1 f k a r
  | _ => none

def mx (x y : Int) : Int := if y > x then y else x
def mn (x y : Int) : Int := if y < x then y else x

def evs (σ : St) (xs : List Operand) : List SV := xs.map σ.ev

def fillC (place : Nat → Option (Nat × Nat)) (cells : List SV) : List (Nat × SV) → Option (List SV)
  | [] => some cells
  | (i, v) :: rest => match place i, v.cells with
    | some (off, size), some cs => if Nat.beq (widthC cs) size then (match setC cells off cs with | some c => fillC place c rest | none => none) else none
    | _, _ => none

def fieldOf (P : Program) (t : TypeId) (f : Nat) : Option (Nat × TypeId × Nat) :=
  match P.underlying t with
  | some (.struct fs) => match fs[f]? with
    | some x => match tySize P x.type with
      | some n => some (x.offset, x.type, n)
      | none => none
    | none => none
  | _ => none

def sizesOf (P : Program) : List Field → Option (List (Nat × Nat))
  | [] => some []
  | f :: l => match tySize P f.type, sizesOf P l with
    | some n, some r => some ((f.offset, n) :: r)
    | _, _ => none

def evParts (σ : St) (ps : List (Nat × Operand)) : List (Nat × SV) := ps.map fun p => (p.1, σ.ev p.2)

def sil (P : Program) (σ : St) (op : Op) : Option Sil :=
  match op with
  | .move x => sv (σ.ev x)
  | .assign x => sv (σ.ev x)
  | .pick c a b => match σ.ev c with
    | .c (.bool t) => match t with
      | true => sv (σ.ev a)
      | false => sv (σ.ev b)
    | _ => none
  | .build t parts => match tyZero P t, P.underlying t with
    | some (.agg z), some (.struct fs) => match sizesOf P fs.toList with
      | some places => match fillC (fun i => places[i]?) z (evParts σ parts.toList) with
        | some cs => sv (.agg cs)
        | none => none
      | none => none
    | _, _ => none
  | .load t x => match σ.ev x with
    | .ptr b off => match look σ.heap b with
      | some (.cells cs _) => match readAt P t cs off with
        | some v => some ⟨none, v, some b⟩
        | none => none
      | _ => none
    | _ => none
  | .binOp op t x y _ => match op with
    | .quo => plainly y (bin P t .quo (σ.ev x) (σ.ev y))
    | .rem => plainly y (bin P t .rem (σ.ev x) (σ.ev y))
    | op => bin P t op (σ.ev x) (σ.ev y)
  | .unOp .not _ x => match σ.ev x with
    | .c (.bool b) => sv (.c (.bool (!b)))
    | _ => none
  | .makeFunc fn first caps => sv (.fn fn (evs σ first.toList) (evs σ caps.toList))
  | .fieldAddr t x f => match σ.ev x, fieldOf P t f with
    | .ptr b off, some (o, _, n) => if Nat.beq n 0 then none else sv (.ptr b (off + o))
    | _, _ => none
  | .extract x i => match σ.ev x with
    | .tup vs => match cellAt vs i with
      | some v => sv v
      | none => none
    | _ => none
  | .call ⟨.builtin b, args, tys⟩ => match b with
    | .max => match mm mx (evs σ args.toList) with
      | some v => sv v
      | none => none
    | .min => match mm mn (evs σ args.toList) with
      | some v => sv v
      | none => none
    | .len => match tys.toList, evs σ args.toList with
      | [t], [.slc _ _ n _] => match P.underlying t with
        | some (.slice _) => sv (.c (.int .i64 n))
        | _ => none
      | _, _ => none
    | _ => none
  | .indexAddr t x i => match P.underlying t with
    | some (.slice e) => match σ.ev x, σ.ev i, tySize P e with
      | .slc b off n _, .c (.int _ (.ofNat j)), some m => if Nat.blt j n then sv (.ptr b (off + j * m)) else none
      | _, _, _ => none
    | _ => none
  | _ => none

end Go.Proofs.Ytjbialminpdogaa.Sx
