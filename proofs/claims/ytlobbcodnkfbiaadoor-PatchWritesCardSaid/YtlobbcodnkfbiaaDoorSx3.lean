/-
  Sx3: the evaluator over code; contracts of callees; loops by an invariant or by so many rounds.
-/
import Derived.Test.YtlobbcodnkfbiaaDoorSx2
import Derived.Laws.Sem
namespace Go.Proofs.YtlobbcodnkfbiaaDoor.Sx
open Go

theorem callFunc_run {P : Program} {g : FuncId} {fn : Func} (hf : P.funcs[g]? = some fn) (hn : fn.body.isSome = true) (hr : (fn.name == "runtime.NumGoroutine") = false) (args : Array Value) (w : World) :
    (callFunc g args).run P w = .ok (.enter g args) w := by
  have : fn.body.isNone = false := by cases hb : fn.body <;> simp_all
  simp only [callFunc, Sem.run_bind, run_program, Result.andThen_ok, hf, hr, Bool.false_eq_true, if_false, this]
  rfl

/-- A contract of a function that changes nothing that is there. -/
structure PSpec (P : Program) where
  f : FuncId
  enter : ∀ args w, (callFunc f args).run P w = .ok (.enter f args) w
  tr : List SV → (SV → Prop) → Prop
  sound : ∀ args K, tr args K → ∀ n ρ vs w, RelL n ρ args vs → GP w → NG ≤ w.heap.size →
    Calls P f vs.toArray w fun e w' => ∃ r v, K r ∧ e = .returned v ∧ (∀ n' ρ', Rel n' ρ' r v) ∧ Go.RowKit.Below w.heap.size w w'

/-- A contract of a function that may change blocks of ours. -/
structure GSpec (P : Program) where
  f : FuncId
  enter : ∀ args w, (callFunc f args).run P w = .ok (.enter f args) w
  tr : List SV → List (Nat × SB) → Nat → (SV → List (Nat × SB) → Nat → Prop) → Prop
  sound : ∀ args heap next K, tr args heap next K → ∀ w0 own ρ vs w, RelL next ρ args vs → HMod w0 own heap next ρ w →
    Calls P f vs.toArray w fun e w' => ∃ r v heap' next' ρ', K r heap' next' ∧ e = .returned v ∧ Rel next' ρ' r v ∧ next ≤ next' ∧ Ext next ρ ρ' ∧ HMod w0 own heap' next' ρ' w'

structure Gam (P : Program) where
  ps : List (PSpec P)
  gs : List (GSpec P)

def findP {P : Program} : List (PSpec P) → Nat → Option (PSpec P)
  | [], _ => none
  | s :: l, f => if Nat.beq s.f f then some s else findP l f
def findG {P : Program} : List (GSpec P) → Nat → Option (GSpec P)
  | [], _ => none
  | s :: l, f => if Nat.beq s.f f then some s else findG l f

/-- A value laid open, so that what is kept is no thunk. -/
def forceS (v : SV) (K : SV → Prop) : Prop :=
  match v with
  | .any => K .any
  | .c x => match x with
    | .int k n => K (.c (.int k n))
    | .bool b => K (.c (.bool b))
    | .string s => K (.c (.string s))
    | x => K (.c x)
  | .ptr b o => K (.ptr b o)
  | .slc b o l c => K (.slc b o l c)
  | .ep b o l c => K (.ep b o l c)
  | .sl b o l c d => K (.sl b o l c d)
  | .row k n xs => K (.row k n xs)
  | v => K v
def forceL : List SV → (List SV → Prop) → Prop
  | [], K => K []
  | x :: l, K => forceS x fun x => forceL l fun l => K (x :: l)
def force (v : SV) (K : SV → Prop) : Prop :=
  match v with
  | .agg cs => forceL cs fun cs => K (.agg cs)
  | .tup cs => forceL cs fun cs => K (.tup cs)
  | v => forceS v K

theorem forceS_eq (v : SV) (K : SV → Prop) : forceS v K = K v := by
  unfold forceS; split <;> (try rfl); split <;> rfl
theorem forceL_eq (l : List SV) (K : List SV → Prop) : forceL l K = K l := by
  induction l generalizing K with
  | nil => rfl
  | cons x l ih => simp only [forceL, forceS_eq, ih]
theorem force_eq (v : SV) (K : SV → Prop) : force v K = K v := by
  unfold force; split <;> simp only [forceL_eq, forceS_eq]

def putK (σ : St) (d : Option Nat) (v : SV) (K : St → Prop) : Prop :=
  match σ with
  | ⟨tm, sz, h, n, b⟩ => match d with
    | none => K ⟨tm, sz, h, n, b⟩
    | some t => match Nat.blt t sz with
      | true => force v fun v => K ⟨(t, v) :: tm, sz, h, n, b⟩
      | false => False

/-- a block written (a new one, or an old one anew) -/
def withBlock (σ : St) (b : Nat) (cs : List SV) (t : TypeId) (K : St → Prop) : Prop :=
  match σ with
  | ⟨tm, sz, h, next, base⟩ => forceL cs fun cs => K ⟨tm, sz, (b, .cells cs t) :: h, next, base⟩

def newBlock (σ : St) (cs : List SV) (t : TypeId) (K : St → Nat → Prop) : Prop :=
  match σ with
  | ⟨tm, sz, h, n, base⟩ => forceL cs fun cs => K ⟨tm, sz, (n, .cells cs t) :: h, n + 1, base⟩ n

theorem newBlock_eq (σ : St) (cs : List SV) (t : TypeId) (K : St → Nat → Prop) : newBlock σ cs t K = K { σ with heap := (σ.next, .cells cs t) :: σ.heap, next := σ.next + 1 } σ.next := by
  cases σ; simp only [newBlock, forceL_eq]

theorem withBlock_eq (σ : St) (b : Nat) (cs : List SV) (t : TypeId) (K : St → Prop) : withBlock σ b cs t K = K { σ with heap := (b, .cells cs t) :: σ.heap } := by
  cases σ; simp only [withBlock, forceL_eq]

def callFn {P : Program} (Γ : Gam P) (σ : St) (g : FuncId) (args : List SV) (d : Option Nat) (K : St → Prop) : Prop :=
  match findP Γ.ps g with
  | some s => s.tr args fun r => putK σ d r K
  | none => match findG Γ.gs g with
    | some s => s.tr args σ.heap σ.next fun r h n => putK { σ with heap := h, next := n } d r K
    | none => False

/-- one cell each -/
def oneC : List SV → Bool
  | [] => true
  | .any :: _ | .agg _ :: _ | .tup _ :: _ => false
  | .c v :: l => match v with
    | .agg _ | .tuple _ => false
    | _ => oneC l
  | _ :: l => oneC l

/-- what a copy takes from -/
def srcInts (heap : List (Nat × SB)) (k : IntKind) (src : SV) : Option (List Int) :=
  match src with
  | .sl b base m lo hi => match look heap b with
    | some (.cells cs _) => match rowAt k cs base m with
      | some xs => some ((xs.drop lo.toNat).take (hi.toNat - lo.toNat))
      | none => none
    | _ => none
  | .c (.string s) => match k with
    | .u8 => some (bytesI s)
    | _ => none
  | _ => none

/-- the operations that change the world -/
def loud {P : Program} (Γ : Gam P) (σ : St) (o : Oper) (K : St → Prop) : Prop :=
  match o.op with
  | .box t x => match (σ.ev x).cells with
    | some cs => newBlock σ cs t fun σ' n => putK σ' o.dst (.ptr n 0) K
    | none => False
  | .alloc t => match tyZero P t with
    | some z => match z.cells with
      | some cs => newBlock σ cs t fun σ' n => putK σ' o.dst (.ptr n 0) K
      | none => False
    | none => False
  | .store t a x => match σ.ev a, (σ.ev x).cells, tySize P t with
    | .ptr b off, some new, some n => match Nat.beq (widthC new) n && oneC new, look σ.heap b with
      | true, some (.cells cs t') => match setC cs off new with
        | some cs' => withBlock σ b cs' t' fun σ' => putK σ' o.dst .any K
        | none => False
      | _, _ => False
    | .ep b base m i, some [.c (.int k v)], some 1 => match look σ.heap b, elemKind P t with
      | some (.cells cs t'), some k' => match kindEq k k', rowAt k cs base m with
        | true, some xs => match setC cs base [.row k m (xs.set i.toNat v)] with
          | some cs' => withBlock σ b cs' t' fun σ' => putK σ' o.dst .any K
          | none => False
        | _, _ => False
      | _, _ => False
    | _, _, _ => False
  | .buildSlice t len parts => match P.underlying t with
    | some (.slice e) => match tySize P e, tyZero P e with
      | some 1, some z => match z.cells with
        | some [z1] => match z1.isRow with
          | true => False
          | false => match fillC (fun i => some (i, 1)) (List.replicate len z1) (evParts σ parts.toList) with
          | some cs => match Nat.blt 0 len, Nat.ble len 1000 with
            | true, true => newBlock σ cs e fun σ' n => putK σ' o.dst (.slc n 0 len len) K
            | _, _ => False
          | none => False
        | _ => False
      | _, _ => False
    | _ => False
  | .call ⟨.builtin .copy, args, tys⟩ => match tys.toList.head?, evs σ args.toList with
    | some t, [.sl b base m lo hi, src] => match P.underlying t with
      | some (.slice e) => match look σ.heap b, elemKind P e with
        | some (.cells cs t'), some k => match rowAt k cs base m, srcInts σ.heap k src with
          | some xs, some zs => match setC cs base [.row k m (spl xs lo.toNat (zs.take (hi.toNat - lo.toNat)))] with
            | some cs' => withBlock σ b cs' t' fun σ' => putK σ' o.dst (.c (.int .i64 (Nat.min zs.length (hi.toNat - lo.toNat)))) K
            | none => False
          | _, _ => False
        | _, _ => False
      | _ => False
    | _, _ => False
  | .call ⟨.builtin .clear, args, tys⟩ => match tys.toList.head?, evs σ args.toList with
    | some t, [.sl b base m lo hi] => match P.underlying t with
      | some (.slice e) => match look σ.heap b, elemKind P e with
        | some (.cells cs t'), some k => match rowAt k cs base m, tyZero P e with
          | some xs, some (.c (.int kz z)) => match kindEq kz k, setC cs base [.row k m (spl xs lo.toNat (List.replicate (hi.toNat - lo.toNat) z))] with
            | true, some cs' => withBlock σ b cs' t' fun σ' => putK σ' o.dst .any K
            | _, _ => False
          | _, _ => False
        | _, _ => False
      | _ => False
    | _, _ => False
  | .call ⟨.value f, args, _⟩ => match σ.ev f with
    | .fn (.func g) first caps => callFn Γ σ g (first ++ evs σ args.toList ++ caps) o.dst K
    | _ => False
  | _ => False

def evOp {P : Program} (Γ : Gam P) (σ : St) (o : Oper) (K : St → Prop) : Prop :=
  match sil P σ o.op with
  | some s => match s.obl with
    | none => putK σ o.dst s.val K
    | some p => p ∧ putK σ o.dst s.val K
  | none => loud Γ σ o K

def brk (b : Bool) (A B : Prop) : Prop :=
  match b with
  | true => A
  | false => B

def evOps {P : Program} (Γ : Gam P) (ops : Array Oper) : List Nat → St → (St → Prop) → Prop
  | [], σ, K => K σ
  | i :: rest, σ, K => match ops[i]? with
    | none => False
    | some o => match o.guard with
      | none => evOp Γ σ o fun σ' => evOps Γ ops rest σ' K
      | some (j, want) => match ops[j]? with
        | none => False
        | some oj => match oj.dst with
          | none => False
          | some t => match Nat.blt t σ.sz, σ.get t with
            | true, .c (.bool b) => match want with
              | true => brk b (putK σ (some t) (.c (.bool true)) fun σ => evOp Γ σ o fun σ' => evOps Γ ops rest σ' K) (putK σ (some t) (.c (.bool false)) fun σ => putK σ o.dst (.c undef) fun σ' => evOps Γ ops rest σ' K)
              | false => brk b (putK σ (some t) (.c (.bool true)) fun σ => putK σ o.dst (.c undef) fun σ' => evOps Γ ops rest σ' K) (putK σ (some t) (.c (.bool false)) fun σ => evOp Γ σ o fun σ' => evOps Γ ops rest σ' K)
            | true, .c (.tuple _) => putK σ o.dst (.c undef) fun σ' => evOps Γ ops rest σ' K
            | _, _ => False

/-! ### the order of a region that draws: whatever is silent first -/

def silentOp : Op → Bool
  | .move _ | .assign _ | .pick .. | .build .. | .load .. | .binOp .. | .unOp .. | .makeFunc .. | .fieldAddr .. | .extract .. | .indexAddr .. | .index .. | .field .. | .nilCheck _ | .slice .. | .convert .. => true
  | .call ⟨.builtin .max, _, _⟩ | .call ⟨.builtin .min, _, _⟩ | .call ⟨.builtin .len, _, _⟩ => true
  | _ => false

def nextOf (ops : Array Oper) (rs : List Nat) : Option Nat :=
  match rs.find? (fun i => match ops[i]? with | some o => silentOp o.op | none => false) with
  | some i => some i
  | none => rs.head?

def orderGo (ops : Array Oper) : Nat → Array Bool → List Nat
  | 0, _ => []
  | n + 1, listed => match nextOf ops (Region.ready .any ops listed) with
    | none => []
    | some i => i :: orderGo ops n (listed.setIfInBounds i true)

def orderOf (ops : Array Oper) : List Nat := orderGo ops ops.size (Array.replicate ops.size false)

/-- The orders in which a region that draws is carried out: one operation next, or a choice of several. -/
inductive OT where
  | done
  | one (i : Nat) (r : OT)
  | alt (i : Nat) (r : OT) (rest : OT)
def OT.l : List Nat → OT
  | [] => .done
  | i :: r => .one i (OT.l r)
def treeGo (ops : Array Oper) : Nat → Array Bool → OT
  | 0, _ => .done
  | n + 1, listed =>
    let rs := Region.ready .any ops listed
    match rs.find? (fun i => match ops[i]? with | some o => silentOp o.op && Region.free .any ops listed i | none => false) with
    | some i => .one i (treeGo ops n (listed.setIfInBounds i true))
    | none => match rs.getLast? with
      | none => .done
      | some k => rs.dropLast.foldr (fun i t => .alt i (treeGo ops n (listed.setIfInBounds i true)) t) (.one k (treeGo ops n (listed.setIfInBounds k true)))
def treeOf (ops : Array Oper) : OT := treeGo ops ops.size (Array.replicate ops.size false)
def evT {P : Program} (Γ : Gam P) (ops : Array Oper) : OT → St → (St → Prop) → Prop
  | .done, σ, K => K σ
  | .one i r, σ, K => evOps Γ ops [i] σ fun σ' => evT Γ ops r σ' K
  | .alt i r rest, σ, K => (evOps Γ ops [i] σ fun σ' => evT Γ ops r σ' K) ∧ evT Γ ops rest σ K

/-! ### code -/

structure LInv where
  X : Type
  st : X → St
  ok : X → Prop
  μ : X → Nat

inductive LH where
  | rounds (n : Nat)
  | inv (I : LInv)

def refT (σ : St) : List (Nat × SV) → Prop
  | [] => True
  | (t, v) :: r => match v with
    | .any => refT σ r
    | _ => σ.get t = v ∧ refT σ r
def refH (σ : St) : List (Nat × SB) → Prop
  | [] => True
  | (i, sb) :: r => match sb with
    | .junk => refH σ r
    | _ => look σ.heap i = some sb ∧ refH σ r

def withinT (n : Nat) : List (Nat × SV) → Bool
  | [] => true
  | (_, v) :: r => within n v && withinT n r
def withinH (n : Nat) : List (Nat × SB) → Bool
  | [] => true
  | (i, sb) :: h => Nat.blt i n && ((match sb with | .cells cs _ => withinL n cs | .junk => true) && withinH n h)
def withinAll (n : Nat) (l : List (Nat × SV)) (h : List (Nat × SB)) : Bool := withinT n l && withinH n h

/-- 'σ' has all that 'τ' says. -/
def refines (σ τ : St) : Prop := τ.sz = σ.sz ∧ τ.base = σ.base ∧ τ.base ≤ τ.next ∧ τ.next ≤ σ.next ∧ refT σ τ.tmps ∧ refH σ τ.heap ∧ withinAll τ.next τ.tmps τ.heap = true

def firstRegion : Code → Nat
  | .region id _ _ => id
  | .seq a _ => firstRegion a
  | .block _ c | .loop c | .scope c => firstRegion c
  | _ => 0

def thenS (K : St → Prop) (Q : Exit → St → Prop) : Exit → St → Prop
  | .normal, σ => K σ
  | e, σ => Q e σ
def inBlk (id : Nat) (Q : Exit → St → Prop) : Exit → St → Prop
  | .exit id', σ => match Nat.beq id' id with
    | true => Q .normal σ
    | false => Q (.exit id') σ
  | e, σ => Q e σ

def rounds (body : (Exit → St → Prop) → St → Prop) (Q : Exit → St → Prop) : Nat → St → Prop
  | 0, _ => False
  | n + 1, σ => body (thenS (rounds body Q n) Q) σ

def byInv (body : (Exit → St → Prop) → St → Prop) (Q : Exit → St → Prop) (I : LInv) (σ : St) : Prop :=
  (∃ x, I.ok x ∧ refines σ (I.st x)) ∧ ∀ x, I.ok x → body (thenS (fun σ' => ∃ x', I.ok x' ∧ I.μ x' < I.μ x ∧ refines σ' (I.st x')) Q) (I.st x)

def evC {P : Program} (Γ : Gam P) (H : Nat → LH) (O : List (Nat × OT)) : Code → (Exit → St → Prop) → St → Prop
  | .skip, Q, σ => Q .normal σ
  | .label _, Q, σ => Q .normal σ
  | .region id ops draw, Q, σ => match draw with
    | false => evOps Γ ops (List.range ops.size) σ (Q .normal)
    | true => match look O id with
      | some l => evT Γ ops l σ (Q .normal)
      | none => False
  | .seq a b, Q, σ => evC Γ H O a (thenS (evC Γ H O b Q) Q) σ
  | .cond c a b, Q, σ => match σ.ev c with
    | .c (.bool t) => brk t (evC Γ H O a Q σ) (evC Γ H O b Q σ)
    | _ => False
  | .block id c, Q, σ => evC Γ H O c (inBlk id Q) σ
  | .loop c, Q, σ => match H (firstRegion c) with
    | .rounds n => rounds (evC Γ H O c) Q n σ
    | .inv I => byInv (evC Γ H O c) Q I σ
  | .exit id, Q, σ => Q (.exit id) σ
  | .ret, Q, σ => Q .ret σ
  | _, _, _ => False

def resOf (P : Program) (σ : St) : List ResultVar → Option (List SV)
  | [] => some []
  | .tmp t :: r => match resOf P σ r with
    | some l => some (σ.get t :: l)
    | none => none
  | .cell a t :: r => match σ.get a, resOf P σ r with
    | .ptr b off, some l => match look σ.heap b with
      | some (.cells cs _) => match readAt P t cs off with
        | some v => some (v :: l)
        | none => none
      | _ => none
    | _, _ => none

def oneOf : List SV → SV
  | [x] => x
  | l => .tup l

def fnPost (P : Program) (fn : Func) (K : SV → List (Nat × SB) → Nat → Prop) : Exit → St → Prop
  | .normal, σ | .ret, σ => match resOf P σ fn.results.toList with
    | some l => force (oneOf l) fun r => K r σ.heap σ.next
    | none => False
  | _, _ => False

def startT : Nat → List SV → List (Nat × SV)
  | _, [] => []
  | i, x :: l => (i, x) :: startT (i + 1) l

end Go.Proofs.YtlobbcodnkfbiaaDoor.Sx
