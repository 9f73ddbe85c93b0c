/-
  Sx3: the evaluator over code; contracts of callees; loops by an invariant or by so many rounds.
-/
import Derived.Test.YtjiamfajgllelaaSy2
import Derived.Laws.Sem
namespace Go.Proofs.Ytjiamfajgllelaa.Sy
open Go

theorem callFunc_run {P : Program} {g : FuncId} {fn : Func} (hf : P.funcs[g]? = some fn) (hn : fn.body.isSome = true) (hr : (fn.name == "runtime.NumGoroutine") = false) (args : Array Value) (w : World) :
    (callFunc g args).run P w = .ok (.enter g args) w := by
  have : fn.body.isNone = false := by cases hb : fn.body <;> simp_all
  simp only [callFunc, Sem.run_bind, run_program, Result.andThen_ok, hf, hr, Bool.false_eq_true, if_false, this]
  rfl

/-- 'R'' has what 'R' has, and beyond that only what is in the world and was not there before. -/
def RMore (w w' : World) (R R' : Nat → Option Obj) : Prop := (∀ g o, R g = some o → R' g = some o) ∧ ∀ g o, R' g = some o → w'.heap[g]? = some o ∧ (R g = some o ∨ w.heap.size ≤ g)

/-- A contract of a function that changes nothing that is there. -/
structure PSpec (P : Program) where
  f : FuncId
  enter : ∀ args w, (callFunc f args).run P w = .ok (.enter f args) w
  tr : List SV → (SV → Prop) → Prop
  sound : ∀ args K, tr args K → ∀ n ρ vs w, RelL n ρ args vs → GP w → NG ≤ w.heap.size → (∀ g o, ρ.R g = some o → w.heap[g]? = some o) →
    Calls P f vs.toArray w fun e w' => ∃ r v R', K r ∧ e = .returned v ∧ Rel 0 { ρ with R := R' } r v ∧ Go.RowKit.Below w.heap.size w w' ∧ RMore w w' ρ.R R'

/-- A contract of a function that may change blocks of ours. -/
structure GSpec (P : Program) where
  f : FuncId
  quiet : Bool
  enter : ∀ args w, (callFunc f args).run P w = .ok (.enter f args) w
  tr : List SV → List (Nat × SB) → Nat → (SV → List (Nat × SB) → Nat → Prop) → Prop
  sound : ∀ args heap next K, tr args heap next K → ∀ w0 own ρ vs w, RelL next ρ args vs → HMod w0 own heap next ρ w →
    Calls P f vs.toArray w fun e w' => ∃ r v heap' next' ρ', K r heap' next' ∧ e = .returned v ∧ Rel next' ρ' r v ∧ next ≤ next' ∧ Ext next ρ ρ' ∧ HMod w0 own heap' next' ρ' w' ∧ RNew w0 ρ.R ρ'.R ∧ (quiet = true → Go.RowKit.Below w.heap.size w w')

structure Gam (P : Program) where
  ps : List (PSpec P)
  gs : List (GSpec P)

def findP {P : Program} : List (PSpec P) → Nat → Option (PSpec P)
  | [], _ => none
  | s :: l, f => if Nat.beq s.f f then some s else findP l f
def findG {P : Program} : List (GSpec P) → Nat → Option (GSpec P)
  | [], _ => none
  | s :: l, f => if Nat.beq s.f f then some s else findG l f
/-- a call that leaves alone what is there -/
def quietF {P : Program} (Γ : Gam P) (f : Nat) : Bool :=
  match findP Γ.ps f with
  | some _ => true
  | none => match findG Γ.gs f with
    | some s => s.quiet
    | none => false

/-- A value laid open, so that what is kept is no thunk. -/
def forceS (v : SV) (K : SV → Prop) : Prop :=
  match v with
  | .any => K .any
  | .c x => match x with
    | .int k n => K (.c (.int k n))
    | .bool b => K (.c (.bool b))
    | .string s => K (.c (.string s))
    | x => K (.c x)
  | .ptr b o => K (.ptr b o)
  | .slc b o l c => K (.slc b o l c)
  | .ep b o l c => K (.ep b o l c)
  | .sl b o l c d => K (.sl b o l c d)
  | .row k n xs => K (.row k n xs)
  | .gs b u lo hi mx => K (.gs b u lo hi mx)
  | .rs u n f => K (.rs u n f)
  | v => K v
def forceL : List SV → (List SV → Prop) → Prop
  | [], K => K []
  | x :: l, K => forceS x fun x => forceL l fun l => K (x :: l)
def force (v : SV) (K : SV → Prop) : Prop :=
  match v with
  | .agg cs => forceL cs fun cs => K (.agg cs)
  | .tup cs => forceL cs fun cs => K (.tup cs)
  | v => forceS v K

theorem forceS_eq (v : SV) (K : SV → Prop) : forceS v K = K v := by
  unfold forceS; split <;> (try rfl); split <;> rfl
theorem forceL_eq (l : List SV) (K : List SV → Prop) : forceL l K = K l := by
  induction l generalizing K with
  | nil => rfl
  | cons x l ih => simp only [forceL, forceS_eq, ih]
theorem force_eq (v : SV) (K : SV → Prop) : force v K = K v := by
  unfold force; split <;> simp only [forceL_eq, forceS_eq]

def putK (σ : St) (d : Option Nat) (v : SV) (K : St → Prop) : Prop :=
  match σ with
  | ⟨tm, sz, h, n, b⟩ => match d with
    | none => K ⟨tm, sz, h, n, b⟩
    | some t => match Nat.blt t sz with
      | true => force v fun v => K ⟨(t, v) :: tm, sz, h, n, b⟩
      | false => False

/-- a block written (a new one, or an old one anew) -/
def withBlock (σ : St) (b : Nat) (cs : List SV) (t : TypeId) (K : St → Prop) : Prop :=
  match σ with
  | ⟨tm, sz, h, next, base⟩ => forceL cs fun cs => K ⟨tm, sz, (b, .cells cs t) :: h, next, base⟩

def newBlock (σ : St) (cs : List SV) (t : TypeId) (K : St → Nat → Prop) : Prop :=
  match σ with
  | ⟨tm, sz, h, n, base⟩ => forceL cs fun cs => K ⟨tm, sz, (n, .cells cs t) :: h, n + 1, base⟩ n

/-- a new block of whatever kind; an old one set aside -/
def newSB (σ : St) (sb : SB) (K : St → Nat → Prop) : Prop :=
  match σ with
  | ⟨tm, sz, h, n, base⟩ => K ⟨tm, sz, (n, sb) :: h, n + 1, base⟩ n
def junkB (σ : St) (d : Option Nat) (K : St → Prop) : Prop :=
  match σ, d with
  | ⟨tm, sz, h, n, base⟩, some b => K ⟨tm, sz, (b, .junk) :: h, n, base⟩
  | σ, none => K σ
def setSB (σ : St) (b : Nat) (sb : SB) (K : St → Prop) : Prop :=
  match σ with
  | ⟨tm, sz, h, n, base⟩ => K ⟨tm, sz, (b, sb) :: h, n, base⟩
theorem newSB_eq (σ : St) (sb : SB) (K : St → Nat → Prop) : newSB σ sb K = K { σ with heap := (σ.next, sb) :: σ.heap, next := σ.next + 1 } σ.next := by cases σ; rfl
theorem setSB_eq (σ : St) (b : Nat) (sb : SB) (K : St → Prop) : setSB σ b sb K = K { σ with heap := (b, sb) :: σ.heap } := by cases σ; rfl

theorem newBlock_eq (σ : St) (cs : List SV) (t : TypeId) (K : St → Nat → Prop) : newBlock σ cs t K = K { σ with heap := (σ.next, .cells cs t) :: σ.heap, next := σ.next + 1 } σ.next := by
  cases σ; simp only [newBlock, forceL_eq]

theorem withBlock_eq (σ : St) (b : Nat) (cs : List SV) (t : TypeId) (K : St → Prop) : withBlock σ b cs t K = K { σ with heap := (b, .cells cs t) :: σ.heap } := by
  cases σ; simp only [withBlock, forceL_eq]

/-- p, if a check that can be carried out holds -/
def chk (b : Bool) (p : Prop) : Prop :=
  match b with
  | true => p
  | false => False

/-- Nothing in it hangs on memory that a call has made. -/
def plainSV : SV → Bool
  | .c _ => true
  | .any => true
  | .agg cs => plainL cs
  | .tup cs => plainL cs
  | _ => false
where plainL : List SV → Bool
  | [] => true
  | .row .. :: l => plainL l
  | x :: l => plainSV x && plainL l

/-- slices of ours, lent to a call that only reads -/
def lend (h : List (Nat × SB)) (K : List SV → Bool → Prop) : List SV → List SV → Bool → Prop
  | [], acc, lent => K acc.reverse lent
  | .gs b w lo hi mx :: r, acc, _ => match look h b with
    | some (.arr _ w' m f) => chk (Nat.beq w w' && Nat.blt 0 w) ((hi ≤ m) ∧ lend h K r (.rs w (subN hi lo) (shiftF f lo) :: acc) true)
    | _ => False
  | x :: r, acc, lent => lend h K r (x :: acc) lent

def callFn {P : Program} (Γ : Gam P) (σ : St) (g : FuncId) (args : List SV) (d : Option Nat) (K : St → Prop) : Prop :=
  match findP Γ.ps g with
  | some s => lend σ.heap (fun args lent => s.tr args fun r => match lent with
      | false => putK σ d r K
      | true => chk (plainSV r) (putK σ d r K)) args [] false
  | none => match findG Γ.gs g with
    | some s => s.tr args σ.heap σ.next fun r h n => putK { σ with heap := h, next := n } d r K
    | none => False

/-- one cell each -/
def oneC : List SV → Bool
  | [] => true
  | .any :: _ | .agg _ :: _ | .tup _ :: _ => false
  | .c v :: l => match v with
    | .agg _ | .tuple _ => false
    | _ => oneC l
  | _ :: l => oneC l

/-- what a copy takes from -/
def srcInts (heap : List (Nat × SB)) (k : IntKind) (src : SV) : Option (List Int) :=
  match src with
  | .sl b base m lo hi => match look heap b with
    | some (.cells cs _) => match rowAt k cs base m with
      | some xs => some ((xs.drop lo.toNat).take (hi.toNat - lo.toNat))
      | none => none
    | _ => none
  | .c (.string s) => match k with
    | .u8 => some (bytesI s)
    | _ => none
  | _ => none

/-- elements of a slice literal -/
def setParts (w : Nat) (L : List (List SV)) : List (Nat × SV) → Option (List (List SV))
  | [] => some L
  | (i, v) :: r => match v.cells with
    | some cs => match Nat.beq (widthC cs) w && oneC cs && withinL 0 cs && Nat.blt i L.length with
      | true => setParts w (L.set i cs) r
      | false => none
    | none => none
/-- the elements of a slice literal whose cells are plain -/
def litParts (P : Program) (σ : St) (e len : Nat) (parts : Array (Nat × Operand)) : Option (Nat × List (List SV)) :=
  match P.info? e, tyZero P e with
  | some i, some z => match z.cells with
    | some zc => match Nat.beq (widthC zc) i.size && Nat.blt 0 i.size && oneC zc && withinL 0 zc && Nat.ble len 1000 && Nat.ble i.size 1000 && Nat.blt 0 len with
      | true => match setParts i.size (List.replicate len zc) (evParts σ parts.toList) with
        | some L => some (i.size, L)
        | none => none
      | false => none
    | none => none
  | _, _ => none
/-- 'T{}' of a slice type -/
def litZero (P : Program) (t : TypeId) (len : Nat) (parts : Array (Nat × Operand)) : Bool :=
  match P.underlying t with
  | some (.slice e) => Nat.beq len 0 && parts.toList.isEmpty && (tySize P e).isSome
  | _ => false
/-- the zero value's cells are as many as they should be -/
def zeroOk (i : TypeInfo) : Bool :=
  match i.zero with
  | some z => Nat.beq z.cells.size i.size && z.cells.toList.all (·.oneCell')
  | none => false
/-- f up to 'hi', g behind -/
def catF (hi : Nat) (f g : Nat → List SV) : Nat → List SV :=
  match hi with
  | 0 => g
  | hi => fun i => if i < hi then f i else g (i - hi)
def addZ (a b : Nat) : Nat :=
  match a with
  | 0 => b
  | a => a + b
theorem catF_eq (hi : Nat) (f g : Nat → List SV) : catF hi f g = fun i => if i < hi then f i else g (i - hi) := by
  unfold catF; split
  · funext i; simp
  · rfl
theorem addZ_eq (a b : Nat) : addZ a b = a + b := by unfold addZ; split <;> simp

/-- the slice that is appended to: how many elements, their cells, the block that is set aside -/
def appDst (h : List (Nat × SB)) (e w : Nat) (x : SV) (K : Nat → (Nat → List SV) → Option Nat → Prop) : Prop :=
  match x with
  | .c (.slice none 0 0) => K 0 (fun _ => []) none
  | .zs => K 0 (fun _ => []) none
  | .gs b w' 0 hi _ => match look h b with
    | some (.arr e' u m f) => chk (Nat.beq w w' && Nat.beq w u && Nat.beq e e') ((hi ≤ m) ∧ K hi f (some b))
    | _ => False
  | _ => False
/-- what is appended -/
def appSrc (P : Program) (h : List (Nat × SB)) (e tx w : Nat) (x : SV) (K : Nat → (Nat → List SV) → Prop) : Prop :=
  match P.underlying tx with
  | some .string => match x, elemKind P e with
    | .c (.string s), some .u8 => K s.size (fun i => [.c (.int .u8 (bAt s i))])
    | _, _ => False
  | some (.slice _) => match x with
    | .c (.slice none 0 0) => K 0 (fun _ => [])
    | .zs => K 0 (fun _ => [])
    | .rs w' n f => chk (Nat.beq w w') (K n f)
    | .gs b w' lo hi _ => match look h b with
      | some (.arr _ u m f) => chk (Nat.beq w w' && Nat.beq w u) ((hi ≤ m) ∧ K (subN hi lo) (shiftF f lo))
      | _ => False
    | _ => False
  | _ => False

/-- f, but at i -/
def setF (f : Nat → List SV) (i : Nat) (new : List SV) : Nat → List SV :=
  fun j => match Nat.beq j i with
    | true => new
    | false => f j
theorem setF_eq (f : Nat → List SV) (i : Nat) (new : List SV) (j : Nat) : setF f i new j = if j = i then new else f j := by
  unfold setF
  by_cases h : j = i
  · subst h; rw [if_pos rfl, Nat.beq_refl]
  · rw [if_neg h]
    have : Nat.beq j i = false := by
      cases hb : Nat.beq j i with
      | false => rfl
      | true => exact absurd (Nat.eq_of_beq_eq_true hb) h
    rw [this]

/-- the operations that change the world -/
def loud {P : Program} (Γ : Gam P) (σ : St) (o : Oper) (K : St → Prop) : Prop :=
  match o.op with
  | .box t x => match (σ.ev x).cells with
    | some cs => newBlock σ cs t fun σ' n => putK σ' o.dst (.ptr n 0) K
    | none => False
  | .alloc t => match tyZero P t with
    | some z => match z.cells with
      | some cs => newBlock σ cs t fun σ' n => putK σ' o.dst (.ptr n 0) K
      | none => False
    | none => False
  | .store t a x => match σ.ev a, (σ.ev x).cells, tySize P t with
    | .ptr b off, some new, some n => match Nat.beq (widthC new) n && oneC new, look σ.heap b with
      | true, some (.cells cs t') => match setC cs off new with
        | some cs' => withBlock σ b cs' t' fun σ' => putK σ' o.dst .any K
        | none => False
      | _, _ => False
    | .ep b base m i, some [.c (.int k v)], some 1 => match look σ.heap b, elemKind P t with
      | some (.cells cs t'), some k' => match kindEq k k', rowAt k cs base m with
        | true, some xs => match setC cs base [.row k m (xs.set i.toNat v)] with
          | some cs' => withBlock σ b cs' t' fun σ' => putK σ' o.dst .any K
          | none => False
        | _, _ => False
      | _, _ => False
    | .ap b w i off, some new, some n => match look σ.heap b with
      | some (.arr t' w' m f) => chk (Nat.beq off 0 && Nat.beq w w' && Nat.beq n w && Nat.beq (widthC new) n && oneC new && withinL 0 new) ((i < (m : Int)) ∧ setSB σ b (.arr t' w m (setF f i.toNat new)) fun σ' => putK σ' o.dst .any K)
      | _ => False
    | _, _, _ => False
  | .range t x => match P.underlying t, σ.ev x with
    | some .string, .c (.string s) => newSB σ (.siter s 0) fun σ' n => putK σ' o.dst (.ptr n 0) K
    | _, _ => False
  | .next x true => match σ.ev x with
    | .ptr b 0 => match look σ.heap b with
      | some (.siter s pos) => match Nat.blt pos s.size with
        | true => setSB σ b (.siter s (pos + (Utf8.decode s pos).2)) fun σ' => putK σ' o.dst (.tup [.c (.bool true), .c (.int .i64 pos), .c (.int .i32 (Utf8.decode s pos).1)]) K
        | false => putK σ o.dst (.tup [.c (.bool false)]) K
      | _ => False
    | _ => False
  | .call ⟨.builtin .append, args, tys⟩ => match tys.toList, evs σ args.toList with
    | [t, tx], [x, y] => match P.underlying t with
      | some (.slice e) => match P.info? e with
        | some i => appDst σ.heap e i.size x fun hi f old => appSrc P σ.heap e tx i.size y fun n g =>
            chk (Nat.blt 0 i.size && Nat.blt 0 i.bytes && zeroOk i) ((addZ hi n * i.bytes ≤ 140737488355328) ∧ junkB σ old fun σ' => newSB σ' (.arr e i.size (addZ hi n) (catF hi f g)) fun σ'' b => putK σ'' o.dst (.gs b i.size 0 (addZ hi n) none) K)
        | none => False
      | _ => False
    | _, _ => False
  | .buildSlice t len parts => match litZero P t len parts with
    | true => putK σ o.dst .zs K
    | false => match P.underlying t with
      | some (.slice e) => match litParts P σ e len parts with
        | some (w, L) => newSB σ (.arr e w len fun i => L.getD i []) fun σ' n => putK σ' o.dst (.gs n w 0 len none) K
        | none => match tySize P e, tyZero P e with
          | some 1, some z => match z.cells with
            | some [z1] => match z1.isRow with
              | true => False
              | false => match fillC (fun i => some (i, 1)) (List.replicate len z1) (evParts σ parts.toList) with
              | some cs => match Nat.blt 0 len, Nat.ble len 1000 with
                | true, true => newBlock σ cs e fun σ' n => putK σ' o.dst (.slc n 0 len len) K
                | _, _ => False
              | none => False
            | _ => False
          | _, _ => False
      | _ => False
  | .call ⟨.builtin .copy, args, tys⟩ => match tys.toList.head?, evs σ args.toList with
    | some t, [.sl b base m lo hi, src] => match P.underlying t with
      | some (.slice e) => match look σ.heap b, elemKind P e with
        | some (.cells cs t'), some k => match rowAt k cs base m, srcInts σ.heap k src with
          | some xs, some zs => match setC cs base [.row k m (spl xs lo.toNat (zs.take (hi.toNat - lo.toNat)))] with
            | some cs' => withBlock σ b cs' t' fun σ' => putK σ' o.dst (.c (.int .i64 (Nat.min zs.length (hi.toNat - lo.toNat)))) K
            | none => False
          | _, _ => False
        | _, _ => False
      | _ => False
    | _, _ => False
  | .call ⟨.builtin .clear, args, tys⟩ => match tys.toList.head?, evs σ args.toList with
    | some t, [.sl b base m lo hi] => match P.underlying t with
      | some (.slice e) => match look σ.heap b, elemKind P e with
        | some (.cells cs t'), some k => match rowAt k cs base m, tyZero P e with
          | some xs, some (.c (.int kz z)) => match kindEq kz k, setC cs base [.row k m (spl xs lo.toNat (List.replicate (hi.toNat - lo.toNat) z))] with
            | true, some cs' => withBlock σ b cs' t' fun σ' => putK σ' o.dst .any K
            | _, _ => False
          | _, _ => False
        | _, _ => False
      | _ => False
    | _, _ => False
  | .call ⟨.value f, args, _⟩ => match σ.ev f with
    | .fn (.func g) first caps => callFn Γ σ g (first ++ evs σ args.toList ++ caps) o.dst K
    | _ => False
  | _ => False

/-- whether a value is nil: it is, it is not, it may be where p holds -/
inductive NA where
  | yes
  | no
  | may (p : Prop)
def nilSide (P : Program) (t : TypeId) (v : SV) (y : Operand) : Option NA :=
  match P.underlying t, y, v with
  | some (.slice _), .const (.slice none _ _), .c (.slice none _ _) => some .yes
  | some (.slice _), .const (.slice none _ _), .rs _ n _ => some (.may (n = 0))
  | some (.slice _), .const (.slice none _ _), .zs => some (.may True)
  | some (.slice _), .const (.slice none _ _), .gs _ _ _ hi _ => some (.may (hi = 0))
  | some (.pointer _), .const (.pointer none), .c (.pointer none) => some .yes
  | some (.pointer _), .const (.pointer none), .ptr .. => some .no
  | some (.pointer _), .const (.pointer none), .ap .. => some .no
  | some (.pointer _), .const (.pointer none), .rp .. => some .no
  | some (.pointer _), .const (.pointer none), .ep .. => some .no
  | some (.map _ _), .const (.map none), .c (.map none) => some .yes
  | some (.map _ _), .const (.map none), .mp _ => some .no
  | some (.func _ _ _), .const .nilFunc, .c .nilFunc => some .yes
  | some (.func _ _ _), .const .nilFunc, .fn .. => some .no
  | some (.interface _), .const .nilIface, .c .nilIface => some .yes
  | some (.interface _), .const .nilIface, .ifc .. => some .no
  | _, _, _ => none
/-- a comparison with nil: the answer where it is nil -/
def nilEq (P : Program) (σ : St) (op : Op) : Option (NA × Bool) :=
  match op with
  | .binOp op t x y _ => match op with
    | .eql => match nilSide P t (σ.ev x) y with
      | some a => some (a, true)
      | none => none
    | .neq => match nilSide P t (σ.ev x) y with
      | some a => some (a, false)
      | none => none
    | _ => none
  | _ => none
def nilK (a : NA) (b : Bool) (K : Bool → Prop) : Prop :=
  match a with
  | .yes => K b
  | .no => K (!b)
  | .may p => (p → K b) ∧ K (!b)

def evOp {P : Program} (Γ : Gam P) (σ : St) (o : Oper) (K : St → Prop) : Prop :=
  match sil P σ o.op with
  | some s => match s.obl with
    | none => putK σ o.dst s.val K
    | some p => p ∧ putK σ o.dst s.val K
  | none => match nilEq P σ o.op with
    | some (a, b) => nilK a b fun r => putK σ o.dst (.c (.bool r)) K
    | none => loud Γ σ o K

def brk (b : Bool) (A B : Prop) : Prop :=
  match b with
  | true => A
  | false => B

def evOps {P : Program} (Γ : Gam P) (ops : Array Oper) : List Nat → St → (St → Prop) → Prop
  | [], σ, K => K σ
  | i :: rest, σ, K => match ops[i]? with
    | none => False
    | some o => match o.guard with
      | none => evOp Γ σ o fun σ' => evOps Γ ops rest σ' K
      | some (j, want) => match ops[j]? with
        | none => False
        | some oj => match oj.dst with
          | none => False
          | some t => match Nat.blt t σ.sz, σ.get t with
            | true, .c (.bool b) => match want with
              | true => brk b (putK σ (some t) (.c (.bool true)) fun σ => evOp Γ σ o fun σ' => evOps Γ ops rest σ' K) (putK σ (some t) (.c (.bool false)) fun σ => putK σ o.dst (.c undef) fun σ' => evOps Γ ops rest σ' K)
              | false => brk b (putK σ (some t) (.c (.bool true)) fun σ => putK σ o.dst (.c undef) fun σ' => evOps Γ ops rest σ' K) (putK σ (some t) (.c (.bool false)) fun σ => evOp Γ σ o fun σ' => evOps Γ ops rest σ' K)
            | true, .c (.tuple _) => putK σ o.dst (.c undef) fun σ' => evOps Γ ops rest σ' K
            | _, _ => False

/-! ### the order of a region that draws: whatever is silent first -/

def silentOp : Op → Bool
  | .move _ | .assign _ | .pick .. | .build .. | .load .. | .binOp .. | .unOp .. | .makeFunc .. | .fieldAddr .. | .extract .. | .indexAddr .. | .index .. | .field .. | .nilCheck _ | .slice .. | .convert .. => true
  | .call ⟨.builtin .max, _, _⟩ | .call ⟨.builtin .min, _, _⟩ | .call ⟨.builtin .len, _, _⟩ => true
  | _ => false

def nextOf (ops : Array Oper) (rs : List Nat) : Option Nat :=
  match rs.find? (fun i => match ops[i]? with | some o => silentOp o.op | none => false) with
  | some i => some i
  | none => rs.head?

def orderGo (ops : Array Oper) : Nat → Array Bool → List Nat
  | 0, _ => []
  | n + 1, listed => match nextOf ops (Region.ready .any ops listed) with
    | none => []
    | some i => i :: orderGo ops n (listed.setIfInBounds i true)

def orderOf (ops : Array Oper) : List Nat := orderGo ops ops.size (Array.replicate ops.size false)

/-- The orders in which a region that draws is carried out: one operation next, or a choice of several. -/
inductive OT where
  | done
  | one (i : Nat) (r : OT)
  | alt (i : Nat) (r : OT) (rest : OT)
def OT.l : List Nat → OT
  | [] => .done
  | i :: r => .one i (OT.l r)
def treeGo (ops : Array Oper) : Nat → Array Bool → OT
  | 0, _ => .done
  | n + 1, listed =>
    let rs := Region.ready .any ops listed
    match rs.find? (fun i => match ops[i]? with | some o => silentOp o.op && Region.free .any ops listed i | none => false) with
    | some i => .one i (treeGo ops n (listed.setIfInBounds i true))
    | none => match rs.getLast? with
      | none => .done
      | some k => rs.dropLast.foldr (fun i t => .alt i (treeGo ops n (listed.setIfInBounds i true)) t) (.one k (treeGo ops n (listed.setIfInBounds k true)))
def treeOf (ops : Array Oper) : OT := treeGo ops ops.size (Array.replicate ops.size false)
def evT {P : Program} (Γ : Gam P) (ops : Array Oper) : OT → St → (St → Prop) → Prop
  | .done, σ, K => K σ
  | .one i r, σ, K => evOps Γ ops [i] σ fun σ' => evT Γ ops r σ' K
  | .alt i r rest, σ, K => (evOps Γ ops [i] σ fun σ' => evT Γ ops r σ' K) ∧ evT Γ ops rest σ K

/-! ### code -/

structure LInv where
  X : Type
  st : X → St
  ok : X → Prop
  μ : X → Nat

/-- how a loop is gone through: so many rounds, or by an invariant; 'sub': the loops within it, where they hang on where the round began -/
inductive LH where
  | rounds (n : Nat)
  | by_ (X : Type) (st : X → St) (ok : X → Prop) (μ : X → Nat) (sub : X → Nat → Option LH)
  | sel (g : St → LH)
/-- the way that the state picks -/
def pickH (h : LH) (σ : St) : LH :=
  match h with
  | .sel g => g σ
  | h => h
def LH.inv (I : LInv) : LH := .by_ I.X I.st I.ok I.μ fun _ _ => none
def LH.nest (I : LInv) (sub : I.X → Nat → Option LH) : LH := .by_ I.X I.st I.ok I.μ sub
def subH (H : Nat → LH) (s : Nat → Option LH) : Nat → LH := fun id =>
  match s id with
  | some h => h
  | none => H id

/-- what becomes of a block's index where a state is taken for another one: none: there is no block (a nil slice) -/
def rn (r : List (Nat × Option Nat)) (b : Nat) : Option Nat :=
  match look r b with
  | some x => x
  | none => some b
def isRn (r : List (Nat × Option Nat)) (b c : Nat) : Bool :=
  match rn r b with
  | some d => Nat.beq d c
  | none => false

def mxe (a b : Option Nat) : Prop :=
  match a, b with
  | none, none => True
  | some x, some y => x = y
  | _, _ => False

/-- the value 'x' fits 'v' -/
def sle0 (x v : Value) : Prop :=
  match x, v with
  | .int k a, .int k' b => chk (kindEq k k') (a = b)
  | .bool a, .bool b => a = b
  | .string a, .string b => a = b
  | a, b => a = b
mutual
def sle (r : List (Nat × Option Nat)) (x : SV) (v : SV) : Prop :=
  match v with
  | .any => True
  | .c b => match x with
    | .c a => sle0 a b
    | _ => False
  | .ptr b o => match x with
    | .ptr b' o' => chk (isRn r b b') (o' = o)
    | _ => False
  | .slc b o l c => match x with
    | .slc b' o' l' c' => chk (isRn r b b') (o' = o ∧ l' = l ∧ c' = c)
    | _ => False
  | .ep b base m i => match x with
    | .ep b' base' m' i' => chk (isRn r b b') (base' = base ∧ m' = m ∧ i' = i)
    | _ => False
  | .sl b base m lo hi => match x with
    | .sl b' base' m' lo' hi' => chk (isRn r b b') (base' = base ∧ m' = m ∧ lo' = lo ∧ hi' = hi)
    | _ => False
  | .gs b w lo hi mx => match x with
    | .gs b' w' lo' hi' mx' => chk (isRn r b b' && Nat.beq w w') (lo' = lo ∧ hi' = hi ∧ mxe mx' mx)
    | .c (.slice none 0 0) => match rn r b with
      | none => lo = 0 ∧ hi = 0
      | some _ => False
    | .zs => match rn r b with
      | none => lo = 0 ∧ hi = 0
      | some _ => False
    | _ => False
  | .ap b w i off => match x with
    | .ap b' w' i' off' => chk (isRn r b b' && Nat.beq w w') (i' = i ∧ off' = off)
    | _ => False
  | .rs w n f => match x with
    | .rs w' n' f' => chk (Nat.beq w w') (n' = n ∧ ∀ i, i < n → f' i = f i)
    | .c (.slice none 0 0) => n = 0
    | .zs => n = 0
    | _ => False
  | .zs => match x with
    | .zs => True
    | _ => False
  | .rp cs => match x with
    | .rp cs' => cs' = cs
    | _ => False
  | .ifc t y => match x with
    | .ifc t' y' => chk (Nat.beq t t') (sle r y' y)
    | _ => False
  | .mp b => match x with
    | .mp b' => chk (isRn r b b') True
    | _ => False
  | .fn f y z => match x with
    | .fn f' y' z' => f' = f ∧ sleL r y' y ∧ sleL r z' z
    | _ => False
  | .agg cs => match x with
    | .agg cs' => sleL r cs' cs
    | _ => False
  | .tup cs => match x with
    | .tup cs' => sleL r cs' cs
    | _ => False
  | .row .. => False
def sleL (r : List (Nat × Option Nat)) (xs : List SV) (vs : List SV) : Prop :=
  match vs with
  | [] => match xs with
    | [] => True
    | _ => False
  | .row k n ys :: vs => match xs with
    | .row k' n' ys' :: xs => chk (kindEq k k') (n' = n ∧ ys' = ys ∧ sleL r xs vs)
    | _ => False
  | v :: vs => match xs with
    | x :: xs => chk (!x.isRow) (sle r x v ∧ sleL r xs vs)
    | _ => False
end
def ble (r : List (Nat × Option Nat)) (x v : SB) : Prop :=
  match v with
  | .junk => True
  | .cells cs t => match x with
    | .cells cs' t' => chk (Nat.beq t t') (sleL r cs' cs)
    | _ => False
  | .arr t w m f => match x with
    | .arr t' w' m' f' => chk (Nat.beq t t' && Nat.beq w w') (m' = m ∧ ∀ i, i < m → f' i = f i)
    | _ => False
  | .map m kf vf => match x with
    | .map m' kf' vf' => m' = m ∧ ∀ i, i < m → kf' i = kf i ∧ vf' i = vf i
    | _ => False
  | .siter s p => match x with
    | .siter s' p' => s' = s ∧ p' = p
    | _ => False
def refT (r : List (Nat × Option Nat)) (σ : St) : List (Nat × SV) → Prop
  | [] => True
  | (t, v) :: l => match v with
    | .any => refT r σ l
    | v => sle r (σ.get t) v ∧ refT r σ l
def refH (r : List (Nat × Option Nat)) (σ : St) : List (Nat × SB) → Prop
  | [] => True
  | (i, sb) :: l => match sb with
    | .junk => refH r σ l
    | sb => (match rn r i with
      | some j => match look σ.heap j with
        | some x => ble r x sb
        | none => False
      | none => match sb with
        | .arr _ _ m _ => m = 0
        | _ => False) ∧ refH r σ l

/-- which index is which, found by laying one state upon the other -/
def addR (b : Nat) (x : Option Nat) (base : Nat) (r : List (Nat × Option Nat)) : List (Nat × Option Nat) :=
  match Nat.blt b base with
  | true => r
  | false => match look r b with
    | some _ => r
    | none => (b, x) :: r
mutual
def mtch (base : Nat) (r : List (Nat × Option Nat)) (x v : SV) : List (Nat × Option Nat) :=
  match v with
  | .ptr b _ => match x with
    | .ptr b' _ => addR b (some b') base r
    | _ => r
  | .slc b _ _ _ => match x with
    | .slc b' _ _ _ => addR b (some b') base r
    | _ => r
  | .ep b _ _ _ => match x with
    | .ep b' _ _ _ => addR b (some b') base r
    | _ => r
  | .sl b _ _ _ _ => match x with
    | .sl b' _ _ _ _ => addR b (some b') base r
    | _ => r
  | .gs b _ _ _ _ => match x with
    | .gs b' _ _ _ _ => addR b (some b') base r
    | .c _ => addR b none base r
    | .zs => addR b none base r
    | _ => r
  | .ap b _ _ _ => match x with
    | .ap b' _ _ _ => addR b (some b') base r
    | _ => r
  | .mp b => match x with
    | .mp b' => addR b (some b') base r
    | _ => r
  | .ifc _ y => match x with
    | .ifc _ y' => mtch base r y' y
    | _ => r
  | .fn _ y z => match x with
    | .fn _ y' z' => mtchL base (mtchL base r y' y) z' z
    | _ => r
  | .agg cs => match x with
    | .agg cs' => mtchL base r cs' cs
    | _ => r
  | .tup cs => match x with
    | .tup cs' => mtchL base r cs' cs
    | _ => r
  | _ => r
def mtchL (base : Nat) (r : List (Nat × Option Nat)) (xs vs : List SV) : List (Nat × Option Nat) :=
  match vs with
  | [] => r
  | v :: vs => match xs with
    | x :: xs => mtchL base (mtch base r x v) xs vs
    | [] => r
end
def mtchT (σ : St) : List (Nat × SV) → List (Nat × Option Nat) → List (Nat × Option Nat)
  | [], r => r
  | (t, v) :: l, r => mtchT σ l (mtch σ.base r (σ.get t) v)
def mtchH (σ : St) : List (Nat × SB) → List (Nat × Option Nat) → List (Nat × Option Nat)
  | [], r => r
  | (i, .cells cs _) :: l, r => match rn r i with
    | some j => match look σ.heap j with
      | some (.cells cs' _) => mtchH σ l (mtchL σ.base r cs' cs)
      | _ => mtchH σ l r
    | none => mtchH σ l r
  | _ :: l, r => mtchH σ l r

def withinT (n : Nat) : List (Nat × SV) → Bool
  | [] => true
  | (_, v) :: r => within n v && withinT n r
def withinH (n : Nat) : List (Nat × SB) → Bool
  | [] => true
  | (i, sb) :: h => Nat.blt i n && ((match sb with | .cells cs _ => withinL n cs | _ => true) && withinH n h)
def withinAll (n : Nat) (l : List (Nat × SV)) (h : List (Nat × SB)) : Bool := withinT n l && withinH n h
def isJunk : SB → Bool
  | .junk => true
  | _ => false
/-- the indices of what is known are different ones -/
def apartH (r : List (Nat × Option Nat)) : List (Nat × SB) → Bool
  | [] => true
  | (i, _) :: l => (match rn r i with
    | some j => l.all fun p => match rn r p.1 with
      | some k => !(Nat.beq j k) || Nat.beq i p.1
      | none => true
    | none => true) && apartH r l

/-- 'σ' has all that 'τ' says. -/
def refinesBy (r : List (Nat × Option Nat)) (σ τ : St) : Prop :=
  chk (Nat.beq τ.sz σ.sz && Nat.beq τ.base σ.base && Nat.ble τ.base τ.next && r.all (fun p => Nat.ble τ.base p.1) && withinAll τ.next τ.tmps τ.heap && apartH r τ.heap) (refT r σ τ.tmps ∧ refH r σ τ.heap)
def refines (σ τ : St) : Prop := refinesBy (mtchH σ τ.heap (mtchT σ τ.tmps [])) σ τ

def firstRegion : Code → Nat
  | .region id _ _ => id
  | .seq a _ => firstRegion a
  | .block _ c | .loop c | .scope c => firstRegion c
  | _ => 0

def thenS (K : St → Prop) (Q : Exit → St → Prop) : Exit → St → Prop
  | .normal, σ => K σ
  | e, σ => Q e σ
def inBlk (id : Nat) (Q : Exit → St → Prop) : Exit → St → Prop
  | .exit id', σ => match Nat.beq id' id with
    | true => Q .normal σ
    | false => Q (.exit id') σ
  | e, σ => Q e σ

def noG (Q : Exit → St → Prop) : Exit → St → Prop
  | .goto _, _ => False
  | e, σ => Q e σ

def rounds (body : (Exit → St → Prop) → St → Prop) (Q : Exit → St → Prop) : Nat → St → Prop
  | 0, _ => False
  | n + 1, σ => body (thenS (rounds body Q n) Q) σ

def byInv {X : Type} (body : X → (Exit → St → Prop) → St → Prop) (Q : Exit → St → Prop) (st : X → St) (ok : X → Prop) (μ : X → Nat) (σ : St) : Prop :=
  (∃ x, ok x ∧ refines σ (st x)) ∧ ∀ x, ok x → body x (thenS (fun σ' => ∃ x', ok x' ∧ μ x' < μ x ∧ refines σ' (st x')) Q) (st x)

def evC {P : Program} (Γ : Gam P) (H : Nat → LH) (O : List (Nat × OT)) (c : Code) (Q : Exit → St → Prop) (σ : St) : Prop :=
  match c with
  | .skip => Q .normal σ
  | .label _ => Q .normal σ
  | .region id ops draw => match draw with
    | false => evOps Γ ops (List.range ops.size) σ (Q .normal)
    | true => match look O id with
      | some l => evT Γ ops l σ (Q .normal)
      | none => False
  | .seq a b => evC Γ H O a (thenS (evC Γ H O b Q) Q) σ
  | .cond c a b => match σ.ev c with
    | .c (.bool t) => brk t (evC Γ H O a Q σ) (evC Γ H O b Q σ)
    | _ => False
  | .block id c => evC Γ H O c (inBlk id Q) σ
  | .loop c => match pickH (H (firstRegion c)) σ with
    | .rounds n => rounds (evC Γ H O c) Q n σ
    | .by_ X st ok μ sub => byInv (fun x => evC Γ (subH H (sub x)) O c) Q st ok μ σ
    | .sel _ => False
  | .exit id => Q (.exit id) σ
  | .ret => Q .ret σ
  | .goto l => Q (.goto l) σ
  | .scope c => evC Γ H O c (noG Q) σ
  | _ => False

def resOf (P : Program) (σ : St) : List ResultVar → Option (List SV)
  | [] => some []
  | .tmp t :: r => match resOf P σ r with
    | some l => some (σ.get t :: l)
    | none => none
  | .cell a t :: r => match σ.get a, resOf P σ r with
    | .ptr b off, some l => match look σ.heap b with
      | some (.cells cs _) => match readAt P t cs off with
        | some v => some (v :: l)
        | none => none
      | _ => none
    | _, _ => none

def oneOf : List SV → SV
  | [x] => x
  | l => .tup l

def fnPost (P : Program) (fn : Func) (K : SV → List (Nat × SB) → Nat → Prop) : Exit → St → Prop
  | .normal, σ | .ret, σ => match resOf P σ fn.results.toList with
    | some l => force (oneOf l) fun r => K r σ.heap σ.next
    | none => False
  | _, _ => False

def startT : Nat → List SV → List (Nat × SV)
  | _, [] => []
  | i, x :: l => (i, x) :: startT (i + 1) l

end Go.Proofs.Ytjiamfajgllelaa.Sy
