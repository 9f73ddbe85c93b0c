/-
  PathS: lists of names: which may not be; equal ones; which stand below which.
-/
import Derived.Test.YtjiamfajgllelaaPathC
import Derived.Test.YtjiamfajgllelaaPathM
namespace Go.Proofs.Ytjiamfajgllelaa
open Go Go.RowKit Sy
set_option maxRecDepth 100000

noncomputable def Γc : Gam Try.prog := ⟨[ps 24 _ Try.func24 rfl (by kernel_rfl) c_CheckName, ps 19 _ Try.func19 rfl (by kernel_rfl) c_rCheckName], []⟩

/-- the elements of a list of strings -/
def encS (L : List ByteArray) : Nat → List SV := fun i => [.c (.string (L.getD i .empty))]
/-- a slice of these strings -/
def strs (x : SV) (L : List ByteArray) : Prop := sle [] x (.rs 1 L.length (encS L)) ∧ L.length ≤ 9223372036854775807
/-- the slice by itself -/
abbrev rsS (L : List ByteArray) : SV := .rs 1 L.length (encS L)

theorem sleL1 {x : SV} {L : List ByteArray} {xs ys : List SV} (h : strs x L) (t : sleL [] xs ys) : sleL [] (x :: xs) (rsS L :: ys) := by
  have hx : (!x.isRow) = true := by
    have := h.1
    cases x <;> first | rfl | (simp only [sle] at this)
  unfold sleL
  exact chk_iff.2 ⟨hx, h.1, t⟩
theorem strs_self (L : List ByteArray) (h : L.length ≤ 9223372036854775807) : strs (rsS L) L := ⟨⟨rfl, fun _ _ => rfl⟩, h⟩

theorem strs_of {n : Nat} {f : Nat → List SV} {L : List ByteArray} (hn : n = L.length) (hf : ∀ i, i < L.length → f i = encS L i) (h : L.length ≤ 9223372036854775807) : strs (.rs 1 n f) L := ⟨⟨hn, hf⟩, h⟩

def trBad (args : List SV) (K : SV → Prop) : Prop :=
  match args with
  | [.c (.string s)] => K (.c (.bool (bad s)))
  | _ => False
theorem c_silly1 : Sound 23 trBad := by
  refine snd (Γ := Γc) (O := O23) Try.func23 rfl (by kernel_rfl) fun args K h => ?_
  unfold trBad at h
  split at h
  · rename_i s
    refine ⟨rfl, H0, kcast (A := K (SV.c (Value.bool (errOf (badName s.data.toList) != (0 : Int))))) (by kernel_rfl) ?_⟩
    have : (errOf (badName s.data.toList) != 0) = bad s := by unfold errOf bad; cases badName s.data.toList <;> rfl
    rw [this]; exact h
  · exact h.elim

theorem any_take_succ {α : Type} [Inhabited α] (p : α → Bool) (L : List α) (i : Nat) (d : α) (h : i < L.length) : (L.take (i + 1)).any p = ((L.take i).any p || p (L.getD i d)) := by
  rw [List.take_succ_eq_append_getElem h, List.any_append]
  simp [List.getD, h]
theorem sub_lt {a b c : Nat} (h : a < c) (hb : b = a + 1) : c - b < c - a := by omega

noncomputable def Γs1 : Gam Try.prog := ⟨[ps 23 _ Try.func23 rfl (by kernel_rfl) c_silly1], []⟩
def trIndexBad (args : List SV) (K : SV → Prop) : Prop :=
  match args with
  | [x, .fn (.func g) [] []] => g = 23 ∧ ∃ L, strs x L ∧ ∀ r : Int, decide (0 ≤ r) = L.any bad → K (.c (.int .i64 r))
  | _ => False
def idxI (L : List ByteArray) : LInv where
  X := Nat
  st := fun p => ⟨[(0, rsS L), (1, .fn (.func 23) [] []), (7, .c (.int .i64 L.length)), (8, .c (.int .i64 p))], 19, [], 0, 0⟩
  ok := fun p => p ≤ L.length ∧ (L.take p).any bad = false
  μ := fun p => L.length - p
theorem c_IndexFuncS : Sound 25 trIndexBad := by
  refine sndA (Γ := Γs1) (O := O25) Try.func25 rfl (by kernel_rfl) fun args K h => ?_
  unfold trIndexBad at h
  split at h
  · rename_i x g
    obtain ⟨rfl, L, hL, hk⟩ := h
    refine ⟨[rsS L, .fn (.func 23) [] []], sleL1 hL ⟨⟨rfl, trivial, trivial⟩, trivial⟩, rfl, fun _ => .inv (idxI L), kcast (A := (∃ x_1 : Nat,
(x_1 ≤ L.length ∧
(List.take x_1 L).any bad = false) ∧
((L.length = L.length ∧
∀ (i : Nat),
((i < L.length) →
encS L i = encS L i)) ∧
(Fn.func (23 : FuncId) = Fn.func (23 : FuncId) ∧
True ∧
True) ∧
(↑L.length : Int) = (↑L.length : Int) ∧
(0 : Int) = (↑x_1 : Int) ∧
True) ∧
True) ∧
∀ (x_1 : Nat),
((x_1 ≤ L.length ∧
(List.take x_1 L).any bad = false) →
brk (decide ((↑x_1 : Int) < (↑L.length : Int)))
  (((0 : Int) ≤ (↑x_1 : Int) ∧
  (↑x_1 : Int) < (↑L.length : Int)) ∧
  brk (bad (L.getD (↑x_1 : Int).toNat ByteArray.empty))
    (K (SV.c (Value.int IntKind.i64 (↑x_1 : Int))))
    (∃ x' : Nat,
    (x' ≤ L.length ∧
    (List.take x' L).any bad = false) ∧
    L.length.sub x' < L.length.sub x_1 ∧
    ((L.length = L.length ∧
    ∀ (i : Nat),
    ((i < L.length) →
    encS L i = encS L i)) ∧
    (Fn.func (23 : FuncId) = Fn.func (23 : FuncId) ∧
    True ∧
    True) ∧
    (↑L.length : Int) = (↑L.length : Int) ∧
    IntKind.i64.wrap ((↑x_1 : Int) + (1 : Int)) = (↑x' : Int) ∧
    True) ∧
    True))
  (K (SV.c (Value.int IntKind.i64 (-1 : Int)))))) (by kernel_rfl) ?_⟩
    have hn := hL.2
    simp only [true_and, and_true, implies_true]
    refine ⟨⟨0, ⟨Nat.zero_le _, rfl⟩, rfl⟩, fun x ⟨hx, hno⟩ => brkI (fun h1 => ?_) (fun h1 => ?_)⟩
    · have hlt : x < L.length := by have := of_decide_eq_true h1; omega
      refine ⟨⟨by omega, by omega⟩, brkI (fun h2 => hk _ ?_) (fun h2 => ⟨x + 1, ⟨hlt, ?_⟩, sub_lt hlt rfl, by rw [IntWalk.i64_in _ (by omega)]; omega⟩)⟩
      · rw [Int.toNat_natCast] at h2
        have : L.any bad = true := List.any_eq_true.2 ⟨L.getD x .empty, by simp [List.getD, hlt], h2⟩
        rw [this]; simp
      · rw [Int.toNat_natCast] at h2
        rw [any_take_succ bad L x .empty hlt, hno, h2]; rfl
    · have hx' : x = L.length := by have := of_decide_eq_false h1; omega
      rw [hx', List.take_length] at hno
      refine hk _ ?_
      rw [hno]; rfl
  · exact h.elim

noncomputable def Γs2 : Gam Try.prog := ⟨[ps 25 _ Try.func25 rfl (by kernel_rfl) c_IndexFuncS], []⟩
def trContainsBad (args : List SV) (K : SV → Prop) : Prop :=
  match args with
  | [x, .fn (.func g) [] []] => g = 23 ∧ ∃ L, strs x L ∧ K (.c (.bool (L.any bad)))
  | _ => False
theorem c_ContainsFuncS : Sound 22 trContainsBad := by
  refine sndA (Γ := Γs2) (O := O22) Try.func22 rfl (by kernel_rfl) fun args K h => ?_
  unfold trContainsBad at h
  split at h
  · rename_i x g
    obtain ⟨rfl, L, hL, hk⟩ := h
    refine ⟨[rsS L, .fn (.func 23) [] []], sleL1 hL ⟨⟨rfl, trivial, trivial⟩, trivial⟩, rfl, H0, kcast (A := (23 : FuncId) = (23 : FuncId) ∧
∃ L_1 : List ByteArray,
strs (SV.rs (1 : Nat) L.length (encS L)) L_1 ∧
∀ (r : Int),
((decide ((0 : Int) ≤ r) = L_1.any bad) →
K (SV.c (Value.bool (decide (r ≥ (0 : Int))))))) (by kernel_rfl) ?_⟩
    refine ⟨rfl, L, strs_self L hL.2, fun r hr => ?_⟩
    rw [show decide (r ≥ 0) = decide (0 ≤ r) from rfl, hr]
    exact hk
  · exact h.elim

noncomputable def Γs3 : Gam Try.prog := ⟨[ps 22 _ Try.func22 rfl (by kernel_rfl) c_ContainsFuncS], []⟩
def trSilly (args : List SV) (K : SV → Prop) : Prop :=
  match args with
  | [x] => ∃ L, strs x L ∧ K (.c (.bool (sillyL L)))
  | _ => False
theorem c_silly : Sound 18 trSilly := by
  refine sndA (Γ := Γs3) (O := O18) Try.func18 rfl (by kernel_rfl) fun args K h => ?_
  unfold trSilly at h
  split at h
  · rename_i x
    obtain ⟨L, hL, hk⟩ := h
    refine ⟨[rsS L], sleL1 hL trivial, rfl, H0, kcast (A := brk (decide ((↑L.length : Int) > (6 : Int)))
  (K (SV.c (Value.bool true)))
  ((23 : Nat) = (23 : FuncId) ∧
  ∃ L_1 : List ByteArray,
  strs (SV.rs (1 : Nat) L.length (encS L)) L_1 ∧
  K (SV.c (Value.bool (L_1.any bad))))) (by kernel_rfl) ?_⟩
    unfold sillyL at hk
    refine brkI (fun h1 => ?_) (fun h1 => ⟨rfl, L, strs_self L hL.2, ?_⟩)
    · have : 6 < L.length := by have := of_decide_eq_true h1; omega
      rw [decide_eq_true this] at hk; exact hk
    · have : ¬ 6 < L.length := by have := of_decide_eq_false h1; omega
      rw [decide_eq_false this] at hk; exact hk
  · exact h.elim

end Go.Proofs.Ytjiamfajgllelaa
