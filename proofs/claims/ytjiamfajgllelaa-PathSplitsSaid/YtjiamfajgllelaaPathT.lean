/-
  PathT: equal lists of names; which stand below which.
-/
import Derived.Test.YtjiamfajgllelaaPathS
namespace Go.Proofs.Ytjiamfajgllelaa
open Go Go.RowKit Sy
set_option maxRecDepth 100000

theorem bytes_eq (a b : ByteArray) : (a.toList == b.toList) = decide (a = b) := by
  rw [Bool.eq_iff_iff, beq_iff_eq, decide_eq_true_eq, Lib.toList_data, Lib.toList_data]
  constructor
  · intro h; cases a; cases b; simp at h; rw [h]
  · rintro rfl; rfl
theorem take_succ_eq (L M : List ByteArray) (i : Nat) (h1 : i < L.length) (h2 : i < M.length) (h : L.take i = M.take i) (he : L.getD i .empty = M.getD i .empty) : L.take (i + 1) = M.take (i + 1) := by
  rw [List.take_succ_eq_append_getElem h1, List.take_succ_eq_append_getElem h2, h]
  simp [List.getD, h1, h2] at he
  rw [he]

def trEq2 (args : List SV) (K : SV → Prop) : Prop :=
  match args with
  | [x, y] => ∃ L M, strs x L ∧ strs y M ∧ K (.c (.bool (decide (L = M))))
  | _ => False
def eqI (L M : List ByteArray) : LInv where
  X := Nat
  st := fun p => ⟨[(0, rsS L), (1, rsS M), (12, .c (.int .i64 L.length)), (13, .c (.int .i64 p))], 26, [], 0, 0⟩
  ok := fun p => p ≤ L.length ∧ L.take p = M.take p
  μ := fun p => L.length - p

theorem eq_law {K : SV → Prop} {L M : List ByteArray} (hn : L.length ≤ 9223372036854775807) (hm : M.length ≤ 9223372036854775807) (hk : K (.c (.bool (decide (L = M))))) : brk ((L.length : Int) != (M.length : Int)) (K (.c (.bool false)))
    ((∃ x : Nat, (x ≤ L.length ∧ L.take x = M.take x) ∧ (0 : Int) = (x : Int)) ∧ ∀ (x : Nat), (x ≤ L.length ∧ L.take x = M.take x) → brk (decide ((x : Int) < (L.length : Int)))
      (((0 : Int) ≤ (x : Int) ∧ (x : Int) < (L.length : Int)) ∧ ((0 : Int) ≤ (x : Int) ∧ (x : Int) < (M.length : Int)) ∧
        brk (!((L.getD (x : Int).toNat .empty).toList == (M.getD (x : Int).toNat .empty).toList)) (K (.c (.bool false)))
          (∃ x' : Nat, (x' ≤ L.length ∧ L.take x' = M.take x') ∧ L.length.sub x' < L.length.sub x ∧ IntKind.i64.wrap ((x : Int) + 1) = (x' : Int)))
      (K (.c (.bool true)))) := by
  refine brkI (fun h1 => ?_) (fun h1 => ⟨⟨0, ⟨Nat.zero_le _, rfl⟩, rfl⟩, fun x ⟨hx, he⟩ => brkI (fun h2 => ?_) (fun h2 => ?_)⟩)
  · have : L ≠ M := by rintro rfl; simp at h1
    rw [decide_eq_false this] at hk; exact hk
  · have hl : L.length = M.length := by simp at h1; exact_mod_cast h1
    have hlt : x < L.length := by have := of_decide_eq_true h2; omega
    refine ⟨⟨by omega, by omega⟩, ⟨by omega, by omega⟩, ?_⟩
    rw [Int.toNat_natCast, bytes_eq]
    refine brkI (fun h3 => ?_) (fun h3 => ⟨x + 1, ⟨hlt, take_succ_eq L M x hlt (by omega) he (by simpa using h3)⟩, sub_lt hlt rfl, by rw [IntWalk.i64_in _ (by omega)]; omega⟩)
    have : L ≠ M := by rintro rfl; simp at h3
    rw [decide_eq_false this] at hk; exact hk
  · have hl : L.length = M.length := by simp at h1; exact_mod_cast h1
    have hx' : x = L.length := by have := of_decide_eq_false h2; omega
    subst hx'
    rw [List.take_length, hl, List.take_length] at he
    rw [decide_eq_true he] at hk; exact hk

theorem c_Same : Sound 13 trEq2 := by
  refine sndA (Γ := Γ0) (O := O13) Try.func13 rfl (by kernel_rfl) fun args K h => ?_
  unfold trEq2 at h
  split at h
  · rename_i x y
    obtain ⟨L, M, hL, hM, hk⟩ := h
    refine ⟨[rsS L, rsS M], sleL1 hL (sleL1 hM trivial), rfl, fun _ => .inv (eqI L M), kcast (A := brk ((↑L.length : Int) != (↑M.length : Int))
  (K (SV.c (Value.bool false)))
  ((∃ x_1 : Nat,
  (x_1 ≤ L.length ∧
  List.take x_1 L = List.take x_1 M) ∧
  ((L.length = L.length ∧
  ∀ (i : Nat),
  ((i < L.length) →
  encS L i = encS L i)) ∧
  (M.length = M.length ∧
  ∀ (i : Nat),
  ((i < M.length) →
  encS M i = encS M i)) ∧
  (↑L.length : Int) = (↑L.length : Int) ∧
  (0 : Int) = (↑x_1 : Int) ∧
  True) ∧
  True) ∧
  ∀ (x_1 : Nat),
  ((x_1 ≤ L.length ∧
  List.take x_1 L = List.take x_1 M) →
  brk (decide ((↑x_1 : Int) < (↑L.length : Int)))
    (((0 : Int) ≤ (↑x_1 : Int) ∧
    (↑x_1 : Int) < (↑L.length : Int)) ∧
    ((0 : Int) ≤ (↑x_1 : Int) ∧
    (↑x_1 : Int) < (↑M.length : Int)) ∧
    brk (!(L.getD (↑x_1 : Int).toNat ByteArray.empty).toList == (M.getD (↑x_1 : Int).toNat ByteArray.empty).toList)
      (K (SV.c (Value.bool false)))
      (∃ x' : Nat,
      (x' ≤ L.length ∧
      List.take x' L = List.take x' M) ∧
      L.length.sub x' < L.length.sub x_1 ∧
      ((L.length = L.length ∧
      ∀ (i : Nat),
      ((i < L.length) →
      encS L i = encS L i)) ∧
      (M.length = M.length ∧
      ∀ (i : Nat),
      ((i < M.length) →
      encS M i = encS M i)) ∧
      (↑L.length : Int) = (↑L.length : Int) ∧
      IntKind.i64.wrap ((↑x_1 : Int) + (1 : Int)) = (↑x' : Int) ∧
      True) ∧
      True))
    (K (SV.c (Value.bool true)))))) (by kernel_rfl) ?_⟩
    simp only [true_and, and_true, implies_true]
    exact eq_law hL.2 hM.2 hk
  · exact h.elim
theorem c_EqualS : Sound 21 trEq2 := by
  refine sndA (Γ := Γ0) (O := O21) Try.func21 rfl (by kernel_rfl) fun args K h => ?_
  unfold trEq2 at h
  split at h
  · rename_i x y
    obtain ⟨L, M, hL, hM, hk⟩ := h
    refine ⟨[rsS L, rsS M], sleL1 hL (sleL1 hM trivial), rfl, fun _ => .inv (eqI L M), kcast (A := brk ((↑L.length : Int) != (↑M.length : Int))
  (K (SV.c (Value.bool false)))
  ((∃ x_1 : Nat,
  (x_1 ≤ L.length ∧
  List.take x_1 L = List.take x_1 M) ∧
  ((L.length = L.length ∧
  ∀ (i : Nat),
  ((i < L.length) →
  encS L i = encS L i)) ∧
  (M.length = M.length ∧
  ∀ (i : Nat),
  ((i < M.length) →
  encS M i = encS M i)) ∧
  (↑L.length : Int) = (↑L.length : Int) ∧
  (0 : Int) = (↑x_1 : Int) ∧
  True) ∧
  True) ∧
  ∀ (x_1 : Nat),
  ((x_1 ≤ L.length ∧
  List.take x_1 L = List.take x_1 M) →
  brk (decide ((↑x_1 : Int) < (↑L.length : Int)))
    (((0 : Int) ≤ (↑x_1 : Int) ∧
    (↑x_1 : Int) < (↑L.length : Int)) ∧
    ((0 : Int) ≤ (↑x_1 : Int) ∧
    (↑x_1 : Int) < (↑M.length : Int)) ∧
    brk (!(L.getD (↑x_1 : Int).toNat ByteArray.empty).toList == (M.getD (↑x_1 : Int).toNat ByteArray.empty).toList)
      (K (SV.c (Value.bool false)))
      (∃ x' : Nat,
      (x' ≤ L.length ∧
      List.take x' L = List.take x' M) ∧
      L.length.sub x' < L.length.sub x_1 ∧
      ((L.length = L.length ∧
      ∀ (i : Nat),
      ((i < L.length) →
      encS L i = encS L i)) ∧
      (M.length = M.length ∧
      ∀ (i : Nat),
      ((i < M.length) →
      encS M i = encS M i)) ∧
      (↑L.length : Int) = (↑L.length : Int) ∧
      IntKind.i64.wrap ((↑x_1 : Int) + (1 : Int)) = (↑x' : Int) ∧
      True) ∧
      True))
    (K (SV.c (Value.bool true)))))) (by kernel_rfl) ?_⟩
    simp only [true_and, and_true, implies_true]
    exact eq_law hL.2 hM.2 hk
  · exact h.elim

/-- whether b stands below a -/
def underL (a b : List ByteArray) : Bool := decide (a.length < b.length) && decide (a = b.take a.length)
def trUnder (args : List SV) (K : SV → Prop) : Prop :=
  match args with
  | [x, y] => ∃ L M, strs x L ∧ strs y M ∧ K (.c (.bool (underL L M)))
  | _ => False
noncomputable def Γt1 : Gam Try.prog := ⟨[ps 21 _ Try.func21 rfl (by kernel_rfl) c_EqualS], []⟩
theorem c_Under : Sound 14 trUnder := by
  refine sndA (Γ := Γt1) (O := O14) Try.func14 rfl (by kernel_rfl) fun args K h => ?_
  unfold trUnder at h
  split at h
  · rename_i x y
    obtain ⟨L, M, hL, hM, hk⟩ := h
    refine ⟨[rsS L, rsS M], sleL1 hL (sleL1 hM trivial), rfl, H0, kcast (A := brk (decide ((↑M.length : Int) > (↑L.length : Int)))
  (((0 : Int) ≤ (0 : Int) ∧
  (0 : Int) ≤ (↑L.length : Int) ∧
  (↑L.length : Int) ≤ (↑M.length : Int)) ∧
  ∃ L_1 : List ByteArray,
  ∃ M_1 : List ByteArray,
  strs (SV.rs (1 : Nat) L.length (encS L)) L_1 ∧
  strs (SV.rs (1 : Nat) ((↑L.length : Int) - (0 : Int)).toNat (encS M)) M_1 ∧
  K (SV.c (Value.bool (decide (L_1 = M_1)))))
  (K (SV.c (Value.bool false)))) (by kernel_rfl) ?_⟩
    unfold underL at hk
    refine brkI (fun h1 => ?_) (fun h1 => ?_)
    · have hlt : L.length < M.length := by have := of_decide_eq_true h1; omega
      rw [decide_eq_true hlt] at hk
      have h2 := hL.2
      refine ⟨⟨by omega, by omega, by omega⟩, L, M.take L.length, strs_self L hL.2, strs_of ?_ (fun i hi => ?_) ?_, hk⟩
      · simp; omega
      · have : i < L.length := by simp at hi; omega
        simp [encS, List.getD, this]
      · simp; omega
    · have hlt : ¬ L.length < M.length := by have := of_decide_eq_false h1; omega
      rw [decide_eq_false hlt] at hk
      exact hk
  · exact h.elim
theorem c_rUnder : Sound 17 trUnder := by
  refine sndA (Γ := Γ0) (O := O17) Try.func17 rfl (by kernel_rfl) fun args K h => ?_
  unfold trUnder at h
  split at h
  · rename_i x y
    obtain ⟨L, M, hL, hM, hk⟩ := h
    refine ⟨[rsS L, rsS M], sleL1 hL (sleL1 hM trivial), rfl, fun _ => .inv (eqI L M), kcast (A := brk (decide ((↑M.length : Int) ≤ (↑L.length : Int)))
  (K (SV.c (Value.bool false)))
  ((∃ x_1 : Nat,
  (x_1 ≤ L.length ∧
  List.take x_1 L = List.take x_1 M) ∧
  ((L.length = L.length ∧
  ∀ (i : Nat),
  ((i < L.length) →
  encS L i = encS L i)) ∧
  (M.length = M.length ∧
  ∀ (i : Nat),
  ((i < M.length) →
  encS M i = encS M i)) ∧
  (↑L.length : Int) = (↑L.length : Int) ∧
  (0 : Int) = (↑x_1 : Int) ∧
  True) ∧
  True) ∧
  ∀ (x_1 : Nat),
  ((x_1 ≤ L.length ∧
  List.take x_1 L = List.take x_1 M) →
  brk (decide ((↑x_1 : Int) < (↑L.length : Int)))
    (((0 : Int) ≤ (↑x_1 : Int) ∧
    (↑x_1 : Int) < (↑L.length : Int)) ∧
    ((0 : Int) ≤ (↑x_1 : Int) ∧
    (↑x_1 : Int) < (↑M.length : Int)) ∧
    brk (!(L.getD (↑x_1 : Int).toNat ByteArray.empty).toList == (M.getD (↑x_1 : Int).toNat ByteArray.empty).toList)
      (K (SV.c (Value.bool false)))
      (∃ x' : Nat,
      (x' ≤ L.length ∧
      List.take x' L = List.take x' M) ∧
      L.length.sub x' < L.length.sub x_1 ∧
      ((L.length = L.length ∧
      ∀ (i : Nat),
      ((i < L.length) →
      encS L i = encS L i)) ∧
      (M.length = M.length ∧
      ∀ (i : Nat),
      ((i < M.length) →
      encS M i = encS M i)) ∧
      (↑L.length : Int) = (↑L.length : Int) ∧
      IntKind.i64.wrap ((↑x_1 : Int) + (1 : Int)) = (↑x' : Int) ∧
      True) ∧
      True))
    (K (SV.c (Value.bool true)))))) (by kernel_rfl) ?_⟩
    simp only [true_and, and_true, implies_true]
    have hn := hL.2
    unfold underL at hk
    refine brkI (fun h1 => ?_) (fun h1 => ?_)
    · have hlt : ¬ L.length < M.length := by have := of_decide_eq_true h1; omega
      rw [decide_eq_false hlt] at hk
      exact hk
    have hlt : L.length < M.length := by have := of_decide_eq_false h1; omega
    rw [decide_eq_true hlt, Bool.true_and] at hk
    refine ⟨⟨0, ⟨Nat.zero_le _, rfl⟩, rfl⟩, fun x ⟨hx, he⟩ => brkI (fun h2 => ?_) (fun h2 => ?_)⟩
    · have hxl : x < L.length := by have := of_decide_eq_true h2; omega
      refine ⟨⟨by omega, by omega⟩, ⟨by omega, by omega⟩, ?_⟩
      rw [Int.toNat_natCast, bytes_eq]
      refine brkI (fun h3 => ?_) (fun h3 => ⟨x + 1, ⟨hxl, take_succ_eq L M x hxl (by omega) he (by simpa using h3)⟩, sub_lt hxl rfl, by rw [IntWalk.i64_in _ (by omega)]; omega⟩)
      have : L ≠ M.take L.length := by
        intro e
        have e2 : L.getD x .empty = (M.take L.length).getD x .empty := by rw [← e]
        have e3 : (M.take L.length).getD x .empty = M.getD x .empty := by simp [List.getD, hxl]
        rw [e2, e3] at h3
        simp at h3
      rw [decide_eq_false this] at hk; exact hk
    · have hx' : x = L.length := by have := of_decide_eq_false h2; omega
      subst hx'
      rw [List.take_length] at he
      rw [decide_eq_true he] at hk; exact hk
  · exact h.elim
end Go.Proofs.Ytjiamfajgllelaa
