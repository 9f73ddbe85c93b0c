/-
  PathJ: the path of names, the program's and the document's.
-/
import Derived.Test.YtjiamfajgllelaaPathT
namespace Go.Proofs.Ytjiamfajgllelaa
open Go Go.RowKit Sy
set_option maxRecDepth 100000

/-- what Join answers -/
def joinE : Option ByteArray → Int
  | some _ => 0
  | none => 160
def joinR (L : List ByteArray) : SV := .tup [.c (.string ((unparse L).getD ⟨#[]⟩)), .c (.int .i64 (joinE (unparse L)))]
def trJoin (args : List SV) (K : SV → Prop) : Prop :=
  match args with
  | [x] => ∃ L, strs x L ∧ K (joinR L)
  | _ => False
noncomputable def Γj : Gam Try.prog := ⟨[ps 18 _ Try.func18 rfl (by kernel_rfl) c_silly], []⟩
/-- the first p names tied -/
def tied (L : List ByteArray) (p : Nat) : ByteArray := mk (tie ((L.take p).map (·.data.toList)))
theorem tied_zero (L : List ByteArray) : ByteArray.mk #[] = tied L 0 := rfl
theorem tied_succ (L : List ByteArray) (x : Nat) (h : x < L.length) : tied L x ++ (ByteArray.mk #[47] ++ L.getD x .empty) = tied L (x + 1) := by
  unfold tied
  apply ba_ext
  rw [List.take_succ_eq_append_getElem h, List.map_append, tie_append]
  have : L.getD x .empty = L[x] := by simp [List.getD, h]
  rw [ba_append, ba_append, this, toList_mk, toList_mk]
  simp [tie]
theorem tied_size (L : List ByteArray) (hs : L.any bad = false) (x : Nat) : (tied L x).size ≤ 9 * L.length := by
  unfold tied
  rw [← ba_size, toList_mk]
  refine Nat.le_trans (tie_len _ fun y hy => ?_) (by simp; omega)
  obtain ⟨z, hz, rfl⟩ := List.mem_map.1 hy
  have hb : bad z = false := by
    have := List.any_eq_false.1 hs z (List.mem_of_mem_take hz)
    simpa using this
  rw [ba_size]
  exact (bad_len hb).1
theorem tied_size' (L : List ByteArray) (x : Nat) (hs : (L.take x).any bad = false) : (tied L x).size ≤ 9 * L.length := by
  have := tied_size (L.take x) hs x
  have e : tied (L.take x) x = tied L x := by unfold tied; rw [List.take_take, Nat.min_self]
  rw [e] at this
  refine Nat.le_trans this ?_
  simp; omega
theorem cat_size (a b : ByteArray) : (a ++ b).size = a.size + b.size := by
  rw [← ba_size, ba_append, List.length_append, ba_size, ba_size]
theorem getD_small {L : List ByteArray} (hs : L.any bad = false) {x : Nat} (h : x < L.length) : (L.getD x .empty).size ≤ 8 := by
  have : L.getD x .empty = L[x] := by simp [List.getD, h]
  rw [this]
  have hb : bad L[x] = false := by
    have := List.any_eq_false.1 hs L[x] (List.getElem_mem h)
    simpa using this
  exact (bad_len hb).1
theorem tied_nil (L : List ByteArray) : ((tied L L.length).toList == (ByteArray.mk #[]).toList) = decide (L = []) := by
  rw [Lib.toList_data, Lib.toList_data]
  unfold tied
  rw [List.take_length, toList_mk]
  cases L with
  | nil => rfl
  | cons x xs => rw [decide_eq_false (by simp)]; rfl
/-- what is answered behind the loop -/
theorem joinR_end {K : SV → Prop} {L : List ByteArray} (hs : sillyL L = false) (hk : K (joinR L)) :
    brk ((tied L L.length).toList == (ByteArray.mk #[]).toList) (K (.tup [.c (.string (ByteArray.mk #[47])), .c (.int .i64 0)])) (K (.tup [.c (.string (tied L L.length)), .c (.int .i64 0)])) := by
  rw [tied_nil]
  unfold joinR unparse at hk
  rw [if_neg (by simp [hs])] at hk
  refine brkI (fun h1 => ?_) (fun h1 => ?_)
  · have h1 := of_decide_eq_true h1
    rw [if_pos h1] at hk; exact hk
  · have h1 := of_decide_eq_false h1
    rw [if_neg h1] at hk
    unfold tied
    rw [List.take_length]; exact hk
def joinI (L : List ByteArray) : LInv where
  X := Nat
  st := fun p => ⟨[(9, rsS L), (10, .c (.int .i64 L.length)), (11, .c (.int .i64 p)), (4, .c (.string (tied L p)))], 23, [], 0, 0⟩
  ok := fun p => p ≤ L.length
  μ := fun p => L.length - p
theorem c_Join : Sound 15 trJoin := by
  refine sndA (Γ := Γj) (O := O15) Try.func15 rfl (by kernel_rfl) fun args K h => ?_
  unfold trJoin at h
  split at h
  · rename_i x
    obtain ⟨L, hL, hk⟩ := h
    refine ⟨[rsS L], sleL1 hL trivial, rfl, fun _ => .inv (joinI L), kcast (A := ∃ L_1 : List ByteArray,
strs (SV.rs (1 : Nat) L.length (encS L)) L_1 ∧
brk (sillyL L_1)
  (K (SV.tup [SV.c (Value.int IntKind.i64 (160 : Int)), SV.c (Value.string (ByteArray.mk #[]))].reverse))
  ((∃ x_1 : Nat,
  Nat.le x_1 L.length ∧
  ((L.length = L.length ∧
  ∀ (i : Nat),
  ((i < L.length) →
  encS L i = encS L i)) ∧
  (↑L.length : Int) = (↑L.length : Int) ∧
  (0 : Int) = (↑x_1 : Int) ∧
  ByteArray.mk #[] = tied L x_1 ∧
  True) ∧
  True) ∧
  ∀ (x_1 : Nat),
  ((Nat.le x_1 L.length) →
  brk (decide ((↑x_1 : Int) < (↑L.length : Int)))
    (((0 : Int) ≤ (↑x_1 : Int) ∧
    (↑x_1 : Int) < (↑L.length : Int)) ∧
    (↑((ByteArray.mk #[(47 : UInt8)]).size + (L.getD (↑x_1 : Int).toNat ByteArray.empty).size) : Int) ≤
  (9223372036854775807 : Int) ∧
    (↑((tied L x_1).size + (ByteArray.mk #[(47 : UInt8)] ++ L.getD (↑x_1 : Int).toNat ByteArray.empty).size) : Int) ≤
  (9223372036854775807 : Int) ∧
    ∃ x' : Nat,
    Nat.le x' L.length ∧
    L.length.sub x' < L.length.sub x_1 ∧
    ((L.length = L.length ∧
    ∀ (i : Nat),
    ((i < L.length) →
    encS L i = encS L i)) ∧
    (↑L.length : Int) = (↑L.length : Int) ∧
    IntKind.i64.wrap ((↑x_1 : Int) + (1 : Int)) = (↑x' : Int) ∧
    tied L x_1 ++ (ByteArray.mk #[(47 : UInt8)] ++ L.getD (↑x_1 : Int).toNat ByteArray.empty) = tied L x' ∧
    True) ∧
    True)
    (brk ((tied L x_1).toList == (ByteArray.mk #[]).toList)
      (K (SV.tup [SV.c (Value.int IntKind.i64 (0 : Int)), SV.c (Value.string (ByteArray.mk #[(47 : UInt8)]))].reverse))
      (K (SV.tup [SV.c (Value.int IntKind.i64 (0 : Int)), SV.c (Value.string (tied L x_1))].reverse)))))) (by kernel_rfl) ?_⟩
    simp only [true_and, and_true, implies_true]
    refine ⟨L, strs_self L hL.2, brkI (fun h1 => ?_) (fun h1 => ?_)⟩
    · unfold joinR unparse at hk
      rw [if_pos h1] at hk; exact hk
    have hn := hL.2
    have hb : L.any bad = false := by
      have := h1
      unfold sillyL at this
      simp only [Bool.or_eq_false_iff] at this
      exact this.2
    have hlen : L.length ≤ 6 := by
      have := h1
      unfold sillyL at this
      simp only [Bool.or_eq_false_iff, decide_eq_false_iff_not] at this
      omega
    refine ⟨⟨0, Nat.zero_le _, rfl, tied_zero L⟩, fun x hx => brkI (fun h2 => ?_) (fun h2 => ?_)⟩
    · have hlt : x < L.length := by have := of_decide_eq_true h2; omega
      rw [Int.toNat_natCast]
      have h3 := getD_small hb hlt
      have h4 := tied_size L hb x
      have h5 : (ByteArray.mk #[47]).size = 1 := rfl
      refine ⟨⟨by omega, by omega⟩, by omega, by rw [cat_size]; omega, x + 1, hlt, sub_lt hlt rfl, by rw [IntWalk.i64_in _ (by omega)]; omega, tied_succ L x hlt⟩
    · have hx' : x = L.length := by have := of_decide_eq_false h2; have hx : x ≤ L.length := hx; omega
      subst hx'
      exact joinR_end h1 hk
  · exact h.elim
noncomputable def Γrj : Gam Try.prog := ⟨[ps 19 _ Try.func19 rfl (by kernel_rfl) c_rCheckName], []⟩
def rjoinI (L : List ByteArray) : LInv where
  X := Nat
  st := fun p => ⟨[(10, rsS L), (11, .c (.int .i64 L.length)), (12, .c (.int .i64 p)), (4, .c (.string (tied L p)))], 27, [], 0, 0⟩
  ok := fun p => p ≤ L.length ∧ (L.take p).any bad = false
  μ := fun p => L.length - p
theorem c_rJoin : Sound 16 trJoin := by
  refine sndA (Γ := Γrj) (O := O16) Try.func16 rfl (by kernel_rfl) fun args K h => ?_
  unfold trJoin at h
  split at h
  · rename_i x
    obtain ⟨L, hL, hk⟩ := h
    refine ⟨[rsS L], sleL1 hL trivial, rfl, fun _ => .inv (rjoinI L), kcast (A := brk (decide ((↑L.length : Int) > (6 : Int)))
  (K (SV.tup [SV.c (Value.int IntKind.i64 (160 : Int)), SV.c (Value.string (ByteArray.mk #[]))].reverse))
  ((∃ x_1 : Nat,
  (x_1 ≤ L.length ∧
  (List.take x_1 L).any bad = false) ∧
  ((L.length = L.length ∧
  ∀ (i : Nat),
  ((i < L.length) →
  encS L i = encS L i)) ∧
  (↑L.length : Int) = (↑L.length : Int) ∧
  (0 : Int) = (↑x_1 : Int) ∧
  ByteArray.mk #[] = tied L x_1 ∧
  True) ∧
  True) ∧
  ∀ (x_1 : Nat),
  ((x_1 ≤ L.length ∧
  (List.take x_1 L).any bad = false) →
  brk (decide ((↑x_1 : Int) < (↑L.length : Int)))
    (((0 : Int) ≤ (↑x_1 : Int) ∧
    (↑x_1 : Int) < (↑L.length : Int)) ∧
    brk (errOf (badName (L.getD (↑x_1 : Int).toNat ByteArray.empty).data.toList) != (0 : Int))
      (K (SV.tup [SV.c (Value.int IntKind.i64 (160 : Int)), SV.c (Value.string (ByteArray.mk #[]))].reverse))
      ((↑((ByteArray.mk #[(47 : UInt8)]).size + (L.getD (↑x_1 : Int).toNat ByteArray.empty).size) : Int) ≤
  (9223372036854775807 : Int) ∧
      (↑((tied L x_1).size + (ByteArray.mk #[(47 : UInt8)] ++ L.getD (↑x_1 : Int).toNat ByteArray.empty).size) : Int) ≤
  (9223372036854775807 : Int) ∧
      ∃ x' : Nat,
      (x' ≤ L.length ∧
      (List.take x' L).any bad = false) ∧
      L.length.sub x' < L.length.sub x_1 ∧
      ((L.length = L.length ∧
      ∀ (i : Nat),
      ((i < L.length) →
      encS L i = encS L i)) ∧
      (↑L.length : Int) = (↑L.length : Int) ∧
      IntKind.i64.wrap ((↑x_1 : Int) + (1 : Int)) = (↑x' : Int) ∧
      tied L x_1 ++ (ByteArray.mk #[(47 : UInt8)] ++ L.getD (↑x_1 : Int).toNat ByteArray.empty) = tied L x' ∧
      True) ∧
      True))
    (brk ((tied L x_1).toList == (ByteArray.mk #[]).toList)
      (K (SV.tup [SV.c (Value.int IntKind.i64 (0 : Int)), SV.c (Value.string (ByteArray.mk #[(47 : UInt8)]))].reverse))
      (K (SV.tup [SV.c (Value.int IntKind.i64 (0 : Int)), SV.c (Value.string (tied L x_1))].reverse)))))) (by kernel_rfl) ?_⟩
    simp only [true_and, and_true, implies_true]
    have hn := hL.2
    have hbd : ∀ z : ByteArray, (errOf (badName z.data.toList) != 0) = bad z := by
      intro z; unfold errOf bad; cases badName z.data.toList <;> rfl
    refine brkI (fun h1 => ?_) (fun h1 => ⟨⟨0, ⟨Nat.zero_le _, rfl⟩, rfl, tied_zero L⟩, fun x ⟨hx, hno⟩ => brkI (fun h2 => ?_) (fun h2 => ?_)⟩)
    · have h1 : 6 < L.length := by have := of_decide_eq_true h1; omega
      have : sillyL L = true := by unfold sillyL; rw [decide_eq_true h1]; rfl
      unfold joinR unparse at hk
      rw [if_pos this] at hk; exact hk
    · have hlt : x < L.length := by have := of_decide_eq_true h2; omega
      have h6 : ¬ 6 < L.length := by have := of_decide_eq_false h1; omega
      rw [Int.toNat_natCast, hbd]
      refine ⟨⟨by omega, by omega⟩, brkI (fun h3 => ?_) (fun h3 => ?_)⟩
      · have : L.any bad = true := List.any_eq_true.2 ⟨L.getD x .empty, by simp [List.getD, hlt], h3⟩
        have : sillyL L = true := by unfold sillyL; rw [this, Bool.or_true]
        unfold joinR unparse at hk
        rw [if_pos this] at hk; exact hk
      · have h4 := tied_size' L x hno
        have h5 : (ByteArray.mk #[47]).size = 1 := rfl
        have h7 := (bad_len h3).1
        exact ⟨by omega, by rw [cat_size]; omega, x + 1, ⟨hlt, by rw [any_take_succ bad L x .empty hlt, hno, h3]; rfl⟩, sub_lt hlt rfl, by rw [IntWalk.i64_in _ (by omega)]; omega, tied_succ L x hlt⟩
    · have hx' : x = L.length := by have := of_decide_eq_false h2; omega
      subst hx'
      rw [List.take_length] at hno
      have h6 : ¬ 6 < L.length := by have := of_decide_eq_false h1; omega
      exact joinR_end (by unfold sillyL; rw [hno, decide_eq_false h6]; rfl) hk
  · exact h.elim
end Go.Proofs.Ytjiamfajgllelaa
