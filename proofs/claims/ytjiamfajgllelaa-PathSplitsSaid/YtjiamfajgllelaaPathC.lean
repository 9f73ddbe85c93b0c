/-
  PathC: whether a name may be: the program's and the document's CheckName.
-/
import Derived.Test.YtjiamfajgllelaaPathI
import Derived.Test.YtjiamfajgllelaaBytM
import Derived.IntWalk
namespace Go.Proofs.Ytjiamfajgllelaa
open Go Go.RowKit Sy
set_option maxRecDepth 100000

noncomputable def Γi4 : Gam Try.prog := ⟨[ps 28 _ Try.func28 rfl (by kernel_rfl) c_IndexRune, ps 29 _ Try.func29 rfl (by kernel_rfl) c_short], []⟩

/-- a short name, the bytes that are looked for -/
def trIndexAny (args : List SV) (K : SV → Prop) : Prop :=
  match args with
  | [.c (.string s), .c (.string t)] => t = ⟨#[0, 47]⟩ ∧ s.size ≤ 8 ∧ ∀ r : Int, decide (0 ≤ r) = slashy s.data.toList → K (.c (.int .i64 r))
  | _ => False
def anyI (s : ByteArray) : LInv where
  X := Nat
  st := fun p => ⟨[(0, .c (.string s)), (1, .c (.string ⟨#[0, 47]⟩)), (45, .ptr 0 0)], 55, [(0, .siter s p)], 1, 0⟩
  ok := fun p => p ≤ s.size ∧ NoSl s p
  μ := fun p => s.size - p

theorem irune_ge (c : Int) : (0 ≤ irune c) ↔ c = 0 ∨ c = 47 := by
  unfold irune
  split
  · simp [*]
  · split <;> simp [*]

theorem c_IndexAny : Sound 27 trIndexAny := by
  refine snd (Γ := Γi4) (O := O27) Try.func27 rfl (by kernel_rfl) fun args K h => ?_
  unfold trIndexAny at h
  split at h
  · rename_i s t
    obtain ⟨rfl, hs, hk⟩ := h
    refine ⟨rfl, fun _ => .inv (anyI s), kcast (A := brk (decide ((8 : Int) < ↑s.size))
      (False)
      (((∃ x : Nat, (x ≤ s.size ∧ NoSl s x) ∧ (s = s ∧ (⟨#[0, 47]⟩ : ByteArray) = ⟨#[0, 47]⟩ ∧ 0 = 0 ∧ True) ∧ (s = s ∧ 0 = x) ∧ True)) ∧
      ∀ (x : Nat), (x ≤ s.size ∧ NoSl s x) →
      brk (Nat.blt x s.size)
        ((⟨#[0, 47]⟩ : ByteArray) = ⟨#[0, 47]⟩ ∧ ((0 : Int) ≤ ↑(Utf8.decode s x).fst ∧ (↑(Utf8.decode s x).fst : Int) ≤ 1114111) ∧ Utf8.valid ↑(Utf8.decode s x).fst = true ∧
        brk (decide (irune ↑(Utf8.decode s x).fst ≥ 0))
          (K (SV.c (Value.int IntKind.i64 ↑x)))
          (∃ x' : Nat, (x' ≤ s.size ∧ NoSl s x') ∧ s.size - x' < s.size - x ∧ (s = s ∧ (⟨#[0, 47]⟩ : ByteArray) = ⟨#[0, 47]⟩ ∧ 0 = 0 ∧ True) ∧ (s = s ∧ x + (Utf8.decode s x).snd = x') ∧ True))
        (K (SV.c (Value.int IntKind.i64 (-1)))))) (by kernel_rfl) ?_⟩
    rw [decide_eq_false (show ¬ (8 : Int) < s.size by omega)]
    refine ⟨⟨0, ⟨Nat.zero_le _, fun j hj => absurd hj (Nat.not_lt_zero _)⟩, ⟨rfl, rfl, rfl, trivial⟩, ⟨rfl, rfl⟩, trivial⟩, fun x ⟨hx, hno⟩ => ?_⟩
    by_cases hlt : x < s.size
    · rw [show Nat.blt x s.size = true by simpa [Nat.blt_eq] using hlt]
      obtain ⟨d1, d2, d3, d4, d5⟩ := decode_spec s x hlt
      refine ⟨rfl, ⟨Int.natCast_nonneg _, valid_or d3⟩, d3, ?_⟩
      by_cases hz : ((Utf8.decode s x).1 : Int) = 0 ∨ ((Utf8.decode s x).1 : Int) = 47
      · rw [decide_eq_true (show irune ((Utf8.decode s x).1 : Int) ≥ 0 from (irune_ge _).2 hz)]
        refine hk _ ?_
        have hb : by_ s x < 128 := by
          rcases Nat.lt_or_ge (by_ s x) 128 with h | h
          · exact h
          · have := (d5 h).1; omega
        rw [slashy_true hlt (by have := (d4 hb).1; omega)]
        simp
      · rw [decide_eq_false (show ¬ irune ((Utf8.decode s x).1 : Int) ≥ 0 from fun h => hz ((irune_ge _).1 h))]
        refine ⟨x + (Utf8.decode s x).2, ⟨d2, fun j hj => ?_⟩, by omega, ⟨rfl, rfl, rfl, trivial⟩, ⟨rfl, rfl⟩, trivial⟩
        by_cases hjx : j < x
        · exact hno j hjx
        · rcases Nat.lt_or_ge (by_ s x) 128 with h | h
          · obtain ⟨e1, e2⟩ := d4 h
            have : j = x := by omega
            subst this
            omega
          · have := (d5 h).2 j (by omega) hj
            omega
    · rw [show Nat.blt x s.size = false by simpa [Nat.blt_eq, Bool.eq_false_iff] using hlt]
      have : x = s.size := by omega
      subst this
      refine hk _ ?_
      rw [slashy_false hno]
      rfl
  · exact h.elim

noncomputable def Γi5 : Gam Try.prog := ⟨[ps 27 _ Try.func27 rfl (by kernel_rfl) c_IndexAny], []⟩
def trContainsAny (args : List SV) (K : SV → Prop) : Prop :=
  match args with
  | [.c (.string s), .c (.string t)] => t = ⟨#[0, 47]⟩ ∧ s.size ≤ 8 ∧ K (.c (.bool (slashy s.data.toList)))
  | _ => False
theorem c_ContainsAny : Sound 26 trContainsAny := by
  refine snd (Γ := Γi5) (O := O26) Try.func26 rfl (by kernel_rfl) fun args K h => ?_
  unfold trContainsAny at h
  split at h
  · rename_i s t
    obtain ⟨rfl, hs, hk⟩ := h
    refine ⟨rfl, H0, kcast (A := (⟨#[0, 47]⟩ : ByteArray) = ⟨#[0, 47]⟩ ∧ s.size ≤ 8 ∧ ∀ r : Int, decide (0 ≤ r) = slashy s.data.toList → K (.c (.bool (decide (r ≥ 0))))) (by kernel_rfl) ⟨rfl, hs, fun r hr => ?_⟩⟩
    rw [show decide (r ≥ 0) = decide (0 ≤ r) from rfl, hr]
    exact hk
  · exact h.elim

noncomputable def Γi6 : Gam Try.prog := ⟨[ps 26 _ Try.func26 rfl (by kernel_rfl) c_ContainsAny], []⟩

def errOf (b : Bool) : Int := if b then 30 else 0
def trCheck (args : List SV) (K : SV → Prop) : Prop :=
  match args with
  | [.c (.string s)] => K (.c (.int .i64 (errOf (badName s.data.toList))))
  | _ => False
theorem c_CheckName : Sound 24 trCheck := by
  refine snd (Γ := Γi6) (O := O24) Try.func24 rfl (by kernel_rfl) fun args K h => ?_
  unfold trCheck at h
  split at h
  · rename_i s
    refine ⟨rfl, H0, kcast (A := brk (s.toList == (ByteArray.mk #[]).toList)
  (K (SV.c (Value.int IntKind.i64 (30 : Int))))
  (brk (decide ((↑s.size : Int) > (8 : Int)))
    (K (SV.c (Value.int IntKind.i64 (30 : Int))))
    (brk (s.toList == (ByteArray.mk #[(46 : UInt8)]).toList)
      (K (SV.c (Value.int IntKind.i64 (30 : Int))))
      (brk (s.toList == (ByteArray.mk #[(46 : UInt8), (46 : UInt8)]).toList)
        (K (SV.c (Value.int IntKind.i64 (30 : Int))))
        (ByteArray.mk #[(0 : UInt8), (47 : UInt8)] = ByteArray.mk #[(0 : UInt8), (47 : UInt8)] ∧
        s.size ≤ (8 : Nat) ∧
        brk (slashy s.data.toList)
          (K (SV.c (Value.int IntKind.i64 (30 : Int))))
          (K (SV.c (Value.int IntKind.i64 (0 : Int))))))))) (by kernel_rfl) ?_⟩
    simp only [Lib.toList_data]
    have hb : badName s.data.toList = (s.data.toList == [] || decide ((s.size : Int) > 8) || s.data.toList == [46] || s.data.toList == [46, 46] || slashy s.data.toList) := by
      unfold badName
      have e1 : s.data.toList.isEmpty = (s.data.toList == []) := by cases s.data.toList <;> rfl
      have e2 : s.data.toList.length = s.size := by rw [Array.length_toList]; rfl
      rw [e1, e2]
      congr 4
      exact decide_eq_decide.2 (by omega)
    rw [hb] at h
    refine brkI (fun h1 => ?_) (fun h1 => brkI (fun h2 => ?_) (fun h2 => brkI (fun h3 => ?_) (fun h3 => brkI (fun h4 => ?_) (fun h4 => ⟨trivial, ?_, brkI (fun h5 => ?_) (fun h5 => ?_)⟩))))
    · rw [h1] at h; exact h
    · rw [h1, h2] at h; exact h
    · rw [h1, h2, h3] at h; exact h
    · rw [h1, h2, h3, h4] at h; exact h
    · have := of_decide_eq_false h2; omega
    · rw [h1, h2, h3, h4, h5] at h; exact h
    · rw [h1, h2, h3, h4, h5] at h; exact h
  · exact h.elim
def rckI (s : ByteArray) : LInv where
  X := Nat
  st := fun p => ⟨[(0, .c (.string s)), (3, .c (.int .i64 p))], 36, [], 0, 0⟩
  ok := fun p => p ≤ s.size ∧ NoSl s p
  μ := fun p => s.size - p
theorem c_rCheckName : Sound 19 trCheck := by
  refine snd (Γ := Γ0) (O := O19) Try.func19 rfl (by kernel_rfl) fun args K h => ?_
  unfold trCheck at h
  split at h
  · rename_i s
    refine ⟨rfl, fun _ => .inv (rckI s), kcast (A := brk (decide ((↑s.size : Int) < (1 : Int)))
  (K (SV.c (Value.int IntKind.i64 (30 : Int))))
  (brk (decide ((↑s.size : Int) > (8 : Int)))
    (K (SV.c (Value.int IntKind.i64 (30 : Int))))
    (brk (s.toList == (ByteArray.mk #[(46 : UInt8)]).toList)
      (K (SV.c (Value.int IntKind.i64 (30 : Int))))
      (brk (s.toList == (ByteArray.mk #[(46 : UInt8), (46 : UInt8)]).toList)
        (K (SV.c (Value.int IntKind.i64 (30 : Int))))
        ((∃ x : Nat,
        (x ≤ s.size ∧
        NoSl s x) ∧
        (s = s ∧
        (0 : Int) = (↑x : Int) ∧
        True) ∧
        True) ∧
        ∀ (x : Nat),
        ((x ≤ s.size ∧
        NoSl s x) →
        brk (decide ((↑x : Int) < (↑s.size : Int)))
          (((0 : Int) ≤ (↑x : Int) ∧
          (↑x : Int) < (↑s.size : Int)) ∧
          brk (bAt s (↑x : Int) == (0 : Int))
            (K (SV.c (Value.int IntKind.i64 (30 : Int))))
            (((0 : Int) ≤ (↑x : Int) ∧
            (↑x : Int) < (↑s.size : Int)) ∧
            brk (bAt s (↑x : Int) == (47 : Int))
              (K (SV.c (Value.int IntKind.i64 (30 : Int))))
              (∃ x' : Nat,
              (x' ≤ s.size ∧
              NoSl s x') ∧
              s.size.sub x' < s.size.sub x ∧
              (s = s ∧
              IntKind.i64.wrap ((↑x : Int) + (1 : Int)) = (↑x' : Int) ∧
              True) ∧
              True)))
          (K (SV.c (Value.int IntKind.i64 (0 : Int)))))))))) (by kernel_rfl) ?_⟩
    simp only [Lib.toList_data]
    have hb : badName s.data.toList = (decide ((s.size : Int) < 1) || decide ((s.size : Int) > 8) || s.data.toList == [46] || s.data.toList == [46, 46] || slashy s.data.toList) := by
      unfold badName
      have e2 : s.data.toList.length = s.size := by rw [Array.length_toList]; rfl
      have e1 : s.data.toList.isEmpty = decide ((s.size : Int) < 1) := by
        rw [Bool.eq_iff_iff, List.isEmpty_iff, ← List.length_eq_zero_iff, e2, decide_eq_true_eq]
        omega
      rw [e1, e2]
      congr 4
      exact decide_eq_decide.2 (by omega)
    rw [hb] at h
    refine brkI (fun h1 => ?_) (fun h1 => brkI (fun h2 => ?_) (fun h2 => brkI (fun h3 => ?_) (fun h3 => brkI (fun h4 => ?_) (fun h4 => ⟨⟨0, ⟨Nat.zero_le _, fun j hj => absurd hj (Nat.not_lt_zero _)⟩, ⟨trivial, rfl, trivial⟩, trivial⟩, fun x ⟨hx, hno⟩ => brkI (fun h5 => ?_) (fun h5 => ?_)⟩))))
    · rw [h1] at h; exact h
    · rw [h1, h2] at h; exact h
    · rw [h1, h2, h3] at h; exact h
    · rw [h1, h2, h3, h4] at h; exact h
    · have hlt : x < s.size := by have := of_decide_eq_true h5; omega
      have hba : bAt s (x : Int) = by_ s x := by
        simp [bAt, by_, ByteArray.get!]
        have h' : x < s.data.size := hlt
        rw [Array.getElem?_eq_getElem h', getElem!_pos s.data x h']
        rfl
      have hs := of_decide_eq_false h2
      refine ⟨⟨by omega, by omega⟩, brkI (fun h6 => ?_) (fun h6 => ⟨⟨by omega, by omega⟩, brkI (fun h7 => ?_) (fun h7 => ⟨x + 1, ⟨by omega, fun j hj => ?_⟩, Nat.sub_succ_lt_self _ _ hlt, ⟨trivial, ?_, trivial⟩, trivial⟩)⟩)⟩
      · rw [hba] at h6
        rw [slashy_true hlt (.inl (by simpa using h6))] at h
        simp only [Bool.or_true] at h
        exact h
      · rw [hba] at h7
        rw [slashy_true hlt (.inr (by have := eq_of_beq h7; omega))] at h
        simp only [Bool.or_true] at h
        exact h
      · by_cases hjx : j < x
        · exact hno j hjx
        · have : j = x := by omega
          subst this
          rw [hba] at h6 h7
          have h6 := ne_of_beq_false h6
          have h7 := ne_of_beq_false h7
          omega
      · rw [IntWalk.i64_in _ (by omega)]; omega
    · have hx' : x = s.size := by have := of_decide_eq_false h5; omega
      subst hx'
      rw [h1, h2, h3, h4, slashy_false hno] at h
      exact h
  · exact h.elim
end Go.Proofs.Ytjiamfajgllelaa
