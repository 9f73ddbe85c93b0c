/-
  BytM: plain: runes and bytes of a string; whether a name may be.
-/
import GoSem.Core.Utf8
import Derived.Lib.Bytealg
namespace Go.Proofs.Ytjiamfajgllelaa
open Go

/-- a string's byte as a number -/
def by_ (s : ByteArray) (i : Nat) : Nat := (s.get! i).toNat

theorem by_lt (s : ByteArray) (i : Nat) : by_ s i < 256 := by unfold by_; exact (s.get! i).toNat_lt

theorem by_get {s : ByteArray} {i : Nat} (h : i < s.size) : s.data.toList[i]? = some (s.get! i) := by
  have h' : i < s.data.size := h
  rw [Array.getElem?_toList, Array.getElem?_eq_getElem h']
  congr 1
  show _ = s.data[i]!
  rw [getElem!_pos s.data i h']

theorem valid_or {c : Nat} (h : Utf8.valid c = true) : (c : Int) ≤ 1114111 := by
  simp only [Utf8.valid, Bool.or_eq_true, Bool.and_eq_true, decide_eq_true_eq] at h
  omega

/-- what a rune's decoding tells of the bytes -/
theorem decode_spec (s : ByteArray) (i : Nat) (h : i < s.size) :
    1 ≤ (Utf8.decode s i).2 ∧ i + (Utf8.decode s i).2 ≤ s.size ∧ Utf8.valid (Utf8.decode s i).1 = true ∧
      (by_ s i < 128 → (Utf8.decode s i).1 = by_ s i ∧ (Utf8.decode s i).2 = 1) ∧ (128 ≤ by_ s i → 128 ≤ (Utf8.decode s i).1 ∧ ∀ j, i ≤ j → j < i + (Utf8.decode s i).2 → 128 ≤ by_ s j) := by
  have err : ∀ P : Prop, (128 ≤ by_ s i → P) → 128 ≤ by_ s i → 1 ≤ 1 ∧ i + 1 ≤ s.size ∧ Utf8.valid ((Utf8.runeError : Nat) : Int) = true ∧ (by_ s i < 128 → Utf8.runeError = by_ s i ∧ 1 = 1) ∧ (128 ≤ by_ s i → 128 ≤ Utf8.runeError ∧ ∀ j, i ≤ j → j < i + 1 → 128 ≤ by_ s j) := by
    intro P _ hb
    refine ⟨Nat.le_refl _, h, by decide, fun h2 => by omega, fun _ => ⟨by decide, fun j h1 h2 => ?_⟩⟩
    have : j = i := by omega
    rw [this]; exact hb
  have key : ∀ k, (s.get! (i + k)).toNat = by_ s (i + k) := fun _ => rfl
  have k0 : (s.get! i).toNat = by_ s i := rfl
  unfold Utf8.decode
  simp only [key, Nat.add_zero, k0]
  by_cases h0 : by_ s i < 128
  · rw [if_pos h0]
    have hv : Utf8.valid ((by_ s i : Nat) : Int) = true := by
      simp only [Utf8.valid, Bool.or_eq_true, Bool.and_eq_true, decide_eq_true_eq]; omega
    exact ⟨Nat.le_refl _, h, hv, fun _ => ⟨rfl, rfl⟩, fun h2 => by omega⟩
  · have hb : 128 ≤ by_ s i := by omega
    rw [if_neg h0]
    have cont : ∀ k, (decide (i + k < s.size) && (by_ s (i + k) / 64 == 2)) = true → i + k < s.size ∧ 128 ≤ by_ s (i + k) := by
      intro k hk
      simp only [Bool.and_eq_true, decide_eq_true_eq, beq_iff_eq] at hk
      omega
    split
    · rename_i h1
      simp only [Bool.and_eq_true] at h1
      obtain ⟨c1, c2⟩ := cont 1 (by simpa using h1.2)
      split
      · rename_i h2
        refine ⟨by omega, by omega, ?_, fun h3 => by omega, fun _ => ⟨by omega, fun j h3 h4 => ?_⟩⟩
        · have hl : by_ s i % 32 < 32 := Nat.mod_lt _ (by omega)
          have hl2 : by_ s (i + 1) % 64 < 64 := Nat.mod_lt _ (by omega)
          simp only [Utf8.valid, Bool.or_eq_true, Bool.and_eq_true, decide_eq_true_eq]; left; constructor <;> omega
        · rcases (by omega : j = i ∨ j = i + 1) with rfl | rfl
          · exact hb
          · exact c2
      · exact err True (fun _ => trivial) hb
    · split
      · rename_i h1
        simp only [Bool.and_eq_true] at h1
        obtain ⟨c1, c2⟩ := cont 1 (by simpa using h1.1.2)
        obtain ⟨d1, d2⟩ := cont 2 (by simpa using h1.2)
        split
        · rename_i h2
          simp only [Bool.and_eq_true, decide_eq_true_eq] at h2
          refine ⟨by omega, by omega, h2.2, fun h3 => by omega, fun _ => ⟨by omega, fun j h3 h4 => ?_⟩⟩
          rcases (by omega : j = i ∨ j = i + 1 ∨ j = i + 2) with rfl | rfl | rfl
          · exact hb
          · exact c2
          · exact d2
        · exact err True (fun _ => trivial) hb
      · split
        · rename_i h1
          simp only [Bool.and_eq_true] at h1
          obtain ⟨c1, c2⟩ := cont 1 (by simpa using h1.1.1.2)
          obtain ⟨d1, d2⟩ := cont 2 (by simpa using h1.1.2)
          obtain ⟨e1, e2⟩ := cont 3 (by simpa using h1.2)
          split
          · rename_i h2
            simp only [Bool.and_eq_true, decide_eq_true_eq] at h2
            refine ⟨by omega, by omega, h2.2, fun h3 => by omega, fun _ => ⟨by omega, fun j h3 h4 => ?_⟩⟩
            rcases (by omega : j = i ∨ j = i + 1 ∨ j = i + 2 ∨ j = i + 3) with rfl | rfl | rfl | rfl
            · exact hb
            · exact c2
            · exact d2
            · exact e2
          · exact err True (fun _ => trivial) hb
        · exact err True (fun _ => trivial) hb

/-- whether a name holds a nought or a stroke -/
def slashy (l : List UInt8) : Bool := l.any fun b => b == 0 || b == 47
/-- whether a name may not be -/
def badName (l : List UInt8) : Bool := l.isEmpty || decide (8 < l.length) || l == [46] || l == [46, 46] || slashy l

/-- none of the first p bytes is a nought or a stroke -/
def NoSl (s : ByteArray) (p : Nat) : Prop := ∀ j, j < p → by_ s j ≠ 0 ∧ by_ s j ≠ 47

theorem slashy_false {s : ByteArray} (h : NoSl s s.size) : slashy s.data.toList = false := by
  unfold slashy
  rw [List.any_eq_false]
  intro b hb
  obtain ⟨j, hj, rfl⟩ := List.mem_iff_getElem.1 hb
  have hj' : j < s.size := by simpa using hj
  have h1 := by_get hj'
  rw [List.getElem?_eq_getElem hj] at h1
  injection h1 with h1
  obtain ⟨a, b⟩ := h j hj'
  rw [h1]
  intro hh
  simp only [Bool.or_eq_true, beq_iff_eq] at hh
  rcases hh with e | e
  · exact a (by show (s.get! j).toNat = 0; rw [e]; rfl)
  · exact b (by show (s.get! j).toNat = 47; rw [e]; rfl)
theorem slashy_true {s : ByteArray} {j : Nat} (hj : j < s.size) (h : by_ s j = 0 ∨ by_ s j = 47) : slashy s.data.toList = true := by
  unfold slashy
  rw [List.any_eq_true]
  refine ⟨s.get! j, List.mem_of_getElem? (by_get hj), ?_⟩
  simp only [Bool.or_eq_true, beq_iff_eq]
  rcases h with e | e
  · exact .inl (UInt8.toNat_inj.1 e)
  · exact .inr (UInt8.toNat_inj.1 e)

end Go.Proofs.Ytjiamfajgllelaa
