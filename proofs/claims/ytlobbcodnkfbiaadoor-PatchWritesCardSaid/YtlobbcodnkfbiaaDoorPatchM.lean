/-
  PatchM: masks and rows of bytes, plainly.
-/
import Derived.Test.YtlobbcodnkfbiaaDoorSxD
import Derived.Lib.TrailingZeros
namespace Go.Proofs.YtlobbcodnkfbiaaDoor
open Go Sx

theorem w64 {x : Int} (h : -9223372036854775808 ≤ x ∧ x ≤ 9223372036854775807) : IntKind.i64.wrap x = x := by
  unfold IntKind.wrap; simp [IntKind.bits, IntKind.signed]; omega
theorem w32 (x : Int) : IntKind.u32.wrap x = x % 4294967296 := by
  simp [IntKind.wrap, IntKind.signed, IntKind.bits]
theorem wu64 (x : Int) : IntKind.u64.wrap x = x % 18446744073709551616 := by
  simp [IntKind.wrap, IntKind.signed, IntKind.bits]

/-- bit j of a mask -/
def bit (m : Int) (j : Nat) : Bool := m.toNat.testBit j
def M32 (m : Int) : Prop := 0 ≤ m ∧ m < 4294967296

theorem ofInt32_toNat {a : Int} (h : M32 a) : (BitVec.ofInt 32 a).toNat = a.toNat := by
  obtain ⟨h0, h1⟩ := h
  rw [BitVec.toNat_ofInt]
  omega
theorem ofInt32_bit {a : Int} (h : M32 a) (j : Nat) : (BitVec.ofInt 32 a).getLsbD j = bit a j := by
  rw [← BitVec.testBit_toNat, ofInt32_toNat h]; rfl

theorem ibits_and {a b : Int} (op : BinOp) (F : Bool → Bool → Bool) (ha : M32 a) (hb : M32 b)
    (hop : (op = .and ∧ F = fun x y => x && y) ∨ (op = .or ∧ F = fun x y => x || y) ∨ (op = .xor ∧ F = fun x y => x ^^ y) ∨ (op = .andNot ∧ F = fun x y => x && !y)) :
    M32 (ibits op .u32 a b) ∧ ∀ j, j < 32 → bit (ibits op .u32 a b) j = F (bit a j) (bit b j) := by
  have key : ∀ v : BitVec 32, M32 (IntKind.u32.wrap (v.toNat : Int)) ∧ ∀ j, bit (IntKind.u32.wrap (v.toNat : Int)) j = v.getLsbD j := by
    intro v
    have := v.isLt
    have e : IntKind.u32.wrap (v.toNat : Int) = (v.toNat : Int) := by rw [w32]; omega
    rw [e]
    exact ⟨⟨by omega, by omega⟩, fun j => by rw [← BitVec.testBit_toNat]; rfl⟩
  rcases hop with ⟨rfl, rfl⟩ | ⟨rfl, rfl⟩ | ⟨rfl, rfl⟩ | ⟨rfl, rfl⟩
  · refine ⟨(key _).1, fun j hj => ?_⟩
    refine ((key (BitVec.ofInt 32 a &&& BitVec.ofInt 32 b)).2 j).trans ?_
    rw [BitVec.getLsbD_and, ofInt32_bit ha, ofInt32_bit hb]
  · refine ⟨(key _).1, fun j hj => ?_⟩
    refine ((key (BitVec.ofInt 32 a ||| BitVec.ofInt 32 b)).2 j).trans ?_
    rw [BitVec.getLsbD_or, ofInt32_bit ha, ofInt32_bit hb]
  · refine ⟨(key _).1, fun j hj => ?_⟩
    refine ((key (BitVec.ofInt 32 a ^^^ BitVec.ofInt 32 b)).2 j).trans ?_
    rw [BitVec.getLsbD_xor, ofInt32_bit ha, ofInt32_bit hb]
  · refine ⟨(key _).1, fun j hj => ?_⟩
    refine ((key (BitVec.ofInt 32 a &&& ~~~ BitVec.ofInt 32 b)).2 j).trans ?_
    rw [BitVec.getLsbD_and, BitVec.getLsbD_not, ofInt32_bit ha, ofInt32_bit hb]
    simp [hj]

/-- two masks with the same bits -/
theorem mask_ext {a b : Int} (ha : M32 a) (hb : M32 b) (h : ∀ j, j < 32 → bit a j = bit b j) : a = b := by
  have e : a.toNat = b.toNat := by
    apply Nat.eq_of_testBit_eq
    intro j
    by_cases hj : j < 32
    · exact h j hj
    · have hp : 2 ^ 32 ≤ 2 ^ j := Nat.pow_le_pow_right (by omega) (by omega)
      rw [Nat.testBit_lt_two_pow (by have := ha.2; omega), Nat.testBit_lt_two_pow (by have := hb.2; omega)]
  have := ha.1; have := hb.1; omega

def spanI (a b : Int) : Int := IntKind.u32.wrap (IntKind.u64.wrap (ishl .u64 1 b - ishl .u64 1 a))

theorem span_tab : ∀ b, b < 33 → ∀ a, a ≤ b → ∀ j, j < 32 → ((2 ^ b - 2 ^ a) % 4294967296).testBit j = (decide (a ≤ j) && decide (j < b)) := by decide +kernel

theorem span_spec {a b : Int} (h0 : 0 ≤ a) (h1 : a ≤ b) (h2 : b ≤ 32) : M32 (spanI a b) ∧ ∀ j : Nat, j < 32 → bit (spanI a b) j = (decide (a ≤ j) && decide ((j : Int) < b)) := by
  obtain ⟨x, rfl⟩ := Int.eq_ofNat_of_zero_le h0
  obtain ⟨y, rfl⟩ := Int.eq_ofNat_of_zero_le (show 0 ≤ b by omega)
  have hx : x ≤ y := by omega
  have hy : y ≤ 32 := by omega
  have p : ∀ z : Nat, z ≤ 32 → ishl .u64 1 z = ((2 ^ z : Nat) : Int) ∧ 2 ^ z ≤ 4294967296 := by
    intro z hz
    have h3 : 2 ^ z ≤ 2 ^ 32 := Nat.pow_le_pow_right (by omega) hz
    refine ⟨?_, by omega⟩
    unfold ishl
    rw [wu64, show min ((z : Int).toNat) IntKind.u64.bits = z by simp [IntKind.bits]; omega]
    rw [Int.one_mul]
    have : ((2 : Int) ^ z) = ((2 ^ z : Nat) : Int) := by simp
    rw [this]
    have h4 : 0 < 2 ^ z := Nat.two_pow_pos z
    generalize 2 ^ z = q at *
    omega
  have hle : 2 ^ x ≤ 2 ^ y := Nat.pow_le_pow_right (by omega) hx
  obtain ⟨p1, p2⟩ := p x (by omega)
  obtain ⟨p3, p4⟩ := p y hy
  have e : spanI x y = (((2 ^ y - 2 ^ x) % 4294967296 : Nat) : Int) := by
    unfold spanI
    rw [p1, p3, wu64, w32]
    omega
  rw [e]
  refine ⟨⟨by omega, by omega⟩, fun j hj => ?_⟩
  have := span_tab y (by omega) x hx j hj
  simp only [bit, Int.toNat_natCast, this]
  congr 1 <;> simp

/-- the bytes of a mask laid over others -/
def overL (xs ys : List Int) (m : Int) : List Int := (List.range 32).map fun j => if bit m j then ys.getD j 0 else xs.getD j 0

theorem getD_range (f : Nat → Int) (j : Nat) (h : j < 32) : ((List.range 32).map f).getD j 0 = f j := by
  simp [List.getD, h]
theorem overL_len (xs ys : List Int) (m : Int) : (overL xs ys m).length = 32 := by simp [overL]
theorem list32 (xs : List Int) (h : xs.length = 32) : xs = (List.range 32).map fun j => xs.getD j 0 := by
  apply List.ext_getElem (by simp [h])
  intro i h1 h2
  simp [List.getD, List.getElem?_eq_getElem h1]
theorem range_congr {f g : Nat → Int} (h : ∀ j, j < 32 → f j = g j) : (List.range 32).map f = (List.range 32).map g :=
  List.map_congr_left fun j hj => h j (by simpa using hj)
theorem overL_zero (xs ys : List Int) (h : xs.length = 32) : overL xs ys 0 = xs := by
  exact (range_congr (fun j hj => by simp [bit])).trans (list32 xs h).symm

theorem spl_len (xs : List Int) (p : Nat) (zs : List Int) (h : p + zs.length ≤ xs.length) : (spl xs p zs).length = xs.length := by
  simp [spl]; omega
theorem spl_getD (xs : List Int) (p : Nat) (zs : List Int) (h : p + zs.length ≤ xs.length) (j : Nat) :
    (spl xs p zs).getD j 0 = if p ≤ j ∧ j < p + zs.length then zs.getD (j - p) 0 else xs.getD j 0 := by
  simp only [spl, List.getD_eq_getElem?_getD, List.getElem?_append, List.getElem?_take, List.getElem?_drop, List.length_take]
  have e : min p xs.length = p := by omega
  rw [e]
  by_cases h1 : j < p
  · rw [if_pos h1, if_pos h1, if_neg (by omega)]
  · rw [if_neg h1]
    by_cases h2 : j < p + zs.length
    · rw [if_pos (by omega), if_pos (by omega)]
    · rw [if_neg (by omega), if_neg (by omega)]
      congr 2
      omega

theorem ctz_bits (x : Nat) (h : x < 4294967296) : (∀ j, j < Lib.ctz 32 x → x.testBit j = false) ∧ (x ≠ 0 → x.testBit (Lib.ctz 32 x) = true ∧ Lib.ctz 32 x < 32) ∧ Lib.ctz 32 x ≤ 32 := by
  by_cases h0 : x = 0
  · subst h0
    exact ⟨by simp, fun h => absurd rfl h, by decide⟩
  · obtain ⟨m, h1, h2⟩ := Lib.ctzFrom_spec 32 x (by omega) (by omega)
    have hc : Lib.ctz 32 x = Lib.ctzFrom 32 x := by simp [Lib.ctz, h0]
    rw [hc]
    generalize Lib.ctzFrom 32 x = k at *
    refine ⟨fun j hj => ?_, fun _ => ⟨?_, h2⟩, by omega⟩
    · rw [h1, Nat.mul_comm, Nat.testBit_mul_two_pow]
      simp; omega
    · rw [h1, Nat.mul_comm, Nat.testBit_mul_two_pow]
      simp

/-- what one round of 'over' finds -/
theorem round_bits {m : Int} (hm : M32 m) (h0 : m ≠ 0) {i n : Nat} (hi : i = Lib.ctz 32 m.toNat) (hn : n = Lib.ctz 32 (4294967295 - m.toNat / 2 ^ i)) :
    1 ≤ n ∧ i + n ≤ 32 ∧ ∀ j, i ≤ j → j < i + n → bit m j = true := by
  obtain ⟨m0, m1⟩ := hm
  obtain ⟨x, rfl⟩ := Int.eq_ofNat_of_zero_le m0
  simp only [Int.toNat_natCast] at hi hn
  have hx : x < 4294967296 := by omega
  have hx0 : x ≠ 0 := by omega
  obtain ⟨b1, b2, b3⟩ := ctz_bits x hx
  obtain ⟨b4, b5⟩ := b2 hx0
  rw [← hi] at b1 b3 b4 b5
  have hy : x / 2 ^ i < 4294967296 := Nat.lt_of_le_of_lt (Nat.div_le_self _ _) hx
  have ybit : ∀ j, (x / 2 ^ i).testBit j = x.testBit (i + j) := by
    intro j
    rw [← Nat.shiftRight_eq_div_pow, Nat.testBit_shiftRight]
  have zbit : ∀ j, j < 32 → (4294967295 - x / 2 ^ i).testBit j = !(x / 2 ^ i).testBit j := by
    intro j hj
    have := Nat.testBit_two_pow_sub_succ (x := x / 2 ^ i) (n := 32) (by omega) j
    have e : 2 ^ 32 - (x / 2 ^ i + 1) = 4294967295 - x / 2 ^ i := by omega
    rw [e] at this
    rw [this]
    simp [hj]
  obtain ⟨c1, c2, c3⟩ := ctz_bits (4294967295 - x / 2 ^ i) (Nat.lt_of_le_of_lt (Nat.sub_le _ _) (by decide))
  rw [← hn] at c1 c2 c3
  have ones : ∀ j, j < n → x.testBit (i + j) = true := by
    intro j hj
    have h1 := c1 j hj
    rw [zbit j (by omega), ybit] at h1
    simpa using h1
  have top : ∀ j, i + j ≥ 32 → x.testBit (i + j) = false := by
    intro j hj
    apply Nat.testBit_lt_two_pow
    have : 2 ^ 32 ≤ 2 ^ (i + j) := Nat.pow_le_pow_right (by omega) hj
    omega
  refine ⟨?_, ?_, ?_⟩
  · rcases Nat.eq_zero_or_pos n with h | h
    · exfalso
      by_cases hz : 4294967295 - x / 2 ^ i = 0
      · rw [hz] at hn
        have : Lib.ctz 32 0 = 32 := by decide
        omega
      · obtain ⟨d1, _⟩ := c2 hz
        rw [h, zbit 0 (by omega), ybit] at d1
        simp [b4] at d1
    · exact h
  · rcases Nat.lt_or_ge 32 (i + n) with h | h
    · have h1 := ones (32 - i) (by omega)
      rw [top (32 - i) (by omega)] at h1
      cases h1
    · exact h
  · intro j h1 h2
    have := ones (j - i) (by omega)
    rw [show i + (j - i) = j by omega] at this
    simpa [bit] using this

def zero32 : List Int := List.replicate 32 0
theorem spl_all (xs zs : List Int) (h : zs.length = xs.length) : spl xs 0 zs = zs := by
  unfold spl; simp [h]
theorem zero32_getD (j : Nat) : zero32.getD j 0 = 0 := by
  simp only [zero32, List.getD_eq_getElem?_getD, List.getElem?_replicate]; split <;> rfl

/-- what a list is, one place after the other -/
theorem set_range (f : Nat → Int) (k : Nat) (v : Int) : ((List.range 32).map f).set k v = (List.range 32).map fun j => if j = k then v else f j := by
  apply List.ext_getElem?
  intro i
  simp only [List.getElem?_set, List.getElem?_map, List.length_map, List.length_range]
  by_cases hk : k = i
  · subst hk
    by_cases hl : k < 32
    · simp [hl]
    · simp [hl]
  · by_cases hl : i < 32
    · simp [hk, hl, Ne.symm hk]
    · simp [hk, hl]

def hasB (m i : Int) : Bool := (ishr .u32 m i).tmod 2 == 1
theorem hasB_eq {m : Int} (hm : M32 m) (k : Nat) (hk : k < 32) : hasB m k = bit m k := by
  obtain ⟨x, rfl⟩ := Int.eq_ofNat_of_zero_le hm.1
  unfold hasB ishr bit
  rw [Int.toNat_natCast, show min k IntKind.u32.bits = k by simp [IntKind.bits]; omega, Int.fdiv_eq_ediv_of_nonneg _ (Int.pow_nonneg (by omega))]
  have e : ((x : Int) / 2 ^ k) = ((x / 2 ^ k : Nat) : Int) := by simp
  rw [e, Int.tmod_eq_emod_of_nonneg (Int.natCast_nonneg _), Int.toNat_natCast, Nat.testBit_eq_decide_div_mod_eq]
  generalize x / 2 ^ k = y
  rw [Bool.eq_iff_iff]
  simp only [beq_iff_eq, decide_eq_true_eq]
  omega

end Go.Proofs.YtlobbcodnkfbiaaDoor
