/-
  PatchT: math/bits.TrailingZeros32 as the package-level table has it.
-/
import Derived.Test.YtlobbcodnkfbiaaDoorProg
import Derived.Test.YtlobbcodnkfbiaaDoorPatchM
import Derived.WalkKit
import Derived.Laws.Bits64b
namespace Go.Proofs.YtlobbcodnkfbiaaDoor
open Go Go.RowKit Sx

theorem and32 (a b : Nat) (ha : a < 4294967296) (hb : b < 4294967296) : bits .and .u32 (a : Int) (b : Int) = ((a &&& b : Nat) : Int) := by
  have hx : a &&& b < 2 ^ 32 := Nat.and_lt_two_pow _ (by omega)
  have h1 : (BitVec.ofInt 32 (a : Int)).toNat = a := by
    rw [BitVec.toNat_ofInt]; omega
  have h2 : (BitVec.ofInt 32 (b : Int)).toNat = b := by
    rw [BitVec.toNat_ofInt]; omega
  show IntKind.u32.wrap ((BitVec.ofInt 32 (a : Int) &&& BitVec.ofInt 32 (b : Int)).toNat : Int) = _
  rw [BitVec.toNat_and, h1, h2, w32]
  omega

set_option maxHeartbeats 1000000 in
theorem tz_core (x k idx : Nat) (w : World) (hx0 : ((x : Int) == 0) = false)
    (key : bits BinOp.and IntKind.u32 (x : Int) (-(x : Int) % 4294967296) * 125613361 % 4294967296 / 134217728 = (idx : Int))
    (hi : idx < 32) (hk : k < 32) (hcell : w.cell? ⟨0, idx, none⟩ = some (.int .u8 k)) :
    Calls Tryd.prog 22 #[.int .u32 x] w fun e w' => e = .returned (.int .i64 k) ∧ w' = w := by
  go_enter Tryd.func22, Tryd.ntmps22
  go_wp2_with (simp only [key])
  go_ret
  exact ⟨rfl, rfl⟩
theorem tz_zero (w : World) : Calls Tryd.prog 22 #[.int .u32 0] w fun e w' => e = .returned (.int .i64 32) ∧ w' = w := by
  go_enter Tryd.func22, Tryd.ntmps22
  go_wp2
  go_ret
  exact ⟨rfl, rfl⟩
theorem tz_any (m : Int) (hm : M32 m) (w : World) (hw : GP w) : Calls Tryd.prog 22 #[.int .u32 m] w fun e w' => e = .returned (.int .i64 (Lib.ctz 32 m.toNat)) ∧ w' = w := by
  obtain ⟨x, rfl⟩ := Int.eq_ofNat_of_zero_le hm.1
  have hx : x < 4294967296 := by have := hm.2; omega
  rw [Int.toNat_natCast]
  by_cases hx0 : x = 0
  · subst hx0
    exact tz_zero w
  · obtain ⟨hlow, hk⟩ := Lib.lowest_bit 32 x hx0 hx
    obtain ⟨hi, htab⟩ := Lib.deBruijn32_at _ hk
    have hcell := hw _ hi
    rw [htab] at hcell
    refine tz_core x _ _ w (by simp; omega) ?_ hi hk hcell
    have e1 : -(x : Int) % 4294967296 = ((4294967296 - x : Nat) : Int) := by omega
    rw [e1, and32 x _ hx (by omega), hlow]
    clear hcell htab hi hlow
    generalize 2 ^ Lib.ctz 32 x = q
    omega
end Go.Proofs.YtlobbcodnkfbiaaDoor
