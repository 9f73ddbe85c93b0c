/-
  PatchF: the references' Of and Zero, and the law of making.
-/
import Derived.Test.YtlobbcodnkfbiaaDoorPatchR2
namespace Go.Proofs.YtlobbcodnkfbiaaDoor
open Go Go.RowKit Sx
set_option maxRecDepth 100000

theorem shl_tab : ((List.range 32).all fun k : Nat => ishl .u32 1 (k : Int) == spanI (k : Int) ((k : Int) + 1)) = true := by kernel_rfl
theorem shl_span (k : Nat) (hk : k < 32) : ishl .u32 1 (k : Int) = spanI (k : Int) ((k : Int) + 1) := by
  have := List.all_eq_true.1 shl_tab k (List.mem_range.2 hk)
  simpa using this
/-- one bit more -/
theorem span_next (o k : Nat) (ho : o ≤ k) (hk : k < 32) : ibits .or .u32 (spanI (o : Int) (k : Int)) (ishl .u32 1 (k : Int)) = spanI (o : Int) ((k + 1 : Nat) : Int) := by
  rw [shl_span k hk]
  obtain ⟨a1, a2⟩ := span_spec (a := (o : Int)) (b := (k : Int)) (by omega) (by omega) (by omega)
  obtain ⟨b1, b2⟩ := span_spec (a := (k : Int)) (b := (k : Int) + 1) (by omega) (by omega) (by omega)
  obtain ⟨c1, c2⟩ := span_spec (a := (o : Int)) (b := ((k + 1 : Nat) : Int)) (by omega) (by omega) (by omega)
  obtain ⟨d1, d2⟩ := ibits_and .or (fun x y => x || y) a1 b1 (.inr (.inl ⟨rfl, rfl⟩))
  refine mask_ext d1 c1 fun j hj => ?_
  rw [d2 j hj, a2 j hj, b2 j hj, c2 j hj, Bool.eq_iff_iff]
  simp only [Bool.or_eq_true, Bool.and_eq_true, decide_eq_true_eq]
  omega
theorem span_self (o : Nat) (ho : o ≤ 32) : spanI (o : Int) (o : Int) = 0 := by
  obtain ⟨a1, a2⟩ := span_spec (a := (o : Int)) (b := (o : Int)) (by omega) (by omega) (by omega)
  refine mask_ext a1 ⟨by decide, by decide⟩ fun j hj => ?_
  rw [a2 j hj, Bool.eq_iff_iff]
  simp [bit]
def zeroI (o : Nat) : LInv where
  X := Nat
  st := fun k => ⟨[(2, .ptr 0 0), (3, .c (.int .i64 0)), (4, .ptr 1 0), (5, .c (.int .i64 (k : Int)))], 26,
    [(0, .cells [.c (.bool false), .c (.int .u32 0), .row .u8 32 zero32] 26), (1, .cells [.c (.bool false), .c (.int .u32 (spanI (o : Int) (k : Int))), .row .u8 32 zero32] 26)], 2, 0⟩
  ok := fun k => o ≤ k ∧ k ≤ 32
  μ := fun k => 32 - k
theorem c12 : Sound 12 trZero := by
  intro args K ht n ρ vs w hr hg hng
  unfold trZero zeroE zeroM at ht
  split at ht
  · rename_i off
    refine pure_sound (Γ := Γ4) hm (fun _ => .inv (zeroI off.toNat)) O12 (c := bd Tryd.f12) Tryd.func12 rfl (by kernel_rfl) (by kernel_rfl) ?_ hr hg hng
    conv => whnf
    cases h1 : decide (off < 0)
    · rw [h1] at ht
      conv => whnf
      cases h2 : decide (off > 32)
      · rw [h2] at ht
        have h1' : 0 ≤ off := by simpa using h1
        have h2' : off ≤ 32 := by simpa using h2
        obtain ⟨o, rfl⟩ := Int.eq_ofNat_of_zero_le h1'
        have ho : o ≤ 32 := by omega
        conv => whnf
        refine ⟨⟨(o : Nat), ⟨Nat.le_refl _, ho⟩, ?_⟩, ?_⟩
        · refine ⟨rfl, rfl, Nat.le_of_ble_eq_true rfl, Nat.le_of_ble_eq_true rfl, ⟨rfl, rfl, rfl, rfl, trivial⟩, ⟨rfl, ?_, trivial⟩, rfl⟩
          exact congrArg (fun z => some (SB.cells [.c (.bool false), .c (.int .u32 z), .row .u8 32 zero32] 26)) (span_self o ho).symm
        · rintro (k : Nat) ⟨(hk0 : o ≤ k), (hk : k ≤ 32)⟩
          conv => whnf
          split
          · rename_i hlt
            have hk' : k < 32 := by have := of_decide_eq_true hlt; omega
            refine ⟨Int.natCast_nonneg k, ⟨(k + 1 : Nat), ⟨Nat.le_succ_of_le hk0, hk'⟩, Nat.sub_lt_sub_left hk' (Nat.lt_succ_self k), ⟨rfl, rfl, Nat.le_of_ble_eq_true rfl, Nat.le_of_ble_eq_true rfl, ⟨rfl, rfl, rfl, next_i k hk', trivial⟩, ⟨rfl, ?_, trivial⟩, rfl⟩⟩⟩
            exact congrArg (fun z => some (SB.cells [.c (.bool false), .c (.int .u32 z), .row .u8 32 zero32] 26)) (span_next o k hk0 hk')
          · rename_i hlt
            have hk' : k = 32 := by have := of_decide_eq_false hlt; omega
            subst hk'
            exact ⟨ht, rfl⟩
      · rw [h2] at ht
        exact ⟨ht, rfl⟩
    · rw [h1] at ht
      exact ⟨ht, rfl⟩
  · exact ht.elim
end Go.Proofs.YtlobbcodnkfbiaaDoor
