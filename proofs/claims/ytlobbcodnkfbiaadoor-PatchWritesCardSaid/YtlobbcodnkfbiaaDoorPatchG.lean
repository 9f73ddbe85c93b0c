/-
  PatchG: the reference's Of, and the law of making.
-/
import Derived.Test.YtlobbcodnkfbiaaDoorPatchF
namespace Go.Proofs.YtlobbcodnkfbiaaDoor
open Go Go.RowKit Sx
set_option maxRecDepth 100000

theorem bytesI_len (s : ByteArray) : (bytesI s).length = s.size := by unfold bytesI; rw [List.length_map, Array.length_toList]; rfl
theorem spl_zero (s : ByteArray) (o : Nat) : spl zero32 o ((bytesI s).take 0) = zero32 := by
  rw [List.take_zero]; unfold spl; rw [List.nil_append]; exact List.take_append_drop o zero32
theorem bAt_getD (s : ByteArray) (k : Nat) : bAt s (k : Int) = (bytesI s).getD k 0 := by
  simp [bAt, bytesI, List.getD_eq_getElem?_getD]
theorem spl_next (s : ByteArray) (o k : Nat) (h : o + s.size ≤ 32) (hk : k < s.size) :
    (spl zero32 o ((bytesI s).take k)).set (o + k) (bAt s (k : Int)) = spl zero32 o ((bytesI s).take (k + 1)) := by
  have hl := bytesI_len s
  have hz : zero32.length = 32 := rfl
  have l1 : ((bytesI s).take k).length = k := by simp; omega
  have l2 : ((bytesI s).take (k + 1)).length = k + 1 := by simp; omega
  have m1 := spl_len zero32 o ((bytesI s).take k) (by rw [l1, hz]; omega)
  have m2 := spl_len zero32 o ((bytesI s).take (k + 1)) (by rw [l2, hz]; omega)
  refine ext32 (by rw [List.length_set, m1, hz]) (by rw [m2, hz]) fun j hj => ?_
  rw [spl_getD _ _ _ (by rw [l2, hz]; omega), l2]
  by_cases h1 : j = o + k
  · subst h1
    rw [if_pos (by omega)]
    simp only [List.getD_eq_getElem?_getD, List.getElem?_set]
    rw [if_pos trivial, if_pos (by rw [m1, hz]; omega), List.getElem?_take, if_pos (by omega), show o + k - o = k by omega, bAt_getD, List.getD_eq_getElem?_getD]
    rfl
  · have e : ((spl zero32 o ((bytesI s).take k)).set (o + k) (bAt s (k : Int))).getD j 0 = (spl zero32 o ((bytesI s).take k)).getD j 0 := by
      simp only [List.getD_eq_getElem?_getD, List.getElem?_set]
      rw [if_neg (by omega)]
    rw [e, spl_getD _ _ _ (by rw [l1, hz]; omega), l1]
    by_cases h2 : o ≤ j ∧ j < o + k
    · rw [if_pos h2, if_pos (by omega)]
      simp only [List.getD_eq_getElem?_getD, List.getElem?_take]
      rw [if_pos (by omega), if_pos (by omega)]
    · rw [if_neg h2, if_neg (by omega)]
theorem ofT_bad {α : Type} (off : Int) (s : ByteArray) (a b : α) (h : off < 0 ∨ (s.size : Int) > 32 ∨ off > 32 - s.size) : ofT off s a b = a := by
  unfold ofT
  cases h1 : decide (off < 0)
  · cases h2 : decide (off > 32)
    · have h1' : 0 ≤ off := by simpa using h1
      have h2' : off ≤ 32 := by simpa using h2
      have h3 : decide ((s.size : Int) > IntKind.i64.wrap (32 - off)) = true := by
        rw [w64 (by omega)]
        simp only [decide_eq_true_eq]
        omega
      rw [h3]
    · rfl
  · rfl
theorem ofT_good {α : Type} (off : Int) (s : ByteArray) (a b : α) (h : 0 ≤ off) (h2 : off + s.size ≤ 32) : ofT off s a b = b := by
  unfold ofT
  have h1 : decide (off < 0) = false := by simp only [decide_eq_false_iff_not]; omega
  have h3 : decide (off > 32) = false := by simp only [decide_eq_false_iff_not]; omega
  have h4 : decide ((s.size : Int) > IntKind.i64.wrap (32 - off)) = false := by
    rw [w64 (by omega)]
    simp only [decide_eq_false_iff_not]
    omega
  rw [h1, h3, h4]
def ofI (o : Nat) (s : ByteArray) : LInv where
  X := Nat
  st := fun k => ⟨[(0, .c (.int .i64 (o : Int))), (1, .c (.string s)), (4, .ptr 0 0), (6, .ptr 1 0), (7, .c (.int .i64 (k : Int)))], 47,
    [(0, .cells [.c (.bool false), .c (.int .u32 0), .row .u8 32 zero32] 26),
     (1, .cells [.c (.bool false), .c (.int .u32 (spanI (o : Int) ((o + k : Nat) : Int))), .row .u8 32 (spl zero32 o ((bytesI s).take k))] 26)], 2, 0⟩
  ok := fun k => k ≤ s.size
  μ := fun k => s.size - k
theorem c10 : Sound 10 trOf := by
  intro args K ht n ρ vs w hr hg hng
  unfold trOf at ht
  split at ht
  · rename_i off s
    refine pure_sound (Γ := Γ4) hm (fun _ => .inv (ofI off.toNat s)) O10 (c := bd Tryd.f10) Tryd.func10 rfl (by kernel_rfl) (by kernel_rfl) ?_ hr hg hng
    have bad : (off < 0 ∨ (s.size : Int) > 32 ∨ off > 32 - s.size) → K (.tup [.agg [.c (.bool false), .c (.int .u32 0), .row .u8 32 zero32], .c (.int .i64 1)]) := by
      intro h
      unfold ofM ofB ofE at ht
      rw [ofT_bad off s _ _ h, ofT_bad off s _ _ h, ofT_bad off s _ _ h] at ht
      exact ht
    conv => whnf
    cases h1 : decide (off < 0)
    · have h1' : 0 ≤ off := by simpa using h1
      conv => whnf
      cases h2 : decide ((s.size : Int) > 32)
      · have h2' : (s.size : Int) ≤ 32 := by simpa using h2
        have e0 : IntKind.i64.wrap (32 - (s.size : Int)) = 32 - (s.size : Int) := w64 (by omega)
        conv => whnf
        cases h3 : decide (off > IntKind.i64.wrap (32 - (s.size : Int)))
        · have h3' : off + s.size ≤ 32 := by
            rw [e0] at h3
            have : ¬ off > 32 - (s.size : Int) := by simpa using h3
            omega
          obtain ⟨o, rfl⟩ := Int.eq_ofNat_of_zero_le h1'
          have ho : o + s.size ≤ 32 := by omega
          conv => whnf
          refine ⟨⟨(0 : Nat), Nat.zero_le _, ?_⟩, ?_⟩
          · refine ⟨rfl, rfl, Nat.le_of_ble_eq_true rfl, Nat.le_of_ble_eq_true rfl, ⟨rfl, rfl, rfl, rfl, rfl, trivial⟩, ⟨rfl, ?_, trivial⟩, rfl⟩
            exact congr (congrArg (fun z r => some (SB.cells [.c (.bool false), .c (.int .u32 z), .row .u8 32 r] 26)) (span_self o (by omega)).symm) (spl_zero s o).symm
          · intro (k : Nat) (hk : k ≤ s.size)
            conv => whnf
            split
            · rename_i hlt
              have hk' : k < s.size := by have := of_decide_eq_true hlt; omega
              have e1 : IntKind.i64.wrap ((o : Int) + (k : Int)) = ((o + k : Nat) : Int) := by rw [w64 (by omega)]; rfl
              have b0 : 0 ≤ IntKind.i64.wrap ((o : Int) + (k : Int)) := by rw [e1]; omega
              have b1 : IntKind.i64.wrap ((o : Int) + (k : Int)) < 32 := by rw [e1]; omega
              have b2 : SV.c (.int .i64 (IntKind.i64.wrap ((k : Int) + 1))) = SV.c (.int .i64 ((k + 1 : Nat) : Int)) := next_i k (by omega)
              refine ⟨⟨Int.natCast_nonneg k, by omega⟩, ⟨b0, b1⟩, b0, ⟨(k + 1 : Nat), hk', Nat.sub_lt_sub_left hk' (Nat.lt_succ_self k), ⟨rfl, rfl, Nat.le_of_ble_eq_true rfl, Nat.le_of_ble_eq_true rfl, ⟨rfl, rfl, rfl, rfl, b2, trivial⟩, ⟨rfl, ?_, trivial⟩, rfl⟩⟩⟩
              have f1 : ibits .or .u32 (spanI (o : Int) ((o + k : Nat) : Int)) (ishl .u32 1 (IntKind.i64.wrap ((o : Int) + (k : Int)))) = spanI (o : Int) ((o + (k + 1) : Nat) : Int) := by
                rw [e1]; exact span_next o (o + k) (by omega) (by omega)
              have f2 : (spl zero32 o ((bytesI s).take k)).set (IntKind.i64.wrap ((o : Int) + (k : Int))).toNat (bAt s (k : Int)) = spl zero32 o ((bytesI s).take (k + 1)) := by
                rw [e1, Int.toNat_natCast]; exact spl_next s o k ho hk'
              exact congr (congrArg (fun z r => some (SB.cells [.c (.bool false), .c (.int .u32 z), .row .u8 32 r] 26)) f1) f2
            · rename_i hlt
              have hk' : k = s.size := by have := of_decide_eq_false hlt; omega
              subst hk'
              unfold ofM ofB ofE at ht
              rw [ofT_good _ s _ _ h1' h3', ofT_good _ s _ _ h1' h3', ofT_good _ s _ _ h1' h3'] at ht
              have e2 : IntKind.i64.wrap ((o : Int) + (s.size : Int)) = ((o + s.size : Nat) : Int) := by rw [w64 (by omega)]; rfl
              have e3 : (bytesI s).take (32 - (o : Int).toNat) = (bytesI s).take s.size := by
                rw [List.take_of_length_le (by rw [bytesI_len, Int.toNat_natCast]; omega), List.take_of_length_le (by rw [bytesI_len]; omega)]
              rw [e2, e3] at ht
              exact ⟨ht, rfl⟩
        · refine ⟨bad (.inr (.inr ?_)), rfl⟩
          rw [e0] at h3
          simpa using h3
      · exact ⟨bad (.inr (.inl (by simpa using h2))), rfl⟩
    · exact ⟨bad (.inl (by simpa using h1)), rfl⟩
  · exact ht.elim

/-! ### the law of making -/
noncomputable def Γ10 : Gam Tryd.prog := ⟨[ps 10 _ Tryd.func10 rfl (by kernel_rfl) c10, ps 12 _ Tryd.func12 rfl (by kernel_rfl) c12] ++ Γ6.ps, []⟩
def trMakes (args : List SV) (K : SV → Prop) : Prop :=
  match args with
  | [.c (.int .i64 off), .c (.string _)] => (-9223372036854775808 ≤ off ∧ off ≤ 9223372036854775807) ∧ K (.c (.bool true))
  | _ => False
theorem c3 : Sound 3 trMakes := by
  intro args K ht n ρ vs w hr hg hng
  unfold trMakes at ht
  split at ht
  · rename_i off s
    obtain ⟨_, hK⟩ := ht
    refine pure_sound (Γ := Γ10) hm H0 [] (c := bd Tryd.f3) Tryd.func3 rfl (by kernel_rfl) (by kernel_rfl) ?_ hr hg hng
    refine kcast (A := brk (false == false && (ofM off s == ofM off s && ofB off s == ofB off s))
      (brk (ofE off s == ofE off s) (brk (false == false && (zeroM off == zeroM off && zero32 == zero32)) (K (.c (.bool (zeroE off == zeroE off))) ∧ true = true)
        (K (.c (.bool false)) ∧ true = true)) (K (.c (.bool false)) ∧ true = true)) (K (.c (.bool false)) ∧ true = true)) (by kernel_rfl) ?_
    refine brk_true (by simp) (brk_true (by simp) (brk_true (by simp) ⟨?_, rfl⟩))
    have e : (zeroE off == zeroE off) = true := by simp
    rw [e]
    exact hK
  · exact ht.elim
end Go.Proofs.YtlobbcodnkfbiaaDoor
