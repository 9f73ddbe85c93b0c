/-
  PatchR: the contracts of the references of chapter 12 .
-/
import Derived.Test.YtlobbcodnkfbiaaDoorPatchL
namespace Go.Proofs.YtlobbcodnkfbiaaDoor
open Go Go.RowKit Sx
set_option maxRecDepth 100000

/-! ### the references -/
def trHas (args : List SV) (K : SV → Prop) : Prop :=
  match args with
  | [.agg [.c (.bool _), .c (.int .u32 m), .row .u8 _ _], .c (.int .i64 i)] => 0 ≤ i ∧ K (.c (.bool (hasB m i)))
  | _ => False
theorem c21 : Sound 21 trHas := by
  intro args K ht n ρ vs w hr hg hng
  unfold trHas at ht
  split at ht
  · rename_i f m n ys i
    refine pure_sound (Γ := Γ0) hm H0 [] (c := bd Tryd.f21) Tryd.func21 rfl (by kernel_rfl) (by kernel_rfl) ?_ hr hg hng
    exact ⟨ht.1, ht.2, rfl⟩
  · exact ht.elim
noncomputable def Γ4 : Gam Tryd.prog := ⟨[ps 21 _ Tryd.func21 rfl (by kernel_rfl) c21] ++ Γ3.ps, [gs20]⟩

/-! #### Lay -/
/-- what the reference lays at a place -/
def refAt (bs : List Int) (f : Bool) (m : Int) (ys : List Int) (j : Nat) : Int := if bit m j then ys.getD j 0 else match f with | true => 0 | false => bs.getD j 0
/-- a chunk after k rounds of the reference -/
def layR (bs : List Int) (f : Bool) (m : Int) (ys : List Int) (k : Nat) : List Int :=
  (List.range 32).map fun j => if j < k then refAt bs f m ys j else bs.getD j 0
theorem layR_zero (bs : List Int) (f : Bool) (m : Int) (ys : List Int) (h : bs.length = 32) : layR bs f m ys 0 = bs :=
  Eq.trans (range_congr fun j _ => by simp) (list32 bs h).symm
theorem layR_end (bs : List Int) (f : Bool) (m : Int) (ys : List Int) : layR bs f m ys 32 = layL bs f m ys := by
  refine ext32 (by simp [layR]) (layL_len _ _ _ _) fun j hj => ?_
  rw [layL_at _ _ _ _ hj]
  unfold layR
  rw [getD_range _ j hj, if_pos hj]
  unfold refAt
  cases f <;> rfl
theorem layR_set (bs : List Int) (f : Bool) (m : Int) (ys : List Int) (k : Nat) (hk : k < 32) (v : Int) (hv : v = refAt bs f m ys k) : (layR bs f m ys k).set k v = layR bs f m ys (k + 1) := by
  unfold layR
  rw [set_range]
  refine range_congr fun j hj => ?_
  by_cases h : j = k
  · subst h; rw [if_pos rfl, if_pos (by omega), hv]
  · rw [if_neg h]
    by_cases h2 : j < k
    · rw [if_pos h2, if_pos (by omega)]
    · rw [if_neg h2, if_neg (by omega)]
theorem layR_same (bs : List Int) (f : Bool) (m : Int) (ys : List Int) (k : Nat) (hk : k < 32) (hv : bs.getD k 0 = refAt bs f m ys k) : layR bs f m ys k = layR bs f m ys (k + 1) := by
  rw [← layR_set bs f m ys k hk _ hv]
  unfold layR
  rw [set_range]
  refine range_congr fun j hj => ?_
  by_cases h : j = k
  · subst h; rw [if_pos rfl, if_neg (by omega)]
  · rw [if_neg h]
def layI (bs : List Int) (f : Bool) (m : Int) (ys : List Int) : LInv where
  X := Nat
  st := fun k => ⟨[(2, .ptr 0 0), (3, .ptr 1 0), (4, .ptr 2 0), (6, .c (.int .i64 (k : Int)))], 24,
    [(0, .cells [.row .u8 32 (layR bs f m ys k)] 24), (1, .cells [.c (.bool f), .c (.int .u32 m), .row .u8 32 ys] 26), (2, .cells [.row .u8 32 zero32] 24)], 3, 0⟩
  ok := fun k => k ≤ 32
  μ := fun k => 32 - k
theorem next_i (k : Nat) (h : k < 32) : SV.c (.int .i64 (IntKind.i64.wrap ((k : Int) + 1))) = SV.c (.int .i64 ((k + 1 : Nat) : Int)) := by
  rw [w64 (by omega)]; rfl
theorem c15 : Sound 15 trLay := by
  intro args K ht n ρ vs w hr hg hng
  unfold trLay at ht
  split at ht
  · rename_i n bs f m n' ys
    obtain ⟨ho, hK⟩ := ht
    obtain ⟨rfl, rfl, hbl, hyl, hm32⟩ := id ho
    refine pure_sound (Γ := Γ4) hm (fun _ => .inv (layI bs f m ys)) [] (c := bd Tryd.f15) Tryd.func15 rfl (by kernel_rfl) (by kernel_rfl) ?_ hr hg hng
    conv => whnf
    refine ⟨⟨(0 : Nat), Nat.zero_le _, ?_⟩, ?_⟩
    · refine ⟨rfl, rfl, Nat.le_of_ble_eq_true rfl, Nat.le_of_ble_eq_true rfl, ⟨rfl, rfl, rfl, rfl, trivial⟩, ⟨?_, rfl, rfl, trivial⟩, rfl⟩
      rw [layR_zero _ _ _ _ hbl]; rfl
    · intro (k : Nat) (hk : k ≤ 32)
      conv => whnf
      split
      · rename_i hlt
        have hk' : k < 32 := by have := of_decide_eq_true hlt; omega
        have i1 : 0 ≤ (k : Int) ∧ (k : Int) < 32 := ⟨by omega, by omega⟩
        cases f
        · conv => whnf
          refine ⟨i1.1, ?_⟩
          conv => whnf
          split
          · rename_i hh
            have hb := (hasB_eq hm32 k hk').symm.trans hh
            refine ⟨i1, i1, ⟨(k + 1 : Nat), hk', Nat.sub_lt_sub_left hk' (Nat.lt_succ_self k), ⟨rfl, rfl, Nat.le_of_ble_eq_true rfl, Nat.le_of_ble_eq_true rfl, ⟨rfl, rfl, rfl, next_i k hk', trivial⟩, ⟨?_, rfl, rfl, trivial⟩, rfl⟩⟩⟩
            exact congrArg (fun r => some (SB.cells [SV.row .u8 32 r] 24)) (layR_set bs false m ys k hk' _ (by simp [refAt, hb]))
          · rename_i hh
            have hb := (hasB_eq hm32 k hk').symm.trans hh
            refine ⟨(k + 1 : Nat), hk', Nat.sub_lt_sub_left hk' (Nat.lt_succ_self k), ⟨rfl, rfl, Nat.le_of_ble_eq_true rfl, Nat.le_of_ble_eq_true rfl, ⟨rfl, rfl, rfl, next_i k hk', trivial⟩, ⟨?_, rfl, rfl, trivial⟩, rfl⟩⟩
            exact congrArg (fun r => some (SB.cells [SV.row .u8 32 r] 24)) (layR_same bs false m ys k hk' (by simp [refAt, hb]))
        · conv => whnf
          refine ⟨i1, i1.1, ?_⟩
          conv => whnf
          split
          · rename_i hh
            have hb := (hasB_eq hm32 k hk').symm.trans hh
            refine ⟨i1, i1, ⟨(k + 1 : Nat), hk', Nat.sub_lt_sub_left hk' (Nat.lt_succ_self k), ⟨rfl, rfl, Nat.le_of_ble_eq_true rfl, Nat.le_of_ble_eq_true rfl, ⟨rfl, rfl, rfl, next_i k hk', trivial⟩, ⟨?_, rfl, rfl, trivial⟩, rfl⟩⟩⟩
            refine congrArg (fun r => some (SB.cells [SV.row .u8 32 r] 24)) (Eq.trans ?_ (layR_set bs true m ys k hk' (ys.getD k 0) (by simp [refAt, hb])))
            exact List.set_set ..
          · rename_i hh
            have hb := (hasB_eq hm32 k hk').symm.trans hh
            refine ⟨(k + 1 : Nat), hk', Nat.sub_lt_sub_left hk' (Nat.lt_succ_self k), ⟨rfl, rfl, Nat.le_of_ble_eq_true rfl, Nat.le_of_ble_eq_true rfl, ⟨rfl, rfl, rfl, next_i k hk', trivial⟩, ⟨?_, rfl, rfl, trivial⟩, rfl⟩⟩
            exact congrArg (fun r => some (SB.cells [SV.row .u8 32 r] 24)) (layR_set bs true m ys k hk' _ (by simp [refAt, hb]))
      · rename_i hlt
        have hk' : k = 32 := by have := of_decide_eq_false hlt; omega
        subst hk'
        rw [← layR_end] at hK
        exact ⟨hK, rfl⟩
  · exact ht.elim
end Go.Proofs.YtlobbcodnkfbiaaDoor
