/-
  PatchR2: the references' Trim and Join, and the law of laying.
-/
import Derived.Test.YtlobbcodnkfbiaaDoorPatchR
import Derived.Test.YtlobbcodnkfbiaaDoorPatchL7
namespace Go.Proofs.YtlobbcodnkfbiaaDoor
open Go Go.RowKit Sx
set_option maxRecDepth 100000

/-! #### Trim -/
def trimAt (m : Int) (ys : List Int) (j : Nat) : Int := if bit m j then ys.getD j 0 else 0
def trimR (m : Int) (ys : List Int) (k : Nat) : List Int := (List.range 32).map fun j => if j < k then trimAt m ys j else ys.getD j 0
theorem trimR_zero (m : Int) (ys : List Int) (h : ys.length = 32) : trimR m ys 0 = ys :=
  Eq.trans (range_congr fun j _ => by simp) (list32 ys h).symm
theorem trimR_end (m : Int) (ys : List Int) : trimR m ys 32 = overL zero32 ys m := by
  refine ext32 (by simp [trimR]) (overL_len _ _ _) fun j hj => ?_
  rw [overL_at _ _ _ hj, zero32_getD]
  unfold trimR
  rw [getD_range _ j hj, if_pos hj]
  rfl
theorem trimR_set (m : Int) (ys : List Int) (k : Nat) (hk : k < 32) (v : Int) (hv : v = trimAt m ys k) : (trimR m ys k).set k v = trimR m ys (k + 1) := by
  unfold trimR
  rw [set_range]
  refine range_congr fun j hj => ?_
  by_cases h : j = k
  · subst h; rw [if_pos rfl, if_pos (by omega), hv]
  · rw [if_neg h]
    by_cases h2 : j < k
    · rw [if_pos h2, if_pos (by omega)]
    · rw [if_neg h2, if_neg (by omega)]
theorem trimR_same (m : Int) (ys : List Int) (k : Nat) (hk : k < 32) (hv : ys.getD k 0 = trimAt m ys k) : trimR m ys k = trimR m ys (k + 1) := by
  rw [← trimR_set m ys k hk _ hv]
  unfold trimR
  rw [set_range]
  refine range_congr fun j hj => ?_
  by_cases h : j = k
  · subst h; rw [if_pos rfl, if_neg (by omega)]
  · rw [if_neg h]
def trimI (f : Bool) (m : Int) (ys : List Int) : LInv where
  X := Nat
  st := fun k => ⟨[(1, .ptr 0 0), (2, .ptr 1 0), (4, .c (.int .i64 (k : Int)))], 16,
    [(0, .cells [.c (.bool f), .c (.int .u32 m), .row .u8 32 (trimR m ys k)] 26), (1, .cells [.c (.bool false), .c (.int .u32 0), .row .u8 32 zero32] 26)], 2, 0⟩
  ok := fun k => k ≤ 32
  μ := fun k => 32 - k
theorem c18 : Sound 18 trTrim := by
  intro args K ht n ρ vs w hr hg hng
  unfold trTrim at ht
  split at ht
  · rename_i f m n' ys
    obtain ⟨ho, hK⟩ := ht
    obtain ⟨_, rfl, _, hyl, hm32⟩ := id ho
    refine pure_sound (Γ := Γ4) hm (fun _ => .inv (trimI f m ys)) [] (c := bd Tryd.f18) Tryd.func18 rfl (by kernel_rfl) (by kernel_rfl) ?_ hr hg hng
    conv => whnf
    refine ⟨⟨(0 : Nat), Nat.zero_le _, ?_⟩, ?_⟩
    · refine ⟨rfl, rfl, Nat.le_of_ble_eq_true rfl, Nat.le_of_ble_eq_true rfl, ⟨rfl, rfl, rfl, trivial⟩, ⟨?_, rfl, trivial⟩, rfl⟩
      rw [trimR_zero _ _ hyl]; rfl
    · intro (k : Nat) (hk : k ≤ 32)
      conv => whnf
      split
      · rename_i hlt
        have hk' : k < 32 := by have := of_decide_eq_true hlt; omega
        have i1 : 0 ≤ (k : Int) ∧ (k : Int) < 32 := ⟨by omega, by omega⟩
        refine ⟨i1.1, ?_⟩
        conv => whnf
        split
        · rename_i hh
          have hb : bit m k = false := by
            have h1 : (!hasB m k) = true := hh
            rw [hasB_eq hm32 k hk'] at h1
            simpa using h1
          refine ⟨i1, ⟨(k + 1 : Nat), hk', Nat.sub_lt_sub_left hk' (Nat.lt_succ_self k), ⟨rfl, rfl, Nat.le_of_ble_eq_true rfl, Nat.le_of_ble_eq_true rfl, ⟨rfl, rfl, next_i k hk', trivial⟩, ⟨?_, rfl, trivial⟩, rfl⟩⟩⟩
          exact congrArg (fun r => some (SB.cells [.c (.bool f), .c (.int .u32 m), SV.row .u8 32 r] 26)) (trimR_set m ys k hk' _ (by simp [trimAt, hb]))
        · rename_i hh
          have hb : bit m k = true := by
            have h1 : (!hasB m k) = false := hh
            rw [hasB_eq hm32 k hk'] at h1
            simpa using h1
          refine ⟨(k + 1 : Nat), hk', Nat.sub_lt_sub_left hk' (Nat.lt_succ_self k), ⟨rfl, rfl, Nat.le_of_ble_eq_true rfl, Nat.le_of_ble_eq_true rfl, ⟨rfl, rfl, next_i k hk', trivial⟩, ⟨?_, rfl, trivial⟩, rfl⟩⟩
          exact congrArg (fun r => some (SB.cells [.c (.bool f), .c (.int .u32 m), SV.row .u8 32 r] 26)) (trimR_same m ys k hk' (by simp [trimAt, hb]))
      · rename_i hlt
        have hk' : k = 32 := by have := of_decide_eq_false hlt; omega
        subst hk'
        rw [← trimR_end] at hK
        exact ⟨hK, rfl⟩
  · exact ht.elim

/-! #### Join -/
noncomputable def Γ8 : Gam Tryd.prog := ⟨[ps 18 _ Tryd.func18 rfl (by kernel_rfl) c18] ++ Γ4.ps, []⟩
def joinAt (ya yb : List Int) (ma mb : Int) (j : Nat) : Int := if bit mb j then yb.getD j 0 else if bit ma j then ya.getD j 0 else 0
def joinR (ya yb : List Int) (ma mb : Int) (k : Nat) : List Int := (List.range 32).map fun j => if j < k then joinAt ya yb ma mb j else 0
theorem joinR_zero (ya yb : List Int) (ma mb : Int) : joinR ya yb ma mb 0 = zero32 := by
  refine ext32 (by simp [joinR]) rfl fun j hj => ?_
  rw [zero32_getD]
  unfold joinR
  rw [getD_range _ j hj, if_neg (by omega)]
theorem joinR_end (ya yb : List Int) (ma mb : Int) : joinR ya yb ma mb 32 = joinL ya yb ma mb false := by
  refine ext32 (by simp [joinR]) (joinL_len _ _ _ _ _) fun j hj => ?_
  rw [joinL_at _ _ _ _ _ hj]
  unfold joinR
  rw [getD_range _ j hj, if_pos hj]
  rfl
theorem joinR_set (ya yb : List Int) (ma mb : Int) (k : Nat) (hk : k < 32) (v : Int) (hv : v = joinAt ya yb ma mb k) : (joinR ya yb ma mb k).set k v = joinR ya yb ma mb (k + 1) := by
  unfold joinR
  rw [set_range]
  refine range_congr fun j hj => ?_
  by_cases h : j = k
  · subst h; rw [if_pos rfl, if_pos (by omega), hv]
  · rw [if_neg h]
    by_cases h2 : j < k
    · rw [if_pos h2, if_pos (by omega)]
    · rw [if_neg h2, if_neg (by omega)]
theorem joinR_same (ya yb : List Int) (ma mb : Int) (k : Nat) (hk : k < 32) (hv : 0 = joinAt ya yb ma mb k) : joinR ya yb ma mb k = joinR ya yb ma mb (k + 1) := by
  rw [← joinR_set ya yb ma mb k hk _ hv]
  unfold joinR
  rw [set_range]
  refine range_congr fun j hj => ?_
  by_cases h : j = k
  · subst h; rw [if_pos rfl, if_neg (by omega)]
  · rw [if_neg h]
def joinI (fa : Bool) (ma : Int) (ya : List Int) (fb : Bool) (mb : Int) (yb : List Int) : LInv where
  X := Nat
  st := fun k => ⟨[(2, .ptr 0 0), (3, .ptr 1 0), (4, .ptr 2 0), (5, .ptr 3 0), (19, .c (.int .i64 (k : Int)))], 44,
    [(0, .cells [.c (.bool fa), .c (.int .u32 ma), .row .u8 32 ya] 26), (1, .cells [.c (.bool fb), .c (.int .u32 mb), .row .u8 32 yb] 26),
     (2, .cells [.c (.bool false), .c (.int .u32 0), .row .u8 32 zero32] 26), (3, .cells [.c (.bool fa), .c (.int .u32 (ibits .or .u32 ma mb)), .row .u8 32 (joinR ya yb ma mb k)] 26)], 4, 0⟩
  ok := fun k => k ≤ 32
  μ := fun k => 32 - k
theorem c17 : Sound 17 trJoin := by
  intro args K ht n ρ vs w hr hg hng
  unfold trJoin at ht
  split at ht
  · rename_i fa ma n ya fb mb n' yb
    obtain ⟨⟨ha, hb⟩, hK⟩ := ht
    obtain ⟨_, rfl, _, hyal, hma⟩ := id ha
    obtain ⟨_, rfl, _, hybl, hmb⟩ := id hb
    cases fb
    · refine pure_sound (Γ := Γ8) hm (fun _ => .inv (joinI fa ma ya false mb yb)) [] (c := bd Tryd.f17) Tryd.func17 rfl (by kernel_rfl) (by kernel_rfl) ?_ hr hg hng
      conv => whnf
      refine ⟨⟨(0 : Nat), Nat.zero_le _, ?_⟩, ?_⟩
      · refine ⟨rfl, rfl, Nat.le_of_ble_eq_true rfl, Nat.le_of_ble_eq_true rfl, ⟨rfl, rfl, rfl, rfl, rfl, trivial⟩, ⟨rfl, rfl, rfl, ?_, trivial⟩, rfl⟩
        rw [joinR_zero]; rfl
      · intro (k : Nat) (hk : k ≤ 32)
        conv => whnf
        split
        · rename_i hlt
          have hk' : k < 32 := by have := of_decide_eq_true hlt; omega
          have i1 : 0 ≤ (k : Int) ∧ (k : Int) < 32 := ⟨by omega, by omega⟩
          refine ⟨i1.1, ?_⟩
          conv => whnf
          split
          · rename_i hh
            have hbb := (hasB_eq hmb k hk').symm.trans hh
            refine ⟨i1, i1, ⟨(k + 1 : Nat), hk', Nat.sub_lt_sub_left hk' (Nat.lt_succ_self k), ⟨rfl, rfl, Nat.le_of_ble_eq_true rfl, Nat.le_of_ble_eq_true rfl, ⟨rfl, rfl, rfl, rfl, next_i k hk', trivial⟩, ⟨rfl, rfl, rfl, ?_, trivial⟩, rfl⟩⟩⟩
            exact congrArg (fun r => some (SB.cells [.c (.bool fa), .c (.int .u32 (ibits .or .u32 ma mb)), SV.row .u8 32 r] 26)) (joinR_set ya yb ma mb k hk' _ (by simp [joinAt, hbb]))
          · rename_i hh
            have hbb := (hasB_eq hmb k hk').symm.trans hh
            refine ⟨i1.1, ?_⟩
            conv => whnf
            split
            · rename_i hh
              have haa := (hasB_eq hma k hk').symm.trans hh
              refine ⟨i1, i1, ⟨(k + 1 : Nat), hk', Nat.sub_lt_sub_left hk' (Nat.lt_succ_self k), ⟨rfl, rfl, Nat.le_of_ble_eq_true rfl, Nat.le_of_ble_eq_true rfl, ⟨rfl, rfl, rfl, rfl, next_i k hk', trivial⟩, ⟨rfl, rfl, rfl, ?_, trivial⟩, rfl⟩⟩⟩
              exact congrArg (fun r => some (SB.cells [.c (.bool fa), .c (.int .u32 (ibits .or .u32 ma mb)), SV.row .u8 32 r] 26)) (joinR_set ya yb ma mb k hk' _ (by simp [joinAt, hbb, haa]))
            · rename_i hh
              have haa := (hasB_eq hma k hk').symm.trans hh
              refine ⟨(k + 1 : Nat), hk', Nat.sub_lt_sub_left hk' (Nat.lt_succ_self k), ⟨rfl, rfl, Nat.le_of_ble_eq_true rfl, Nat.le_of_ble_eq_true rfl, ⟨rfl, rfl, rfl, rfl, next_i k hk', trivial⟩, ⟨rfl, rfl, rfl, ?_, trivial⟩, rfl⟩⟩
              exact congrArg (fun r => some (SB.cells [.c (.bool fa), .c (.int .u32 (ibits .or .u32 ma mb)), SV.row .u8 32 r] 26)) (joinR_same ya yb ma mb k hk' (by simp [joinAt, hbb, haa]))
        · rename_i hlt
          have hk' : k = 32 := by have := of_decide_eq_false hlt; omega
          subst hk'
          have e : joinL ya yb ma mb false = joinR ya yb ma mb 32 := (joinR_end ya yb ma mb).symm
          rw [e] at hK
          exact ⟨hK, rfl⟩
    · refine pure_sound (Γ := Γ8) hm H0 [] (c := bd Tryd.f17) Tryd.func17 rfl (by kernel_rfl) (by kernel_rfl) ?_ hr hg hng
      exact ⟨hb, hK, rfl⟩
  · exact ht.elim

/-! ### the law of laying -/
noncomputable def Γ9 : Gam Tryd.prog := ⟨[ps 15 _ Tryd.func15 rfl (by kernel_rfl) c15, ps 17 _ Tryd.func17 rfl (by kernel_rfl) c17, ps 18 _ Tryd.func18 rfl (by kernel_rfl) c18] ++ Γ6.ps, []⟩
theorem c5 : Sound 5 trTurns := by
  intro args K ht n ρ vs w hr hg hng
  unfold trTurns at ht
  split at ht
  · rename_i n bs fa ma na ya fb mb nb yb
    obtain ⟨⟨ha, hb⟩, hK⟩ := ht
    obtain ⟨rfl, rfl, hbl, hyal, hma⟩ := id ha
    obtain ⟨_, rfl, _, hybl, hmb⟩ := id hb
    have oa : okOver 32 32 ya ya ma := ⟨rfl, rfl, hyal, hyal, hma⟩
    have ob : okOver 32 32 yb yb mb := ⟨rfl, rfl, hybl, hybl, hmb⟩
    refine pure_sound (Γ := Γ9) hm H0 O5 (c := bd Tryd.f5) Tryd.func5 rfl (by kernel_rfl) (by kernel_rfl) ?_ hr hg hng
    refine kcast (A := okOver 32 32 bs ya ma ∧ okOver 32 32 bs ya ma ∧ brk (layL bs fa ma ya == layL bs fa ma ya)
      ((okOver 32 32 ya ya ma ∧ okOver 32 32 yb yb mb) ∧ (okOver 32 32 ya ya ma ∧ okOver 32 32 yb yb mb) ∧
        brk (joinF fa fb == joinF fa fb && (joinMk ma mb fb == joinMk ma mb fb && joinL ya yb ma mb fb == joinL ya yb ma mb fb))
          (okOver 32 32 ya ya ma ∧ okOver 32 32 ya ya ma ∧ K (.c (.bool (fa == fa && (ma == ma && overL zero32 ya ma == overL zero32 ya ma)))) ∧ true = true)
          (K (.c (.bool false)) ∧ true = true))
      (K (.c (.bool false)) ∧ true = true)) (by kernel_rfl) ?_
    refine ⟨ha, ha, brk_true (by simp) ⟨⟨oa, ob⟩, ⟨oa, ob⟩, brk_true (by simp) ⟨oa, oa, ?_, rfl⟩⟩⟩
    have e : (fa == fa && (ma == ma && overL zero32 ya ma == overL zero32 ya ma)) = true := by simp
    rw [e]
    exact hK
  · exact ht.elim
end Go.Proofs.YtlobbcodnkfbiaaDoor
