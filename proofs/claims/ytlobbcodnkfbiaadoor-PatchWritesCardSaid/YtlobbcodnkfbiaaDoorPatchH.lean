/-
  PatchH: the law of writing.
-/
import Derived.Test.YtlobbcodnkfbiaaDoorPatchG
namespace Go.Proofs.YtlobbcodnkfbiaaDoor
open Go Go.RowKit Sx
set_option maxRecDepth 100000

noncomputable def Γ11 : Gam Tryd.prog := ⟨[ps 14 _ Tryd.func14 rfl (by kernel_rfl) c14] ++ Γ6.ps, []⟩
def trWrites (args : List SV) (K : SV → Prop) : Prop :=
  match args with
  | [.agg [.row .u8 n bs], .c (.int .i64 off), .c (.string _)] => (n = 32 ∧ bs.length = 32 ∧ (-9223372036854775808 ≤ off ∧ off ≤ 9223372036854775807)) ∧ K (.c (.bool true))
  | _ => False
/-- what stands at a place behind the writing -/
theorem writes_at (bs : List Int) (s : ByteArray) (o j : Nat) (h : o + s.size ≤ 32) (hj : j < 32) :
    (layL bs false (spanI (o : Int) ((o + s.size : Nat) : Int)) (spl zero32 o ((bytesI s).take s.size))).getD j 0 = if o ≤ j ∧ j < o + s.size then bAt s ((j : Int) - (o : Int)) else bs.getD j 0 := by
  have hl : ((bytesI s).take s.size).length = s.size := by rw [List.length_take, bytesI_len]; omega
  rw [layL_at _ _ _ _ hj, (span_spec (a := (o : Int)) (b := ((o + s.size : Nat) : Int)) (by omega) (by omega) (by omega)).2 j hj, spl_getD _ _ _ (by rw [hl]; show o + s.size ≤ 32; exact h), hl]
  by_cases h1 : o ≤ j ∧ j < o + s.size
  · rw [if_pos h1, if_pos h1, if_pos (by simp only [Bool.and_eq_true, decide_eq_true_eq]; omega)]
    rw [show (j : Int) - (o : Int) = ((j - o : Nat) : Int) by omega, bAt_getD]
    simp only [List.getD_eq_getElem?_getD, List.getElem?_take]
    rw [if_pos (by omega)]
  · rw [if_neg h1, if_neg (by simp only [Bool.and_eq_true, decide_eq_true_eq]; omega), if_neg h1]
    rfl
theorem lay_again (bs : List Int) (m : Int) (ys : List Int) : layL (layL bs false m ys) false m ys = layL bs false m ys := by
  refine ext32 (layL_len _ _ _ _) (layL_len _ _ _ _) fun j hj => ?_
  rw [layL_at _ _ _ _ hj, layL_at _ _ _ _ hj]
  cases bit m j <;> simp
theorem trim_of (s : ByteArray) (o : Nat) (h : o + s.size ≤ 32) : overL zero32 (spl zero32 o ((bytesI s).take s.size)) (spanI (o : Int) ((o + s.size : Nat) : Int)) = spl zero32 o ((bytesI s).take s.size) := by
  have hl : ((bytesI s).take s.size).length = s.size := by rw [List.length_take, bytesI_len]; omega
  have hz : zero32.length = 32 := rfl
  refine ext32 (overL_len _ _ _) (by rw [spl_len _ _ _ (by rw [hl, hz]; exact h), hz]) fun j hj => ?_
  rw [overL_at _ _ _ hj, (span_spec (a := (o : Int)) (b := ((o + s.size : Nat) : Int)) (by omega) (by omega) (by omega)).2 j hj, spl_getD _ _ _ (by rw [hl, hz]; exact h), hl]
  by_cases h1 : o ≤ j ∧ j < o + s.size
  · rw [if_pos (by simp only [Bool.and_eq_true, decide_eq_true_eq]; omega)]
  · rw [if_neg (by simp only [Bool.and_eq_true, decide_eq_true_eq]; omega), if_neg h1]
def writesI (bs : List Int) (o : Nat) (s : ByteArray) (m : Int) (ys : List Int) : LInv where
  X := Nat
  st := fun k => ⟨[(1, .c (.int .i64 (o : Int))), (2, .c (.string s)), (3, .ptr 0 0), (7, .c (.bool true)), (8, .ptr 1 0), (10, .ptr 2 0), (31, .c (.int .i64 (k : Int)))], 73,
    [(0, .cells [.row .u8 32 bs] 24), (1, .cells [.c (.bool false), .c (.int .u32 m), .row .u8 32 ys] 26), (2, .cells [.row .u8 32 (layL bs false m ys)] 24)], 3, 0⟩
  ok := fun k => k ≤ 32
  μ := fun k => 32 - k
theorem c4 : Sound 4 trWrites := by
  intro args K ht n ρ vs w hr hg hng
  unfold trWrites at ht
  split at ht
  · rename_i n bs off s
    obtain ⟨⟨rfl, hbl, hoff⟩, hK⟩ := ht
    refine pure_sound (Γ := Γ11) hm (fun _ => .inv (writesI bs off.toNat s (ofM off s) (ofB off s))) O4 (c := bd Tryd.f4) Tryd.func4 rfl (by kernel_rfl) (by kernel_rfl) ?_ hr hg hng
    by_cases hgood : 0 ≤ off ∧ off + s.size ≤ 32
    · obtain ⟨h1', h3'⟩ := hgood
      obtain ⟨o, rfl⟩ := Int.eq_ofNat_of_zero_le h1'
      have ho : o + s.size ≤ 32 := by omega
      have hE : ofE (o : Int) s = 0 := ofT_good _ s _ _ h1' h3'
      have e2 : IntKind.i64.wrap ((o : Int) + (s.size : Int)) = ((o + s.size : Nat) : Int) := by rw [w64 (by omega)]; rfl
      have e3 : (bytesI s).take (32 - (o : Int).toNat) = (bytesI s).take s.size := by
        rw [List.take_of_length_le (by rw [bytesI_len, Int.toNat_natCast]; omega), List.take_of_length_le (by rw [bytesI_len]; omega)]
      have hM : ofM (o : Int) s = spanI (o : Int) ((o + s.size : Nat) : Int) := by rw [← e2]; exact ofT_good _ s _ _ h1' h3'
      have hB : ofB (o : Int) s = spl zero32 o ((bytesI s).take s.size) := by rw [← e3]; exact ofT_good _ s _ _ h1' h3'
      have hM32 : M32 (ofM (o : Int) s) := by rw [hM]; exact (span_spec (by omega) (by omega) (by omega)).1
      have hYl : (ofB (o : Int) s).length = 32 := by
        rw [hB, spl_len _ _ _ (by rw [List.length_take, bytesI_len]; show o + _ ≤ 32; omega)]; rfl
      have hat : ∀ j, j < 32 → (layL bs false (ofM (o : Int) s) (ofB (o : Int) s)).getD j 0 = if o ≤ j ∧ j < o + s.size then bAt s ((j : Int) - (o : Int)) else bs.getD j 0 := by
        intro j hj; rw [hM, hB]; exact writes_at bs s o j ho hj
      conv => whnf
      split
      · rename_i hh
        have h2 : (ofE (o : Int) s != 0) = true := hh
        rw [hE] at h2
        cases h2
      · refine ⟨⟨rfl, rfl, hbl, hYl, hM32⟩, ⟨⟨(0 : Nat), Nat.zero_le _, ⟨rfl, rfl, Nat.le_of_ble_eq_true rfl, Nat.le_of_ble_eq_true rfl, ⟨rfl, rfl, rfl, rfl, rfl, rfl, rfl, trivial⟩, ⟨rfl, rfl, rfl, trivial⟩, rfl⟩⟩, ?_⟩⟩
        intro (k : Nat) (hk : k ≤ 32)
        conv => whnf
        split
        · rename_i hlt
          have hk' : k < 32 := by have := of_decide_eq_true hlt; omega
          have i1 : 0 ≤ (k : Int) ∧ (k : Int) < 32 := ⟨by omega, by omega⟩
          have hk2 := hat k hk'
          refine ⟨i1, ?_⟩
          conv => whnf
          split
          · rename_i hge
            have hge' : o ≤ k := by have := of_decide_eq_true hge; omega
            have e1 : IntKind.i64.wrap ((k : Int) - (o : Int)) = (k : Int) - (o : Int) := w64 (by omega)
            conv => whnf
            split
            · rename_i hsz
              have hsz' : k < o + s.size := by
                have h2 : IntKind.i64.wrap ((k : Int) - (o : Int)) < (s.size : Int) := of_decide_eq_true hsz
                rw [e1] at h2; omega
              rw [if_pos ⟨hge', hsz'⟩] at hk2
              have b0 : 0 ≤ IntKind.i64.wrap ((k : Int) - (o : Int)) := by rw [e1]; omega
              have b1 : IntKind.i64.wrap ((k : Int) - (o : Int)) < (s.size : Int) := by rw [e1]; omega
              refine ⟨⟨b0, b1⟩, i1, ?_⟩
              conv => whnf
              split
              · rename_i hh
                have h2 : ((layL bs false (ofM (o : Int) s) (ofB (o : Int) s)).getD k 0 != bAt s (IntKind.i64.wrap ((k : Int) - (o : Int)))) = true := hh
                rw [e1, hk2] at h2
                simp at h2
              · exact ⟨(k + 1 : Nat), hk', Nat.sub_lt_sub_left hk' (Nat.lt_succ_self k), ⟨rfl, rfl, Nat.le_of_ble_eq_true rfl, Nat.le_of_ble_eq_true rfl, ⟨rfl, rfl, rfl, rfl, rfl, rfl, next_i k hk', trivial⟩, ⟨rfl, rfl, rfl, trivial⟩, rfl⟩⟩
            · rename_i hsz
              have hsz' : ¬ k < o + s.size := by
                have h2 : ¬ IntKind.i64.wrap ((k : Int) - (o : Int)) < (s.size : Int) := of_decide_eq_false hsz
                rw [e1] at h2; omega
              rw [if_neg (by omega)] at hk2
              refine ⟨i1, ?_⟩
              conv => whnf
              split
              · rename_i hh
                have h2 : ((layL bs false (ofM (o : Int) s) (ofB (o : Int) s)).getD k 0 != bs.getD k 0) = true := hh
                rw [hk2] at h2
                simp at h2
              · exact ⟨(k + 1 : Nat), hk', Nat.sub_lt_sub_left hk' (Nat.lt_succ_self k), ⟨rfl, rfl, Nat.le_of_ble_eq_true rfl, Nat.le_of_ble_eq_true rfl, ⟨rfl, rfl, rfl, rfl, rfl, rfl, next_i k hk', trivial⟩, ⟨rfl, rfl, rfl, trivial⟩, rfl⟩⟩
          · rename_i hge
            have hge' : ¬ o ≤ k := by have := of_decide_eq_false hge; omega
            rw [if_neg (by omega)] at hk2
            refine ⟨i1, ?_⟩
            conv => whnf
            split
            · rename_i hh
              have h2 : ((layL bs false (ofM (o : Int) s) (ofB (o : Int) s)).getD k 0 != bs.getD k 0) = true := hh
              rw [hk2] at h2
              simp at h2
            · exact ⟨(k + 1 : Nat), hk', Nat.sub_lt_sub_left hk' (Nat.lt_succ_self k), ⟨rfl, rfl, Nat.le_of_ble_eq_true rfl, Nat.le_of_ble_eq_true rfl, ⟨rfl, rfl, rfl, rfl, rfl, rfl, next_i k hk', trivial⟩, ⟨rfl, rfl, rfl, trivial⟩, rfl⟩⟩
        · rename_i hlt
          have hk' : k = 32 := by have := of_decide_eq_false hlt; omega
          subst hk'
          have o1 : okOver 32 32 (layL bs false (ofM (o : Int) s) (ofB (o : Int) s)) (ofB (o : Int) s) (ofM (o : Int) s) := ⟨rfl, rfl, layL_len _ _ _ _, hYl, hM32⟩
          have o2 : okOver 32 32 (ofB (o : Int) s) (ofB (o : Int) s) (ofM (o : Int) s) := ⟨rfl, rfl, hYl, hYl, hM32⟩
          refine kcast (A := okOver 32 32 (layL bs false (ofM (o : Int) s) (ofB (o : Int) s)) (ofB (o : Int) s) (ofM (o : Int) s) ∧
            brk (layL (layL bs false (ofM (o : Int) s) (ofB (o : Int) s)) false (ofM (o : Int) s) (ofB (o : Int) s) == layL bs false (ofM (o : Int) s) (ofB (o : Int) s))
              (okOver 32 32 (ofB (o : Int) s) (ofB (o : Int) s) (ofM (o : Int) s) ∧ K (.c (.bool (false == false && (ofM (o : Int) s == ofM (o : Int) s && overL zero32 (ofB (o : Int) s) (ofM (o : Int) s) == ofB (o : Int) s)))) ∧ true = true)
              (K (.c (.bool false)) ∧ true = true)) (by kernel_rfl) ?_
          refine ⟨o1, brk_true (by rw [lay_again]; simp) ⟨o2, ?_, rfl⟩⟩
          have e : (false == false && (ofM (o : Int) s == ofM (o : Int) s && overL zero32 (ofB (o : Int) s) (ofM (o : Int) s) == ofB (o : Int) s)) = true := by
            rw [hM, hB, trim_of s o ho]; simp
          rw [e]
          exact hK
    · have hb : off < 0 ∨ (s.size : Int) > 32 ∨ off > 32 - s.size := by omega
      have hE : ofE off s = 1 := ofT_bad off s _ _ hb
      have hM : ofM off s = 0 := ofT_bad off s _ _ hb
      have hB : ofB off s = zero32 := ofT_bad off s _ _ hb
      conv => whnf
      split
      · have e : (false == false && (ofM off s == 0 && ofB off s == zero32)) = true := by rw [hM, hB]; rfl
        rw [← e] at hK
        exact kcast (A := K (.c (.bool (false == false && (ofM off s == 0 && ofB off s == zero32)))) ∧ true = true) (by kernel_rfl) ⟨hK, rfl⟩
      · rename_i hh
        have h2 : (ofE off s != 0) = false := hh
        rw [hE] at h2
        cases h2
  · exact ht.elim
end Go.Proofs.YtlobbcodnkfbiaaDoor
