/-
  PatchL: the walks of chapter 12's laws.
-/
import Derived.Test.YtlobbcodnkfbiaaDoorPatch
namespace Go.Proofs.YtlobbcodnkfbiaaDoor
open Go Go.RowKit Sx
set_option maxRecDepth 100000

/-! ### what lies at a place -/
theorem overL_at (xs ys : List Int) (m : Int) {j : Nat} (h : j < 32) : (overL xs ys m).getD j 0 = if bit m j then ys.getD j 0 else xs.getD j 0 := by
  unfold overL; exact getD_range _ j h
theorem ext32 {xs ys : List Int} (hx : xs.length = 32) (hy : ys.length = 32) (h : ∀ j, j < 32 → xs.getD j 0 = ys.getD j 0) : xs = ys :=
  (list32 xs hx).trans ((range_congr h).trans (list32 ys hy).symm)
theorem layL_len (bs : List Int) (f : Bool) (m : Int) (ys : List Int) : (layL bs f m ys).length = 32 := overL_len _ _ _
theorem layL_at (bs : List Int) (f : Bool) (m : Int) (ys : List Int) {j : Nat} (h : j < 32) :
    (layL bs f m ys).getD j 0 = if bit m j then ys.getD j 0 else if f then 0 else bs.getD j 0 := by
  unfold layL
  rw [overL_at _ _ _ h]
  cases f
  · rfl
  · show (if bit m j then ys.getD j 0 else zero32.getD j 0) = _
    rw [zero32_getD]; rfl
theorem brk_true {b : Bool} {p q : Prop} (hb : b = true) (hp : p) : brk b p q := by subst hb; exact hp
theorem joinL_len (ya yb : List Int) (ma mb : Int) (fb : Bool) : (joinL ya yb ma mb fb).length = 32 := by
  cases fb <;> exact overL_len _ _ _
theorem joinL_at (ya yb : List Int) (ma mb : Int) (fb : Bool) {j : Nat} (h : j < 32) :
    (joinL ya yb ma mb fb).getD j 0 = if bit mb j then yb.getD j 0 else if fb then 0 else if bit ma j then ya.getD j 0 else 0 := by
  cases fb
  · simp only [joinL, overL_at _ _ _ h, zero32_getD]; rfl
  · simp only [joinL, overL_at _ _ _ h, zero32_getD]; rfl
theorem joinMk_spec {ma mb : Int} (ha : M32 ma) (hb : M32 mb) (fb : Bool) : M32 (joinMk ma mb fb) ∧ ∀ j, j < 32 → bit (joinMk ma mb fb) j = (bit mb j || (!fb && bit ma j)) := by
  cases fb
  · obtain ⟨h1, h2⟩ := ibits_and .or (fun x y => x || y) ha hb (.inr (.inl ⟨rfl, rfl⟩))
    refine ⟨h1, fun j hj => ?_⟩
    show bit (ibits .or .u32 ma mb) j = _
    rw [h2 j hj]
    simp [Bool.or_comm]
  · exact ⟨hb, fun j _ => by simp [joinMk]⟩

theorem lay_join {ma mb : Int} (ha : M32 ma) (hb : M32 mb) (bs ya yb : List Int) (fa fb : Bool) :
    layL bs (joinF fa fb) (joinMk ma mb fb) (joinL ya yb ma mb fb) = layL (layL bs fa ma ya) fb mb yb := by
  refine ext32 (layL_len _ _ _ _) (layL_len _ _ _ _) fun j hj => ?_
  rw [layL_at _ _ _ _ hj, layL_at _ _ _ _ hj, layL_at _ _ _ _ hj, joinL_at _ _ _ _ _ hj, (joinMk_spec ha hb fb).2 j hj]
  cases fa <;> cases fb <;> cases bit ma j <;> cases bit mb j <;> simp [joinF]
theorem joinF_assoc (fa fb fc : Bool) : joinF (joinF fa fb) fc = joinF fa (joinF fb fc) := by cases fa <;> cases fb <;> cases fc <;> rfl
theorem joinMk_assoc {ma mb mc : Int} (ha : M32 ma) (hb : M32 mb) (hc : M32 mc) (fb fc : Bool) :
    joinMk (joinMk ma mb fb) mc fc = joinMk ma (joinMk mb mc fc) (joinF fb fc) := by
  obtain ⟨h1, h2⟩ := joinMk_spec ha hb fb
  obtain ⟨h3, h4⟩ := joinMk_spec hb hc fc
  obtain ⟨h5, h6⟩ := joinMk_spec h1 hc fc
  obtain ⟨h7, h8⟩ := joinMk_spec ha h3 (joinF fb fc)
  refine mask_ext h5 h7 fun j hj => ?_
  rw [h6 j hj, h8 j hj, h2 j hj, h4 j hj]
  cases fb <;> cases fc <;> cases bit ma j <;> cases bit mb j <;> cases bit mc j <;> rfl
theorem joinL_assoc {ma mb mc : Int} (ha : M32 ma) (hb : M32 mb) (hc : M32 mc) (ya yb yc : List Int) (fb fc : Bool) :
    joinL (joinL ya yb ma mb fb) yc (joinMk ma mb fb) mc fc = joinL ya (joinL yb yc mb mc fc) ma (joinMk mb mc fc) (joinF fb fc) := by
  refine ext32 (joinL_len _ _ _ _ _) (joinL_len _ _ _ _ _) fun j hj => ?_
  rw [joinL_at _ _ _ _ _ hj, joinL_at _ _ _ _ _ hj, joinL_at _ _ _ _ _ hj, joinL_at _ _ _ _ _ hj, (joinMk_spec ha hb fb).2 j hj, (joinMk_spec hb hc fc).2 j hj]
  cases fb <;> cases fc <;> cases bit ma j <;> cases bit mb j <;> cases bit mc j <;> simp [joinF]
theorem joins_true {ma mb mc : Int} (ha : M32 ma) (hb : M32 mb) (hc : M32 mc) (ya yb yc : List Int) (fa fb fc : Bool) :
    (joinF (joinF fa fb) fc == joinF fa (joinF fb fc) && (joinMk (joinMk ma mb fb) mc fc == joinMk ma (joinMk mb mc fc) (joinF fb fc) &&
      joinL (joinL ya yb ma mb fb) yc (joinMk ma mb fb) mc fc == joinL ya (joinL yb yc mb mc fc) ma (joinMk mb mc fc) (joinF fb fc))) = true := by
  rw [joinF_assoc, joinMk_assoc ha hb hc, joinL_assoc ha hb hc]
  simp

/-! ### the law of joining -/
def trJoins (args : List SV) (K : SV → Prop) : Prop :=
  match args with
  | [.agg [.row .u8 n bs], .agg [.c (.bool _), .c (.int .u32 ma), .row .u8 na ya], .agg [.c (.bool _), .c (.int .u32 mb), .row .u8 nb yb], .agg [.c (.bool _), .c (.int .u32 mc), .row .u8 nc yc]] =>
    (okOver n na bs ya ma ∧ okOver n nb bs yb mb ∧ okOver n nc bs yc mc) ∧ K (.c (.bool true))
  | _ => False
def FJoins (K : SV → Prop) (bs ya yb yc : List Int) (ma mb mc : Int) (fa fb fc : Bool) : Prop :=
  (okOver 32 32 ya ya ma ∧ okOver 32 32 yb yb mb) ∧ okOver 32 32 bs (joinL ya yb ma mb fb) (joinMk ma mb fb) ∧
  brk (layL bs (joinF fa fb) (joinMk ma mb fb) (joinL ya yb ma mb fb) == layL (layL bs fa ma ya) fb mb yb)
    ((okOver 32 32 ya ya ma ∧ okOver 32 32 yb yb mb) ∧ (okOver 32 32 (joinL ya yb ma mb fb) (joinL ya yb ma mb fb) (joinMk ma mb fb) ∧ okOver 32 32 yc yc mc) ∧
      (okOver 32 32 yb yb mb ∧ okOver 32 32 yc yc mc) ∧ (okOver 32 32 ya ya ma ∧ okOver 32 32 (joinL yb yc mb mc fc) (joinL yb yc mb mc fc) (joinMk mb mc fc)) ∧
      K (.c (.bool (joinF (joinF fa fb) fc == joinF fa (joinF fb fc) && (joinMk (joinMk ma mb fb) mc fc == joinMk ma (joinMk mb mc fc) (joinF fb fc) &&
        joinL (joinL ya yb ma mb fb) yc (joinMk ma mb fb) mc fc == joinL ya (joinL yb yc mb mc fc) ma (joinMk mb mc fc) (joinF fb fc))))) ∧ true = true)
    (K (.c (.bool false)) ∧ true = true)
theorem c6 : Sound 6 trJoins := by
  intro args K ht n ρ vs w hr hg hng
  unfold trJoins at ht
  split at ht
  · rename_i n bs fa ma na ya fb mb nb yb fc mc nc yc
    obtain ⟨⟨ha, hb, hc⟩, hK⟩ := ht
    obtain ⟨rfl, rfl, hbl, hyal, hma⟩ := id ha
    obtain ⟨_, rfl, _, hybl, hmb⟩ := id hb
    obtain ⟨_, rfl, _, hycl, hmc⟩ := id hc
    have oa : okOver 32 32 ya ya ma := ⟨rfl, rfl, hyal, hyal, hma⟩
    have ob : okOver 32 32 yb yb mb := ⟨rfl, rfl, hybl, hybl, hmb⟩
    have oc : okOver 32 32 yc yc mc := ⟨rfl, rfl, hycl, hycl, hmc⟩
    have o1 : okOver 32 32 (layL bs fa ma ya) yb mb := ⟨rfl, rfl, layL_len _ _ _ _, hybl, hmb⟩
    have hmab := (joinMk_spec hma hmb fb).1
    have hmbc := (joinMk_spec hmb hmc fc).1
    have o2 : okOver 32 32 bs (joinL ya yb ma mb fb) (joinMk ma mb fb) := ⟨rfl, rfl, hbl, joinL_len _ _ _ _ _, hmab⟩
    have oab : okOver 32 32 (joinL ya yb ma mb fb) (joinL ya yb ma mb fb) (joinMk ma mb fb) := ⟨rfl, rfl, joinL_len _ _ _ _ _, joinL_len _ _ _ _ _, hmab⟩
    have obc : okOver 32 32 (joinL yb yc mb mc fc) (joinL yb yc mb mc fc) (joinMk mb mc fc) := ⟨rfl, rfl, joinL_len _ _ _ _ _, joinL_len _ _ _ _ _, hmbc⟩
    have e1 : (layL bs (joinF fa fb) (joinMk ma mb fb) (joinL ya yb ma mb fb) == layL (layL bs fa ma ya) fb mb yb) = true := by
      rw [lay_join hma hmb]; simp
    have hK' := hK
    rw [← joins_true hma hmb hmc ya yb yc fa fb fc] at hK'
    refine pure_sound (Γ := Γ6) hm H0 O6 (c := bd Tryd.f6) Tryd.func6 rfl (by kernel_rfl) (by kernel_rfl) ?_ hr hg hng
    have fin : FJoins K bs ya yb yc ma mb mc fa fb fc := ⟨⟨oa, ob⟩, o2, brk_true e1 ⟨⟨oa, ob⟩, ⟨oab, oc⟩, ⟨ob, oc⟩, ⟨oa, obc⟩, hK', rfl⟩⟩
    exact kcast (A := (okOver 32 32 bs ya ma ∧ (okOver 32 32 (layL bs fa ma ya) yb mb ∧ FJoins K bs ya yb yc ma mb mc fa fb fc) ∧ (okOver 32 32 (layL bs fa ma ya) yb mb ∧ FJoins K bs ya yb yc ma mb mc fa fb fc)) ∧
      (okOver 32 32 bs ya ma ∧ okOver 32 32 (layL bs fa ma ya) yb mb ∧ FJoins K bs ya yb yc ma mb mc fa fb fc)) (by kernel_rfl) ⟨⟨ha, ⟨o1, fin⟩, ⟨o1, fin⟩⟩, ⟨ha, o1, fin⟩⟩
  · exact ht.elim
end Go.Proofs.YtlobbcodnkfbiaaDoor
