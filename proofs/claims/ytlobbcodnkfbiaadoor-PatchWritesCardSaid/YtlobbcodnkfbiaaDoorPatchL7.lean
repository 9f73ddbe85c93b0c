/-
  PatchL7: the walk of the law of turns.
-/
import Derived.Test.YtlobbcodnkfbiaaDoorPatchL
namespace Go.Proofs.YtlobbcodnkfbiaaDoor
open Go Go.RowKit Sx
set_option maxRecDepth 100000

theorem brk_of {b : Bool} {p q : Prop} (h1 : b = true → p) (h2 : b = false → q) : brk b p q := by
  cases b
  · exact h2 rfl
  · exact h1 rfl
theorem apart_bits {ma mb : Int} (ha : M32 ma) (hb : M32 mb) (h : (ibits .and .u32 ma mb != 0) = false) : ∀ j, j < 32 → bit ma j = true → bit mb j = false := by
  intro j hj h1
  have h0 : ibits .and .u32 ma mb = 0 := by simpa using h
  have h2 := (ibits_and .and (fun x y => x && y) ha hb (.inl ⟨rfl, rfl⟩)).2 j hj
  rw [h0, h1] at h2
  simpa [bit] using h2.symm
theorem lay_turn {ma mb : Int} (bs ya yb : List Int) (h : ∀ j, j < 32 → bit ma j = true → bit mb j = false) :
    layL (layL bs false ma ya) false mb yb = layL (layL bs false mb yb) false ma ya := by
  refine ext32 (layL_len _ _ _ _) (layL_len _ _ _ _) fun j hj => ?_
  rw [layL_at _ _ _ _ hj, layL_at _ _ _ _ hj, layL_at _ _ _ _ hj, layL_at _ _ _ _ hj]
  have := h j hj
  cases h1 : bit ma j
  · simp
  · rw [this h1]; simp
theorem join_turn {ma mb : Int} (ha : M32 ma) (hb : M32 mb) (ya yb : List Int) (h : ∀ j, j < 32 → bit ma j = true → bit mb j = false) :
    (joinF false false == joinF false false && (joinMk ma mb false == joinMk mb ma false && joinL ya yb ma mb false == joinL yb ya mb ma false)) = true := by
  have e1 : joinMk ma mb false = joinMk mb ma false := by
    obtain ⟨h1, h2⟩ := joinMk_spec ha hb false
    obtain ⟨h3, h4⟩ := joinMk_spec hb ha false
    exact mask_ext h1 h3 fun j hj => by rw [h2 j hj, h4 j hj]; simp [Bool.or_comm]
  have e2 : joinL ya yb ma mb false = joinL yb ya mb ma false := by
    refine ext32 (joinL_len _ _ _ _ _) (joinL_len _ _ _ _ _) fun j hj => ?_
    rw [joinL_at _ _ _ _ _ hj, joinL_at _ _ _ _ _ hj]
    have := h j hj
    cases h1 : bit ma j
    · simp
    · rw [this h1]; simp
  rw [e1, e2]
  simp

def trTurns (args : List SV) (K : SV → Prop) : Prop :=
  match args with
  | [.agg [.row .u8 n bs], .agg [.c (.bool _), .c (.int .u32 ma), .row .u8 na ya], .agg [.c (.bool _), .c (.int .u32 mb), .row .u8 nb yb]] =>
    (okOver n na bs ya ma ∧ okOver n nb bs yb mb) ∧ K (.c (.bool true))
  | _ => False
theorem c7 : Sound 7 trTurns := by
  intro args K ht n ρ vs w hr hg hng
  unfold trTurns at ht
  split at ht
  · rename_i n bs fa ma na ya fb mb nb yb
    obtain ⟨⟨ha, hb⟩, hK⟩ := ht
    obtain ⟨rfl, rfl, hbl, hyal, hma⟩ := id ha
    obtain ⟨_, rfl, _, hybl, hmb⟩ := id hb
    refine pure_sound (Γ := Γ6) hm H0 O7 (c := bd Tryd.f7) Tryd.func7 rfl (by kernel_rfl) (by kernel_rfl) ?_ hr hg hng
    have oa : okOver 32 32 ya ya ma := ⟨rfl, rfl, hyal, hyal, hma⟩
    have ob : okOver 32 32 yb yb mb := ⟨rfl, rfl, hybl, hybl, hmb⟩
    have o1 : okOver 32 32 (layL bs fa ma ya) yb mb := ⟨rfl, rfl, layL_len _ _ _ _, hybl, hmb⟩
    have o2 : okOver 32 32 (layL bs fb mb yb) ya ma := ⟨rfl, rfl, layL_len _ _ _ _, hyal, hma⟩
    refine kcast (A := brk fa (K (.c (.bool true)) ∧ true = true) (brk fb (K (.c (.bool true)) ∧ true = true) (brk (ibits .and .u32 ma mb != 0) (K (.c (.bool true)) ∧ true = true)
      (okOver 32 32 bs ya ma ∧ okOver 32 32 (layL bs fa ma ya) yb mb ∧ okOver 32 32 bs yb mb ∧ okOver 32 32 (layL bs fb mb yb) ya ma ∧
        brk (layL (layL bs fa ma ya) fb mb yb == layL (layL bs fb mb yb) fa ma ya)
          ((okOver 32 32 ya ya ma ∧ okOver 32 32 yb yb mb) ∧ (okOver 32 32 yb yb mb ∧ okOver 32 32 ya ya ma) ∧
            K (.c (.bool (joinF fa fb == joinF fb fa && (joinMk ma mb fb == joinMk mb ma fa && joinL ya yb ma mb fb == joinL yb ya mb ma fa)))) ∧ true = true)
          (K (.c (.bool false)) ∧ true = true))))) (by kernel_rfl) ?_
    refine brk_of (fun _ => ⟨hK, rfl⟩) fun h1 => brk_of (fun _ => ⟨hK, rfl⟩) fun h2 => brk_of (fun _ => ⟨hK, rfl⟩) fun h3 => ⟨ha, o1, hb, o2, ?_⟩
    subst h1 h2
    have hd := apart_bits hma hmb h3
    refine brk_true (by rw [lay_turn bs ya yb hd]; simp) ⟨⟨oa, ob⟩, ⟨ob, oa⟩, ?_, rfl⟩
    rw [join_turn hma hmb ya yb hd]
    exact hK
  · exact ht.elim
end Go.Proofs.YtlobbcodnkfbiaaDoor
