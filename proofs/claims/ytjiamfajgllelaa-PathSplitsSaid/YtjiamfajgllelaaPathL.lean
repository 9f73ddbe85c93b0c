/-
  PathL: the chapter's examples; the laws.
-/
import Derived.Test.YtjiamfajgllelaaPathR
namespace Go.Proofs.Ytjiamfajgllelaa
open Go Go.RowKit Sy
set_option maxRecDepth 100000

/-- the same where the path is given -/
def FSplitC (args : List SV) (K : SV → Option SB → Prop) : Prop :=
  match args with
  | [.c (.string s)] => match parse s with
    | none => K (.tup [nilS, .c (.int .i64 160)]) none
    | some [] => K (.tup [nilS, .c (.int .i64 0)]) none
    | some (x :: L) => K (.tup [.gs 0 1 0 (L.length + 1) none, .c (.int .i64 0)]) (some (.arr 9 1 (L.length + 1) (encS (x :: L))))
  | _ => False
theorem c_SplitC : OSound 9 FSplitC := by
  intro args K ht
  refine c_Split args K ?_
  unfold FSplitC at ht
  unfold FSplit
  split at ht
  · split at ht
    · rename_i hp
      exact ⟨fun _ => ht, fun L h => by rw [hp] at h; cases h⟩
    · rename_i hp
      refine ⟨fun h => (by rw [hp] at h; cases h), fun L h => ?_⟩
      rw [hp] at h; cases h
      exact ⟨fun _ => ht, fun h => absurd rfl h⟩
    · rename_i x M hp
      refine ⟨fun h => (by rw [hp] at h; cases h), fun L h => ?_⟩
      rw [hp] at h; cases h
      exact ⟨fun h => (by cases h), fun _ => ht⟩
  · exact ht.elim
def FParentC (args : List SV) (K : SV → Option SB → Prop) : Prop :=
  match args with
  | [.c (.string s)] => match parse s with
    | some (x :: y :: L) => K (.tup [.gs 0 1 0 ((x :: y :: L).take (L.length + 1)).length none, .c (.string ((x :: y :: L).getD (L.length + 1) .empty)), .c (.int .i64 0)]) (some (.arr 9 1 ((x :: y :: L).take (L.length + 1)).length (encS ((x :: y :: L).take (L.length + 1)))))
    | _ => False
  | _ => False
theorem c_ParentC : OSound 11 FParentC := by
  intro args K ht
  refine c_Parent args K ?_
  unfold FParentC at ht
  unfold FParent
  split at ht
  · split at ht
    · rename_i x y M hp
      refine ⟨fun h => (by rw [hp] at h; rcases h with h | h <;> cases h), fun L h => ?_⟩
      rw [hp] at h; cases h
      exact fun _ => ⟨fun h => (by simp at h), ht⟩
    · exact ht.elim
  · exact ht.elim
noncomputable def Γv : Gam Try.prog := ⟨[ps 14 _ Try.func14 rfl (by kernel_rfl) c_Under], [gs 9 _ Try.func9 rfl (by kernel_rfl) c_SplitC, gs 11 _ Try.func11 rfl (by kernel_rfl) c_ParentC]⟩
def trLive (args : List SV) (K : SV → Prop) : Prop :=
  match args with
  | [] => K (.c (.bool true))
  | _ => False
theorem c_live : Sound 8 trLive := by
  refine snd (Γ := Γv) (O := O8) Try.func8 rfl (by kernel_rfl) fun args K h => ?_
  unfold trLive at h
  split at h
  · have ha : ∀ f : Nat → List SV, f 0 = [.c (.string ⟨#[97]⟩)] → strs (.rs 1 1 f) [⟨#[97]⟩] := fun f hf => strs_of rfl (fun i hi => by
      have : i = 0 := by simp at hi; omega
      subst this; exact hf) (by simp)
    have hab : ∀ f : Nat → List SV, f 0 = [.c (.string ⟨#[97]⟩)] → f 1 = [.c (.string ⟨#[98]⟩)] → strs (.rs 1 2 f) [⟨#[97]⟩, ⟨#[98]⟩] := fun f hf hg => strs_of rfl (fun i hi => by
      rcases (by simp at hi; omega : i = 0 ∨ i = 1) with rfl | rfl
      · exact hf
      · exact hg) (by simp)
    have u1 : underL [ByteArray.mk #[97]] [ByteArray.mk #[97], ByteArray.mk #[98]] = true := by unfold underL; simp
    have u2 : underL [ByteArray.mk #[97]] [ByteArray.mk #[97]] = false := by unfold underL; simp
    refine ⟨rfl, H0, kcast (A := ((0 : Int) ≤ 1 ∧ (1 : Int) < ((1 + 1 : Nat) : Int)) ∧ (1 : Int) < ((1 + 1 : Nat) : Int) ∧ (1 : Nat) ≤ 1 ∧ (2 : Nat) ≤ 2 ∧ ∃ L M,
      strs (.rs 1 1 fun i => [[SV.c (.string ⟨#[97]⟩)]].getD i []) L ∧ strs (.rs 1 2 fun i => [[SV.c (.string ⟨#[97]⟩)], [SV.c (.string ⟨#[98]⟩)]].getD i []) M ∧
      brk (underL L M) ((1 : Nat) ≤ 1 ∧ (1 : Nat) ≤ 1 ∧ ∃ L M, strs (.rs 1 1 fun i => [[SV.c (.string ⟨#[97]⟩)]].getD i []) L ∧ strs (.rs 1 1 fun i => [[SV.c (.string ⟨#[97]⟩)]].getD i []) M ∧ K (.c (.bool (!underL L M)))) (K (.c (.bool false)))) (by kernel_rfl) ?_⟩
    refine ⟨⟨by omega, by omega⟩, by omega, Nat.le_refl _, Nat.le_refl _, _, _, ha _ rfl, hab _ rfl rfl, brkT u1 ⟨Nat.le_refl _, Nat.le_refl _, _, _, ha _ rfl, ha _ rfl, ?_⟩⟩
    rw [u2]; exact h
  · exact h.elim
end Go.Proofs.Ytjiamfajgllelaa
