/-
  PathW: the walks of the laws on joined paths.
-/
import Derived.Test.YtjiamfajgllelaaPathL
namespace Go.Proofs.Ytjiamfajgllelaa
open Go Go.RowKit Sy
set_option maxRecDepth 100000

def trL3 (args : List SV) (K : SV → Prop) : Prop :=
  match args with
  | [x, y, z] => (∃ L M N, strs x L ∧ strs y M ∧ strs z N) ∧ K (.c (.bool true))
  | _ => False
def trL2 (args : List SV) (K : SV → Prop) : Prop :=
  match args with
  | [x, y] => (∃ L M, strs x L ∧ strs y M) ∧ K (.c (.bool true))
  | _ => False
def trLs (args : List SV) (K : SV → Prop) : Prop :=
  match args with
  | [.c (.string s), y] => (∃ M, strs y M) ∧ s.size ≤ 9223372036854775807 ∧ K (.c (.bool true))
  | _ => False
def trS (args : List SV) (K : SV → Prop) : Prop :=
  match args with
  | [.c (.string s)] => s.size ≤ 9223372036854775807 ∧ K (.c (.bool true))
  | _ => False
noncomputable def Γw : Gam Try.prog := ⟨[ps 8 _ Try.func8 rfl (by kernel_rfl) c_live, ps 14 _ Try.func14 rfl (by kernel_rfl) c_Under, ps 17 _ Try.func17 rfl (by kernel_rfl) c_rUnder,
  ps 15 _ Try.func15 rfl (by kernel_rfl) c_Join, ps 16 _ Try.func16 rfl (by kernel_rfl) c_rJoin, ps 13 _ Try.func13 rfl (by kernel_rfl) c_Same,
  ps 10 _ Try.func10 rfl (by kernel_rfl) c_rSplit, ps 12 _ Try.func12 rfl (by kernel_rfl) c_rParent], [gs 9 _ Try.func9 rfl (by kernel_rfl) c_Split, gs 11 _ Try.func11 rfl (by kernel_rfl) c_Parent]⟩

theorem c_PathUnder : Sound 4 trL3 := by
  refine sndA (Γ := Γw) (O := O4) Try.func4 rfl (by kernel_rfl) fun args K h => ?_
  unfold trL3 at h
  split at h
  · rename_i x y z
    obtain ⟨⟨L, M, N, hL, hM, hN⟩, hk⟩ := h
    refine ⟨[rsS L, rsS M, rsS N], sleL1 hL (sleL1 hM (sleL1 hN trivial)), rfl, H0, kcast (A := brk (decide (IntKind.i64.wrap (IntKind.i64.wrap ((↑L.length : Int) + (↑M.length : Int)) + (↑N.length : Int)) > (1000 : Int)))
  (K (SV.c (Value.bool true)))
  (∃ L_1 : List ByteArray,
  ∃ M_1 : List ByteArray,
  strs (SV.rs (1 : Nat) L.length (encS L)) L_1 ∧
  strs (SV.rs (1 : Nat) L.length (encS L)) M_1 ∧
  brk (!underL L_1 M_1)
    (∃ L_2 : List ByteArray,
    ∃ M_2 : List ByteArray,
    strs (SV.rs (1 : Nat) L.length (encS L)) L_2 ∧
    strs (SV.rs (1 : Nat) M.length (encS M)) M_2 ∧
    brk (!underL L_2 M_2)
      (∃ L_3 : List ByteArray,
      ∃ M_3 : List ByteArray,
      strs (SV.rs (1 : Nat) L.length (encS L)) L_3 ∧
      strs (SV.rs (1 : Nat) M.length (encS M)) M_3 ∧
      brk (!underL L_3 M_3)
        (K (SV.c (Value.bool true)))
        (∃ L_4 : List ByteArray,
        ∃ M_4 : List ByteArray,
        strs (SV.rs (1 : Nat) M.length (encS M)) L_4 ∧
        strs (SV.rs (1 : Nat) N.length (encS N)) M_4 ∧
        brk (!underL L_4 M_4)
          (K (SV.c (Value.bool true)))
          (∃ L_5 : List ByteArray,
          ∃ M_5 : List ByteArray,
          strs (SV.rs (1 : Nat) L.length (encS L)) L_5 ∧
          strs (SV.rs (1 : Nat) N.length (encS N)) M_5 ∧
          K (SV.c (Value.bool (underL L_5 M_5))))))
      (∃ L_3 : List ByteArray,
      ∃ M_3 : List ByteArray,
      strs (SV.rs (1 : Nat) M.length (encS M)) L_3 ∧
      strs (SV.rs (1 : Nat) L.length (encS L)) M_3 ∧
      brk (!underL L_3 M_3)
        (∃ L_4 : List ByteArray,
        ∃ M_4 : List ByteArray,
        strs (SV.rs (1 : Nat) L.length (encS L)) L_4 ∧
        strs (SV.rs (1 : Nat) M.length (encS M)) M_4 ∧
        brk (!underL L_4 M_4)
          (K (SV.c (Value.bool true)))
          (∃ L_5 : List ByteArray,
          ∃ M_5 : List ByteArray,
          strs (SV.rs (1 : Nat) M.length (encS M)) L_5 ∧
          strs (SV.rs (1 : Nat) N.length (encS N)) M_5 ∧
          brk (!underL L_5 M_5)
            (K (SV.c (Value.bool true)))
            (∃ L_6 : List ByteArray,
            ∃ M_6 : List ByteArray,
            strs (SV.rs (1 : Nat) L.length (encS L)) L_6 ∧
            strs (SV.rs (1 : Nat) N.length (encS N)) M_6 ∧
            K (SV.c (Value.bool (underL L_6 M_6))))))
        (K (SV.c (Value.bool false)))))
    (K (SV.c (Value.bool false))))) (by kernel_rfl) ?_⟩
    have sL := strs_self L hL.2
    have sM := strs_self M hM.2
    have sN := strs_self N hN.2
    have irr : ∀ A : List ByteArray, underL A A = false := fun A => by unfold underL; rw [decide_eq_false (by omega)]; rfl
    have len : ∀ A B : List ByteArray, underL A B = true → A.length < B.length ∧ A = B.take A.length := fun A B h => by
      unfold underL at h; simpa using h
    have tr : underL L M = true → underL M N = true → underL L N = true := fun h1 h2 => by
      obtain ⟨a1, a2⟩ := len _ _ h1
      obtain ⟨b1, b2⟩ := len _ _ h2
      unfold underL
      rw [decide_eq_true (by omega), decide_eq_true]
      · rfl
      · conv => lhs; rw [a2, b2]
        rw [List.take_take, Nat.min_eq_left (by omega)]
    refine brkI (fun _ => hk) (fun _ => ⟨L, L, sL, sL, brkT (by rw [irr]; rfl) ⟨L, M, sL, sM, brkI (fun h1 => ?_) (fun h1 => ⟨M, L, sM, sL, brkT ?_ ⟨L, M, sL, sM, brkF h1 ⟨M, N, sM, sN, brkI (fun _ => hk) (fun h2 => ⟨L, N, sL, sN, ?_⟩)⟩⟩⟩)⟩⟩)
    · exact ⟨L, M, sL, sM, brkT h1 hk⟩
    · have h1 : underL L M = true := by simpa using h1
      have := (len _ _ h1).1
      have : underL M L = false := by unfold underL; rw [decide_eq_false (by omega)]; rfl
      rw [this]; rfl
    · have h1 : underL L M = true := by simpa using h1
      have h2 : underL M N = true := by simpa using h2
      rw [tr h1 h2]; exact hk
  · exact h.elim
theorem c_PathJoins : Sound 5 trL2 := by
  refine sndA (Γ := Γw) (O := O5) Try.func5 rfl (by kernel_rfl) fun args K h => ?_
  unfold trL2 at h
  split at h
  · rename_i x y
    obtain ⟨⟨L, M, hL, hM⟩, hk⟩ := h
    refine ⟨[rsS L, rsS M], sleL1 hL (sleL1 hM trivial), rfl, H0, kcast (A := brk (decide (IntKind.i64.wrap ((↑L.length : Int) + (↑M.length : Int)) > (1000 : Int)))
  (K (SV.c (Value.bool true)))
  (∃ L_1 : List ByteArray,
  strs (SV.rs (1 : Nat) L.length (encS L)) L_1 ∧
  ∃ L_2 : List ByteArray,
  strs (SV.rs (1 : Nat) L.length (encS L)) L_2 ∧
  brk (((unparse L_1).getD (ByteArray.mk #[])).toList == ((unparse L_2).getD (ByteArray.mk #[])).toList)
    (brk (joinE (unparse L_1) == joinE (unparse L_2))
      (∃ L_3 : List ByteArray,
      ∃ M_1 : List ByteArray,
      strs (SV.rs (1 : Nat) L.length (encS L)) L_3 ∧
      strs (SV.rs (1 : Nat) M.length (encS M)) M_1 ∧
      ∃ L_4 : List ByteArray,
      ∃ M_2 : List ByteArray,
      strs (SV.rs (1 : Nat) L.length (encS L)) L_4 ∧
      strs (SV.rs (1 : Nat) M.length (encS M)) M_2 ∧
      K (SV.c (Value.bool (underL L_3 M_1 == underL L_4 M_2))))
      (K (SV.c (Value.bool false))))
    (K (SV.c (Value.bool false))))) (by kernel_rfl) ?_⟩
    have sL := strs_self L hL.2
    have sM := strs_self M hM.2
    exact brkI (fun _ => hk) (fun _ => ⟨L, sL, L, sL, brkT (by simp) (brkT (by simp) ⟨L, M, sL, sM, L, M, sL, sM, by simpa using hk⟩)⟩)
  · exact h.elim
end Go.Proofs.Ytjiamfajgllelaa
