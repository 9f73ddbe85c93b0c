/-
  PathX: the walks of the laws on split paths.
-/
import Derived.Test.YtjiamfajgllelaaPathW
namespace Go.Proofs.Ytjiamfajgllelaa
open Go Go.RowKit Sy
set_option maxRecDepth 100000
theorem c_PathBack : Sound 6 trLs := by
  refine sndA (Γ := Γw) (O := O6) Try.func6 rfl (by kernel_rfl) fun args K h => ?_
  unfold trLs at h
  split at h
  · rename_i s y
    obtain ⟨⟨M, hM⟩, hs, hk⟩ := h
    refine ⟨[.c (.string s), rsS M], ⟨rfl, sleL1 hM trivial⟩, rfl, H0, kcast (A := brk (decide ((↑s.size : Int) > (100000 : Int)))
  (K (SV.c (Value.bool true)))
  (brk (decide ((↑M.length : Int) > (1000 : Int)))
    (K (SV.c (Value.bool true)))
    (((parse s = none) →
    ∃ L : List ByteArray,
    strs (SV.rs (1 : Nat) M.length (encS M)) L ∧
    brk (joinE (unparse L) != (0 : Int))
      (K (SV.c (Value.bool true)))
      (((parse ((unparse L).getD (ByteArray.mk #[])) = none) →
      K (SV.c (Value.bool false))) ∧
      ∀ (L_1 : List ByteArray),
      ((parse ((unparse L).getD (ByteArray.mk #[])) = some L_1) →
      ((L_1 = []) →
      ∃ L_2 : List ByteArray,
      ∃ M_1 : List ByteArray,
      strs (SV.c (Value.slice none (0 : Nat) (0 : Nat))) L_2 ∧
      strs (SV.rs (1 : Nat) M.length (encS M)) M_1 ∧
      K (SV.c (Value.bool (decide (L_2 = M_1))))) ∧
      ((L_1 ≠ []) →
      L_1.length ≤ L_1.length ∧
      ∃ L_2 : List ByteArray,
      ∃ M_1 : List ByteArray,
      strs (SV.rs (1 : Nat) L_1.length (encS L_1)) L_2 ∧
      strs (SV.rs (1 : Nat) M.length (encS M)) M_1 ∧
      K (SV.c (Value.bool (decide (L_2 = M_1)))))))) ∧
    ∀ (L : List ByteArray),
    ((parse s = some L) →
    ((L = []) →
    ∃ L_1 : List ByteArray,
    strs (SV.c (Value.slice none (0 : Nat) (0 : Nat))) L_1 ∧
    brk (joinE (unparse L_1) != (0 : Int))
      (K (SV.c (Value.bool false)))
      (brk (!((unparse L_1).getD (ByteArray.mk #[])).toList == s.toList)
        (K (SV.c (Value.bool false)))
        (∃ L_2 : List ByteArray,
        strs (SV.rs (1 : Nat) M.length (encS M)) L_2 ∧
        brk (joinE (unparse L_2) != (0 : Int))
          (K (SV.c (Value.bool true)))
          (((parse ((unparse L_2).getD (ByteArray.mk #[])) = none) →
          K (SV.c (Value.bool false))) ∧
          ∀ (L_3 : List ByteArray),
          ((parse ((unparse L_2).getD (ByteArray.mk #[])) = some L_3) →
          ((L_3 = []) →
          ∃ L_4 : List ByteArray,
          ∃ M_1 : List ByteArray,
          strs (SV.c (Value.slice none (0 : Nat) (0 : Nat))) L_4 ∧
          strs (SV.rs (1 : Nat) M.length (encS M)) M_1 ∧
          K (SV.c (Value.bool (decide (L_4 = M_1))))) ∧
          ((L_3 ≠ []) →
          L_3.length ≤ L_3.length ∧
          ∃ L_4 : List ByteArray,
          ∃ M_1 : List ByteArray,
          strs (SV.rs (1 : Nat) L_3.length (encS L_3)) L_4 ∧
          strs (SV.rs (1 : Nat) M.length (encS M)) M_1 ∧
          K (SV.c (Value.bool (decide (L_4 = M_1)))))))))) ∧
    ((L ≠ []) →
    L.length ≤ L.length ∧
    ∃ L_1 : List ByteArray,
    strs (SV.rs (1 : Nat) L.length (encS L)) L_1 ∧
    brk (joinE (unparse L_1) != (0 : Int))
      (K (SV.c (Value.bool false)))
      (brk (!((unparse L_1).getD (ByteArray.mk #[])).toList == s.toList)
        (K (SV.c (Value.bool false)))
        (∃ L_2 : List ByteArray,
        strs (SV.rs (1 : Nat) M.length (encS M)) L_2 ∧
        brk (joinE (unparse L_2) != (0 : Int))
          (K (SV.c (Value.bool true)))
          (((parse ((unparse L_2).getD (ByteArray.mk #[])) = none) →
          K (SV.c (Value.bool false))) ∧
          ∀ (L_3 : List ByteArray),
          ((parse ((unparse L_2).getD (ByteArray.mk #[])) = some L_3) →
          ((L_3 = []) →
          ∃ L_4 : List ByteArray,
          ∃ M_1 : List ByteArray,
          strs (SV.c (Value.slice none (0 : Nat) (0 : Nat))) L_4 ∧
          strs (SV.rs (1 : Nat) M.length (encS M)) M_1 ∧
          K (SV.c (Value.bool (decide (L_4 = M_1))))) ∧
          ((L_3 ≠ []) →
          L_3.length ≤ L_3.length ∧
          ∃ L_4 : List ByteArray,
          ∃ M_1 : List ByteArray,
          strs (SV.rs (1 : Nat) L_3.length (encS L_3)) L_4 ∧
          strs (SV.rs (1 : Nat) M.length (encS M)) M_1 ∧
          K (SV.c (Value.bool (decide (L_4 = M_1)))))))))))))) (by kernel_rfl) ?_⟩
    have sM := strs_self M hM.2
    have nil_ : strs (.c (.slice none 0 0)) [] := ⟨rfl, by simp⟩
    have Q : brk (joinE (unparse M) != 0) (K (SV.c (Value.bool true)))
        ((parse ((unparse M).getD { data := #[] }) = none → K (SV.c (Value.bool false))) ∧
          ∀ (L : List ByteArray),
            parse ((unparse M).getD { data := #[] }) = some L →
              (L = [] → ∃ L_2 M_1, strs (SV.c (Value.slice none 0 0)) L_2 ∧ strs (SV.rs 1 M.length (encS M)) M_1 ∧ K (SV.c (Value.bool (decide (L_2 = M_1))))) ∧
              (L ≠ [] → L.length ≤ L.length ∧ ∃ L_2 M_1, strs (SV.rs 1 L.length (encS L)) L_2 ∧ strs (SV.rs 1 M.length (encS M)) M_1 ∧ K (SV.c (Value.bool (decide (L_2 = M_1)))))) := by
      refine brkI (fun _ => hk) (fun h1 => ?_)
      cases hu : unparse M with
      | none => rw [hu] at h1; cases h1
      | some t =>
        have hp := unparse_parse hu
        simp only [Option.getD_some]
        refine ⟨fun h => (by rw [hp] at h; cases h), fun L h => ?_⟩
        rw [hp] at h; cases h
        refine ⟨fun e => ⟨[], M, nil_, sM, ?_⟩, fun _ => ⟨Nat.le_refl _, M, M, sM, sM, ?_⟩⟩
        · subst e; exact hk
        · rw [decide_eq_true rfl]; exact hk
    refine brkI (fun _ => hk) (fun _ => brkI (fun _ => hk) (fun _ => ⟨fun _ => ⟨M, sM, Q⟩, fun L hp => ?_⟩))
    have hu := parse_unparse hp
    have e1 : (joinE (unparse L) != 0) = false := by rw [hu]; rfl
    have e2 : (!((unparse L).getD { data := #[] }).toList == s.toList) = false := by rw [hu]; simp
    have sL := strs_self L (by have := parse_len hp; omega)
    refine ⟨fun e => ⟨[], nil_, ?_⟩, fun _ => ⟨Nat.le_refl _, L, sL, brkF e1 (brkF e2 ⟨M, sM, Q⟩)⟩⟩
    subst e
    exact brkF e1 (brkF e2 ⟨M, sM, Q⟩)
  · exact h.elim
theorem c_PathParents : Sound 7 trS := by
  refine sndA (Γ := Γw) (O := O7) Try.func7 rfl (by kernel_rfl) fun args K h => ?_
  unfold trS at h
  split at h
  · rename_i s
    obtain ⟨hs, hk⟩ := h
    refine ⟨[.c (.string s)], ⟨rfl, trivial⟩, rfl, H0, kcast (A := brk (decide ((↑s.size : Int) > (100000 : Int)))
  (K (SV.c (Value.bool true)))
  (((parse s = none) →
  ((parse s = none ∨ parse s = some []) →
  K (SV.c (Value.bool ((ByteArray.mk #[]).toList == (ByteArray.mk #[]).toList)))) ∧
  ∀ (L : List ByteArray),
  ((parse s = some L) →
  ((L ≠ []) →
  ((List.take (L.length - (1 : Nat)) L = []) →
  K (SV.c (Value.bool false))) ∧
  K (SV.c (Value.bool false))))) ∧
  ∀ (L : List ByteArray),
  ((parse s = some L) →
  ((L = []) →
  ((parse s = none ∨ parse s = some []) →
  K (SV.c (Value.bool ((ByteArray.mk #[]).toList == (ByteArray.mk #[]).toList)))) ∧
  ∀ (L_1 : List ByteArray),
  ((parse s = some L_1) →
  ((L_1 ≠ []) →
  ((List.take (L_1.length - (1 : Nat)) L_1 = []) →
  K (SV.c (Value.bool false))) ∧
  K (SV.c (Value.bool false))))) ∧
  ((L ≠ []) →
  ((parse s = none ∨ parse s = some []) →
  brk ((↑L.length : Int) == (0 : Int))
    (K (SV.c (Value.bool ((ByteArray.mk #[]).toList == (ByteArray.mk #[]).toList))))
    ((0 : Nat) * (16 : Nat) ≤ (140737488355328 : Nat) ∧
    (0 : Nat) ≤ (0 : Nat) ∧
    (1 : Nat) ≤ (1 : Nat) ∧
    (1 : Nat) * (16 : Nat) ≤ (140737488355328 : Nat) ∧
    (1 : Nat) ≤ (1 : Nat) ∧
    ∃ L_1 : List ByteArray,
    strs
  (SV.rs (1 : Nat) (1 : Nat) fun i =>
    ((List.replicate (1 : Nat) [SV.c (Value.string (ByteArray.mk #[]))]).set ((0 : Nat), Operand.tmp (51 : Nat)).fst
          [SV.c (Value.string (ByteArray.mk #[]))]).getD
      i [])
  L_1 ∧
    K (SV.c (Value.bool false)))) ∧
  ∀ (L_1 : List ByteArray),
  ((parse s = some L_1) →
  ((L_1 ≠ []) →
  ((List.take (L_1.length - (1 : Nat)) L_1 = []) →
  brk ((↑L.length : Int) == (0 : Int))
    (K (SV.c (Value.bool false)))
    ((0 : Nat) * (16 : Nat) ≤ (140737488355328 : Nat) ∧
    (0 : Nat) ≤ (0 : Nat) ∧
    (1 : Nat) ≤ (1 : Nat) ∧
    (1 : Nat) * (16 : Nat) ≤ (140737488355328 : Nat) ∧
    (1 : Nat) ≤ (1 : Nat) ∧
    ∃ L_2 : List ByteArray,
    strs
  (SV.rs (1 : Nat) (1 : Nat) fun i =>
    ((List.replicate (1 : Nat) [SV.c (Value.string (ByteArray.mk #[]))]).set ((0 : Nat), Operand.tmp (51 : Nat)).fst
          [SV.c (Value.string (L_1.getD (L_1.length - (1 : Nat)) ByteArray.empty))]).getD
      i [])
  L_2 ∧
    brk (joinE (unparse L_2) == (0 : Int))
      (brk (((unparse L_2).getD (ByteArray.mk #[])).toList == s.toList)
        (L.length ≤ L.length ∧
        ∃ L_3 : List ByteArray,
        ∃ M : List ByteArray,
        strs (SV.c (Value.slice none (0 : Nat) (0 : Nat))) L_3 ∧
        strs (SV.rs (1 : Nat) L.length (encS L)) M ∧
        brk (underL L_3 M)
          (K (SV.c (Value.bool ((↑L.length : Int) == IntKind.i64.wrap ((0 : Int) + (1 : Int))))))
          (K (SV.c (Value.bool false))))
        (K (SV.c (Value.bool false))))
      (K (SV.c (Value.bool false))))) ∧
  brk ((↑L.length : Int) == (0 : Int))
    (K (SV.c (Value.bool false)))
    ((List.take (L_1.length - (1 : Nat)) L_1).length ≤ (List.take (L_1.length - (1 : Nat)) L_1).length ∧
    (List.take (L_1.length - (1 : Nat)) L_1).length * (16 : Nat) ≤ (140737488355328 : Nat) ∧
    (List.take (L_1.length - (1 : Nat)) L_1).length ≤ (List.take (L_1.length - (1 : Nat)) L_1).length ∧
    (1 : Nat) ≤ (1 : Nat) ∧
    addZ (List.take (L_1.length - (1 : Nat)) L_1).length (1 : Nat) * (16 : Nat) ≤ (140737488355328 : Nat) ∧
    addZ (List.take (L_1.length - (1 : Nat)) L_1).length (1 : Nat) ≤
  addZ (List.take (L_1.length - (1 : Nat)) L_1).length (1 : Nat) ∧
    ∃ L_2 : List ByteArray,
    strs
  (SV.rs (1 : Nat) (addZ (List.take (L_1.length - (1 : Nat)) L_1).length (1 : Nat))
    (catF (List.take (L_1.length - (1 : Nat)) L_1).length (encS (List.take (L_1.length - (1 : Nat)) L_1)) fun i =>
      ((List.replicate (1 : Nat) [SV.c (Value.string (ByteArray.mk #[]))]).set ((0 : Nat), Operand.tmp (51 : Nat)).fst
            [SV.c (Value.string (L_1.getD (L_1.length - (1 : Nat)) ByteArray.empty))]).getD
        i []))
  L_2 ∧
    brk (joinE (unparse L_2) == (0 : Int))
      (brk (((unparse L_2).getD (ByteArray.mk #[])).toList == s.toList)
        ((List.take (L_1.length - (1 : Nat)) L_1).length ≤ (List.take (L_1.length - (1 : Nat)) L_1).length ∧
        L.length ≤ L.length ∧
        ∃ L_3 : List ByteArray,
        ∃ M : List ByteArray,
        strs (SV.rs (1 : Nat) (List.take (L_1.length - (1 : Nat)) L_1).length (encS (List.take (L_1.length - (1 : Nat)) L_1)))
  L_3 ∧
        strs (SV.rs (1 : Nat) L.length (encS L)) M ∧
        brk (underL L_3 M)
          (K
  (SV.c
    (Value.bool
      ((↑L.length : Int) == IntKind.i64.wrap ((↑(List.take (L_1.length - (1 : Nat)) L_1).length : Int) + (1 : Int))))))
          (K (SV.c (Value.bool false))))
        (K (SV.c (Value.bool false))))
      (K (SV.c (Value.bool false)))))))))) (by kernel_rfl) ?_⟩
    have hk2 : K (SV.c (Value.bool ({ data := #[] : ByteArray }.toList == { data := #[] : ByteArray }.toList))) := by rw [beq_self_eq_true]; exact hk
    have nil_ : strs (.c (.slice none 0 0)) [] := ⟨rfl, by simp⟩
    refine brkI (fun _ => hk) (fun _ => ⟨fun hp => ⟨fun _ => hk2, fun L h => (by rw [hp] at h; cases h)⟩, fun L hp => ⟨fun e => ⟨fun _ => hk2, fun M h hM => ?_⟩, fun hL => ⟨fun h => ?_, fun M h hM => ?_⟩⟩⟩)
    · rw [hp, e] at h; cases h; exact absurd rfl hM
    · rw [hp] at h; rcases h with h | h
      · cases h
      · cases h; exact absurd rfl hL
    · rw [hp] at h; cases h
      have hu := parse_unparse hp
      have h6 := parse_len hp
      have h0 : L.length ≠ 0 := fun e => hL (List.eq_nil_of_length_eq_zero e)
      have h1 : ((L.length : Int) == 0) = false := by simpa using hL
      have e1 : (joinE (unparse L) == 0) = true := by rw [hu]; rfl
      have e2 : (((unparse L).getD { data := #[] }).toList == s.toList) = true := by rw [hu]; simp
      have sL := strs_self L (by omega)
      have sT := strs_self (L.take (L.length - 1)) (by simp; omega)
      have hT : L.take (L.length - 1) ++ [L.getD (L.length - 1) .empty] = L := by
        have := List.take_succ_eq_append_getElem (l := L) (i := L.length - 1) (by omega)
        rw [show L.length - 1 + 1 = L.length by omega, List.take_length] at this
        rw [List.getD_eq_getElem?_getD, List.getElem?_eq_getElem (by omega), Option.getD_some, ← this]
      have hlen : (L.take (L.length - 1)).length + 1 = L.length := by simp; omega
      have hun : underL (L.take (L.length - 1)) L = true := by
        unfold underL; rw [decide_eq_true (by omega), decide_eq_true]
        · rfl
        · rw [List.length_take, Nat.min_eq_left (by omega)]
      have hw : IntKind.i64.wrap (((L.take (L.length - 1)).length : Int) + 1) = (L.length : Int) := by
        rw [IntWalk.i64_in _ (by omega)]; omega
      generalize L.take (L.length - 1) = T at *
      generalize L.getD (L.length - 1) .empty = z at *
      have hcat := encS_cat T z (fun i => ((List.replicate 1 [SV.c (.string (ByteArray.mk #[]))]).set 0 [SV.c (.string z)]).getD i []) rfl
      rw [hT] at hcat
      refine ⟨fun hn => brkF h1 ⟨by omega, by omega, by omega, by omega, by omega, L, ?_, brkT e1 (brkT e2 ⟨by omega, [], L, nil_, sL, ?_⟩)⟩,
        brkF h1 ⟨by omega, by omega, by omega, by omega, by rw [addZ_eq]; omega, by omega, L, ?_, brkT e1 (brkT e2 ⟨by omega, by omega, T, L, sT, sL, brkT hun ?_⟩)⟩⟩
      · subst hn
        refine strs_of hlen (fun i hi => ?_) (by omega)
        have : i = 0 := by simp at hlen; omega
        subst this
        rw [← hT]; rfl
      · subst hn
        refine brkT hun ?_
        simp at hlen
        rw [← hlen]; exact hk
      · refine strs_of (by rw [addZ_eq]; exact hlen) (fun i hi => ?_) (by omega)
        exact hcat i (by omega)
      · rw [hw]; simpa using hk
  · exact h.elim
end Go.Proofs.Ytjiamfajgllelaa
