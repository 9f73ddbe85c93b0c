/-
  The law armoirelaw12.PatchWrites answers true for every input, and leaves its arguments as they were. No condition but the table, which the card ties.
-/
import Derived.Test.YtlobbcodnkfbiaaDoorPatchW
import Derived.Test.YtlobbcodnkfbiaaDoorPatchH
namespace Go.Proofs.YtlobbcodnkfbiaaDoor
open Go Go.ChangeShapes Go.WideShapes Go.ChangeAt Go.RowKit Sx

set_option maxRecDepth 100000 in
theorem patchWrites_lifted (os : Os) (started : os.Started) (H : Type) (enc : TypeId × Value → H) :
    ReturnsInHanded {} Tryd.checked os 4 .any (fun w args => (Rows.patchWritesSpec.pre enc Tryd.prog Tryd.f4 Rows.patchWritesRow.domain false w args ∧ laidMetH Tryd.prog Rows.patchWritesRow.laid w) ∧ sizedMet enc Tryd.prog Tryd.f4 (OpenSpec.ofChange Rows.patchWritesSpec) false w args)
      (Rows.patchWritesSpec.post enc Tryd.prog Tryd.f4 false true false false) := by
  refine returnsInHanded_of_change_and (C := Tryd.checked) (X := fun w _ => laidMetH Tryd.prog Rows.patchWritesRow.laid w) (fun _ _ _ hh h => h.of_heap hh) patch_own started (by kernel_rfl) Tryd.func4
    (ChangeSpec.witness_shaped (enc := enc) (C := Tryd.checked) (os := os) (X := fun w _ => laidMetH Tryd.prog Rows.patchWritesRow.laid w) false (World.laidAll Tryd.prog os Rows.patchWritesRow.laid) #[.agg (Array.replicate 32 (.int .u8 0)), .int .i64 0, .string ⟨#[]⟩] 8 (World.laidAll_os _ _ _)
      (World.shaped_of_ZipB (by kernel_rfl) (by kernel_rfl)) (by kernel_rfl) (by kernel_rfl) (by kernel_rfl)
      (by rw [MakeChecks.laidMetH_plain _ _ _ (by kernel_rfl)]; exact laidMet_laidAll _ (by kernel_rfl) (by kernel_rfl))) ?_
  intro W base args ds gs before hval0 hW hc _ hL _
  have hval : ∀ (j : Nat) t v, Tryd.f4.params[j]? = some t → args[j]? = some v → Value.okWide Tryd.prog W .any base t v := hval0
  have hW' := hW
  obtain ⟨p, q, hA0, hV, rfl, _, _⟩ := hW
  have hA : DataW.TrodAll enc Tryd.prog W 0 (fun _ => true) true Tryd.f4.params.toList args.toList ds p := hA0
  rw [Tryd.params4] at hA hval
  obtain ⟨v0, vs0, d0, ds0, p0, q0, hargs, rfl, rfl, h0, r0⟩ := trodAll_cons hA
  obtain ⟨v1, vs1, d1, ds1, p1, q1, rfl, rfl, rfl, h1, r1⟩ := trodAll_cons r0
  obtain ⟨v2, vs2, d2, ds2, p2, q2, rfl, rfl, rfl, h2, r2⟩ := trodAll_cons r1
  obtain ⟨rfl, rfl, rfl⟩ := trodAll_nil r2
  obtain rfl : args = #[v0, v1, v2] := by cases args; simp_all
  obtain ⟨rfl, rfl⟩ := trodVars_none hV
  obtain ⟨xs0, l0, rfl⟩ := open24 (hval 0 24 v0 rfl rfl)
  obtain ⟨x1, k1, rfl⟩ := open3 (hval 1 3 v1 rfl rfl)
  obtain ⟨s2, rfl⟩ := okWide_string Tryd.underlying9 (hval 2 9 v2 rfl rfl)
  have hg : GP W := table_GP hL
  refine (c4 [.agg [.row .u8 32 xs0], .c (.int .i64 x1), .c (.string s2)] (fun r => r = .c (.bool true)) ⟨⟨rfl, l0, k1⟩, rfl⟩ 0 id _ W (.cons _ _ _ _ rfl (rel24 l0) (.cons _ _ _ _ rfl (.c _) (.cons _ _ _ _ rfl (.c _) .nil))) hg (GP_ng hg)).mono fun e W' he => ?_
  obtain ⟨r, v, rfl, rfl, hr, hb⟩ := he
  obtain rfl := (hr 0 id).inv_c
  have hlt := hW'.lt
  exact ⟨_, rfl, Sx.post_new (pa := (p0 ++ (p1 ++ (p2 ++ [])))) (pv := []) hW' (fun _ _ _ => (trodAll_cons_mk (shut_bool Tryd.underlying4 _) trodAll_mk0)) (fun sp hsp => (trodAll_cons_mk (stays24 h0 hb (fun x hx => hlt x (by simp [hx])) (fun x hx => hsp x (by simp [hx]))) (trodAll_cons_mk (stays3 h1 hb (fun x hx => hlt x (by simp [hx])) (fun x hx => hsp x (by simp [hx]))) (trodAll_cons_mk (stays9 h2 hb (fun x hx => hlt x (by simp [hx])) (fun x hx => hsp x (by simp [hx]))) trodAll_mk0)))) (fun _ _ => rfl) rfl
    hb (ok_one (by kernel_rfl) rfl (okWide_bool_mk Tryd.underlying4 _))⟩

theorem patchWrites_over : Rows.PatchWritesSaid :=
  OpenClaim.holds_of_wide 4 Tryd.f4 rfl rfl rfl rfl rfl rfl rfl ⟨rfl, rfl, rfl, rfl, rfl⟩ rfl rfl rfl rfl rfl (by kernel_rfl) Tryd.func4 (by kernel_rfl)
    (of_decide_eq_true (by kernel_rfl)) (by unfold Func.isWrapper; first | (rw [if_pos (by decide +kernel)]; kernel_rfl) | (rw [if_neg (by decide +kernel)]; exact ⟨rfl, rfl⟩))
    (fun os started H enc _ => patchWrites_lifted os started H enc)

theorem patchWrites_proved : Rows.PatchWritesCardSaid :=
  Claim7.holds_tied_plain_at .later [] [.data] true Rows.patchWritesCard.stood.harness false patchWrites_over (fun _ h => by cases h) (by kernel_rfl) (fun _ h => by cases h) patchWrites_row_tie rfl ⟨rfl, rfl⟩ (by kernel_rfl) rfl
    (fun f fn hf hfn => by
      obtain rfl : f = 4 := Option.some.inj ((show Tryd.prog.funcNamed "armoire/armoirelaw12.PatchWrites" = some 4 by kernel_rfl).symm.trans hf) |>.symm
      obtain rfl : fn = Tryd.f4 := (Option.some.inj (Tryd.func4.symm.trans hfn)).symm
      exact ⟨by kernel_rfl, fun j t ht => by
        rw [Tryd.params4] at ht
        have hm : t ∈ [3, 9, 24] := by have := Array.mem_of_getElem? ht; simp at this ⊢; first | omega | (rcases this with h | h | h <;> simp [h])
        have hall : ([3, 9, 24].all fun u => !Tryd.prog.wantsStandIn u) = true := by kernel_rfl
        exact (show Tryd.prog.wantsStandIn t = false by simpa using List.all_eq_true.1 hall t hm)⟩)
    (by kernel_rfl)
end Go.Proofs.YtlobbcodnkfbiaaDoor
