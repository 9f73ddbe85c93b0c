/-
  The law armoirelaw16.PathSplits answers true for every input, and leaves its arguments as they were. No condition.
-/
import Derived.Test.YtjiamfajgllelaaRows
import Derived.WalkKit
import Derived.ProofKit
import Derived.OpenShut
import Derived.Test.YtjiamfajgllelaaSyR
import Derived.Test.YtjiamfajgllelaaPathZ
namespace Go.Proofs.Ytjiamfajgllelaa
open Go Go.ChangeShapes Go.WideShapes Go.ChangeAt Go.RowKit Sy
set_option linter.unusedVariables false

theorem pathSplits_own : ownKnob Try.prog.godebug = none := by kernel_rfl

set_option maxRecDepth 100000 in
theorem pathSplits_lifted (os : Os) (started : os.Started) (H : Type) (enc : TypeId × Value → H) :
    ReturnsInHanded {} Try.checked os 3 .any (Rows.pathSplitsSpec.pre6 enc Try.prog Try.f3 Rows.pathSplitsRow.domain false) (Rows.pathSplitsSpec.post enc Try.prog Try.f3 false true false false) := by
  refine returnsInHanded_of_change (C := Try.checked) pathSplits_own started (by kernel_rfl) Try.func3
    (ChangeSpec.witness6 (enc := enc) (C := Try.checked) false ⟨#[], #[.string ⟨#[]⟩], []⟩ 8 (by kernel_rfl) (by kernel_rfl) (by kernel_rfl) (by kernel_rfl)) ?_
  intro W base args ds gs before hval0 hW hcnd _
  have hval : ∀ (j : Nat) t v, Try.f3.params[j]? = some t → args[j]? = some v → Value.okWide Try.prog W .any base t v := hval0
  have hW' := hW
  obtain ⟨p, q, hA0, hV, rfl, hfz, hnd⟩ := hW
  have hA : DataW.TrodAll enc Try.prog W 0 (fun _ => true) true Try.f3.params.toList args.toList ds p := hA0
  rw [Try.params3] at hA hval
  have hA1 := hA
  obtain ⟨v0, vs0, d0, ds0, p0, q0', hargs, rfl, rfl, h0, r0⟩ := trodAll_cons hA
  obtain ⟨rfl, rfl, rfl⟩ := trodAll_nil r0
  obtain rfl : args = #[v0] := by cases args; simp_all
  obtain ⟨rfl, rfl⟩ := trodVars_none hV
  obtain ⟨s0, rfl, rfl, rfl, w0⟩ := Go.ChangeMaps.open_string Try.underlying9 (hval 0 9 v0 rfl rfl) h0
  clear hA0 hval0
  have hlt := hW'.lt
  refine (c_PathSplits [.c (.string s0)] (fun r => r = .c (.bool true)) ⟨w0, rfl⟩ 0 (envAll W) [.string s0] W (.cons _ _ _ _ rfl (.c _) .nil) trivial (Nat.zero_le _) (fun _ _ h => h)).mono fun e W' he => ?_
  obtain ⟨r, v, R', rfl, rfl, hr, hb, _⟩ := he
  obtain rfl := hr.inv_c
  exact ⟨_, rfl, Sy.post_new (pv := []) hW' (fun _ _ _ => (trodAll_cons_mk (shut_bool Try.underlying4 _) trodAll_mk0)) (fun sp hsp => staysAll (by kernel_rfl) hb (by kernel_rfl) hA1 (fun x hx => hlt x (List.mem_append_left _ hx)) (fun x hx => hsp x (List.mem_append_left _ hx))) (fun _ _ => rfl) rfl
    hb (ok_one (by kernel_rfl) rfl (okWide_bool_mk Try.underlying4 _))⟩

theorem pathSplits_over : Rows.pathSplitsRow.holds Try.pinned (OpenSpec.ofChange Rows.pathSplitsSpec) :=
  OpenClaim.holds_of_wide 3 Try.f3 rfl rfl rfl rfl rfl rfl rfl ⟨rfl, rfl, rfl, rfl, rfl⟩ rfl rfl rfl rfl rfl (by kernel_rfl) Try.func3 (by kernel_rfl)
    (of_decide_eq_true (by kernel_rfl)) (by unfold Func.isWrapper; first | (rw [if_pos (by decide +kernel)]; kernel_rfl) | (rw [if_neg (by decide +kernel)]; exact ⟨rfl, rfl⟩))
    (fun os started H enc _ => pathSplits_lifted os started H enc)

theorem pathSplits_proved : Rows.PathSplitsSaid :=
  pathSplits_over
end Go.Proofs.Ytjiamfajgllelaa
