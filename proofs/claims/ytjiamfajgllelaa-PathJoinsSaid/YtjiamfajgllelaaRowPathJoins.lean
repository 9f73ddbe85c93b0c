/-
  The law armoirelaw16.PathJoins answers true for every input, and leaves its arguments as they were. No condition.
-/
import Derived.Test.YtjiamfajgllelaaRows
import Derived.WalkKit
import Derived.ProofKit
import Derived.OpenShut
import Derived.Test.YtjiamfajgllelaaSyR
import Derived.Test.YtjiamfajgllelaaPathW
namespace Go.Proofs.Ytjiamfajgllelaa
open Go Go.ChangeShapes Go.WideShapes Go.ChangeAt Go.RowKit Sy
set_option linter.unusedVariables false

theorem pathJoins_own : ownKnob Try.prog.godebug = none := by kernel_rfl

set_option maxRecDepth 100000 in
theorem pathJoins_lifted (os : Os) (started : os.Started) (H : Type) (enc : TypeId × Value → H) :
    ReturnsInHanded {} Try.checked os 5 .any (Rows.pathJoinsSpec.pre6 enc Try.prog Try.f5 Rows.pathJoinsRow.domain false) (Rows.pathJoinsSpec.post enc Try.prog Try.f5 false true false false) := by
  refine returnsInHanded_of_change (C := Try.checked) pathJoins_own started (by kernel_rfl) Try.func5
    (ChangeSpec.witness6 (enc := enc) (C := Try.checked) false ⟨#[], #[.slice none 0 0, .slice none 0 0], []⟩ 8 (by kernel_rfl) (by kernel_rfl) (by kernel_rfl) (by kernel_rfl)) ?_
  intro W base args ds gs before hval0 hW hcnd _
  have hval : ∀ (j : Nat) t v, Try.f5.params[j]? = some t → args[j]? = some v → Value.okWide Try.prog W .any base t v := hval0
  have hW' := hW
  obtain ⟨p, q, hA0, hV, rfl, hfz, hnd⟩ := hW
  have hA : DataW.TrodAll enc Try.prog W 0 (fun _ => true) true Try.f5.params.toList args.toList ds p := hA0
  rw [Try.params5] at hA hval
  have hA1 := hA
  obtain ⟨v0, vs0, d0, ds0, p0, q0', hargs, rfl, rfl, h0, r0⟩ := trodAll_cons hA
  obtain ⟨v1, vs1, d1, ds1, p1, q1', rfl, rfl, rfl, h1, r1⟩ := trodAll_cons r0
  obtain ⟨rfl, rfl, rfl⟩ := trodAll_nil r1
  obtain rfl : args = #[v0, v1] := by cases args; simp_all
  obtain ⟨rfl, rfl⟩ := trodVars_none hV
  obtain ⟨L0, q0, l0, w0⟩ := open_strs Try.underlying23 Try.underlying9 (by kernel_rfl) (hval 0 23 v0 rfl rfl) h0
  obtain ⟨L1, q1, l1, w1⟩ := open_strs Try.underlying23 Try.underlying9 (by kernel_rfl) (hval 1 23 v1 rfl rfl) h1
  clear hA0 hval0
  have hlt := hW'.lt
  refine (c_PathJoins [rsS L0, rsS L1] (fun r => r = .c (.bool true)) ⟨⟨L0, L1, strs_self L0 l0, strs_self L1 l1⟩, rfl⟩ 0 (envAll W) [v0, v1] W (.cons _ _ _ _ rfl q0 (.cons _ _ _ _ rfl q1 .nil)) trivial (Nat.zero_le _) (fun _ _ h => h)).mono fun e W' he => ?_
  obtain ⟨r, v, R', rfl, rfl, hr, hb, _⟩ := he
  obtain rfl := hr.inv_c
  exact ⟨_, rfl, Sy.post_new (pv := []) hW' (fun _ _ _ => (trodAll_cons_mk (shut_bool Try.underlying4 _) trodAll_mk0)) (fun sp hsp => staysAll (by kernel_rfl) hb (by kernel_rfl) hA1 (fun x hx => hlt x (List.mem_append_left _ hx)) (fun x hx => hsp x (List.mem_append_left _ hx))) (fun _ _ => rfl) rfl
    hb (ok_one (by kernel_rfl) rfl (okWide_bool_mk Try.underlying4 _))⟩

theorem pathJoins_over : Rows.pathJoinsRow.holds Try.pinned (OpenSpec.ofChange Rows.pathJoinsSpec) :=
  OpenClaim.holds_of_wide 5 Try.f5 rfl rfl rfl rfl rfl rfl rfl ⟨rfl, rfl, rfl, rfl, rfl⟩ rfl rfl rfl rfl rfl (by kernel_rfl) Try.func5 (by kernel_rfl)
    (of_decide_eq_true (by kernel_rfl)) (by unfold Func.isWrapper; first | (rw [if_pos (by decide +kernel)]; kernel_rfl) | (rw [if_neg (by decide +kernel)]; exact ⟨rfl, rfl⟩))
    (fun os started H enc _ => pathJoins_lifted os started H enc)

theorem pathJoins_proved : Rows.PathJoinsSaid :=
  pathJoins_over
end Go.Proofs.Ytjiamfajgllelaa
