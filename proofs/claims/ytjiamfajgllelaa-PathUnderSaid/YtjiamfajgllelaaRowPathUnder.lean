/-
  The law armoirelaw16.PathUnder answers true for every input, and leaves its arguments as they were. No condition.
-/
import Derived.Test.YtjiamfajgllelaaRows
import Derived.WalkKit
import Derived.ProofKit
import Derived.OpenShut
import Derived.Test.YtjiamfajgllelaaSyR
import Derived.Test.YtjiamfajgllelaaPathW
namespace Go.Proofs.Ytjiamfajgllelaa
open Go Go.ChangeShapes Go.WideShapes Go.ChangeAt Go.RowKit Sy
set_option linter.unusedVariables false

theorem pathUnder_own : ownKnob Try.prog.godebug = none := by kernel_rfl

set_option maxRecDepth 100000 in
theorem pathUnder_lifted (os : Os) (started : os.Started) (H : Type) (enc : TypeId × Value → H) :
    ReturnsInHanded {} Try.checked os 4 .any (Rows.pathUnderSpec.pre6 enc Try.prog Try.f4 Rows.pathUnderRow.domain false) (Rows.pathUnderSpec.post enc Try.prog Try.f4 false true false false) := by
  refine returnsInHanded_of_change (C := Try.checked) pathUnder_own started (by kernel_rfl) Try.func4
    (ChangeSpec.witness6 (enc := enc) (C := Try.checked) false ⟨#[], #[.slice none 0 0, .slice none 0 0, .slice none 0 0], []⟩ 8 (by kernel_rfl) (by kernel_rfl) (by kernel_rfl) (by kernel_rfl)) ?_
  intro W base args ds gs before hval0 hW hcnd _
  have hval : ∀ (j : Nat) t v, Try.f4.params[j]? = some t → args[j]? = some v → Value.okWide Try.prog W .any base t v := hval0
  have hW' := hW
  obtain ⟨p, q, hA0, hV, rfl, hfz, hnd⟩ := hW
  have hA : DataW.TrodAll enc Try.prog W 0 (fun _ => true) true Try.f4.params.toList args.toList ds p := hA0
  rw [Try.params4] at hA hval
  have hA1 := hA
  obtain ⟨v0, vs0, d0, ds0, p0, q0', hargs, rfl, rfl, h0, r0⟩ := trodAll_cons hA
  obtain ⟨v1, vs1, d1, ds1, p1, q1', rfl, rfl, rfl, h1, r1⟩ := trodAll_cons r0
  obtain ⟨v2, vs2, d2, ds2, p2, q2', rfl, rfl, rfl, h2, r2⟩ := trodAll_cons r1
  obtain ⟨rfl, rfl, rfl⟩ := trodAll_nil r2
  obtain rfl : args = #[v0, v1, v2] := by cases args; simp_all
  obtain ⟨rfl, rfl⟩ := trodVars_none hV
  obtain ⟨L0, q0, l0, w0⟩ := open_strs Try.underlying23 Try.underlying9 (by kernel_rfl) (hval 0 23 v0 rfl rfl) h0
  obtain ⟨L1, q1, l1, w1⟩ := open_strs Try.underlying23 Try.underlying9 (by kernel_rfl) (hval 1 23 v1 rfl rfl) h1
  obtain ⟨L2, q2, l2, w2⟩ := open_strs Try.underlying23 Try.underlying9 (by kernel_rfl) (hval 2 23 v2 rfl rfl) h2
  clear hA0 hval0
  have hlt := hW'.lt
  refine (c_PathUnder [rsS L0, rsS L1, rsS L2] (fun r => r = .c (.bool true)) ⟨⟨L0, L1, L2, strs_self L0 l0, strs_self L1 l1, strs_self L2 l2⟩, rfl⟩ 0 (envAll W) [v0, v1, v2] W (.cons _ _ _ _ rfl q0 (.cons _ _ _ _ rfl q1 (.cons _ _ _ _ rfl q2 .nil))) trivial (Nat.zero_le _) (fun _ _ h => h)).mono fun e W' he => ?_
  obtain ⟨r, v, R', rfl, rfl, hr, hb, _⟩ := he
  obtain rfl := hr.inv_c
  exact ⟨_, rfl, Sy.post_new (pv := []) hW' (fun _ _ _ => (trodAll_cons_mk (shut_bool Try.underlying4 _) trodAll_mk0)) (fun sp hsp => staysAll (by kernel_rfl) hb (by kernel_rfl) hA1 (fun x hx => hlt x (List.mem_append_left _ hx)) (fun x hx => hsp x (List.mem_append_left _ hx))) (fun _ _ => rfl) rfl
    hb (ok_one (by kernel_rfl) rfl (okWide_bool_mk Try.underlying4 _))⟩

theorem pathUnder_over : Rows.pathUnderRow.holds Try.pinned (OpenSpec.ofChange Rows.pathUnderSpec) :=
  OpenClaim.holds_of_wide 4 Try.f4 rfl rfl rfl rfl rfl rfl rfl ⟨rfl, rfl, rfl, rfl, rfl⟩ rfl rfl rfl rfl rfl (by kernel_rfl) Try.func4 (by kernel_rfl)
    (of_decide_eq_true (by kernel_rfl)) (by unfold Func.isWrapper; first | (rw [if_pos (by decide +kernel)]; kernel_rfl) | (rw [if_neg (by decide +kernel)]; exact ⟨rfl, rfl⟩))
    (fun os started H enc _ => pathUnder_lifted os started H enc)

theorem pathUnder_proved : Rows.PathUnderSaid :=
  pathUnder_over
end Go.Proofs.Ytjiamfajgllelaa
