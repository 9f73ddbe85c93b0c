/-
  SxB: contracts of functions that change nothing that is there, from their bodies.
-/
import Derived.Test.YtlobbcodnkfbiaaDoorSxA
namespace Go.Proofs.YtlobbcodnkfbiaaDoor.Sx
open Go Go.RowKit

section
variable {P : Program} {Γ : Gam P}

def noRows : List SV → Bool
  | [] => true
  | x :: l => !x.isRow && noRows l

theorem noRows_spec : ∀ {l : List SV}, noRows l = true → ∀ x ∈ l, x.isRow = false
  | [], _ => by simp
  | x :: l, h => by
    simp only [noRows, Bool.and_eq_true, Bool.not_eq_true'] at h
    intro y hy
    rcases List.mem_cons.1 hy with rfl | hy
    · exact h.1
    · exact noRows_spec h.2 y hy

/-- the kernel's word that a statement is another one -/
theorem kcast {A B : Prop} (h : B = A) (a : A) : B := h ▸ a

theorem pure_sound (hm : P.follows .mixedOrders = true) (H : Nat → LH) (O : List (Nat × OT)) {f : FuncId} {fn : Func} {c : Code} (hf : P.funcs[f]? = some fn) (hb : fn.body = some c) (hok : codeOK Γ O c = true)
    {args : List SV} {K : SV → Prop} (hw : (withinL 0 args && noRows args && Nat.ble args.length fn.ntmps) = true)
    (hev : evC Γ H O c (fnPost P fn (fun r _ _ => K r ∧ within 0 r = true)) ⟨startT 0 args, fn.ntmps, [], 0, 0⟩) {n : Nat} {ρ : Nat → Nat} {vs : List Value} {w : World} (hr : RelL n ρ args vs) (hg : GP w) (hng : NG ≤ w.heap.size) :
    Calls P f vs.toArray w fun e w' => ∃ r v, K r ∧ e = .returned v ∧ (∀ n' ρ', Rel n' ρ' r v) ∧ Below w.heap.size w w' := by
  simp only [Bool.and_eq_true] at hw
  have h0 : HMod w (fun _ => False) [] 0 ρ w :=
    ⟨fun i sb h => (by cases h), fun i j _ _ h => (by cases h), fun i sb h => (by cases h), fun i h => absurd h (Nat.not_lt_zero _), rfl, rfl, rfl, Nat.le_refl _, fun _ _ _ => rfl, hg, hng, fun _ _ => id⟩
  refine (calls_of_ev hm H O hf hb hok (hr.less hw.1.1) (noRows_spec hw.1.2) (by simpa using hw.2) h0 hev).mono ?_
  rintro e w' ⟨r, v, heap', next', ρ', ⟨hk, hc⟩, rfl, hrel, _, _, hm'⟩
  refine ⟨r, v, hk, rfl, fun n' ρ'' => (hrel.less hc).ext (Nat.zero_le _) (fun i hi => absurd hi (Nat.not_lt_zero _)), ?_⟩
  exact ⟨hm'.os, hm'.tape, hm'.output, hm'.size, fun k hk => hm'.block k hk id⟩

end
end Go.Proofs.YtlobbcodnkfbiaaDoor.Sx
