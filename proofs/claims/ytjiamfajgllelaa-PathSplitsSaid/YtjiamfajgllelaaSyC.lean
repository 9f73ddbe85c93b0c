/-
  SxC: shapes of contracts; the last step of a law's row where nothing that was there has changed.
-/
import Derived.Test.YtjiamfajgllelaaSyB
import Derived.ChangeSame
namespace Go.Proofs.Ytjiamfajgllelaa.Sy
open Go Go.RowKit Go.WideShapes Go.ChangeShapes

def bd (f : Func) : Code := f.body.getD .skip
def H0 : Nat → LH := fun _ => .rounds 100

section
variable {P : Program} {Γ : Gam P}

/-- a law that answers true -/
theorem law_sound (hm : P.follows .mixedOrders = true) (H : Nat → LH) (O : List (Nat × OT)) {f : FuncId} {fn : Func} {c : Code} (hf : P.funcs[f]? = some fn) (hb : fn.body = some c) (hok : codeOK Γ O c = true)
    {args : List SV} (hw : (withinL 0 args && noRows args && Nat.ble args.length fn.ntmps) = true) {vs : List Value} {w : World} {ρ : Env}
    (hev : evC Γ H O c (fnPost P fn (fun r _ _ => r = .c (.bool true) ∧ within 0 r = true)) ⟨startT 0 args, fn.ntmps, [], 0, 0⟩) (hr : RelL 0 ρ args vs) (hg : GP w) (hng : NG ≤ w.heap.size)
    (hro : ∀ g o, ρ.R g = some o → w.heap[g]? = some o) :
    Calls P f vs.toArray w fun e w' => e = .returned (.bool true) ∧ Below w.heap.size w w' := by
  simp only [Bool.and_eq_true] at hw
  have h0 : HMod w (fun _ => False) [] 0 ρ w :=
    ⟨fun i sb h => (by cases h), fun i j _ _ h => (by cases h), fun i sb h => (by cases h), rfl, rfl, rfl, Nat.le_refl _, fun _ _ _ => rfl, hg, hng, fun _ _ => id, hro⟩
  refine (calls_of_ev hm H O hf hb hok (hr.less hw.1.1) (noRows_spec hw.1.2) (by simpa using hw.2) h0 hev).mono ?_
  rintro e w' ⟨r, v, heap', next', ρ', ⟨rfl, _⟩, rfl, hrel, _, hext, hm', hrn⟩
  exact ⟨by rw [hrel.inv_c], hm'.os, hm'.tape, hm'.output, hm'.size, fun k hk => hm'.block k hk id⟩

theorem RelL.consts (vs : List Value) (n : Nat) (ρ : Env) : RelL n ρ (vs.map SV.c) vs := by
  induction vs with
  | nil => exact .nil
  | cons v vs ih => exact .cons _ _ _ _ rfl (.c v) ih
end

section
variable {H : Type} {enc : TypeId × Value → H} {P : Program}
/-- The row's post, of whatever the call has made. -/
theorem post_new {f : Func} {s : ChangeSpec} {apart fresh handsOn again : Bool} {W W' : World} {args : Array Value} {v : Value} {ds gs : List (DataW H)} {before pa pv : List MemPlace}
    (hW : DataW.Whole enc P f.params.toList s.vars apart W args.toList ds gs before)
    (hres : ∀ (b : Nat) (sp : Nat → Bool) (hd : Bool), DataW.TrodAll enc P W' b sp hd f.resultTypes.toList (v.resultList f.resultTypes.size) (s.fn H (ds ++ gs)).results [])
    (hargs : ∀ sp : Nat → Bool, (∀ p ∈ before, sp p.block = true) → DataW.TrodAll enc P W' 0 sp true f.params.toList args.toList (s.fn H (ds ++ gs)).args pa)
    (hvars : ∀ sp : Nat → Bool, (∀ p ∈ before, sp p.block = true) → DataW.TrodVars enc P W' sp s.vars (s.fn H (ds ++ gs)).vars pv)
    (hps : before = pa ++ pv) (hb : Below W.heap.size W W')
    (hok : ∀ (j : Nat) (t : TypeId) (r : Value), f.resultTypes[j]? = some t → (v.resultList f.resultTypes.size)[j]? = some r → Value.okWide P W' .any 0 t r) :
    s.post enc P f apart fresh handsOn again W args v W' := by
  have hlt : ∀ p ∈ before, p.block < W.heap.size := fun p hp => hW.lt p hp
  have hsp : ∀ p ∈ before, decide (p.block < W.heap.size) = true := fun p hp => by simpa using hlt p hp
  have a1 := hargs (fun b => decide (b < W.heap.size)) hsp
  have v1 := hvars (fun b => decide (b < W.heap.size)) hsp
  obtain ⟨_, _, _, _, _, hz, hn⟩ := id hW
  refine ⟨ds, gs, before, [], pa, pv, hW, hres _ _ _, a1, v1, World.keptBut_mono (fun p hp => ⟨hp, ?_⟩) (hb.frame (· ∈ before)), fun _ => ?_⟩
  · exact .inr (List.mem_append.1 (hps ▸ hp))
  · refine ⟨hok, _, _, ([] ++ pa) ++ pv, ⟨[] ++ pa, pv, trodAll_append (hargs _ (fun _ _ => rfl)) (hres _ _ _), hvars _ (fun _ _ => rfl), rfl, fun b off hp => ?_, fun ha => ?_⟩, fun p hp _ => by simpa [hps] using hp⟩
    · have hin : MemPlace.cell b off ∈ before := by rw [hps]; simpa using hp
      rw [hb.frozen (hlt _ hin)]
      exact hz b off hin
    · simpa [hps] using hn ha
end
end Go.Proofs.Ytjiamfajgllelaa.Sy
