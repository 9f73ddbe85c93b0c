/-
  SxD: contracts of functions that write one block that is handed to them.
-/
import Derived.Test.YtlobbcodnkfbiaaDoorSxC
namespace Go.Proofs.YtlobbcodnkfbiaaDoor.Sx
open Go Go.RowKit

section
variable {P : Program} {Γ : Gam P} {w0 : World} {own : Nat → Prop} {ρ : Nat → Nat} {w : World}

/-- a known block of ours written anew, by a call that may have made others -/
theorem HMod.wrote {heap : List (Nat × SB)} {next : Nat} (h : HMod w0 own heap next ρ w) {b : Nat} {cs : List SV} {t : TypeId} (hl : look heap b = some (.cells cs t)) {cs' : List SV} {w' : World}
    (hos : w'.os = w.os) (htape : w'.tape = w.tape) (hout : w'.output = w.output) (hsize : w.heap.size ≤ w'.heap.size) (hother : ∀ g, g < w.heap.size → g ≠ ρ b → w'.heap[g]? = w.heap[g]?)
    (hnew : BRel next ρ (.cells cs' t) w'.heap[ρ b]?) : HMod w0 own ((b, .cells cs' t) :: heap) next ρ w' := by
  have hb := (h.rel b _ hl).1
  have key : ∀ i sb, look ((b, SB.cells cs' t) :: heap) i = some sb → (i = b ∧ sb = .cells cs' t) ∨ (i ≠ b ∧ look heap i = some sb) := by
    intro i sb hl
    by_cases hi : b = i
    · subst hi; rw [look_cons_same] at hl; cases hl; exact .inl ⟨rfl, rfl⟩
    · rw [look_cons_ne hi] at hl; exact .inr ⟨fun e => hi e.symm, hl⟩
  refine ⟨?_, ?_, ?_, ?_, hos.trans h.os, htape.trans h.tape, hout.trans h.output, Nat.le_trans h.size hsize, ?_, h.glob.keep fun g hg => (hother g (by have := h.gsz; have := h.size; omega) (by
    rintro rfl
    rcases h.mine _ _ hl rfl with h1 | h1
    · exact h.gown _ hg h1
    · have := h.gsz; omega)), h.gsz, h.gown⟩
  · intro i sb hli
    rcases key i sb hli with ⟨rfl, rfl⟩ | ⟨hi, hl'⟩
    · exact ⟨hb, hnew⟩
    · obtain ⟨h1, h2⟩ := h.rel i sb hl'
      refine ⟨h1, ?_⟩
      cases sb with
      | junk => trivial
      | cells c2 t2 =>
        rw [hother _ (h.there i h1) (h.inj i b _ _ hl' hl rfl rfl hi)]
        exact h2
  · intro i j sb sb' hl1 hl2 ho1 ho2 hij
    rcases key i sb hl1 with ⟨rfl, rfl⟩ | ⟨hi, hl1'⟩ <;> rcases key j sb' hl2 with ⟨rfl, rfl⟩ | ⟨hj, hl2'⟩
    · exact absurd rfl hij
    · exact h.inj _ _ _ _ hl hl2' rfl ho2 hij
    · exact h.inj _ _ _ _ hl1' hl ho1 rfl hij
    · exact h.inj _ _ _ _ hl1' hl2' ho1 ho2 hij
  · intro i sb hli ho1
    rcases key i sb hli with ⟨rfl, rfl⟩ | ⟨hi, hl1⟩
    · exact h.mine _ _ hl rfl
    · exact h.mine i sb hl1 ho1
  · intro i hi; have := h.there i hi; omega
  · intro g hg hn
    rw [hother g (by have := h.size; omega) ?_]
    · exact h.block g hg hn
    · rintro rfl
      rcases h.mine _ _ hl rfl with h1 | h1
      · exact hn h1
      · omega

/-- the contract's form: the first argument points into a block, which is written; the others are plain -/
def inPlace (F : Nat → List SV → List SV → TypeId → (SV → List SV → Prop) → Prop) (args : List SV) (heap : List (Nat × SB)) (next : Nat) (K : SV → List (Nat × SB) → Nat → Prop) : Prop :=
  match args with
  | .ptr b off :: rest => match look heap b with
    | some (.cells cs t) => F off rest cs t fun r cs' => forceL cs' fun cs' => K r ((b, .cells cs' t) :: heap) next
    | _ => False
  | _ => False

theorem inPlace_sound (hm : P.follows .mixedOrders = true) (O : List (Nat × OT)) {f : FuncId} {fn : Func} {c : Code} (hf : P.funcs[f]? = some fn) (hb : fn.body = some c) (hok : codeOK Γ O c = true)
    {F : Nat → List SV → List SV → TypeId → (SV → List SV → Prop) → Prop}
    (hF : ∀ off rest cs t K, F off rest cs t K → (withinL 0 rest && withinL 0 cs && noRows rest && Nat.ble (rest.length + 1) fn.ntmps) = true ∧
      ∃ H, evC Γ H O c (fnPost P fn (fun r heap' _ => ∃ cs', look heap' 0 = some (.cells cs' t) ∧ K r cs' ∧ (within 0 r && withinL 0 cs') = true)) ⟨startT 0 (.ptr 0 off :: rest), fn.ntmps, [(0, .cells cs t)], 1, 1⟩) :
    ∀ args heap next K, inPlace F args heap next K → ∀ w0 own ρ vs w, RelL next ρ args vs → HMod w0 own heap next ρ w →
      Calls P f vs.toArray w fun e w' => ∃ r v heap' next' ρ', K r heap' next' ∧ e = .returned v ∧ Rel next' ρ' r v ∧ next ≤ next' ∧ Ext next ρ ρ' ∧ HMod w0 own heap' next' ρ' w' := by
  intro args heap next K h w0 own ρ vs w hr hmod
  unfold inPlace at h
  split at h
  · rename_i b off rest
    split at h
    · rename_i cs t hl
      obtain ⟨h1, H, h2⟩ := hF _ _ _ _ _ h
      simp only [Bool.and_eq_true] at h1
      obtain ⟨hbn, vb, fr, hvb, hrb, hfr⟩ := hmod.rel _ _ hl
      -- the callee's view
      have hh : HMod w (fun g => g = ρ b) [(0, .cells cs t)] 1 (fun _ => ρ b) w := by
        have only : ∀ i sb, look [(0, SB.cells cs t)] i = some sb → i = 0 ∧ sb = .cells cs t := by
          intro i sb hl
          by_cases hi : 0 = i
          · subst hi; rw [look_cons_same] at hl; cases hl; exact ⟨rfl, rfl⟩
          · rw [look_cons_ne hi] at hl; cases hl
        refine ⟨fun i sb hl => ?_, fun i j sb sb' hl hl' _ _ hij => ?_, fun i sb hl _ => .inl rfl, fun i _ => hmod.there b hbn, rfl, rfl, rfl, Nat.le_refl _, fun _ _ _ => rfl, hmod.glob, Nat.le_trans hmod.gsz hmod.size, fun g hg => ?_⟩
        · obtain ⟨rfl, rfl⟩ := only i sb hl
          exact ⟨Nat.one_pos, vb, fr, hvb, (hrb.less h1.1.1.2).ext (Nat.zero_le _) (fun i hi => absurd hi (Nat.not_lt_zero _)), hfr⟩
        · have h3 := (only i sb hl).1
          have h4 := (only j sb' hl').1
          omega
        · rintro rfl
          rcases hmod.mine _ _ hl rfl with h3 | h3
          · exact hmod.gown _ hg h3
          · have := hmod.gsz; omega
      have hargs : RelL 1 (fun _ => ρ b) (.ptr 0 off :: rest) vs := by
        cases hr with
        | cons _ _ v vs' _ h3 h4 =>
          obtain ⟨rfl, _⟩ := h3.inv_ptr
          exact .cons _ _ _ _ rfl (.ptr 0 off Nat.one_pos) ((h4.less h1.1.1.1).ext (Nat.zero_le _) (fun i hi => absurd hi (Nat.not_lt_zero _)))
      refine (calls_of_ev hm H O hf hb hok hargs (fun x hx => ?_) (by simpa using h1.2) hh h2).mono ?_
      · rcases List.mem_cons.1 hx with rfl | hx
        · rfl
        · exact noRows_spec h1.1.2 x hx
      · rintro e w' ⟨r, v, heap', next', ρ', ⟨cs', hl', hK, hcl⟩, rfl, hrel, hn1, hext, hm'⟩
        simp only [Bool.and_eq_true] at hcl
        rw [forceL_eq] at hK
        have h0 : ρ' 0 = ρ b := hext 0 Nat.one_pos
        refine ⟨r, v, _, next, ρ, hK, rfl, (hrel.less hcl.1).ext (Nat.zero_le _) (fun i hi => absurd hi (Nat.not_lt_zero _)), Nat.le_refl _, Ext.refl _ _, ?_⟩
        refine hmod.wrote hl hm'.os hm'.tape hm'.output hm'.size (fun g hg hne => hm'.block g hg hne) ?_
        obtain ⟨_, vs2, fr2, e1, e2, e3⟩ := hm'.rel _ _ hl'
        rw [h0] at e1
        exact ⟨vs2, fr2, e1, (e2.less hcl.2).ext (Nat.zero_le _) (fun i hi => absurd hi (Nat.not_lt_zero _)), e3⟩
    · exact h.elim
  · exact h.elim

end
end Go.Proofs.YtlobbcodnkfbiaaDoor.Sx
