/-
  SyB: contracts of functions that change nothing that is there, from their bodies.
-/
import Derived.Test.YtjiamfajgllelaaSyA
namespace Go.Proofs.Ytjiamfajgllelaa.Sy
open Go Go.RowKit

section
variable {P : Program} {Γ : Gam P}

def noRows : List SV → Bool
  | [] => true
  | x :: l => !x.isRow && noRows l

theorem noRows_spec : ∀ {l : List SV}, noRows l = true → ∀ x ∈ l, x.isRow = false
  | [], _ => by simp
  | x :: l, h => by
    simp only [noRows, Bool.and_eq_true, Bool.not_eq_true'] at h
    intro y hy
    rcases List.mem_cons.1 hy with rfl | hy
    · exact h.1
    · exact noRows_spec h.2 y hy

/-- the kernel's word that a statement is another one -/
theorem kcast {A B : Prop} (h : B = A) (a : A) : B := h ▸ a

/-- a result whose slices nobody writes from now on -/
def frz (h : List (Nat × SB)) (v : SV) (K : SV → Prop) : Prop :=
  match v with
  | .gs b w lo hi _ => match look h b with
    | some (.arr _ w' m f) => chk (Nat.beq w w' && Nat.blt 0 w) ((hi ≤ m) ∧ K (.rs w (subN hi lo) (shiftF f lo)))
    | _ => False
  | .tup l => frzL h l [] fun l' => K (.tup l')
  | v => chk (within 0 v) (K v)
where frzL (h : List (Nat × SB)) : List SV → List SV → (List SV → Prop) → Prop
  | [], acc, K => K acc.reverse
  | .gs b w lo hi _ :: r, acc, K => match look h b with
    | some (.arr _ w' m f) => chk (Nat.beq w w' && Nat.blt 0 w) ((hi ≤ m) ∧ frzL h r (.rs w (subN hi lo) (shiftF f lo) :: acc) K)
    | _ => False
  | v :: r, acc, K => chk (within 0 v && !v.isRow) (frzL h r (v :: acc) K)

theorem frzL_sound {heap : List (Nat × SB)} {next : Nat} {w0 w : World} {own : Nat → Prop} {ρ : Env} (h : HMod w0 own heap next ρ w) {R' : Nat → Option Obj} (hR : ∀ g o, ρ.R g = some o → R' g = some o) (hn : ∀ i sb, look heap i = some sb → sb.owned = true → ρ.no i = false → R' (ρ i) = w.heap[ρ i]?) :
    ∀ (l acc : List SV) (us vs : List Value) (K : List SV → Prop), frz.frzL heap l acc K → RelL next ρ l vs → RelL 0 { ρ with R := R' } acc.reverse us → ∃ l', K l' ∧ RelL 0 { ρ with R := R' } l' (us ++ vs)
  | [], acc, us, vs, K, hk, hv, hu => by cases hv; exact ⟨_, hk, by simpa using hu⟩
  | x :: r, acc, us, vs, K, hk, hv, hu => by
    have other : chk (within 0 x && !x.isRow) (frz.frzL heap r (x :: acc) K) → ∃ l', K l' ∧ RelL 0 { ρ with R := R' } l' (us ++ vs) := by
      intro hk
      obtain ⟨h1, hk⟩ := chk_iff.1 hk
      simp only [Bool.and_eq_true] at h1
      cases hv with
      | cons _ _ v vs' hx h2 h3 =>
        obtain ⟨l', k1, k2⟩ := frzL_sound h hR hn r (x :: acc) (us ++ [v]) vs' K hk h3 (by rw [List.reverse_cons]; exact hu.append (.cons _ _ _ _ hx ((h2.less h1.1).R0 hR 0) .nil))
        exact ⟨l', k1, by simpa using k2⟩
      | row => simp [SV.isRow] at h1
    cases x with
    | gs b w' lo hi mx =>
      simp only [frz.frzL] at hk
      split at hk
      · rename_i t u m f hl
        obtain ⟨hc, hm, hk'⟩ := chk_iff.1 hk
        simp only [Bool.and_eq_true] at hc
        obtain rfl := Nat.eq_of_beq_eq_true hc.1
        cases hv with
        | cons _ _ v vs' hx h2 h3 =>
          have hrs := gs_as_rs (R' := R') h h2 hl hm hR (fun hno => hn b _ hl rfl hno) 0
          obtain ⟨l', k1, k2⟩ := frzL_sound h hR hn r (_ :: acc) (us ++ [v]) vs' K hk' h3 (by rw [List.reverse_cons]; exact hu.append (.cons _ _ _ _ rfl hrs .nil))
          exact ⟨l', k1, by simpa using k2⟩
      · exact hk.elim
    | _ => simp only [frz.frzL] at hk; exact other hk

theorem frz_sound {heap : List (Nat × SB)} {next : Nat} {w0 w : World} {own : Nat → Prop} {ρ : Env} (h : HMod w0 own heap next ρ w) {R' : Nat → Option Obj} (hR : ∀ g o, ρ.R g = some o → R' g = some o) (hn : ∀ i sb, look heap i = some sb → sb.owned = true → ρ.no i = false → R' (ρ i) = w.heap[ρ i]?)
    {x : SV} {v : Value} {K : SV → Prop} (hk : frz heap x K) (hv : Rel next ρ x v) : ∃ x', K x' ∧ Rel 0 { ρ with R := R' } x' v := by
  have other : chk (within 0 x) (K x) → ∃ x', K x' ∧ Rel 0 { ρ with R := R' } x' v := by
    intro hk
    obtain ⟨h1, hk⟩ := chk_iff.1 hk
    exact ⟨x, hk, (hv.less h1).R0 hR 0⟩
  cases x with
  | gs b w' lo hi mx =>
    simp only [frz] at hk
    split at hk
    · rename_i t u m f hl
      obtain ⟨hc, hm, hk'⟩ := chk_iff.1 hk
      simp only [Bool.and_eq_true] at hc
      obtain rfl := Nat.eq_of_beq_eq_true hc.1
      exact ⟨_, hk', gs_as_rs (R' := R') h hv hl hm hR (fun hno => hn b _ hl rfl hno) 0⟩
    · exact hk.elim
  | tup l =>
    simp only [frz] at hk
    obtain ⟨vs, rfl, hl⟩ := hv.inv_tup
    obtain ⟨l', k1, k2⟩ := frzL_sound h hR hn l [] [] vs _ hk hl .nil
    exact ⟨_, k1, .tup _ _ (by simpa using k2)⟩
  | _ => simp only [frz] at hk; exact other hk

/-- what 'PSpec.sound' says of one run -/
def PCalls (P : Program) (f : FuncId) (ρ : Env) (vs : List Value) (w : World) (K : SV → Prop) : Prop :=
  Calls P f vs.toArray w fun e w' => ∃ r v R', K r ∧ e = .returned v ∧ Rel 0 { ρ with R := R' } r v ∧ Below w.heap.size w w' ∧ RMore w w' ρ.R R'

theorem pure_sound (hm : P.follows .mixedOrders = true) (H : Nat → LH) (O : List (Nat × OT)) {f : FuncId} {fn : Func} {c : Code} (hf : P.funcs[f]? = some fn) (hb : fn.body = some c) (hok : codeOK Γ O c = true)
    {args : List SV} {K : SV → Prop} (hw : (withinL 0 args && noRows args && Nat.ble args.length fn.ntmps) = true)
    (hev : evC Γ H O c (fnPost P fn (fun r h _ => frz h r K)) ⟨startT 0 args, fn.ntmps, [], 0, 0⟩) {n : Nat} {ρ : Env} {vs : List Value} {w : World} (hr : RelL n ρ args vs) (hg : GP w) (hng : NG ≤ w.heap.size)
    (hro : ∀ g o, ρ.R g = some o → w.heap[g]? = some o) : PCalls P f ρ vs w K := by
  simp only [Bool.and_eq_true] at hw
  have h0 : HMod w (fun _ => False) [] 0 ρ w :=
    ⟨fun i sb h => (by cases h), fun i j _ _ h => (by cases h), fun i sb h => (by cases h), rfl, rfl, rfl, Nat.le_refl _, fun _ _ _ => rfl, hg, hng, fun _ _ => id, hro⟩
  refine (calls_of_ev hm H O hf hb hok (hr.less hw.1.1) (noRows_spec hw.1.2) (by simpa using hw.2) h0 hev).mono ?_
  rintro e w' ⟨r, v, heap', next', ρ', hk, rfl, hrel, _, hext, hm', hrn⟩
  have hbel : Below w.heap.size w w' := ⟨hm'.os, hm'.tape, hm'.output, hm'.size, fun k hk => hm'.block k hk id⟩
  let R' : Nat → Option Obj := fun g => match ρ.R g with
    | some o => some o
    | none => if w.heap.size ≤ g then w'.heap[g]? else none
  have hR1 : ∀ g o, ρ'.R g = some o → R' g = some o := by
    intro g o hg
    show (match ρ.R g with | some o => some o | none => if w.heap.size ≤ g then w'.heap[g]? else none) = some o
    rcases hrn g o hg with h1 | h1
    · rw [h1]
    · cases h2 : ρ.R g with
      | some o2 => have := hext.2 g o2 h2; rw [hg] at this; cases this; rfl
      | none => simp only [if_pos h1]; exact hm'.ro g o hg
  have hR2 : ∀ i sb, look heap' i = some sb → sb.owned = true → ρ'.no i = false → R' (ρ' i) = w'.heap[ρ' i]? := by
    intro i sb hl ho hno
    obtain ⟨m1, m2, m3⟩ := hm'.mine i sb hl ho hno
    have hge : w.heap.size ≤ ρ' i := m1.elim (fun h => h.elim) id
    show (match ρ.R (ρ' i) with | some o => some o | none => if w.heap.size ≤ ρ' i then w'.heap[ρ' i]? else none) = _
    cases h2 : ρ.R (ρ' i) with
    | some o => have := hext.2 _ _ h2; rw [m3] at this; cases this
    | none => simp only [if_pos hge]
  obtain ⟨r', k1, k2⟩ := frz_sound hm' (R' := R') hR1 hR2 hk hrel
  refine ⟨r', v, R', k1, rfl, ?_, hbel, fun g o hg => ?_, fun g o hg => ?_⟩
  · exact k2.R0 (ρ := { ρ' with R := R' }) (ρ' := { ρ with R := R' }) (fun _ _ h => h) 0
  · exact hR1 g o (hext.2 g o hg)
  · replace hg : (match ρ.R g with | some o => some o | none => if w.heap.size ≤ g then w'.heap[g]? else none) = some o := hg
    cases h2 : ρ.R g with
    | some o2 => rw [h2] at hg; cases hg; exact ⟨hm'.ro g o (hext.2 g o h2), .inl rfl⟩
    | none =>
      rw [h2] at hg
      simp only at hg
      split at hg
      · rename_i hge; exact ⟨hg, .inr hge⟩
      · cases hg

/-- the answer told otherwise: its slices' elements one by one -/
theorem PCalls.weak {f : FuncId} {ρ : Env} {vs : List Value} {w : World} {K K' : SV → Prop} (h : PCalls P f ρ vs w K) (hk : ∀ r, K r → ∃ r', sle [] r r' ∧ within 0 r' = true ∧ K' r') : PCalls P f ρ vs w K' := by
  refine h.mono ?_
  rintro e w' ⟨r, v, R', k1, rfl, k2, k3, k4⟩
  obtain ⟨r', h1, h2, h3⟩ := hk r k1
  exact ⟨r', v, R', h3, rfl, sle_rel r' r v h1 h2 k2, k3, k4⟩

end
end Go.Proofs.Ytjiamfajgllelaa.Sy
