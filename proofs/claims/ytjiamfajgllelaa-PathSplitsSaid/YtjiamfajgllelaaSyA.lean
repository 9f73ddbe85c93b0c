/-
  SxA: a region that draws, code, a function.
-/
import Derived.Test.YtjiamfajgllelaaSy9
import Derived.Deep.LoopGhost
import Derived.Scope
namespace Go.Proofs.Ytjiamfajgllelaa.Sy
open Go Go.RowKit

section
variable {P : Program} {w0 : World} {own : Nat → Prop} {ρ0 : Nat × Env} {σ : St} {ρ : Env} {a : Act} {w : World} {Γ : Gam P}
variable {ops : Array Oper} {Q : Exit → Act → World → Prop}

def RB {P : Program} (Γ : Gam P) (ops : Array Oper) : Nat → World → World → Prop :=
  fun j w w' => ∃ o, ops[j]? = some o ∧ (harmless Γ o.op = true → Below w.heap.size w w')

theorem silent_harmless {o : Op} (h : silentOp o = true) : harmless Γ o = true := by
  unfold harmless
  split <;> simp_all [silentOp]

theorem down_start (n : Nat) (md : Region.Mode) : Down md ops (Array.replicate n false) := by
  intro k o e hk
  simp [Array.getD] at hk

/-- the branches of a choice, and a tree by itself -/
theorem drawT_sound {K : St → Prop} (hsel : Region.noSelect ops = true) (hQ : ∀ c a w, ¬ Q (.panic c) a w) (hK : ∀ a w, Sat w0 own ρ0 K a w → Q .normal a w) :
    ∀ (t : OT) (listed : Array Bool) (n : Nat), Down .any ops listed →
    (drawT Γ ops t true listed n = true → ∀ (σ : St) (ρ : Env) (a : Act) (w : World), evT Γ ops t σ K → Mod w0 own ρ0 σ ρ a w → wpAnyR P .any ops Q (RB Γ ops) n listed a w) ∧
    (drawT Γ ops t false listed (n + 1) = true → ∀ (σ : St) (ρ : Env) (a : Act) (w : World), evT Γ ops t σ K → Mod w0 own ρ0 σ ρ a w →
      ∀ i ∈ heads t, wpOp P ops Q i (fun a' w' => RB Γ ops i w w' ∧ wpAnyR P .any ops Q (RB Γ ops) n (listed.setIfInBounds i true) a' w') a w) := by
  intro t
  -- a loud step
  have loud1 : ∀ (i : Nat) (r : OT) (listed : Array Bool) (n : Nat) (o : Oper), ops[i]? = some o → Down .any ops (listed.setIfInBounds i true) →
      (∀ (σ : St) (ρ : Env) (a : Act) (w : World), evT Γ ops r σ K → Mod w0 own ρ0 σ ρ a w → wpAnyR P .any ops Q (RB Γ ops) n (listed.setIfInBounds i true) a w) →
      ∀ (σ : St) (ρ : Env) (a : Act) (w : World), (evOps Γ ops [i] σ fun σ' => evT Γ ops r σ' K) → Mod w0 own ρ0 σ ρ a w →
      wpOp P ops Q i (fun a' w' => RB Γ ops i w w' ∧ wpAnyR P .any ops Q (RB Γ ops) n (listed.setIfInBounds i true) a' w') a w := by
    intro i r listed n o ho hdown ih σ ρ a w h m
    obtain ⟨o', σ', ho', m', hh⟩ := evOps_cons m h
    rw [ho] at ho'; cases ho'
    unfold wpOp
    simp only [ho]
    rcases hh with ⟨hw, he⟩ | ⟨hw, he⟩
    · rw [if_pos hw]
      have := evOp_sound m' he Q
      unfold OpOk at this
      refine .inl (Oper.wp_mono (fun a' w' hs => ?_) this)
      obtain ⟨⟨σ2, ρ2, h2, m2⟩, hb⟩ := hs
      exact ⟨⟨o, ho, hb⟩, ih σ2 ρ2 _ w' h2 m2⟩
    · rw [if_neg (by simp [hw])]
      obtain ⟨σ2, ρ2, h2, m2⟩ := m'.put (.c undef) he
      exact ⟨⟨o, ho, fun _ => Below.refl _ _⟩, ih σ2 ρ2 _ w h2 m2⟩
  induction t with
  | done =>
    intro listed n _
    refine ⟨fun hd σ ρ a w h m => ?_, fun hd => ?_⟩
    · simp only [drawT, Bool.and_eq_true, List.isEmpty_iff] at hd
      obtain ⟨h0, h1⟩ := hd
      obtain rfl := Nat.eq_of_beq_eq_true h0
      exact ⟨h1, hK _ _ ⟨σ, ρ, h, m⟩⟩
    · intro σ ρ a w _ _ i hi; cases hi
  | one i r ih =>
    intro listed n hdown
    refine ⟨fun hd σ ρ a w h m => ?_, fun hd σ ρ a w h m j hj => ?_⟩
    · cases n with
      | zero => simp [drawT] at hd
      | succ n =>
      simp only [drawT] at hd
      obtain ⟨o, σ', ho, m', hh⟩ := evOps_cons m h
      simp only [ho, Bool.and_eq_true] at hd
      obtain ⟨⟨hri, hcase⟩, hrest⟩ := hd
      have hri' : i ∈ Region.ready .any ops listed := by simpa using hri
      have hdown' := down_set hdown hri'
      have ih := (ih (listed.setIfInBounds i true) n hdown').1 hrest
      by_cases hs : silentOp o.op = true
      · rw [if_pos hs, Bool.true_and, Bool.and_eq_true] at hcase
        obtain ⟨hfree, hload⟩ := hcase
        have hRi : ∀ w, RB Γ ops i w w := fun w => ⟨o, ho, fun _ => Below.refl _ _⟩
        rcases hh with ⟨hw, he⟩ | ⟨hw, he⟩
        · -- it is carried out
          obtain ⟨v, x, hx, hp, hrun⟩ := evOp_quiet m' hs he
          obtain ⟨σ2, ρ2, h2, m2⟩ := m'.put hx hp
          have hH := ih σ2 ρ2 _ w h2 m2
          cases hro : readsOp o.op with
          | false =>
            exact wpAnyR_first (v := x) ho (Region.noSelect_spec hsel) hQ (fun _ => True) hRi (fun _ _ _ _ _ _ => trivial) n listed a w hdown (Region.free_spec ho hfree) hri'
              (.inl ⟨hw, fun w' _ => hrun w' (fun hh => by rw [hro] at hh; cases hh)⟩) trivial hH
          | true =>
            rw [hro] at hload
            simp only [Bool.not_true, Bool.false_or, loadOK, List.all_eq_true, List.mem_range, Bool.or_eq_true] at hload
            refine wpAnyR_first (v := x) ho (Region.noSelect_spec hsel) hQ (fun w' => w.heap.size ≤ w'.heap.size ∧ ∀ g, g < w.heap.size → w'.heap[g]? = w.heap[g]?) hRi ?_ n listed a w hdown (Region.free_spec ho hfree) hri'
              (.inl ⟨hw, fun w' hS => hrun w' (fun _ => hS)⟩) ⟨Nat.le_refl _, fun _ _ => rfl⟩ hH
            intro j u u' hnd hS hR
            obtain ⟨oj, hoj, hR⟩ := hR
            have hj : j < ops.size := (Array.getElem?_eq_some_iff.1 hoj).1
            rcases hload j hj with h1 | h1
            · exact absurd (depList_sound i j (by simpa using h1)) hnd
            · rw [hoj] at h1
              have hB := hR h1
              exact ⟨Nat.le_trans hS.1 hB.size, fun g hg => by rw [hB.block _ (by omega)]; exact hS.2 g hg⟩
        · obtain ⟨σ2, ρ2, h2, m2⟩ := m'.put (.c undef) he
          refine wpAnyR_first (v := undef) ho (Region.noSelect_spec hsel) hQ (fun _ => True) hRi (fun _ _ _ _ _ _ => trivial) n listed a w hdown (Region.free_spec ho hfree) hri' (.inr ⟨hw, rfl⟩) trivial (ih σ2 ρ2 _ w h2 m2)
      · rw [if_neg hs, Bool.not_true, Bool.false_or, List.all_eq_true] at hcase
        refine ⟨fun h0 => (by rw [h0] at hri'; cases hri'), fun j hj => ?_⟩
        have hji : j = i := by simpa using hcase j hj
        subst hji
        exact loud1 _ _ _ _ o ho hdown' ih σ ρ a w h m
    · simp only [drawT] at hd
      obtain rfl := List.mem_singleton.1 hj
      split at hd
      · cases hd
      · rename_i o ho
        simp only [Bool.and_eq_true] at hd
        obtain ⟨⟨hri, hcase⟩, hrest⟩ := hd
        have hdown' := down_set hdown (by simpa using hri : j ∈ Region.ready .any ops listed)
        exact loud1 _ _ _ _ o ho hdown' ((ih _ n hdown').1 hrest) σ ρ a w h m
  | alt i r rest ih ih2 =>
    intro listed n hdown
    have step : ∀ n alone, drawT Γ ops (.alt i r rest) alone listed (n + 1) = true → ∀ (σ : St) (ρ : Env) (a : Act) (w : World), evT Γ ops (.alt i r rest) σ K → Mod w0 own ρ0 σ ρ a w →
        ∀ j ∈ heads (.alt i r rest), wpOp P ops Q j (fun a' w' => RB Γ ops j w w' ∧ wpAnyR P .any ops Q (RB Γ ops) n (listed.setIfInBounds j true) a' w') a w := by
      intro n alone hd σ ρ a w h m j hj
      simp only [drawT] at hd
      split at hd
      · cases hd
      · rename_i o ho
        simp only [Bool.and_eq_true] at hd
        obtain ⟨⟨hri, _⟩, hr, hrest⟩ := hd
        rcases List.mem_cons.1 hj with rfl | hj
        · have hdown' := down_set hdown (by simpa using hri : j ∈ Region.ready .any ops listed)
          exact loud1 _ _ _ _ o ho hdown' ((ih _ n hdown').1 hr) σ ρ a w h.1 m
        · exact (ih2 listed n hdown).2 hrest σ ρ a w h.2 m j hj
    refine ⟨fun hd σ ρ a w h m => ?_, fun hd => step n false hd⟩
    cases n with
    | zero => simp [drawT] at hd
    | succ n =>
      have hstep := step n true hd σ ρ a w h m
      simp only [drawT] at hd
      split at hd
      · cases hd
      · rename_i o ho
        simp only [Bool.and_eq_true, Bool.not_true, Bool.false_or, List.all_eq_true, Bool.or_eq_true] at hd
        obtain ⟨⟨hri, _, hall⟩, _⟩ := hd
        have hri' : i ∈ Region.ready .any ops listed := by simpa using hri
        refine ⟨fun h0 => (by rw [h0] at hri'; cases hri'), fun j hj => hstep j ?_⟩
        rcases hall j hj with h1 | h1
        · exact List.mem_cons.2 (.inl (by simpa using h1))
        · exact List.mem_cons.2 (.inr (by simpa using h1))

/-- every region of a body that draws its order may -/
def codeOK {P : Program} (Γ : Gam P) (O : List (Nat × OT)) : Code → Bool
  | .region id ops draw => match draw with
    | true => match look O id with
      | some l => drawOK Γ ops l
      | none => false
    | false => true
  | .seq a b => codeOK Γ O a && codeOK Γ O b
  | .cond _ a b => codeOK Γ O a && codeOK Γ O b
  | .block _ c => codeOK Γ O c
  | .loop c => codeOK Γ O c
  | .scope c => codeOK Γ O c
  | .skip | .label _ | .exit _ | .ret | .goto _ => true
  | _ => false

/-- A post of symbolic states as a post of the walk. -/
def QS (w0 : World) (own : Nat → Prop) (ρ0 : Nat × Env) (Q : Exit → St → Prop) : Exit → Act → World → Prop
  | .panic _, _, _ => False
  | .outgrown, _, _ => False
  | e, a, w => Sat w0 own ρ0 (Q e) a w

theorem QS_mono {Q Q' : Exit → St → Prop} (h : ∀ e σ, Q e σ → Q' e σ) (e : Exit) (a : Act) (w : World) (hq : QS w0 own ρ0 Q e a w) : QS w0 own ρ0 Q' e a w := by
  cases e <;> simp only [QS] at * <;> (first | exact hq | (obtain ⟨σ, ρ, h1, h2⟩ := hq; exact ⟨σ, ρ, h _ _ h1, h2⟩))

/-! ### a state taken for another one -/
theorem chk_iff {b : Bool} {p : Prop} : chk b p ↔ b = true ∧ p := by cases b <;> simp [chk]

/-- the blocks' places as the other state names them -/
def renE (r : List (Nat × Option Nat)) (ρ : Env) : Env :=
  ⟨fun b => match rn r b with | some c => ρ c | none => 0, fun b => match rn r b with | some c => ρ.no c | none => true, fun b => match rn r b with | some c => ρ.cap c | none => 0, ρ.R⟩

theorem renE_some {r : List (Nat × Option Nat)} {b c : Nat} (h : rn r b = some c) : renE r ρ b = ρ c ∧ (renE r ρ).no b = ρ.no c ∧ (renE r ρ).cap b = ρ.cap c := by
  refine ⟨?_, ?_, ?_⟩
  · show (match rn r b with | some c => ρ c | none => 0) = _; rw [h]
  · show (match rn r b with | some c => ρ.no c | none => true) = _; rw [h]
  · show (match rn r b with | some c => ρ.cap c | none => 0) = _; rw [h]
theorem renE_none {r : List (Nat × Option Nat)} {b : Nat} (h : rn r b = none) : (renE r ρ).no b = true := by
  show (match rn r b with | some c => ρ.no c | none => true) = _; rw [h]
theorem isRn_iff {r : List (Nat × Option Nat)} {b c : Nat} : isRn r b c = true ↔ rn r b = some c := by
  unfold isRn
  split
  · rename_i d hd
    rw [hd]
    constructor
    · intro h; rw [Nat.eq_of_beq_eq_true h]
    · intro h; cases h; exact Nat.beq_refl _
  · rename_i hd; rw [hd]; simp

theorem mxe_eq {a b : Option Nat} (h : mxe a b) : a = b := by
  unfold mxe at h
  split at h
  · rfl
  · rw [h]
  · exact h.elim

theorem sle0_eq {x v : Value} (h : sle0 x v) : x = v := by
  unfold sle0 at h
  split at h
  · obtain ⟨h1, rfl⟩ := chk_iff.1 h
    rw [kindEq_eq h1]
  · rw [h]
  · rw [h]
  · exact h

mutual
theorem sle_rel {r : List (Nat × Option Nat)} {n n' : Nat} {ρ : Env} : ∀ (v x : SV) (u : Value), sle r x v → within n' v = true → Rel n ρ x u → Rel n' (renE r ρ) v u
  | .any, _, u, _, _, _ => .any u
  | .c b, x, u, h, _, hr => by
    unfold sle at h
    split at h
    · rw [hr.inv_c, sle0_eq h]; exact .c _
    · exact h.elim
  | .ptr b o, x, u, h, hw, hr => by
    unfold sle at h
    split at h
    · obtain ⟨h1, rfl⟩ := chk_iff.1 h
      have h1 := isRn_iff.1 h1
      obtain ⟨rfl, _⟩ := hr.inv_ptr
      rw [← (renE_some (ρ := ρ) h1).1]
      exact .ptr _ _ (by simpa [within, Nat.blt_eq] using hw)
    · exact h.elim
  | .slc b o l c, x, u, h, hw, hr => by
    unfold sle at h
    split at h
    · obtain ⟨h1, rfl, rfl, rfl⟩ := chk_iff.1 h
      have h1 := isRn_iff.1 h1
      obtain ⟨rfl, _⟩ := hr.inv_slc
      rw [← (renE_some (ρ := ρ) h1).1]
      exact .slc _ _ _ _ (by simpa [within, Nat.blt_eq] using hw)
    · exact h.elim
  | .ep b base m i, x, u, h, hw, hr => by
    unfold sle at h
    split at h
    · obtain ⟨h1, rfl, rfl, rfl⟩ := chk_iff.1 h
      have h1 := isRn_iff.1 h1
      obtain ⟨rfl, _, h2, h3⟩ := hr.inv_ep
      rw [← (renE_some (ρ := ρ) h1).1]
      exact .ep _ _ _ _ (by simpa [within, Nat.blt_eq] using hw) h2 h3
    · exact h.elim
  | .sl b base m lo hi, x, u, h, hw, hr => by
    unfold sle at h
    split at h
    · obtain ⟨h1, rfl, rfl, rfl, rfl⟩ := chk_iff.1 h
      have h1 := isRn_iff.1 h1
      obtain ⟨rfl, _, h2, h3, h4⟩ := hr.inv_sl
      rw [← (renE_some (ρ := ρ) h1).1]
      exact .sl _ _ _ _ _ (by simpa [within, Nat.blt_eq] using hw) h2 h3 h4
    · exact h.elim
  | .gs b wd lo hi mx, x, u, h, hw, hr => by
    have hwb : b < n' := by simpa [within, Nat.blt_eq] using hw
    unfold sle at h
    split at h
    · obtain ⟨h1, rfl, rfl, hmx⟩ := chk_iff.1 h
      have hmx := mxe_eq hmx
      subst hmx
      simp only [Bool.and_eq_true] at h1
      obtain rfl := Nat.eq_of_beq_eq_true h1.2
      have h1 := isRn_iff.1 h1.1
      obtain ⟨e1, e2, e3⟩ := renE_some (ρ := ρ) h1
      obtain ⟨_, hg⟩ := hr.inv_gs
      refine .gs _ _ _ _ _ _ hwb ?_
      unfold GsV at hg ⊢
      rw [e1, e2, e3]
      exact hg
    · split at h
      · rename_i hn
        obtain ⟨rfl, rfl⟩ := h
        have := hr.inv_c
        subst this
        exact .gs _ _ _ _ _ _ hwb ⟨Nat.le_refl _, .inl ⟨renE_none hn, rfl, _, rfl⟩⟩
      · exact h.elim
    · split at h
      · rename_i hn
        obtain ⟨rfl, rfl⟩ := h
        obtain ⟨ad, rfl⟩ := hr.inv_zs
        exact .gs _ _ _ _ _ _ hwb ⟨Nat.le_refl _, .inl ⟨renE_none hn, rfl, _, rfl⟩⟩
      · exact h.elim
    · exact h.elim
  | .ap b wd i off, x, u, h, hw, hr => by
    unfold sle at h
    split at h
    · obtain ⟨h1, rfl, rfl⟩ := chk_iff.1 h
      simp only [Bool.and_eq_true] at h1
      obtain rfl := Nat.eq_of_beq_eq_true h1.2
      have h1 := isRn_iff.1 h1.1
      obtain ⟨e1, e2, e3⟩ := renE_some (ρ := ρ) h1
      obtain ⟨rfl, _, h2, h3⟩ := hr.inv_ap
      rw [← e1]
      exact .ap _ _ _ _ (by simpa [within, Nat.blt_eq] using hw) (e2.trans h2) h3
    · exact h.elim
  | .rs wd m f, x, u, h, _, hr => by
    unfold sle at h
    split at h
    · obtain ⟨h1, rfl, h2⟩ := chk_iff.1 h
      obtain rfl := Nat.eq_of_beq_eq_true h1
      rcases hr.inv_rs with ⟨ad, cap, rfl, rfl⟩ | ⟨g, off, cap, us, te, fr, hpos, hmc, rfl, hR, hle, hel, h1c⟩
      · exact .rs0 _ _ _ _
      · refine .rs _ _ _ g off cap us te fr hpos hmc hR hle (fun i hi => ?_) h1c
        rw [← h2 i hi]
        exact (hel i hi).R0 (ρ := ρ) (ρ' := renE r ρ) (fun _ _ h => h) 0
    · subst h
      have := hr.inv_c
      subst this
      exact .rs0 _ _ _ _
    · subst h
      obtain ⟨ad, rfl⟩ := hr.inv_zs
      exact .rs0 _ _ _ _
    · exact h.elim
  | .zs, x, u, h, _, hr => by
    unfold sle at h
    split at h
    · obtain ⟨ad, rfl⟩ := hr.inv_zs
      exact .zs _
    · exact h.elim
  | .rp cs, x, u, h, _, hr => by
    unfold sle at h
    split at h
    · subst h
      obtain ⟨g, off, us, vs, t, fr, rfl, hR, hp, hl⟩ := hr.inv_rp
      exact .rp _ g off us vs t fr hR hp (hl.R0 (ρ := ρ) (ρ' := renE r ρ) (fun _ _ h => h) 0)
    · exact h.elim
  | .ifc t y, x, u, h, hw, hr => by
    unfold sle at h
    split at h
    · obtain ⟨h1, h2⟩ := chk_iff.1 h
      obtain rfl := Nat.eq_of_beq_eq_true h1
      obtain ⟨v, rfl, hv⟩ := hr.inv_ifc
      exact .ifc _ _ _ (sle_rel y _ v h2 (by simpa [within] using hw) hv)
    · exact h.elim
  | .mp b, x, u, h, hw, hr => by
    unfold sle at h
    split at h
    · obtain ⟨h1, _⟩ := chk_iff.1 h
      have h1 := isRn_iff.1 h1
      obtain ⟨e1, e2, e3⟩ := renE_some (ρ := ρ) h1
      obtain ⟨rfl, _, h2⟩ := hr.inv_mp
      rw [← e1]
      exact .mp _ (by simpa [within, Nat.blt_eq] using hw) (e2.trans h2)
    · exact h.elim
  | .fn f y z, x, u, h, hw, hr => by
    unfold sle at h
    simp only [within, Bool.and_eq_true] at hw
    split at h
    · obtain ⟨rfl, h1, h2⟩ := h
      obtain ⟨xs, ys, rfl, hx, hy⟩ := hr.inv_fn
      exact .fn _ _ _ _ _ (sleL_rel y _ xs h1 hw.1 hx) (sleL_rel z _ ys h2 hw.2 hy)
    · exact h.elim
  | .agg cs, x, u, h, hw, hr => by
    unfold sle at h
    split at h
    · obtain ⟨vs, rfl, hl⟩ := hr.inv_agg
      exact .agg _ _ (sleL_rel cs _ vs h (by simpa [within] using hw) hl)
    · exact h.elim
  | .tup cs, x, u, h, hw, hr => by
    unfold sle at h
    split at h
    · obtain ⟨vs, rfl, hl⟩ := hr.inv_tup
      exact .tup _ _ (sleL_rel cs _ vs h (by simpa [within] using hw) hl)
    · exact h.elim
  | .row .., x, u, h, _, _ => by simp only [sle] at h
theorem sleL_rel {r : List (Nat × Option Nat)} {n n' : Nat} {ρ : Env} : ∀ (v x : List SV) (u : List Value), sleL r x v → withinL n' v = true → RelL n ρ x u → RelL n' (renE r ρ) v u
  | [], x, u, h, _, hr => by
    unfold sleL at h
    split at h
    · cases hr; exact .nil
    · exact h.elim
  | y :: vs, x, u, h, hw, hr => by
    simp only [withinL, Bool.and_eq_true] at hw
    by_cases hrow : y.isRow = true
    · cases y <;> simp [SV.isRow] at hrow
      rename_i k m ys
      unfold sleL at h
      split at h
      · obtain ⟨h1, rfl, rfl, h2⟩ := chk_iff.1 h
        obtain rfl := kindEq_eq h1
        cases hr with
        | cons _ _ _ _ hx => simp [SV.isRow] at hx
        | row _ _ _ _ us hl h3 => exact .row _ _ _ _ _ hl (sleL_rel vs _ us h2 hw.2 h3)
      · exact h.elim
    · have hrow : y.isRow = false := by simpa using hrow
      have key : ∃ x0 xs, x = x0 :: xs ∧ (!x0.isRow) = true ∧ sle r x0 y ∧ sleL r xs vs := by
        cases y <;> (first | (simp only [SV.isRow] at hrow; cases hrow; done) | skip) <;> (unfold sleL at h; split at h <;> first | exact ⟨_, _, rfl, (chk_iff.1 h).1, (chk_iff.1 h).2.1, (chk_iff.1 h).2.2⟩ | exact h.elim)
      obtain ⟨x0, xs, rfl, h0, h1, h2⟩ := key
      cases hr with
      | cons _ _ v us hx h3 h4 => exact .cons _ _ _ _ hrow (sle_rel y x0 v h1 hw.1 h3) (sleL_rel vs xs us h2 hw.2 h4)
      | row => simp [SV.isRow] at h0
end

theorem get_of_refT {r : List (Nat × Option Nat)} : ∀ (l : List (Nat × SV)), refT r σ l → ∀ t v, look l t = some v → v = .any ∨ sle r (σ.get t) v := by
  intro l
  induction l with
  | nil => intro _ t v h; cases h
  | cons x l ih =>
    obtain ⟨i, u⟩ := x
    intro h t v hl
    by_cases hi : i = t
    · subst hi
      rw [look_cons_same] at hl
      cases hl
      cases u <;> simp only [refT] at h <;> first | exact .inl rfl | exact .inr h.1
    · rw [look_cons_ne hi] at hl
      refine ih ?_ t v hl
      cases u <;> simp only [refT] at h <;> (first | exact h | exact h.2)

/-- what a block's index stands for in the other state -/
def refB (r : List (Nat × Option Nat)) (σ : St) (i : Nat) (sb : SB) : Prop :=
  match rn r i with
  | some j => match look σ.heap j with
    | some x => ble r x sb
    | none => False
  | none => match sb with
    | .arr _ _ m _ => m = 0
    | _ => False

theorem look_of_refH {r : List (Nat × Option Nat)} : ∀ (l : List (Nat × SB)), refH r σ l → ∀ i sb, look l i = some sb → sb = .junk ∨ refB r σ i sb := by
  intro l
  induction l with
  | nil => intro _ t v h; cases h
  | cons x l ih =>
    obtain ⟨i, u⟩ := x
    intro h t v hl
    by_cases hi : i = t
    · subst hi
      rw [look_cons_same] at hl
      cases hl
      cases u with
      | junk => exact .inl rfl
      | _ => simp only [refH] at h; exact .inr h.1
    · rw [look_cons_ne hi] at hl
      refine ih ?_ t v hl
      cases u <;> simp only [refH] at h <;> (first | exact h | exact h.2)

theorem within_look : ∀ (n : Nat) (l : List (Nat × SV)) (h : List (Nat × SB)), withinAll n l h = true →
    (∀ t v, look l t = some v → within n v = true) ∧ (∀ i sb, look h i = some sb → i < n ∧ ∀ cs t, sb = .cells cs t → withinL n cs = true) := by
  intro n l h hw
  simp only [withinAll, Bool.and_eq_true] at hw
  obtain ⟨h1, h2⟩ := hw
  constructor
  · clear h2
    induction l with
    | nil => intro t v hl; cases hl
    | cons x l ih =>
      obtain ⟨j, u⟩ := x
      simp only [withinT, Bool.and_eq_true] at h1
      intro t v hl
      by_cases hij : j = t
      · subst hij; rw [look_cons_same] at hl; cases hl; exact h1.1
      · rw [look_cons_ne hij] at hl; exact ih h1.2 t v hl
  · clear h1
    induction h with
    | nil => intro i sb hl; cases hl
    | cons x h ih =>
      obtain ⟨j, u⟩ := x
      simp only [withinH, Bool.and_eq_true, Nat.blt_eq] at h2
      intro i sb hl
      by_cases hij : j = i
      · subst hij
        rw [look_cons_same] at hl
        cases hl
        refine ⟨h2.1, fun cs t e => ?_⟩
        subst e
        exact h2.2.1
      · rw [look_cons_ne hij] at hl; exact ih h2.2.2 i sb hl

theorem apart_look {r : List (Nat × Option Nat)} : ∀ (l : List (Nat × SB)), apartH r l = true → ∀ i j sb sb' c, look l i = some sb → look l j = some sb' → rn r i = some c → rn r j = some c → i = j := by
  intro l
  have memOf : ∀ (l : List (Nat × SB)) i sb, look l i = some sb → ∃ p ∈ l, p.1 = i := by
    intro l
    induction l with
    | nil => intro i sb h; cases h
    | cons x l ih =>
      obtain ⟨k, u⟩ := x
      intro i sb h
      by_cases hk : k = i
      · exact ⟨_, List.mem_cons_self .., hk⟩
      · rw [look_cons_ne hk] at h
        obtain ⟨p, hp, e⟩ := ih i sb h
        exact ⟨p, List.mem_cons_of_mem _ hp, e⟩
  induction l with
  | nil => intro _ i j sb sb' c h; cases h
  | cons x l ih =>
    obtain ⟨k, u⟩ := x
    intro h i j sb sb' c hi hj ri rj
    simp only [apartH, Bool.and_eq_true] at h
    have one : ∀ j sb', k ≠ j → look l j = some sb' → rn r k = some c → rn r j = some c → k = j := by
      intro j sb' hne hl rk rj
      obtain ⟨p, hp, e⟩ := memOf l j sb' hl
      have h1 := h.1
      rw [rk] at h1
      have h1 := List.all_eq_true.1 h1 p hp
      rw [e, rj] at h1
      simp only [Nat.beq_refl, Bool.not_true, Bool.false_or] at h1
      exact Nat.eq_of_beq_eq_true h1
    by_cases hki : k = i
    · by_cases hkj : k = j
      · omega
      · rw [look_cons_ne hkj] at hj
        subst hki
        exact one j sb' hkj hj ri rj
    · rw [look_cons_ne hki] at hi
      by_cases hkj : k = j
      · subst hkj
        exact (one i sb hki hi rj ri).symm
      · rw [look_cons_ne hkj] at hj
        exact ih h.2 i j sb sb' c hi hj ri rj

theorem ble_rel {r : List (Nat × Option Nat)} {n n' : Nat} {i c : Nat} {x sb : SB} {o : Option Obj} (h : ble r x sb) (hs : sb ≠ .junk) (hc : rn r i = some c) (hb : BRel n ρ c x o) (hw : ∀ cs t, sb = .cells cs t → withinL n' cs = true) :
    BRel n' (renE r ρ) i sb o ∧ x.owned = true := by
  obtain ⟨e1, e2, e3⟩ := renE_some (ρ := ρ) hc
  cases sb with
  | junk => exact absurd rfl hs
  | cells cs t =>
    simp only [ble] at h
    split at h
    · obtain ⟨h1, h2⟩ := chk_iff.1 h
      obtain rfl := Nat.eq_of_beq_eq_true h1
      obtain ⟨b0, vs, fr, b1, b2, b3⟩ := hb
      exact ⟨⟨e2.trans b0, vs, fr, b1, sleL_rel _ _ _ h2 (hw _ _ rfl) b2, b3⟩, rfl⟩
    · exact h.elim
  | arr t wd m f =>
    simp only [ble] at h
    split at h
    · obtain ⟨h1, rfl, h2⟩ := chk_iff.1 h
      simp only [Bool.and_eq_true] at h1
      obtain rfl := Nat.eq_of_beq_eq_true h1.1
      obtain rfl := Nat.eq_of_beq_eq_true h1.2
      refine ⟨?_, rfl⟩
      rcases hb with ⟨b0, b1⟩ | ⟨b0, us, b1, b2, b3, b4, b5, b6⟩
      · exact .inl ⟨e2.trans b0, b1⟩
      · refine .inr ⟨e2.trans b0, us, b1, by rw [e3]; exact b2, by rw [e3]; exact b3, by rw [e3]; exact b4, b5, fun j hj => ?_⟩
        rw [← h2 j hj]
        exact (b6 j hj).R0 (ρ := ρ) (ρ' := renE r ρ) (fun _ _ h => h) 0
    · exact h.elim
  | map m kf vf =>
    simp only [ble] at h
    split at h
    · obtain ⟨hmm, h2⟩ := h
      obtain ⟨b0, es, clock, b1, b2, b3, b4⟩ := hb
      rw [hmm] at b2
      refine ⟨⟨e2.trans b0, es, clock, b1, b2, fun j e hj => ?_, b4⟩, rfl⟩
      have hjm : j < m := by
        have := (Array.getElem?_eq_some_iff.1 hj).1
        omega
      obtain ⟨g1, g2⟩ := h2 j hjm
      rw [← g1, ← g2]
      obtain ⟨k1, k2, k3⟩ := b3 j e hj
      exact ⟨k1.R0 (ρ := ρ) (ρ' := renE r ρ) (fun _ _ h => h) 0, k2.R0 (ρ := ρ) (ρ' := renE r ρ) (fun _ _ h => h) 0, k3⟩
    · exact h.elim
  | siter s p =>
    simp only [ble] at h
    split at h
    · obtain ⟨rfl, rfl⟩ := h
      exact ⟨⟨e2.trans hb.1, hb.2⟩, rfl⟩
    · exact h.elim

/-- what is known of a state may be forgotten, and its blocks numbered anew -/
theorem Mod.refine {τ : St} (m : Mod w0 own ρ0 σ ρ a w) (h : refines σ τ) : ∃ ρ', Mod w0 own ρ0 τ ρ' a w := by
  unfold refines refinesBy at h
  generalize mtchH σ τ.heap (mtchT σ τ.tmps []) = r at h
  obtain ⟨hc, h5, h6⟩ := chk_iff.1 h
  simp only [Bool.and_eq_true, List.all_eq_true] at hc
  obtain ⟨⟨⟨⟨⟨h1, h2⟩, h3⟩, h4⟩, h7⟩, h8⟩ := hc
  have h1 := Nat.eq_of_beq_eq_true h1
  have h2 := Nat.eq_of_beq_eq_true h2
  have h3 := Nat.le_of_ble_eq_true h3
  obtain ⟨k1, k2⟩ := within_look _ _ _ h7
  have hbase : ∀ i, i < τ.base → rn r i = some i := by
    intro i hi
    have : look r i = none := by
      cases hl : look r i with
      | none => rfl
      | some x =>
        exfalso
        have : ∀ l : List (Nat × Option Nat), (∀ p ∈ l, Nat.ble τ.base p.1 = true) → ∀ x, look l i ≠ some x := by
          intro l
          induction l with
          | nil => intro _ x h; cases h
          | cons p l ih =>
            obtain ⟨k, u⟩ := p
            intro hp x hx
            by_cases hk : k = i
            · have := Nat.le_of_ble_eq_true (hp _ (List.mem_cons_self ..)); simp only at this; omega
            · rw [look_cons_ne hk] at hx
              exact ih (fun p hp' => hp p (List.mem_cons_of_mem _ hp')) x hx
        exact this r h4 x hl
    simp [rn, this]
  -- what a known index of τ stands for
  have ent : ∀ i sb, look τ.heap i = some sb → sb.owned = true → (∃ c x, rn r i = some c ∧ look σ.heap c = some x ∧ x.owned = true ∧ BRel τ.next (renE r ρ) i sb w.heap[ρ c]?) ∨ (rn r i = none ∧ BRel τ.next (renE r ρ) i sb w.heap[renE r ρ i]?) := by
    intro i sb hl ho
    rcases look_of_refH _ h6 i sb hl with rfl | hb
    · cases ho
    · unfold refB at hb
      split at hb
      · rename_i c hrc
        split at hb
        · rename_i x hx
          obtain ⟨g1, g2⟩ := ble_rel hb (by rintro rfl; cases ho) hrc (m.heap.rel _ _ hx).2 (fun cs t e => (k2 i sb hl).2 cs t e)
          exact .inl ⟨c, x, hrc, hx, g2, g1⟩
        · exact hb.elim
      · rename_i hrn
        split at hb
        · subst hb
          exact .inr ⟨hrn, .inl ⟨renE_none hrn, rfl⟩⟩
        · exact hb.elim
  refine ⟨renE r ρ, m.defers, by rw [h1]; exact m.sz, fun t => ?_, ⟨fun i sb hl => ?_, fun i j sb sb' hl hl' ho ho' n1 n2 hij => ?_, fun i sb hl ho n1 => ?_, m.heap.os, m.heap.tape, m.heap.output, m.heap.size, m.heap.block, m.heap.glob, m.heap.gsz, m.heap.gown, m.heap.ro⟩, h3, ⟨?_, ?_⟩, m.rnew⟩
  · unfold St.get
    cases hl : look τ.tmps t with
    | none => exact .any _
    | some v =>
      rcases get_of_refT _ h5 t v hl with rfl | hv
      · exact .any _
      · exact sle_rel _ _ _ hv (k1 t v hl) (m.tmp t)
  · refine ⟨(k2 i sb hl).1, ?_⟩
    by_cases ho : sb.owned = true
    · rcases ent i sb hl ho with ⟨c, x, hrc, _, _, hb⟩ | ⟨_, hb⟩
      · rw [(renE_some (ρ := ρ) hrc).1]; exact hb
      · exact hb
    · cases sb <;> simp [SB.owned] at ho; trivial
  · rcases ent i sb hl ho with ⟨c, x, hrc, hx, hxo, _⟩ | ⟨hrn, _⟩
    · rcases ent j sb' hl' ho' with ⟨d, y, hrd, hy, hyo, _⟩ | ⟨hrn, _⟩
      · obtain ⟨e1, e2, _⟩ := renE_some (ρ := ρ) hrc
        obtain ⟨f1, f2, _⟩ := renE_some (ρ := ρ) hrd
        rw [e2] at n1
        rw [f2] at n2
        rw [e1, f1]
        refine m.heap.inj c d _ _ hx hy hxo hyo n1 n2 fun e => ?_
        subst e
        exact hij (apart_look _ h8 i j _ _ c hl hl' hrc hrd)
      · rw [renE_none hrn] at n2; cases n2
    · rw [renE_none hrn] at n1; cases n1
  · rcases ent i sb hl ho with ⟨c, x, hrc, hx, hxo, _⟩ | ⟨hrn, _⟩
    · obtain ⟨e1, e2, _⟩ := renE_some (ρ := ρ) hrc
      rw [e2] at n1
      rw [e1]
      exact m.heap.mine c x hx hxo n1
    · rw [renE_none hrn] at n1; cases n1
  · rw [h2]; exact m.ext.1
  · refine ⟨fun i hi => ?_, fun g o hg => m.ext.2.2 g o hg⟩
    obtain ⟨e1, e2, e3⟩ := renE_some (ρ := ρ) (hbase i hi)
    obtain ⟨f1, f2, f3⟩ := m.ext.2.1 i (by rw [← h2]; exact hi)
    exact ⟨e1.trans f1, e2.trans f2, e3.trans f3⟩

theorem evC_sound (hm : P.follows .mixedOrders = true) (O : List (Nat × OT)) : ∀ (c : Code), codeOK Γ O c = true → ∀ (H : Nat → LH) (Q : Exit → St → Prop) (σ : St) (ρ : Env) (a : Act) (w : World),
    evC Γ H O c Q σ → Mod w0 own ρ0 σ ρ a w → c.wp P (QS w0 own ρ0 Q) a w := by
  intro c
  induction c with
  | skip => intro _ H Q σ ρ a w h m; exact wp_skip ⟨σ, ρ, h, m⟩
  | label l => intro _ H Q σ ρ a w h m; exact wp_label ⟨σ, ρ, h, m⟩
  | exit id => intro _ H Q σ ρ a w h m; exact wp_exit ⟨σ, ρ, h, m⟩
  | ret => intro _ H Q σ ρ a w h m; exact wp_ret ⟨σ, ρ, h, m⟩
  | goto l => intro _ H Q σ ρ a w h m; exact wp_goto ⟨σ, ρ, h, m⟩
  | scope c ih =>
    intro hc H Q σ ρ a w h m
    refine wp_scope_straight (wp_mono (ih hc H _ σ ρ a w h m) fun e a w hq => ?_)
    cases e <;> simp only [QS, Exit.noGoto, noG] at hq ⊢ <;> (try exact hq)
    obtain ⟨_, _, h, _⟩ := hq
    exact h
  | region id ops draw =>
    intro hc H Q σ ρ a w h m
    cases draw with
    | false => exact wp_region (evOps_sound (fun a w h => h) _ σ ρ a w h m)
    | true =>
      simp only [codeOK] at hc
      simp only [evC] at h
      split at hc
      · rename_i l hl
        simp only [drawOK, Bool.and_eq_true] at hc
        simp only [hl] at h
        refine wp_region_any hm (wpAny_of_R (R := RB Γ ops) _ _ _ _ ?_)
        exact (drawT_sound hc.1 (fun c a w h => h) (fun a w h => h) l _ ops.size (down_start _ _)).1 hc.2 σ ρ a _ h ⟨m.defers, m.sz, m.tmp, m.heap.drew, m.base, m.ext, m.rnew⟩
      · cases hc
  | seq x y ihx ihy =>
    intro hc H Q σ ρ a w h m
    simp only [codeOK, Bool.and_eq_true] at hc
    refine wp_seq (wp_mono (ihx hc.1 H _ σ ρ a w h m) fun e a w hq => ?_)
    cases e <;> simp only [QS, Exit.then] at hq ⊢ <;> (try exact hq)
    obtain ⟨σ', ρ', h', m'⟩ := hq
    exact ihy hc.2 H _ σ' ρ' a w h' m'
  | cond x c1 c2 ih1 ih2 =>
    intro hc H Q σ ρ a w h m
    simp only [codeOK, Bool.and_eq_true] at hc
    simp only [evC] at h
    split at h
    · rename_i t ht
      have hx := m.ev x
      rw [ht] at hx
      refine wp_cond hx.inv_c ?_
      cases t
      · exact ih2 hc.2 H _ σ ρ a w h m
      · exact ih1 hc.1 H _ σ ρ a w h m
    · exact h.elim
  | block id c ih =>
    intro hc H Q σ ρ a w h m
    refine wp_block (wp_mono (ih hc H _ σ ρ a w h m) fun e a w hq => ?_)
    cases e <;> simp only [QS, Exit.inBlock] at hq ⊢ <;> (try exact hq)
    rename_i id'
    obtain ⟨σ', ρ', h', m'⟩ := hq
    simp only [inBlk] at h'
    split at h'
    · rename_i hb
      rw [if_pos (Nat.eq_of_beq_eq_true hb)]
      exact ⟨σ', ρ', h', m'⟩
    · rename_i hb
      rw [if_neg (fun e => by rw [e] at hb; simp at hb)]
      exact ⟨σ', ρ', h', m'⟩
  | loop c ih =>
    intro hc H Q σ ρ a w h m
    have thenQ : ∀ (K : St → Prop) (e : Exit) (a : Act) (w : World), QS w0 own ρ0 (thenS K Q) e a w → Exit.then (fun a w => Sat w0 own ρ0 K a w) (QS w0 own ρ0 Q) e a w := by
      intro K e a w hq
      cases e <;> simp only [QS, Exit.then] at hq ⊢ <;> exact hq
    simp only [evC] at h
    split at h
    · rename_i n hH
      refine wp_loop_rounds n ?_
      clear hH
      induction n generalizing σ ρ a w with
      | zero => exact h.elim
      | succ n ihn =>
        rw [rounds_succ]
        refine wp_mono (ih hc H _ σ ρ a w h m) fun e a w hq => ?_
        have := thenQ _ e a w hq
        cases e <;> simp only [Exit.then] at this ⊢ <;> (try exact this)
        obtain ⟨σ', ρ', h', m'⟩ := this
        exact ihn σ' ρ' a w m' h'
    · rename_i X st ok μ sub _
      obtain ⟨⟨x0, hx0, hr0⟩, hround⟩ := h
      obtain ⟨ρ0', m0⟩ := m.refine hr0
      refine wp_loop_ghost (fun k a w => ∃ x ρ, ok x ∧ μ x = k ∧ Mod w0 own ρ0 (st x) ρ a w) (μ x0) ⟨x0, ρ0', hx0, rfl, m0⟩ ?_
      rintro k a w ⟨x, ρ1, hx, rfl, mx⟩
      refine wp_mono (ih hc _ _ _ ρ1 a w (hround x hx) mx) fun e a w hq => ?_
      have := thenQ _ e a w hq
      cases e <;> simp only [Exit.then] at this ⊢ <;> (try exact this)
      obtain ⟨σ', ρ', ⟨x', hx', hlt, hr⟩, m'⟩ := this
      obtain ⟨ρ2, m2⟩ := m'.refine hr
      exact ⟨μ x', hlt, x', ρ2, hx', rfl, m2⟩
    · exact h.elim
  | _ => intro hc; simp [codeOK] at hc


/-! ### a function -/

theorem resOf_sound (m : Mod w0 own ρ0 σ ρ a w) : ∀ (rs : List ResultVar) (l : List SV), resOf P σ rs = some l →
    ∃ vs, RelL σ.next ρ l vs ∧ (rs.mapM (fun r => (match r with | .tmp t => pure (a.tmps.getD t undef) | .cell x t => do loadVar t (← asAddr (a.tmps.getD x undef)) : Sem Value))).run P w = .ok vs w := by
  intro rs
  induction rs with
  | nil => intro l h; cases h; exact ⟨[], .nil, rfl⟩
  | cons r rs ih =>
    intro l h
    cases r with
    | tmp t =>
      simp only [resOf] at h
      cases hr : resOf P σ rs with
      | none => simp [hr] at h
      | some l' =>
        simp only [hr] at h
        cases h
        obtain ⟨vs, h1, h2⟩ := ih _ hr
        refine ⟨_, .cons _ _ _ _ (m.tmp t).notRow (m.tmp t) h1, ?_⟩
        rw [List.mapM_cons, Sem.run_bind]
        simp only [Sem.run_pure, Result.andThen_ok, Sem.run_bind, h2]
    | cell x t =>
      simp only [resOf] at h
      split at h
      · rename_i b off l' hb hr
        split at h
        · rename_i cs t' hl
          split at h
          · rename_i v hv
            cases h
            obtain ⟨vs, h1, h2⟩ := ih _ hr
            have hx := m.tmp x
            rw [hb] at hx
            obtain ⟨hx, _⟩ := hx.inv_ptr
            obtain ⟨_, us, fr, e1, e2, _⟩ := (m.heap.rel _ _ hl).2
            obtain ⟨y, hy, hrun⟩ := run_loadVar_known hv e2
            refine ⟨_, .cons _ _ _ _ hy.notRow hy h1, ?_⟩
            have e : (do loadVar t (← asAddr (a.tmps.getD x undef)) : Sem Value).run P w = .ok y w := by
              rw [hx]; simp [asAddr, hrun w _ _ _ e1]
            rw [List.mapM_cons, Sem.run_bind]
            simp only [e, Sem.run_bind, Sem.run_pure, Result.andThen_ok, h2]
          · cases h
        · cases h
      · cases h

theorem oneOf_rel {n : Nat} {l : List SV} {vs : List Value} (h : RelL n ρ l vs) (hr : ∀ x ∈ l, x.isRow = false) :
    Rel n ρ (oneOf l) (if hs : vs.toArray.size = 1 then vs.toArray[0] else .tuple vs.toArray) := by
  cases h with
  | nil => exact .tup _ _ .nil
  | row => have := hr _ (List.mem_cons_self ..); simp [SV.isRow] at this
  | cons x cs v vs hx h1 h2 =>
    cases h2 with
    | nil => simpa [oneOf] using h1
    | row => have := hr _ (List.mem_cons_of_mem _ (List.mem_cons_self ..)); simp [SV.isRow] at this
    | cons y cs u us hy h3 h4 =>
      simp only [oneOf]
      rw [dif_neg (by simp)]
      exact .tup _ _ (.cons _ _ _ _ hx h1 (.cons _ _ _ _ hy h3 h4))

theorem resOf_noRow : ∀ (rs : List ResultVar) (l : List SV), (∀ t, (σ.get t).isRow = false) → (∀ (b off t : Nat) cs t' v, look σ.heap b = some (.cells cs t') → readAt P t cs off = some v → v.isRow = false) → resOf P σ rs = some l → ∀ x ∈ l, x.isRow = false := by
  intro rs
  induction rs with
  | nil => intro l _ _ h; cases h; simp
  | cons r rs ih =>
    intro l h1 h2 h
    cases r with
    | tmp t =>
      simp only [resOf] at h
      split at h
      · rename_i l' hr
        cases h
        intro x hx
        rcases List.mem_cons.1 hx with rfl | hx
        · exact h1 t
        · exact ih _ h1 h2 hr x hx
      · cases h
    | cell x t =>
      simp only [resOf] at h
      split at h
      · rename_i b off l' hb hr
        split at h
        · rename_i cs t' hl
          split at h
          · rename_i v hv
            cases h
            intro x hx
            rcases List.mem_cons.1 hx with rfl | hx
            · exact h2 _ _ _ _ _ _ hl hv
            · exact ih _ h1 h2 hr x hx
          · cases h
        · cases h
      · cases h

/-- **A function's contract from its body**: blocks 0 .. next-1 as they are when the call begins. -/
theorem calls_of_ev (hm : P.follows .mixedOrders = true) (H : Nat → LH) (O : List (Nat × OT)) {f : FuncId} {fn : Func} {c : Code} (hf : P.funcs[f]? = some fn) (hb : fn.body = some c) (hok : codeOK Γ O c = true)
    {args : List SV} {vs : List Value} {heap : List (Nat × SB)} {next : Nat} {K : SV → List (Nat × SB) → Nat → Prop}
    (hargs : RelL next ρ args vs) (hrow : ∀ x ∈ args, x.isRow = false) (hn : args.length ≤ fn.ntmps) (hh : HMod w0 own heap next ρ w)
    (hev : evC Γ H O c (fnPost P fn K) ⟨startT 0 args, fn.ntmps, heap, next, next⟩) :
    Calls P f vs.toArray w fun e w' => ∃ r v heap' next' ρ', K r heap' next' ∧ e = .returned v ∧ Rel next' ρ' r v ∧ next ≤ next' ∧ Ext next ρ ρ' ∧ HMod w0 own heap' next' ρ' w' ∧ RNew w0 ρ.R ρ'.R := by
  have hlen : vs.length = args.length := by
    clear hev hn
    induction args generalizing vs with
    | nil => cases hargs; rfl
    | cons x l ih =>
      cases hargs with
      | row => have := hrow _ (List.mem_cons_self ..); simp [SV.isRow] at this
      | cons _ _ v vs _ _ h2 => simp [ih h2 (fun y hy => hrow y (List.mem_cons_of_mem _ hy))]
  refine calls_of_wp hf hb ?_
  have hstart : Mod w0 own (next, ρ) ⟨startT 0 args, fn.ntmps, heap, next, next⟩ ρ ⟨vs.toArray ++ Array.replicate (fn.ntmps - vs.toArray.size) undef, []⟩ w := by
    refine ⟨rfl, by simp; omega, fun t => ?_, hh, Nat.le_refl _, ⟨rfl, Ext.refl _ _⟩, fun _ _ h => .inl h⟩
    have key : ∀ (args : List SV) (vs : List Value) (i : Nat), RelL next ρ args vs → (∀ x ∈ args, x.isRow = false) → ∀ t sv, look (startT i args) t = some sv → ∃ v, i ≤ t ∧ vs[t - i]? = some v ∧ Rel next ρ sv v := by
      intro args
      induction args with
      | nil => intro vs i _ _ t sv h; cases h
      | cons x l ih =>
        intro vs i h hr t sv hl
        cases h with
        | row => have := hr _ (List.mem_cons_self ..); simp [SV.isRow] at this
        | cons _ _ v vs _ h1 h2 =>
          by_cases hi : i = t
          · subst hi
            simp only [startT, look_cons_same] at hl
            cases hl
            exact ⟨v, Nat.le_refl _, by simp, h1⟩
          · simp only [startT] at hl
            rw [look_cons_ne hi] at hl
            obtain ⟨u, h3, h4, h5⟩ := ih vs (i + 1) h2 (fun y hy => hr y (List.mem_cons_of_mem _ hy)) t sv hl
            refine ⟨u, by omega, ?_, h5⟩
            rw [show t - i = (t - (i + 1)) + 1 by omega, List.getElem?_cons_succ]
            exact h4
    simp only [St.get]
    cases hl : look (startT 0 args) t with
    | none => exact .any _
    | some sv =>
      obtain ⟨v, _, h2, h3⟩ := key args vs 0 hargs hrow t sv hl
      simp only [Nat.sub_zero] at h2
      have hlt : t < vs.length := (List.getElem?_eq_some_iff.1 h2).1
      have : (vs.toArray ++ Array.replicate (fn.ntmps - vs.toArray.size) undef).getD t undef = v := by
        rw [Array.getD_eq_getD_getElem?, Array.getElem?_append_left (by simpa using hlt)]
        simp [h2]
      rw [this]; exact h3
  refine wp_mono (evC_sound hm O c hok H _ _ ρ _ w hev hstart) fun e a' w' hq => ?_
  have fin : ∀ σ ρ', (match resOf P σ fn.results.toList with | some l => K (oneOf l) σ.heap σ.next | none => False) → Mod w0 own (next, ρ) σ ρ' a' w' →
      a'.defers = [] ∧ ∃ v, (results fn a'.tmps).run P w' = .ok v w' ∧ (∃ r u heap' next' ρ', K r heap' next' ∧ Ending.returned v = Ending.returned u ∧ Rel next' ρ' r u ∧ next ≤ next' ∧ Ext next ρ ρ' ∧ HMod w0 own heap' next' ρ' w' ∧ RNew w0 ρ.R ρ'.R) := by
    intro σ ρ' h m
    split at h
    · rename_i l hl
      obtain ⟨us, hr, hrun⟩ := resOf_sound m _ _ hl
      have hnr : ∀ x ∈ l, x.isRow = false := resOf_noRow _ _ (fun t => (m.tmp t).notRow) (fun b off t cs t' v hb hv => by
        obtain ⟨_, us, fr, e1, e2, _⟩ := (m.heap.rel _ _ hb).2
        obtain ⟨y, hy, _⟩ := run_loadVar_known hv e2
        exact hy.notRow) hl
      refine ⟨m.defers, _, ?_, _, _, _, _, ρ', h, rfl, oneOf_rel hr hnr, ?_, ?_, m.heap, m.rnew⟩
      · unfold results
        rw [Array.mapM_eq_mapM_toList]
        simp only [Sem.run_bind, Sem.run_map, Sem.run_pure]
        refine (congrArg (fun r : Result (List Value) => (r.andThen _).andThen _) hrun).trans ?_
        rfl
      · have h1 := m.ext.1; have := m.base; simp at h1; omega
      · have h1 := m.ext.1; have h2 := m.ext.2; simp at h1; rw [h1] at h2; exact h2
    · exact h.elim
  cases e with
  | normal => obtain ⟨σ, ρ', h, m⟩ := hq; simp only [fnPost, force_eq] at h; exact fin σ ρ' h m
  | ret => obtain ⟨σ, ρ', h, m⟩ := hq; simp only [fnPost, force_eq] at h; exact fin σ ρ' h m
  | exit id => obtain ⟨σ, ρ', h, m⟩ := hq; exact h.elim
  | goto l => obtain ⟨σ, ρ', h, m⟩ := hq; exact h.elim
  | panic ch => exact hq.elim
  | outgrown => exact hq.elim

end
end Go.Proofs.Ytjiamfajgllelaa.Sy
