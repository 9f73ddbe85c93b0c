/-
  SxA: a region that draws, code, a function.
-/
import Derived.Test.YtlobbcodnkfbiaaDoorSx9
import Derived.Deep.LoopGhost
namespace Go.Proofs.YtlobbcodnkfbiaaDoor.Sx
open Go Go.RowKit

section
variable {P : Program} {w0 : World} {own : Nat → Prop} {ρ0 : Nat × (Nat → Nat)} {σ : St} {ρ : Nat → Nat} {a : Act} {w : World} {Γ : Gam P}
variable {ops : Array Oper} {Q : Exit → Act → World → Prop}

def RB {P : Program} (Γ : Gam P) (ops : Array Oper) : Nat → World → World → Prop :=
  fun j w w' => ∃ o, ops[j]? = some o ∧ (harmless Γ o.op = true → Below w.heap.size w w')

theorem silent_harmless {o : Op} (h : silentOp o = true) : harmless Γ o = true := by
  unfold harmless
  split <;> simp_all [silentOp]

theorem down_start (n : Nat) (md : Region.Mode) : Down md ops (Array.replicate n false) := by
  intro k o e hk
  simp [Array.getD] at hk

/-- the branches of a choice, and a tree by itself -/
theorem drawT_sound {K : St → Prop} (hsel : Region.noSelect ops = true) (hQ : ∀ c a w, ¬ Q (.panic c) a w) (hK : ∀ a w, Sat w0 own ρ0 K a w → Q .normal a w) :
    ∀ (t : OT) (listed : Array Bool) (n : Nat), Down .any ops listed →
    (drawT Γ ops t true listed n = true → ∀ (σ : St) (ρ : Nat → Nat) (a : Act) (w : World), evT Γ ops t σ K → Mod w0 own ρ0 σ ρ a w → wpAnyR P .any ops Q (RB Γ ops) n listed a w) ∧
    (drawT Γ ops t false listed (n + 1) = true → ∀ (σ : St) (ρ : Nat → Nat) (a : Act) (w : World), evT Γ ops t σ K → Mod w0 own ρ0 σ ρ a w →
      ∀ i ∈ heads t, wpOp P ops Q i (fun a' w' => RB Γ ops i w w' ∧ wpAnyR P .any ops Q (RB Γ ops) n (listed.setIfInBounds i true) a' w') a w) := by
  intro t
  -- a loud step
  have loud1 : ∀ (i : Nat) (r : OT) (listed : Array Bool) (n : Nat) (o : Oper), ops[i]? = some o → Down .any ops (listed.setIfInBounds i true) →
      (∀ (σ : St) (ρ : Nat → Nat) (a : Act) (w : World), evT Γ ops r σ K → Mod w0 own ρ0 σ ρ a w → wpAnyR P .any ops Q (RB Γ ops) n (listed.setIfInBounds i true) a w) →
      ∀ (σ : St) (ρ : Nat → Nat) (a : Act) (w : World), (evOps Γ ops [i] σ fun σ' => evT Γ ops r σ' K) → Mod w0 own ρ0 σ ρ a w →
      wpOp P ops Q i (fun a' w' => RB Γ ops i w w' ∧ wpAnyR P .any ops Q (RB Γ ops) n (listed.setIfInBounds i true) a' w') a w := by
    intro i r listed n o ho hdown ih σ ρ a w h m
    obtain ⟨o', σ', ho', m', hh⟩ := evOps_cons m h
    rw [ho] at ho'; cases ho'
    unfold wpOp
    simp only [ho]
    rcases hh with ⟨hw, he⟩ | ⟨hw, he⟩
    · rw [if_pos hw]
      have := evOp_sound m' he Q
      unfold OpOk at this
      refine .inl (Oper.wp_mono (fun a' w' hs => ?_) this)
      obtain ⟨⟨σ2, ρ2, h2, m2⟩, hb⟩ := hs
      exact ⟨⟨o, ho, hb⟩, ih σ2 ρ2 _ w' h2 m2⟩
    · rw [if_neg (by simp [hw])]
      obtain ⟨σ2, ρ2, h2, m2⟩ := m'.put (.c undef) he
      exact ⟨⟨o, ho, fun _ => Below.refl _ _⟩, ih σ2 ρ2 _ w h2 m2⟩
  induction t with
  | done =>
    intro listed n _
    refine ⟨fun hd σ ρ a w h m => ?_, fun hd => ?_⟩
    · simp only [drawT, Bool.and_eq_true, List.isEmpty_iff] at hd
      obtain ⟨h0, h1⟩ := hd
      obtain rfl := Nat.eq_of_beq_eq_true h0
      exact ⟨h1, hK _ _ ⟨σ, ρ, h, m⟩⟩
    · intro σ ρ a w _ _ i hi; cases hi
  | one i r ih =>
    intro listed n hdown
    refine ⟨fun hd σ ρ a w h m => ?_, fun hd σ ρ a w h m j hj => ?_⟩
    · cases n with
      | zero => simp [drawT] at hd
      | succ n =>
      simp only [drawT] at hd
      obtain ⟨o, σ', ho, m', hh⟩ := evOps_cons m h
      simp only [ho, Bool.and_eq_true] at hd
      obtain ⟨⟨hri, hcase⟩, hrest⟩ := hd
      have hri' : i ∈ Region.ready .any ops listed := by simpa using hri
      have hdown' := down_set hdown hri'
      have ih := (ih (listed.setIfInBounds i true) n hdown').1 hrest
      by_cases hs : silentOp o.op = true
      · rw [if_pos hs, Bool.true_and, Bool.and_eq_true] at hcase
        obtain ⟨hfree, hload⟩ := hcase
        have hRi : ∀ w, RB Γ ops i w w := fun w => ⟨o, ho, fun _ => Below.refl _ _⟩
        rcases hh with ⟨hw, he⟩ | ⟨hw, he⟩
        · -- it is carried out
          unfold evOp at he
          cases hsil : sil P σ' o.op with
          | none =>
            simp only [hsil] at he
            have := loud_not_silent he
            rw [hs] at this; cases this
          | some s =>
            simp only [hsil] at he
            have key : (∀ p, s.obl = some p → p) ∧ putK σ' o.dst s.val fun σ'' => evT Γ ops r σ'' K := by
              split at he
              · rename_i hn; exact ⟨fun p hp => (by rw [hn] at hp; cases hp), he⟩
              · rename_i p hp; exact ⟨fun q hq => (by rw [hp] at hq; cases hq; exact he.1), he.2⟩
            obtain ⟨x, hx, hrun⟩ := sil_sound m' hsil key.1
            obtain ⟨σ2, ρ2, h2, m2⟩ := m'.put hx key.2
            have hH := ih σ2 ρ2 _ w h2 m2
            cases hr : s.reads with
            | none =>
              exact wpAnyR_first (v := x) ho (Region.noSelect_spec hsel) hQ (fun _ => True) hRi (fun _ _ _ _ _ _ => trivial) n listed a w hdown (Region.free_spec ho hfree) hri'
                (.inl ⟨hw, fun w' _ => hrun w' (fun b hb => by rw [hr] at hb; cases hb)⟩) trivial hH
            | some b =>
              have hro : readsOp o.op = true := by
                cases hx : readsOp o.op with
                | true => rfl
                | false => have := sil_reads hsil hx; rw [hr] at this; cases this
              rw [hro] at hload
              simp only [Bool.not_true, Bool.false_or, loadOK, List.all_eq_true, List.mem_range, Bool.or_eq_true] at hload
              obtain ⟨sb, hsb⟩ := sil_reads_look hsil hr
              have hlt : ρ b < w.heap.size := m'.heap.there b (m'.heap.rel _ _ hsb).1
              refine wpAnyR_first (v := x) ho (Region.noSelect_spec hsel) hQ (fun w' => w.heap.size ≤ w'.heap.size ∧ w'.heap[ρ b]? = w.heap[ρ b]?) hRi ?_ n listed a w hdown (Region.free_spec ho hfree) hri'
                (.inl ⟨hw, fun w' hS => hrun w' (fun b' hb => by rw [hr] at hb; cases hb; exact hS.2)⟩) ⟨Nat.le_refl _, rfl⟩ hH
              intro j u u' hnd hS hR
              obtain ⟨oj, hoj, hR⟩ := hR
              · have hj : j < ops.size := (Array.getElem?_eq_some_iff.1 hoj).1
                rcases hload j hj with h1 | h1
                · exact absurd (depList_sound i j (by simpa using h1)) hnd
                · rw [hoj] at h1
                  have hB := hR h1
                  exact ⟨Nat.le_trans hS.1 hB.size, by rw [hB.block _ (by omega)]; exact hS.2⟩
        · obtain ⟨σ2, ρ2, h2, m2⟩ := m'.put (.c undef) he
          refine wpAnyR_first (v := undef) ho (Region.noSelect_spec hsel) hQ (fun _ => True) hRi (fun _ _ _ _ _ _ => trivial) n listed a w hdown (Region.free_spec ho hfree) hri' (.inr ⟨hw, rfl⟩) trivial (ih σ2 ρ2 _ w h2 m2)
      · rw [if_neg hs, Bool.not_true, Bool.false_or, List.all_eq_true] at hcase
        refine ⟨fun h0 => (by rw [h0] at hri'; cases hri'), fun j hj => ?_⟩
        have hji : j = i := by simpa using hcase j hj
        subst hji
        exact loud1 _ _ _ _ o ho hdown' ih σ ρ a w h m
    · simp only [drawT] at hd
      obtain rfl := List.mem_singleton.1 hj
      split at hd
      · cases hd
      · rename_i o ho
        simp only [Bool.and_eq_true] at hd
        obtain ⟨⟨hri, hcase⟩, hrest⟩ := hd
        have hdown' := down_set hdown (by simpa using hri : j ∈ Region.ready .any ops listed)
        exact loud1 _ _ _ _ o ho hdown' ((ih _ n hdown').1 hrest) σ ρ a w h m
  | alt i r rest ih ih2 =>
    intro listed n hdown
    have step : ∀ n alone, drawT Γ ops (.alt i r rest) alone listed (n + 1) = true → ∀ (σ : St) (ρ : Nat → Nat) (a : Act) (w : World), evT Γ ops (.alt i r rest) σ K → Mod w0 own ρ0 σ ρ a w →
        ∀ j ∈ heads (.alt i r rest), wpOp P ops Q j (fun a' w' => RB Γ ops j w w' ∧ wpAnyR P .any ops Q (RB Γ ops) n (listed.setIfInBounds j true) a' w') a w := by
      intro n alone hd σ ρ a w h m j hj
      simp only [drawT] at hd
      split at hd
      · cases hd
      · rename_i o ho
        simp only [Bool.and_eq_true] at hd
        obtain ⟨⟨hri, _⟩, hr, hrest⟩ := hd
        rcases List.mem_cons.1 hj with rfl | hj
        · have hdown' := down_set hdown (by simpa using hri : j ∈ Region.ready .any ops listed)
          exact loud1 _ _ _ _ o ho hdown' ((ih _ n hdown').1 hr) σ ρ a w h.1 m
        · exact (ih2 listed n hdown).2 hrest σ ρ a w h.2 m j hj
    refine ⟨fun hd σ ρ a w h m => ?_, fun hd => step n false hd⟩
    cases n with
    | zero => simp [drawT] at hd
    | succ n =>
      have hstep := step n true hd σ ρ a w h m
      simp only [drawT] at hd
      split at hd
      · cases hd
      · rename_i o ho
        simp only [Bool.and_eq_true, Bool.not_true, Bool.false_or, List.all_eq_true, Bool.or_eq_true] at hd
        obtain ⟨⟨hri, _, hall⟩, _⟩ := hd
        have hri' : i ∈ Region.ready .any ops listed := by simpa using hri
        refine ⟨fun h0 => (by rw [h0] at hri'; cases hri'), fun j hj => hstep j ?_⟩
        rcases hall j hj with h1 | h1
        · exact List.mem_cons.2 (.inl (by simpa using h1))
        · exact List.mem_cons.2 (.inr (by simpa using h1))

/-- every region of a body that draws its order may -/
def codeOK {P : Program} (Γ : Gam P) (O : List (Nat × OT)) : Code → Bool
  | .region id ops draw => match draw with
    | true => match look O id with
      | some l => drawOK Γ ops l
      | none => false
    | false => true
  | .seq a b => codeOK Γ O a && codeOK Γ O b
  | .cond _ a b => codeOK Γ O a && codeOK Γ O b
  | .block _ c => codeOK Γ O c
  | .loop c => codeOK Γ O c
  | .skip | .label _ | .exit _ | .ret => true
  | _ => false

/-- A post of symbolic states as a post of the walk. -/
def QS (w0 : World) (own : Nat → Prop) (ρ0 : Nat × (Nat → Nat)) (Q : Exit → St → Prop) : Exit → Act → World → Prop
  | .panic _, _, _ => False
  | .outgrown, _, _ => False
  | e, a, w => Sat w0 own ρ0 (Q e) a w

theorem QS_mono {Q Q' : Exit → St → Prop} (h : ∀ e σ, Q e σ → Q' e σ) (e : Exit) (a : Act) (w : World) (hq : QS w0 own ρ0 Q e a w) : QS w0 own ρ0 Q' e a w := by
  cases e <;> simp only [QS] at * <;> (first | exact hq | (obtain ⟨σ, ρ, h1, h2⟩ := hq; exact ⟨σ, ρ, h _ _ h1, h2⟩))

theorem get_of_refT : ∀ (l : List (Nat × SV)), refT σ l → ∀ t v, look l t = some v → v = .any ∨ σ.get t = v := by
  intro l
  induction l with
  | nil => intro _ t v h; cases h
  | cons x l ih =>
    obtain ⟨i, u⟩ := x
    intro h t v hl
    by_cases hi : i = t
    · subst hi
      rw [look_cons_same] at hl
      cases hl
      by_cases hu : u = .any
      · exact .inl hu
      · refine .inr ?_
        cases u <;> simp only [refT] at h <;> (first | exact absurd rfl hu | exact h.1)
    · rw [look_cons_ne hi] at hl
      refine ih ?_ t v hl
      cases u <;> simp only [refT] at h <;> (first | exact h | exact h.2)

theorem look_of_refH : ∀ (l : List (Nat × SB)), refH σ l → ∀ i sb, look l i = some sb → sb = .junk ∨ look σ.heap i = some sb := by
  intro l
  induction l with
  | nil => intro _ t v h; cases h
  | cons x l ih =>
    obtain ⟨i, u⟩ := x
    intro h t v hl
    by_cases hi : i = t
    · subst hi
      rw [look_cons_same] at hl
      cases hl
      cases u with
      | junk => exact .inl rfl
      | cells cs t => simp only [refH] at h; exact .inr h.1
    · rw [look_cons_ne hi] at hl
      refine ih ?_ t v hl
      cases u <;> simp only [refH] at h <;> (first | exact h | exact h.2)

theorem within_look : ∀ (n : Nat) (l : List (Nat × SV)) (h : List (Nat × SB)), withinAll n l h = true →
    (∀ t v, look l t = some v → within n v = true) ∧ (∀ i sb, look h i = some sb → i < n ∧ ∀ cs t, sb = .cells cs t → withinL n cs = true) := by
  intro n l h hw
  simp only [withinAll, Bool.and_eq_true] at hw
  obtain ⟨h1, h2⟩ := hw
  constructor
  · clear h2
    induction l with
    | nil => intro t v hl; cases hl
    | cons x l ih =>
      obtain ⟨j, u⟩ := x
      simp only [withinT, Bool.and_eq_true] at h1
      intro t v hl
      by_cases hij : j = t
      · subst hij; rw [look_cons_same] at hl; cases hl; exact h1.1
      · rw [look_cons_ne hij] at hl; exact ih h1.2 t v hl
  · clear h1
    induction h with
    | nil => intro i sb hl; cases hl
    | cons x h ih =>
      obtain ⟨j, u⟩ := x
      simp only [withinH, Bool.and_eq_true, Nat.blt_eq] at h2
      intro i sb hl
      by_cases hij : j = i
      · subst hij
        rw [look_cons_same] at hl
        cases hl
        refine ⟨h2.1, fun cs t e => ?_⟩
        subst e
        exact h2.2.1
      · rw [look_cons_ne hij] at hl; exact ih h2.2.2 i sb hl

/-- what is known of a state may be forgotten -/
theorem Mod.refine {τ : St} (m : Mod w0 own ρ0 σ ρ a w) (h : refines σ τ) : Mod w0 own ρ0 τ ρ a w := by
  obtain ⟨h1, h2, h3, h4, h5, h6, h7⟩ := h
  obtain ⟨k1, k2⟩ := within_look _ _ _ h7
  refine ⟨m.defers, by rw [h1]; exact m.sz, fun t => ?_, ⟨fun i sb hl => ?_, fun i j sb sb' hl hl' ho ho' hij => ?_, fun i sb hl ho => ?_, fun i hi => m.heap.there i (by omega), m.heap.os, m.heap.tape, m.heap.output, m.heap.size, m.heap.block, m.heap.glob, m.heap.gsz, m.heap.gown⟩, h3, by rw [h2]; exact m.ext⟩
  · unfold St.get
    cases hl : look τ.tmps t with
    | none => exact .any _
    | some v =>
      rcases get_of_refT _ h5 t v hl with rfl | hv
      · exact .any _
      · have := m.tmp t
        rw [hv] at this
        exact this.less (k1 t v hl)
  · obtain ⟨hi, hcs⟩ := k2 i sb hl
    refine ⟨hi, ?_⟩
    cases sb with
    | junk => trivial
    | cells cs t =>
      rcases look_of_refH _ h6 i _ hl with hj | hl'
      · cases hj
      · obtain ⟨vs, fr, e1, e2, e3⟩ := (m.heap.rel _ _ hl').2
        exact ⟨vs, fr, e1, e2.less (hcs _ _ rfl), e3⟩
  · rcases look_of_refH _ h6 i _ hl with rfl | hl1
    · cases ho
    · rcases look_of_refH _ h6 j _ hl' with rfl | hl2
      · cases ho'
      · exact m.heap.inj i j _ _ hl1 hl2 ho ho' hij
  · rcases look_of_refH _ h6 i _ hl with rfl | hl1
    · cases ho
    · exact m.heap.mine i _ hl1 ho

theorem evC_sound (hm : P.follows .mixedOrders = true) (H : Nat → LH) (O : List (Nat × OT)) : ∀ (c : Code), codeOK Γ O c = true → ∀ (Q : Exit → St → Prop) (σ : St) (ρ : Nat → Nat) (a : Act) (w : World),
    evC Γ H O c Q σ → Mod w0 own ρ0 σ ρ a w → c.wp P (QS w0 own ρ0 Q) a w := by
  intro c
  induction c with
  | skip => intro _ Q σ ρ a w h m; exact wp_skip ⟨σ, ρ, h, m⟩
  | label l => intro _ Q σ ρ a w h m; exact wp_label ⟨σ, ρ, h, m⟩
  | exit id => intro _ Q σ ρ a w h m; exact wp_exit ⟨σ, ρ, h, m⟩
  | ret => intro _ Q σ ρ a w h m; exact wp_ret ⟨σ, ρ, h, m⟩
  | region id ops draw =>
    intro hc Q σ ρ a w h m
    cases draw with
    | false => exact wp_region (evOps_sound (fun a w h => h) _ σ ρ a w h m)
    | true =>
      simp only [codeOK] at hc
      simp only [evC] at h
      split at hc
      · rename_i l hl
        simp only [drawOK, Bool.and_eq_true] at hc
        simp only [hl] at h
        refine wp_region_any hm (wpAny_of_R (R := RB Γ ops) _ _ _ _ ?_)
        exact (drawT_sound hc.1 (fun c a w h => h) (fun a w h => h) l _ ops.size (down_start _ _)).1 hc.2 σ ρ a _ h ⟨m.defers, m.sz, m.tmp, m.heap.drew, m.base, m.ext⟩
      · cases hc
  | seq x y ihx ihy =>
    intro hc Q σ ρ a w h m
    simp only [codeOK, Bool.and_eq_true] at hc
    refine wp_seq (wp_mono (ihx hc.1 _ σ ρ a w h m) fun e a w hq => ?_)
    cases e <;> simp only [QS, Exit.then] at hq ⊢ <;> (try exact hq)
    obtain ⟨σ', ρ', h', m'⟩ := hq
    exact ihy hc.2 _ σ' ρ' a w h' m'
  | cond x c1 c2 ih1 ih2 =>
    intro hc Q σ ρ a w h m
    simp only [codeOK, Bool.and_eq_true] at hc
    simp only [evC] at h
    split at h
    · rename_i t ht
      have hx := m.ev x
      rw [ht] at hx
      refine wp_cond hx.inv_c ?_
      cases t
      · exact ih2 hc.2 _ σ ρ a w h m
      · exact ih1 hc.1 _ σ ρ a w h m
    · exact h.elim
  | block id c ih =>
    intro hc Q σ ρ a w h m
    refine wp_block (wp_mono (ih hc _ σ ρ a w h m) fun e a w hq => ?_)
    cases e <;> simp only [QS, Exit.inBlock] at hq ⊢ <;> (try exact hq)
    rename_i id'
    obtain ⟨σ', ρ', h', m'⟩ := hq
    simp only [inBlk] at h'
    split at h'
    · rename_i hb
      rw [if_pos (Nat.eq_of_beq_eq_true hb)]
      exact ⟨σ', ρ', h', m'⟩
    · rename_i hb
      rw [if_neg (fun e => by rw [e] at hb; simp at hb)]
      exact ⟨σ', ρ', h', m'⟩
  | loop c ih =>
    intro hc Q σ ρ a w h m
    have thenQ : ∀ (K : St → Prop) (e : Exit) (a : Act) (w : World), QS w0 own ρ0 (thenS K Q) e a w → Exit.then (fun a w => Sat w0 own ρ0 K a w) (QS w0 own ρ0 Q) e a w := by
      intro K e a w hq
      cases e <;> simp only [QS, Exit.then] at hq ⊢ <;> exact hq
    simp only [evC] at h
    split at h
    · rename_i n hH
      refine wp_loop_rounds n ?_
      clear hH
      induction n generalizing σ ρ a w with
      | zero => exact h.elim
      | succ n ihn =>
        rw [rounds_succ]
        refine wp_mono (ih hc _ σ ρ a w h m) fun e a w hq => ?_
        have := thenQ _ e a w hq
        cases e <;> simp only [Exit.then] at this ⊢ <;> (try exact this)
        obtain ⟨σ', ρ', h', m'⟩ := this
        exact ihn σ' ρ' a w m' h'
    · rename_i I _
      obtain ⟨⟨x0, hx0, hr0⟩, hround⟩ := h
      refine wp_loop_ghost (fun k a w => ∃ x ρ, I.ok x ∧ I.μ x = k ∧ Mod w0 own ρ0 (I.st x) ρ a w) (I.μ x0) ⟨x0, ρ, hx0, rfl, m.refine hr0⟩ ?_
      rintro k a w ⟨x, ρ1, hx, rfl, mx⟩
      refine wp_mono (ih hc _ _ ρ1 a w (hround x hx) mx) fun e a w hq => ?_
      have := thenQ _ e a w hq
      cases e <;> simp only [Exit.then] at this ⊢ <;> (try exact this)
      obtain ⟨σ', ρ', ⟨x', hx', hlt, hr⟩, m'⟩ := this
      exact ⟨I.μ x', hlt, x', ρ', hx', rfl, m'.refine hr⟩
  | _ => intro hc; simp [codeOK] at hc


/-! ### a function -/

theorem resOf_sound (m : Mod w0 own ρ0 σ ρ a w) : ∀ (rs : List ResultVar) (l : List SV), resOf P σ rs = some l →
    ∃ vs, RelL σ.next ρ l vs ∧ (rs.mapM (fun r => (match r with | .tmp t => pure (a.tmps.getD t undef) | .cell x t => do loadVar t (← asAddr (a.tmps.getD x undef)) : Sem Value))).run P w = .ok vs w := by
  intro rs
  induction rs with
  | nil => intro l h; cases h; exact ⟨[], .nil, rfl⟩
  | cons r rs ih =>
    intro l h
    cases r with
    | tmp t =>
      simp only [resOf] at h
      cases hr : resOf P σ rs with
      | none => simp [hr] at h
      | some l' =>
        simp only [hr] at h
        cases h
        obtain ⟨vs, h1, h2⟩ := ih _ hr
        refine ⟨_, .cons _ _ _ _ (m.tmp t).notRow (m.tmp t) h1, ?_⟩
        rw [List.mapM_cons, Sem.run_bind]
        simp only [Sem.run_pure, Result.andThen_ok, Sem.run_bind, h2]
    | cell x t =>
      simp only [resOf] at h
      split at h
      · rename_i b off l' hb hr
        split at h
        · rename_i cs t' hl
          split at h
          · rename_i v hv
            cases h
            obtain ⟨vs, h1, h2⟩ := ih _ hr
            have hx := m.tmp x
            rw [hb] at hx
            obtain ⟨hx, _⟩ := hx.inv_ptr
            obtain ⟨us, fr, e1, e2, _⟩ := (m.heap.rel _ _ hl).2
            obtain ⟨y, hy, hrun⟩ := run_loadVar_known hv e2
            refine ⟨_, .cons _ _ _ _ hy.notRow hy h1, ?_⟩
            have e : (do loadVar t (← asAddr (a.tmps.getD x undef)) : Sem Value).run P w = .ok y w := by
              rw [hx]; simp [asAddr, hrun w _ _ _ e1]
            rw [List.mapM_cons, Sem.run_bind]
            simp only [e, Sem.run_bind, Sem.run_pure, Result.andThen_ok, h2]
          · cases h
        · cases h
      · cases h

theorem oneOf_rel {n : Nat} {l : List SV} {vs : List Value} (h : RelL n ρ l vs) (hr : ∀ x ∈ l, x.isRow = false) :
    Rel n ρ (oneOf l) (if hs : vs.toArray.size = 1 then vs.toArray[0] else .tuple vs.toArray) := by
  cases h with
  | nil => exact .tup _ _ .nil
  | row => have := hr _ (List.mem_cons_self ..); simp [SV.isRow] at this
  | cons x cs v vs hx h1 h2 =>
    cases h2 with
    | nil => simpa [oneOf] using h1
    | row => have := hr _ (List.mem_cons_of_mem _ (List.mem_cons_self ..)); simp [SV.isRow] at this
    | cons y cs u us hy h3 h4 =>
      simp only [oneOf]
      rw [dif_neg (by simp)]
      exact .tup _ _ (.cons _ _ _ _ hx h1 (.cons _ _ _ _ hy h3 h4))

theorem resOf_noRow : ∀ (rs : List ResultVar) (l : List SV), (∀ t, (σ.get t).isRow = false) → (∀ (b off t : Nat) cs t' v, look σ.heap b = some (.cells cs t') → readAt P t cs off = some v → v.isRow = false) → resOf P σ rs = some l → ∀ x ∈ l, x.isRow = false := by
  intro rs
  induction rs with
  | nil => intro l _ _ h; cases h; simp
  | cons r rs ih =>
    intro l h1 h2 h
    cases r with
    | tmp t =>
      simp only [resOf] at h
      split at h
      · rename_i l' hr
        cases h
        intro x hx
        rcases List.mem_cons.1 hx with rfl | hx
        · exact h1 t
        · exact ih _ h1 h2 hr x hx
      · cases h
    | cell x t =>
      simp only [resOf] at h
      split at h
      · rename_i b off l' hb hr
        split at h
        · rename_i cs t' hl
          split at h
          · rename_i v hv
            cases h
            intro x hx
            rcases List.mem_cons.1 hx with rfl | hx
            · exact h2 _ _ _ _ _ _ hl hv
            · exact ih _ h1 h2 hr x hx
          · cases h
        · cases h
      · cases h

/-- **A function's contract from its body**: blocks 0 .. next-1 as they are when the call begins. -/
theorem calls_of_ev (hm : P.follows .mixedOrders = true) (H : Nat → LH) (O : List (Nat × OT)) {f : FuncId} {fn : Func} {c : Code} (hf : P.funcs[f]? = some fn) (hb : fn.body = some c) (hok : codeOK Γ O c = true)
    {args : List SV} {vs : List Value} {heap : List (Nat × SB)} {next : Nat} {K : SV → List (Nat × SB) → Nat → Prop}
    (hargs : RelL next ρ args vs) (hrow : ∀ x ∈ args, x.isRow = false) (hn : args.length ≤ fn.ntmps) (hh : HMod w0 own heap next ρ w)
    (hev : evC Γ H O c (fnPost P fn K) ⟨startT 0 args, fn.ntmps, heap, next, next⟩) :
    Calls P f vs.toArray w fun e w' => ∃ r v heap' next' ρ', K r heap' next' ∧ e = .returned v ∧ Rel next' ρ' r v ∧ next ≤ next' ∧ Ext next ρ ρ' ∧ HMod w0 own heap' next' ρ' w' := by
  have hlen : vs.length = args.length := by
    clear hev hn
    induction args generalizing vs with
    | nil => cases hargs; rfl
    | cons x l ih =>
      cases hargs with
      | row => have := hrow _ (List.mem_cons_self ..); simp [SV.isRow] at this
      | cons _ _ v vs _ _ h2 => simp [ih h2 (fun y hy => hrow y (List.mem_cons_of_mem _ hy))]
  refine calls_of_wp hf hb ?_
  have hstart : Mod w0 own (next, ρ) ⟨startT 0 args, fn.ntmps, heap, next, next⟩ ρ ⟨vs.toArray ++ Array.replicate (fn.ntmps - vs.toArray.size) undef, []⟩ w := by
    refine ⟨rfl, by simp; omega, fun t => ?_, hh, Nat.le_refl _, rfl, Ext.refl _ _⟩
    have key : ∀ (args : List SV) (vs : List Value) (i : Nat), RelL next ρ args vs → (∀ x ∈ args, x.isRow = false) → ∀ t sv, look (startT i args) t = some sv → ∃ v, i ≤ t ∧ vs[t - i]? = some v ∧ Rel next ρ sv v := by
      intro args
      induction args with
      | nil => intro vs i _ _ t sv h; cases h
      | cons x l ih =>
        intro vs i h hr t sv hl
        cases h with
        | row => have := hr _ (List.mem_cons_self ..); simp [SV.isRow] at this
        | cons _ _ v vs _ h1 h2 =>
          by_cases hi : i = t
          · subst hi
            simp only [startT, look_cons_same] at hl
            cases hl
            exact ⟨v, Nat.le_refl _, by simp, h1⟩
          · simp only [startT] at hl
            rw [look_cons_ne hi] at hl
            obtain ⟨u, h3, h4, h5⟩ := ih vs (i + 1) h2 (fun y hy => hr y (List.mem_cons_of_mem _ hy)) t sv hl
            refine ⟨u, by omega, ?_, h5⟩
            rw [show t - i = (t - (i + 1)) + 1 by omega, List.getElem?_cons_succ]
            exact h4
    simp only [St.get]
    cases hl : look (startT 0 args) t with
    | none => exact .any _
    | some sv =>
      obtain ⟨v, _, h2, h3⟩ := key args vs 0 hargs hrow t sv hl
      simp only [Nat.sub_zero] at h2
      have hlt : t < vs.length := (List.getElem?_eq_some_iff.1 h2).1
      have : (vs.toArray ++ Array.replicate (fn.ntmps - vs.toArray.size) undef).getD t undef = v := by
        rw [Array.getD_eq_getD_getElem?, Array.getElem?_append_left (by simpa using hlt)]
        simp [h2]
      rw [this]; exact h3
  refine wp_mono (evC_sound hm H O c hok _ _ ρ _ w hev hstart) fun e a' w' hq => ?_
  have fin : ∀ σ ρ', (match resOf P σ fn.results.toList with | some l => K (oneOf l) σ.heap σ.next | none => False) → Mod w0 own (next, ρ) σ ρ' a' w' →
      a'.defers = [] ∧ ∃ v, (results fn a'.tmps).run P w' = .ok v w' ∧ (∃ r u heap' next' ρ', K r heap' next' ∧ Ending.returned v = Ending.returned u ∧ Rel next' ρ' r u ∧ next ≤ next' ∧ Ext next ρ ρ' ∧ HMod w0 own heap' next' ρ' w') := by
    intro σ ρ' h m
    split at h
    · rename_i l hl
      obtain ⟨us, hr, hrun⟩ := resOf_sound m _ _ hl
      have hnr : ∀ x ∈ l, x.isRow = false := resOf_noRow _ _ (fun t => (m.tmp t).notRow) (fun b off t cs t' v hb hv => by
        obtain ⟨us, fr, e1, e2, _⟩ := (m.heap.rel _ _ hb).2
        obtain ⟨y, hy, _⟩ := run_loadVar_known hv e2
        exact hy.notRow) hl
      refine ⟨m.defers, _, ?_, _, _, _, _, ρ', h, rfl, oneOf_rel hr hnr, ?_, ?_, m.heap⟩
      · unfold results
        rw [Array.mapM_eq_mapM_toList]
        simp only [Sem.run_bind, Sem.run_map, Sem.run_pure]
        refine (congrArg (fun r : Result (List Value) => (r.andThen _).andThen _) hrun).trans ?_
        rfl
      · have h1 := m.ext.1; have := m.base; simp at h1; omega
      · have h1 := m.ext.1; have h2 := m.ext.2; simp at h1; rw [h1] at h2; exact h2
    · exact h.elim
  cases e with
  | normal => obtain ⟨σ, ρ', h, m⟩ := hq; simp only [fnPost, force_eq] at h; exact fin σ ρ' h m
  | ret => obtain ⟨σ, ρ', h, m⟩ := hq; simp only [fnPost, force_eq] at h; exact fin σ ρ' h m
  | exit id => obtain ⟨σ, ρ', h, m⟩ := hq; exact h.elim
  | goto l => obtain ⟨σ, ρ', h, m⟩ := hq; exact h.elim
  | panic ch => exact hq.elim
  | outgrown => exact hq.elim

end
end Go.Proofs.YtlobbcodnkfbiaaDoor.Sx
