/-
  SyF: contracts of functions that hand out a slice that they have made: the caller may write it.
-/
import Derived.Test.YtjiamfajgllelaaSyC
namespace Go.Proofs.Ytjiamfajgllelaa.Sy
open Go Go.RowKit

section
variable {P : Program} {Γ : Gam P}

/-- a fresh block of a call, known to the caller from now on -/
theorem HMod.add {w0 w w' : World} {own : Nat → Prop} {ρ : Env} {heap : List (Nat × SB)} {next : Nat} (h : HMod w0 own heap next ρ w') (hold : ∀ i sb, look heap i = some sb → sb.owned = true → ρ.no i = false → ρ i < w.heap.size) (hsz : w0.heap.size ≤ w.heap.size)
    {sb : SB} {g : Nat} {no : Bool} {cap : Nat} (hg : no = false → w.heap.size ≤ g ∧ g < w'.heap.size ∧ ρ.R g = none) (hr : BRel (next + 1) (push ρ next g no cap) next sb w'.heap[g]?) :
    HMod w0 own ((next, sb) :: heap) (next + 1) (push ρ next g no cap) w' := by
  have hext := push_ext ρ next g no cap
  have hnew : ∀ i, i < next → push ρ next g no cap i = ρ i := fun i hi => (hext.1 i hi).1
  have hno : ∀ i, i < next → (push ρ next g no cap).no i = ρ.no i := fun i hi => (hext.1 i hi).2.1
  have key : ∀ i sb', look ((next, sb) :: heap) i = some sb' → (i = next ∧ sb' = sb) ∨ (i < next ∧ look heap i = some sb') := by
    intro i sb' hl
    by_cases hi : next = i
    · subst hi; rw [look_cons_same] at hl; cases hl; exact .inl ⟨rfl, rfl⟩
    · rw [look_cons_ne hi] at hl; exact .inr ⟨(h.rel _ _ hl).1, hl⟩
  refine ⟨?_, ?_, ?_, h.os, h.tape, h.output, h.size, h.block, h.glob, h.gsz, h.gown, h.ro⟩
  · intro i sb' hl
    rcases key i sb' hl with ⟨rfl, rfl⟩ | ⟨hi, hl'⟩
    · exact ⟨Nat.lt_succ_self _, by rw [push_at]; exact hr⟩
    · rw [hnew i hi]
      exact ⟨by omega, (h.rel i sb' hl').2.ext (Nat.le_succ _) hext hi⟩
  · intro i j sb1 sb2 hl hl' ho1 ho2 n1 n2 hij
    rcases key i sb1 hl with ⟨rfl, rfl⟩ | ⟨hi, hl1⟩ <;> rcases key j sb2 hl' with ⟨rfl, rfl⟩ | ⟨hj, hl2⟩
    · exact absurd rfl hij
    · rw [hno j hj] at n2
      rw [push_no] at n1
      rw [push_at, hnew j hj]; have := hold j sb2 hl2 ho2 n2; have := (hg n1).1; omega
    · rw [hno i hi] at n1
      rw [push_no] at n2
      rw [push_at, hnew i hi]; have := hold i sb1 hl1 ho1 n1; have := (hg n2).1; omega
    · rw [hno i hi] at n1
      rw [hno j hj] at n2
      rw [hnew i hi, hnew j hj]; exact h.inj i j _ _ hl1 hl2 ho1 ho2 n1 n2 hij
  · intro i sb1 hl ho1 n1
    rcases key i sb1 hl with ⟨rfl, rfl⟩ | ⟨hi, hl1⟩
    · rw [push_no] at n1
      obtain ⟨g1, g2, g3⟩ := hg n1
      rw [push_at, push_R]; exact ⟨.inr (by omega), g2, g3⟩
    · rw [hno i hi] at n1
      rw [hnew i hi, push_R]
      exact h.mine i sb1 hl1 ho1 n1

/-- a result whose first slice is handed out -/
def expo (h : List (Nat × SB)) (r : SV) (K : SV → Option SB → Prop) : Prop :=
  match r with
  | .gs b w lo hi mx => match look h b with
    | some (.arr t w' m f) => K (.gs 0 w lo hi mx) (some (.arr t w' m f))
    | _ => False
  | .tup l => match l with
    | .gs b w lo hi mx :: rest => match look h b with
      | some (.arr t w' m f) => chk (plainSV.plainL rest) (K (.tup (.gs 0 w lo hi mx :: rest)) (some (.arr t w' m f)))
      | _ => False
    | l => chk (withinL 0 l) (K (.tup l) none)
  | r => chk (within 0 r) (K r none)

def shiftR (n : Nat) : SV → SV
  | .gs _ w lo hi mx => .gs n w lo hi mx
  | .tup (.gs _ w lo hi mx :: rest) => .tup (.gs n w lo hi mx :: rest)
  | r => r

def newBs (sb : SB) (heap : List (Nat × SB)) (next : Nat) (r : SV) (K : SV → List (Nat × SB) → Nat → Prop) : Prop := K r ((next, sb) :: heap) (next + 1)
def plainB (sb : SB) (p : Prop) : Prop :=
  match sb with
  | .arr _ _ m f => (∀ j, j < m → plainSV.plainL (f j) = true) ∧ p
  | _ => False
/-- the contract's form -/
def ownTr (F : List SV → (SV → Option SB → Prop) → Prop) (args : List SV) (heap : List (Nat × SB)) (next : Nat) (K : SV → List (Nat × SB) → Nat → Prop) : Prop :=
  lend heap (fun args' lent => F args' fun r sb => match lent with
    | false => (match sb with
      | none => K r heap next
      | some sb => newBs sb heap next (shiftR next r) K)
    | true => (match sb with
      | none => chk (plainSV r) (K r heap next)
      | some sb => plainB sb (newBs sb heap next (shiftR next r) K))) args [] false
/-- what such a call comes to -/
def OCalls (P : Program) (f : FuncId) (ρ : Env) (vs : List Value) (w : World) (K : SV → Option SB → Prop) : Prop :=
  Calls P f vs.toArray w fun e w' => ∃ r v R' sb, K r sb ∧ e = .returned v ∧ Below w.heap.size w w' ∧ RMore w w' ρ.R R' ∧
    match sb with
    | none => Rel 0 { ρ with R := R' } r v
    | some sb => ∃ g no cap, (no = false → w.heap.size ≤ g ∧ g < w'.heap.size ∧ R' g = none) ∧ (∀ n (ρ1 : Env), (ρ1.R = R' → BRel (n + 1) (push ρ1 n g no cap) n sb w'.heap[g]?) ∧ Rel (n + 1) (push ρ1 n g no cap) (shiftR n r) v)

theorem own_sound (hm : P.follows .mixedOrders = true) (H : Nat → LH) (O : List (Nat × OT)) {f : FuncId} {fn : Func} {c : Code} (hf : P.funcs[f]? = some fn) (hb : fn.body = some c) (hok : codeOK Γ O c = true)
    {args : List SV} {K : SV → Option SB → Prop} (hw : (withinL 0 args && noRows args && Nat.ble args.length fn.ntmps) = true)
    (hev : evC Γ H O c (fnPost P fn (fun r h _ => expo h r K)) ⟨startT 0 args, fn.ntmps, [], 0, 0⟩) {n : Nat} {ρ : Env} {vs : List Value} {w : World} (hr : RelL n ρ args vs) (hg : GP w) (hng : NG ≤ w.heap.size)
    (hro : ∀ g o, ρ.R g = some o → w.heap[g]? = some o) : OCalls P f ρ vs w K := by
  simp only [Bool.and_eq_true] at hw
  have h0 : HMod w (fun _ => False) [] 0 ρ w :=
    ⟨fun i sb h => (by cases h), fun i j _ _ h => (by cases h), fun i sb h => (by cases h), rfl, rfl, rfl, Nat.le_refl _, fun _ _ _ => rfl, hg, hng, fun _ _ => id, hro⟩
  refine (calls_of_ev hm H O hf hb hok (hr.less hw.1.1) (noRows_spec hw.1.2) (by simpa using hw.2) h0 hev).mono ?_
  rintro e w' ⟨r, v, heap', next', ρ', hk, rfl, hrel, _, hext, hm', hrn⟩
  have hbel : Below w.heap.size w w' := ⟨hm'.os, hm'.tape, hm'.output, hm'.size, fun k hk => hm'.block k hk id⟩
  have hmore : RMore w w' ρ.R ρ'.R := ⟨hext.2, fun g o hg => ⟨hm'.ro g o hg, hrn g o hg⟩⟩
  have gone : ∀ b t wd m f, look heap' b = some (.arr t wd m f) → (ρ'.no b = false → w.heap.size ≤ ρ' b ∧ ρ' b < w'.heap.size ∧ ρ'.R (ρ' b) = none) ∧
      ∀ n (ρ1 : Env), ρ1.R = ρ'.R → BRel (n + 1) (push ρ1 n (ρ' b) (ρ'.no b) (ρ'.cap b)) n (.arr t wd m f) w'.heap[ρ' b]? := by
    intro b t wd m f hl
    refine ⟨fun hno => ?_, fun n ρ1 hR => ?_⟩
    · obtain ⟨m1, m2, m3⟩ := hm'.mine b _ hl rfl hno
      exact ⟨m1.elim (fun h => h.elim) id, m2, m3⟩
    · have hRR : ∀ g o, ρ'.R g = some o → (push ρ1 n (ρ' b) (ρ'.no b) (ρ'.cap b)).R g = some o := by intro g o h; rw [push_R, hR]; exact h
      rcases (hm'.rel _ _ hl).2 with ⟨h0, h1⟩ | ⟨h0, us, h1, h2, h3, h4, h5, h6⟩
      · exact .inl ⟨by rw [push_no]; exact h0, h1⟩
      · exact .inr ⟨by rw [push_no]; exact h0, us, h1, by rw [push_cap]; exact h2, by rw [push_cap]; exact h3, by rw [push_cap]; exact h4, h5, fun j hj => (h6 j hj).R0 hRR 0⟩
  have gsOf : ∀ b wd lo hi mx u, Rel next' ρ' (.gs b wd lo hi mx) u → ∀ n (ρ1 : Env), Rel (n + 1) (push ρ1 n (ρ' b) (ρ'.no b) (ρ'.cap b)) (.gs n wd lo hi mx) u := by
    intro b wd lo hi mx u hu n ρ1
    refine .gs _ _ _ _ _ _ (Nat.lt_succ_self _) ?_
    have := hu.inv_gs.2
    unfold GsV at this ⊢
    rw [push_at, push_no, push_cap]
    exact this
  have plainCase : ∀ r', chk (within 0 r') (K r' none) → Rel next' ρ' r' v → ∃ r v1 R' sb, K r sb ∧ Ending.returned v = .returned v1 ∧ Below w.heap.size w w' ∧ RMore w w' ρ.R R' ∧
      match sb with
      | none => Rel 0 { ρ with R := R' } r v1
      | some sb => ∃ g no cap, (no = false → w.heap.size ≤ g ∧ g < w'.heap.size ∧ R' g = none) ∧ (∀ n (ρ1 : Env), (ρ1.R = R' → BRel (n + 1) (push ρ1 n g no cap) n sb w'.heap[g]?) ∧ Rel (n + 1) (push ρ1 n g no cap) (shiftR n r) v1) := by
    intro r' hk hr'
    obtain ⟨h1, h2⟩ := chk_iff.1 hk
    exact ⟨r', v, ρ'.R, none, h2, rfl, hbel, hmore, (hr'.less h1).R0 (ρ := ρ') (ρ' := { ρ with R := ρ'.R }) (fun _ _ h => h) 0⟩
  unfold expo at hk
  split at hk
  · rename_i b wd lo hi mx
    split at hk
    · rename_i t wd' m f hl
      obtain ⟨g1, g2⟩ := gone b t wd' m f hl
      exact ⟨_, v, ρ'.R, some _, hk, rfl, hbel, hmore, ρ' b, ρ'.no b, ρ'.cap b, g1, fun n ρ1 => ⟨fun hR => g2 n ρ1 hR, gsOf b wd lo hi mx v hrel n ρ1⟩⟩
    · exact hk.elim
  · rename_i l
    split at hk
    · rename_i b wd lo hi mx rest
      split at hk
      · rename_i t wd' m f hl
        obtain ⟨hp, hk⟩ := chk_iff.1 hk
        obtain ⟨g1, g2⟩ := gone b t wd' m f hl
        refine ⟨_, v, ρ'.R, some _, hk, rfl, hbel, hmore, ρ' b, ρ'.no b, ρ'.cap b, g1, fun n ρ1 => ⟨fun hR => g2 n ρ1 hR, ?_⟩⟩
        obtain ⟨us, rfl, hl⟩ := hrel.inv_tup
        cases hl with
        | cons _ _ u us' _ h1 h2 =>
          exact .tup _ _ (.cons _ _ _ _ rfl (gsOf b wd lo hi mx u h1 n ρ1) ((plainL_rel (ρ := push ρ1 n (ρ' b) (ρ'.no b) (ρ'.cap b)) hp h2).R0 (fun _ _ h => h) (n + 1)))
      · exact hk.elim
    · exact plainCase (.tup l) (by rw [show within 0 (SV.tup l) = withinL 0 l by simp [within]]; exact hk) hrel
  · exact plainCase r hk hrel

/-- a contract for the caller's own states -/
theorem own_gspec {f : FuncId} {F : List SV → (SV → Option SB → Prop) → Prop} (h : ∀ args K, F args K → ∀ n ρ vs w, RelL n ρ args vs → GP w → NG ≤ w.heap.size → (∀ g o, ρ.R g = some o → w.heap[g]? = some o) → OCalls P f ρ vs w K) :
    ∀ args heap next K, ownTr F args heap next K → ∀ w0 own ρ vs w, RelL next ρ args vs → HMod w0 own heap next ρ w →
      Calls P f vs.toArray w fun e w' => ∃ r v heap' next' ρ', K r heap' next' ∧ e = .returned v ∧ Rel next' ρ' r v ∧ next ≤ next' ∧ Ext next ρ ρ' ∧ HMod w0 own heap' next' ρ' w' ∧ RNew w0 ρ.R ρ'.R ∧ (true = true → Below w.heap.size w w') := by
  intro args heap next K ht w0 own ρ vs w hr hmod
  have hng := Nat.le_trans hmod.gsz hmod.size
  obtain ⟨args', lent', hF, hargs, hlent⟩ := lend_sound hmod args vs [] [] false hr .nil ht
  cases lent' with
  | false =>
    obtain ⟨_, he⟩ := hlent rfl
    have he : args' = args := by simpa using he
    rw [he] at hF
    refine (h args _ hF next ρ vs w hr hmod.glob hng hmod.ro).mono ?_
    rintro e w' ⟨r, v, R', sb, hk, rfl, hb, hR, hsb⟩
    have hm1 := hmod.more hb hR
    have hrn : RNew w0 ρ.R R' := fun g o hg => (hR.2 g o hg).2.imp id (Nat.le_trans hmod.size)
    have hext : Ext next ρ { ρ with R := R' } := ⟨fun _ _ => ⟨rfl, rfl, rfl⟩, hR.1⟩
    cases sb with
    | none => exact ⟨r, v, heap, next, _, hk, rfl, hsb.R0 (fun _ _ h => h) _, Nat.le_refl _, hext, hm1, hrn, fun _ => hb⟩
    | some sb =>
      obtain ⟨g, no, cap, h1, h2⟩ := hsb
      obtain ⟨h3, h4⟩ := h2 next { ρ with R := R' }
      refine ⟨_, v, _, _, _, hk, rfl, h4, Nat.le_succ _, Ext.trans hext (push_ext _ _ _ _ _) (Nat.le_refl _), ?_, hrn, fun _ => hb⟩
      exact hm1.add (w := w) (fun i sb hl ho hno => (hmod.mine i sb hl ho hno).2.1) hmod.size h1 (h3 rfl)
  | true =>
    refine (h args' _ hF next _ vs w (by simpa using hargs) hmod.glob hng (fun _ _ h => h)).mono ?_
    rintro e w' ⟨r, v, R', sb, hk, rfl, hb, hR, hsb⟩
    have hm1 := hmod.below hb
    have hrn : RNew w0 ρ.R ρ.R := fun g o hg => .inl hg
    cases sb with
    | none =>
      obtain ⟨hp, hk⟩ := chk_iff.1 hk
      exact ⟨r, v, heap, next, ρ, hk, rfl, (plain_rel hp hsb).R0 (fun _ _ h => h) _, Nat.le_refl _, Ext.refl _ _, hm1, hrn, fun _ => hb⟩
    | some sb =>
      cases sb with
      | arr t wd m f =>
        obtain ⟨hp, hk⟩ := hk
        obtain ⟨g, no, cap, h1, h2⟩ := hsb
        obtain ⟨h3, h4⟩ := h2 next ρ
        have h5 := (h2 next { ρ with R := R' }).1 rfl
        refine ⟨_, v, _, _, push ρ next g no cap, hk, rfl, h4, Nat.le_succ _, push_ext _ _ _ _ _, ?_, hrn, fun _ => hb⟩
        refine hm1.add (w := w) (fun i sb hl ho hno => (hmod.mine i sb hl ho hno).2.1) hmod.size (fun hno => ⟨(h1 hno).1, (h1 hno).2.1, ?_⟩) ?_
        · cases hr2 : ρ.R g with
          | none => rfl
          | some o =>
            have h6 := hmod.ro g o hr2
            have := (Array.getElem?_eq_some_iff.1 h6).1
            have := (h1 hno).1
            omega
        · rcases h5 with ⟨a1, a2⟩ | ⟨a0, us, a1, a2, a3, a4, a5, a6⟩
          · exact .inl ⟨a1, a2⟩
          · exact .inr ⟨a0, us, a1, a2, a3, a4, a5, fun j hj => plainL_rel (hp j hj) (a6 j hj)⟩
      | _ => exact hk.elim

end
end Go.Proofs.Ytjiamfajgllelaa.Sy
