/-
  PyA: forms of contracts over this program.
-/
import Derived.Test.YtjiamfajgllelaaOrd
import Derived.Test.YtjiamfajgllelaaSyF
import Derived.Test.YtjiamfajgllelaaChecked
namespace Go.Proofs.Ytjiamfajgllelaa
open Go Go.RowKit Sy
set_option maxRecDepth 100000

theorem hm : Try.prog.follows .mixedOrders = true := by kernel_rfl

def Sound (f : FuncId) (tr : List SV → (SV → Prop) → Prop) : Prop :=
  ∀ args K, tr args K → ∀ n ρ vs w, RelL n ρ args vs → GP w → NG ≤ w.heap.size → (∀ g o, ρ.R g = some o → w.heap[g]? = some o) → PCalls Try.prog f ρ vs w K
def ps (f : FuncId) (fn : Func) (hf : Try.prog.funcs[f]? = some fn) (hn : fn.body.isSome = true) (hr : (fn.name == "runtime.NumGoroutine") = false) {tr : List SV → (SV → Prop) → Prop} (h : Sound f tr) : PSpec Try.prog :=
  ⟨f, callFunc_run hf hn hr, tr, h⟩

/-- the run of a body whose arguments are plain -/
abbrev Ev (Γ : Gam Try.prog) (H : Nat → LH) (O : List (Nat × OT)) (fn : Func) (args : List SV) (K : SV → Prop) : Prop :=
  evC Γ H O (bd fn) (fnPost Try.prog fn (fun r h _ => frz h r K)) ⟨startT 0 args, fn.ntmps, [], 0, 0⟩

theorem snd {Γ : Gam Try.prog} {O : List (Nat × OT)} {f : FuncId} {fn : Func} (hf : Try.prog.funcs[f]? = some fn) (hb : fn.body = some (bd fn)) (hok : codeOK Γ O (bd fn) = true) {tr : List SV → (SV → Prop) → Prop}
    (h : ∀ args K, tr args K → (withinL 0 args && noRows args && Nat.ble args.length fn.ntmps) = true ∧ ∃ H, Ev Γ H O fn args K) : Sound f tr := by
  intro args K ht n ρ vs w hr hg hng hro
  obtain ⟨h1, H, h2⟩ := h args K ht
  exact pure_sound hm H O hf hb hok h1 h2 hr hg hng hro

theorem renE_nil (ρ : Env) : renE [] ρ = ρ := rfl

/-- 'x' told otherwise -/
def Fits (x v : SV) : Prop := sle [] x v ∧ within 0 v = true
theorem sle0_refl (a : Value) : sle0 a a := by
  cases a with
  | int k n => cases k <;> exact rfl
  | _ => exact rfl
theorem fits_c (a : Value) : Fits (.c a) (.c a) := ⟨sle0_refl a, rfl⟩
theorem fits_c2 (a b : Value) : Fits (.tup [.c a, .c b]) (.tup [.c a, .c b]) := ⟨⟨sle0_refl a, sle0_refl b, trivial⟩, rfl⟩
theorem fits_c3 (a b c : Value) : Fits (.tup [.c a, .c b, .c c]) (.tup [.c a, .c b, .c c]) := ⟨⟨sle0_refl a, sle0_refl b, sle0_refl c, trivial⟩, rfl⟩
theorem fits_r2 {w n : Nat} {f f' : Nat → List SV} (h : ∀ i, i < n → f i = f' i) (b : Value) (hw : Nat.beq w w = true) : Fits (.tup [.rs w n f, .c b]) (.tup [.rs w n f', .c b]) := ⟨⟨chk_iff.2 ⟨hw, rfl, h⟩, sle0_refl b, trivial⟩, rfl⟩
theorem fits_r3 {w n : Nat} {f f' : Nat → List SV} (h : ∀ i, i < n → f i = f' i) (b c : Value) (hw : Nat.beq w w = true) : Fits (.tup [.rs w n f, .c b, .c c]) (.tup [.rs w n f', .c b, .c c]) := ⟨⟨chk_iff.2 ⟨hw, rfl, h⟩, sle0_refl b, sle0_refl c, trivial⟩, rfl⟩

/-- arguments told otherwise, and the answer -/
theorem sndW {Γ : Gam Try.prog} {O : List (Nat × OT)} {f : FuncId} {fn : Func} (hf : Try.prog.funcs[f]? = some fn) (hb : fn.body = some (bd fn)) (hok : codeOK Γ O (bd fn) = true) {tr : List SV → (SV → Prop) → Prop}
    (h : ∀ args K, tr args K → ∃ args', sleL [] args args' ∧ (withinL 0 args' && noRows args' && Nat.ble args'.length fn.ntmps) = true ∧ ∃ H, Ev Γ H O fn args' (fun r => ∃ r', Fits r r' ∧ K r')) : Sound f tr := by
  intro args K ht n ρ vs w hr hg hng hro
  obtain ⟨args', h0, h1, H, h2⟩ := h args K ht
  have h1' := h1
  simp only [Bool.and_eq_true] at h1'
  have hr' : RelL 0 ρ args' vs := sleL_rel (r := []) args' args vs h0 h1'.1.1 hr
  exact (pure_sound hm H O hf hb hok h1 h2 hr' hg hng hro).weak fun r hr => let ⟨r', h1, h2⟩ := hr; ⟨r', h1.1, h1.2, h2⟩
theorem sndA {Γ : Gam Try.prog} {O : List (Nat × OT)} {f : FuncId} {fn : Func} (hf : Try.prog.funcs[f]? = some fn) (hb : fn.body = some (bd fn)) (hok : codeOK Γ O (bd fn) = true) {tr : List SV → (SV → Prop) → Prop}
    (h : ∀ args K, tr args K → ∃ args', sleL [] args args' ∧ (withinL 0 args' && noRows args' && Nat.ble args'.length fn.ntmps) = true ∧ ∃ H, Ev Γ H O fn args' K) : Sound f tr := by
  intro args K ht n ρ vs w hr hg hng hro
  obtain ⟨args', h0, h1, H, h2⟩ := h args K ht
  have h1' := h1
  simp only [Bool.and_eq_true] at h1'
  have hr' : RelL 0 ρ args' vs := sleL_rel (r := []) args' args vs h0 h1'.1.1 hr
  exact pure_sound hm H O hf hb hok h1 h2 hr' hg hng hro

/-- a contract out of a walk over plain values -/
theorem snd1 {f : FuncId} {tr : List SV → (SV → Prop) → Prop} (h : ∀ args K, tr args K → ∃ (vs : List Value) (v : Value), args = vs.map SV.c ∧ K (.c v) ∧ ∀ w, GP w → Calls Try.prog f vs.toArray w fun e w' => e = .returned v ∧ Below w.heap.size w w') : Sound f tr := by
  intro args K ht n ρ vs w hr hg hng hro
  obtain ⟨us, v, rfl, hk, hc⟩ := h args K ht
  have : vs = us := by
    clear hc ht hk
    induction us generalizing vs with
    | nil => cases hr; rfl
    | cons u us ih =>
      cases hr with
      | cons _ _ x xs _ h1 h2 => rw [h1.inv_c, ih xs h2]
  subst this
  refine (hc w hg).mono ?_
  rintro e w' ⟨rfl, hb⟩
  exact ⟨_, _, ρ.R, hk, rfl, .c _, hb, fun _ _ h => h, fun g o hg => ⟨by
    have := hro g o hg
    rw [hb.block g (Array.getElem?_eq_some_iff.1 this).1]; exact this, .inl hg⟩⟩

/-- contracts that hand out a slice -/
def OSound (f : FuncId) (F : List SV → (SV → Option SB → Prop) → Prop) : Prop :=
  ∀ args K, F args K → ∀ n ρ vs w, RelL n ρ args vs → GP w → NG ≤ w.heap.size → (∀ g o, ρ.R g = some o → w.heap[g]? = some o) → OCalls Try.prog f ρ vs w K
def gs (f : FuncId) (fn : Func) (hf : Try.prog.funcs[f]? = some fn) (hn : fn.body.isSome = true) (hr : (fn.name == "runtime.NumGoroutine") = false) {F : List SV → (SV → Option SB → Prop) → Prop} (h : OSound f F) : GSpec Try.prog :=
  ⟨f, true, callFunc_run hf hn hr, ownTr F, own_gspec h⟩
/-- a row told otherwise, element by element -/
def blW (sb : Option SB) (K : Option SB → Prop) : Prop :=
  match sb with
  | none => K none
  | some (.arr t w m f) => ∃ m' f', m = m' ∧ (∀ i, i < m → f i = f' i) ∧ K (some (.arr t w m' f'))
  | some _ => False
abbrev OEv (Γ : Gam Try.prog) (H : Nat → LH) (O : List (Nat × OT)) (fn : Func) (args : List SV) (K : SV → Option SB → Prop) : Prop :=
  evC Γ H O (bd fn) (fnPost Try.prog fn (fun r h _ => expo h r fun r sb => ∃ r', r = r' ∧ blW sb fun sb' => K r' sb')) ⟨startT 0 args, fn.ntmps, [], 0, 0⟩
theorem sndO {Γ : Gam Try.prog} {O : List (Nat × OT)} {f : FuncId} {fn : Func} (hf : Try.prog.funcs[f]? = some fn) (hb : fn.body = some (bd fn)) (hok : codeOK Γ O (bd fn) = true) {F : List SV → (SV → Option SB → Prop) → Prop}
    (h : ∀ args K, F args K → ∃ args', sleL [] args args' ∧ (withinL 0 args' && noRows args' && Nat.ble args'.length fn.ntmps) = true ∧ ∃ H, OEv Γ H O fn args' K) : OSound f F := by
  intro args K ht n ρ vs w hr hg hng hro
  obtain ⟨args', h0, h1, H, h2⟩ := h args K ht
  have h1' := h1
  simp only [Bool.and_eq_true] at h1'
  have hr' : RelL 0 ρ args' vs := sleL_rel (r := []) args' args vs h0 h1'.1.1 hr
  refine (own_sound hm H O hf hb hok h1 h2 hr' hg hng hro).mono ?_
  rintro e w' ⟨r, v, R', sb, ⟨r', rfl, hk⟩, rfl, hb, hR, hsb⟩
  cases sb with
  | none => exact ⟨r, v, R', none, hk, rfl, hb, hR, hsb⟩
  | some sb =>
    obtain ⟨g, no, cap, h3, h4⟩ := hsb
    cases sb with
    | arr t wd m f =>
      obtain ⟨m', f', rfl, hf, hk⟩ := hk
      refine ⟨r, v, R', some _, hk, rfl, hb, hR, g, no, cap, h3, fun n ρ1 => ⟨fun hR1 => ?_, (h4 n ρ1).2⟩⟩
      rcases (h4 n ρ1).1 hR1 with h5 | ⟨h0, us, a1, a2, a3, a4, a5, a6⟩
      · exact .inl h5
      · exact .inr ⟨h0, us, a1, a2, a3, a4, a5, fun j hj => by rw [← hf j hj]; exact a6 j hj⟩
    | _ => exact hk.elim

/-- a parting of ways, each way by itself -/
theorem brkI {b : Bool} {A B : Prop} (h1 : b = true → A) (h2 : b = false → B) : brk b A B := by cases b; exact h2 rfl; exact h1 rfl
theorem brkT {b : Bool} {A B : Prop} (h : b = true) (a : A) : brk b A B := by rw [h]; exact a
theorem brkF {b : Bool} {A B : Prop} (h : b = false) (a : B) : brk b A B := by rw [h]; exact a

noncomputable def Γ0 : Gam Try.prog := ⟨[], []⟩

end Go.Proofs.Ytjiamfajgllelaa
