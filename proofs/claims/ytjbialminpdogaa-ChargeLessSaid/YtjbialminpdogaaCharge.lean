/-
  The contracts of chapter 20's functions, and the walks of its laws.
-/
import Derived.Test.YtjbialminpdogaaProg
import Derived.Test.YtjbialminpdogaaSxC
namespace Go.Proofs.Ytjbialminpdogaa
open Go Go.RowKit Sx
set_option maxRecDepth 100000

theorem hm : Try.prog.follows .mixedOrders = true := by kernel_rfl

def O3 : List (Nat × List Nat) := [(4, [0, 1, 2, 4, 3, 5, 6, 7, 8, 9, 11, 10, 12, 13, 14, 15, 16, 18, 17, 19, 20, 21, 22, 23, 25, 24, 26, 27, 28, 29, 30, 31, 33, 34, 32, 35, 36, 37, 38])]
def O4 : List (Nat × List Nat) := [(9, [0, 1, 2, 4, 3, 5, 6, 7, 8, 9, 11, 10, 12, 13, 14, 15])]
def O5 : List (Nat × List Nat) := [(8, [0, 1, 2, 4, 3, 5, 6, 7, 8, 9, 11, 10, 12, 13, 14, 15, 16, 17, 18, 19, 20, 21, 22, 23, 24, 25, 26, 27, 28, 29, 30, 31])]
def O11 : List (Nat × List Nat) := [(1, [0, 3, 4, 8, 9, 1, 2, 5, 6, 7, 10, 11, 12, 13])]
def O12 : List (Nat × List Nat) := [(1, [0, 1, 3, 2, 4, 5, 6, 7])]
def O13 : List (Nat × List Nat) := [(1, [0, 1, 3, 2, 4, 5, 6, 7])]

def clipN (a : Int) : Int := mn (mx a 0) 1000000
def treeN (b : Int) : Int := IntKind.i64.wrap (IntKind.i64.wrap ((clipN b).tdiv 4) + 4)
def winN (c : Int) : Int := IntKind.i64.wrap (9 * clipN c)
def penN (d : Int) : Int := IntKind.i64.wrap (10 * clipN d)
def allN (b c d : Int) : Int := IntKind.i64.wrap (IntKind.i64.wrap (IntKind.i64.wrap (IntKind.i64.wrap (0 + 82) + treeN b) + winN c) + penN d)
def allM (b c d : Int) : Int := IntKind.i64.wrap (IntKind.i64.wrap (IntKind.i64.wrap (82 + treeN b) + winN c) + penN d)
def leftN (a b c d : Int) : Int := mx 0 (IntKind.i64.wrap (clipN a - allN b c d))
def leftM (a b c d : Int) : Int := mx 0 (IntKind.i64.wrap (clipN a - allM b c d))
def moreN (a b c d : Int) : Int := IntKind.i64.wrap ((leftN a b c d).tdiv 10)
def moreM (a b c d : Int) : Int := IntKind.i64.wrap ((leftM a b c d).tdiv 10)
def fitsN (a b c d k : Int) : Bool := match decide (k ≤ 0) with | true => true | false => decide (k ≤ moreN a b c d)
def fitsM (a b c d k : Int) : Bool := match decide (k ≤ 0) with | true => true | false => decide (k ≤ moreM a b c d)

def trI (F : Int → Int) (args : List SV) (K : SV → Prop) : Prop :=
  match args with
  | [.c (.int .i64 a)] => K (.c (.int .i64 (F a)))
  | _ => False
def trB (F : Int → Int → Int → Int → Int) (args : List SV) (K : SV → Prop) : Prop :=
  match args with
  | [.agg [.c (.int .i64 a), .c (.int .i64 b), .c (.int .i64 c), .c (.int .i64 d)]] => K (.c (.int .i64 (F a b c d)))
  | _ => False
def trF (F : Int → Int → Int → Int → Int → Bool) (args : List SV) (K : SV → Prop) : Prop :=
  match args with
  | [.agg [.c (.int .i64 a), .c (.int .i64 b), .c (.int .i64 c), .c (.int .i64 d)], .c (.int .i64 k)] => K (.c (.bool (F a b c d k)))
  | _ => False

def Sound (f : FuncId) (tr : List SV → (SV → Prop) → Prop) : Prop :=
  ∀ args K, tr args K → ∀ n ρ vs w, RelL n ρ args vs →
    Calls Try.prog f vs.toArray w fun e w' => ∃ r v, K r ∧ e = .returned v ∧ (∀ n' ρ', Rel n' ρ' r v) ∧ Below w.heap.size w w'

/-- the shape of what follows -/
theorem mkI {F : Int → Int} {f : FuncId} {fn : Func} {c : Code} {Γ : Gam Try.prog} {O : List (Nat × List Nat)} (hf : Try.prog.funcs[f]? = some fn) (hb : fn.body = some c) (hok : codeOK Γ O c = true) (hn : Nat.ble 1 fn.ntmps = true)
    (h : ∀ a (K : SV → Prop), evC Γ H0 O c (fnPost Try.prog fn (fun r _ _ => K r ∧ within 0 r = true)) ⟨startT 0 [.c (.int .i64 a)], fn.ntmps, [], 0, 0⟩ = (K (.c (.int .i64 (F a))) ∧ true = true)) : Sound f (trI F) := by
  intro args K ht n ρ vs w hr
  unfold trI at ht
  split at ht
  · exact pure_sound hm H0 O hf hb hok (by simpa [withinL, within, noRows, SV.isRow] using hn) (kcast (h _ K) ⟨ht, rfl⟩) hr
  · exact ht.elim
theorem mkB {F : Int → Int → Int → Int → Int} {f : FuncId} {fn : Func} {c : Code} {Γ : Gam Try.prog} {O : List (Nat × List Nat)} (hf : Try.prog.funcs[f]? = some fn) (hb : fn.body = some c) (hok : codeOK Γ O c = true) (hn : Nat.ble 1 fn.ntmps = true)
    (h : ∀ x y z t (K : SV → Prop), evC Γ H0 O c (fnPost Try.prog fn (fun r _ _ => K r ∧ within 0 r = true)) ⟨startT 0 [.agg [.c (.int .i64 x), .c (.int .i64 y), .c (.int .i64 z), .c (.int .i64 t)]], fn.ntmps, [], 0, 0⟩ = (K (.c (.int .i64 (F x y z t))) ∧ true = true)) : Sound f (trB F) := by
  intro args K ht n ρ vs w hr
  unfold trB at ht
  split at ht
  · exact pure_sound hm H0 O hf hb hok (by simpa [withinL, within, noRows, SV.isRow] using hn) (kcast (h _ _ _ _ K) ⟨ht, rfl⟩) hr
  · exact ht.elim
theorem mkF {F : Int → Int → Int → Int → Int → Bool} {f : FuncId} {fn : Func} {c : Code} {Γ : Gam Try.prog} {O : List (Nat × List Nat)} (hf : Try.prog.funcs[f]? = some fn) (hb : fn.body = some c) (hok : codeOK Γ O c = true) (hn : Nat.ble 2 fn.ntmps = true)
    (h : ∀ x y z t k (K : SV → Prop), K (.c (.bool (F x y z t k))) → evC Γ H0 O c (fnPost Try.prog fn (fun r _ _ => K r ∧ within 0 r = true)) ⟨startT 0 [.agg [.c (.int .i64 x), .c (.int .i64 y), .c (.int .i64 z), .c (.int .i64 t)], .c (.int .i64 k)], fn.ntmps, [], 0, 0⟩) : Sound f (trF F) := by
  intro args K ht n ρ vs w hr
  unfold trF at ht
  split at ht
  · exact pure_sound hm H0 O hf hb hok (by simpa [withinL, within, noRows, SV.isRow] using hn) (h _ _ _ _ _ K ht) hr
  · exact ht.elim

def ps (f : FuncId) (fn : Func) (hf : Try.prog.funcs[f]? = some fn) (hn : fn.body.isSome = true) (hr : (fn.name == "runtime.NumGoroutine") = false) {tr : List SV → (SV → Prop) → Prop} (h : Sound f tr) : PSpec Try.prog :=
  ⟨f, callFunc_run hf hn hr, tr, h⟩

noncomputable def Γ0 : Gam Try.prog := ⟨[], []⟩
theorem c19 : Sound 19 (trI clipN) := mkI (Γ := Γ0) (O := []) Try.func19 (c := bd Try.f19) rfl (by kernel_rfl) rfl fun a K => by kernel_rfl
theorem c20 : Sound 20 (trI clipN) := mkI (Γ := Γ0) (O := []) Try.func20 (c := bd Try.f20) rfl (by kernel_rfl) rfl fun a K => by kernel_rfl
noncomputable def Γ1 : Gam Try.prog := ⟨[ps 19 _ Try.func19 rfl (by kernel_rfl) c19, ps 20 _ Try.func20 rfl (by kernel_rfl) c20], []⟩
theorem c21 : Sound 21 (trB fun _ _ _ _ => 82) := mkB (Γ := Γ1) (O := []) Try.func21 (c := bd Try.f21) rfl (by kernel_rfl) rfl fun x y z t K => by kernel_rfl
theorem c8 : Sound 8 (trB fun _ b _ _ => treeN b) := mkB (Γ := Γ1) (O := []) Try.func8 (c := bd Try.f8) rfl (by kernel_rfl) rfl fun x y z t K => by kernel_rfl
theorem c9 : Sound 9 (trB fun _ b _ _ => treeN b) := mkB (Γ := Γ1) (O := []) Try.func9 (c := bd Try.f9) rfl (by kernel_rfl) rfl fun x y z t K => by kernel_rfl
theorem c22 : Sound 22 (trB fun _ _ c _ => winN c) := mkB (Γ := Γ1) (O := []) Try.func22 (c := bd Try.f22) rfl (by kernel_rfl) rfl fun x y z t K => by kernel_rfl
theorem c23 : Sound 23 (trB fun _ _ _ d => penN d) := mkB (Γ := Γ1) (O := []) Try.func23 (c := bd Try.f23) rfl (by kernel_rfl) rfl fun x y z t K => by kernel_rfl
noncomputable def Γ2 : Gam Try.prog := ⟨[ps 21 _ Try.func21 rfl (by kernel_rfl) c21, ps 8 _ Try.func8 rfl (by kernel_rfl) c8, ps 9 _ Try.func9 rfl (by kernel_rfl) c9, ps 22 _ Try.func22 rfl (by kernel_rfl) c22, ps 23 _ Try.func23 rfl (by kernel_rfl) c23] ++ Γ1.ps, []⟩
theorem c10 : Sound 10 (trB fun _ b c d => allN b c d) := mkB (Γ := Γ2) (O := []) Try.func10 (c := bd Try.f10) rfl (by kernel_rfl) rfl fun x y z t K => by kernel_rfl
theorem c11 : Sound 11 (trB fun _ b c d => allM b c d) := mkB (Γ := Γ2) (O := O11) Try.func11 (c := bd Try.f11) rfl (by kernel_rfl) rfl fun x y z t K => by kernel_rfl
noncomputable def Γ3 : Gam Try.prog := ⟨[ps 10 _ Try.func10 rfl (by kernel_rfl) c10, ps 11 _ Try.func11 rfl (by kernel_rfl) c11] ++ Γ2.ps, []⟩
theorem c12 : Sound 12 (trB leftN) := mkB (Γ := Γ3) (O := O12) Try.func12 (c := bd Try.f12) rfl (by kernel_rfl) rfl fun x y z t K => by kernel_rfl
theorem c13 : Sound 13 (trB leftM) := mkB (Γ := Γ3) (O := O13) Try.func13 (c := bd Try.f13) rfl (by kernel_rfl) rfl fun x y z t K => by kernel_rfl
noncomputable def Γ4 : Gam Try.prog := ⟨[ps 12 _ Try.func12 rfl (by kernel_rfl) c12, ps 13 _ Try.func13 rfl (by kernel_rfl) c13] ++ Γ3.ps, []⟩
theorem c14 : Sound 14 (trB moreN) := mkB (Γ := Γ4) (O := []) Try.func14 (c := bd Try.f14) rfl (by kernel_rfl) rfl fun x y z t K => by kernel_rfl
theorem c15 : Sound 15 (trB moreM) := mkB (Γ := Γ4) (O := []) Try.func15 (c := bd Try.f15) rfl (by kernel_rfl) rfl fun x y z t K => by kernel_rfl
noncomputable def Γ5 : Gam Try.prog := ⟨[ps 14 _ Try.func14 rfl (by kernel_rfl) c14, ps 15 _ Try.func15 rfl (by kernel_rfl) c15] ++ Γ4.ps, []⟩

theorem c16 : Sound 16 (trF fitsN) := mkF (Γ := Γ5) (O := []) Try.func16 (c := bd Try.f16) rfl (by kernel_rfl) rfl fun x y z t k K h => by
  refine kcast (A := brk (decide (k ≤ 0)) (K (.c (.bool true)) ∧ true = true) (K (.c (.bool (decide (k ≤ moreN x y z t)))) ∧ true = true)) (by kernel_rfl) ?_
  unfold fitsN at h
  cases hk : decide (k ≤ 0) <;> rw [hk] at h <;> exact ⟨h, rfl⟩
theorem c17 : Sound 17 (trF fitsM) := mkF (Γ := Γ5) (O := []) Try.func17 (c := bd Try.f17) rfl (by kernel_rfl) rfl fun x y z t k K h => by
  refine kcast (A := brk (decide (k ≤ 0)) (K (.c (.bool true)) ∧ true = true) (K (.c (.bool (decide (k ≤ moreM x y z t)))) ∧ true = true)) (by kernel_rfl) ?_
  unfold fitsM at h
  cases hk : decide (k ≤ 0) <;> rw [hk] at h <;> exact ⟨h, rfl⟩
noncomputable def Γ6 : Gam Try.prog := ⟨[ps 16 _ Try.func16 rfl (by kernel_rfl) c16, ps 17 _ Try.func17 rfl (by kernel_rfl) c17] ++ Γ5.ps, []⟩
def tr0 (v : SV) (args : List SV) (K : SV → Prop) : Prop :=
  match args with
  | [] => K v
  | _ => False
theorem c7 : Sound 7 (tr0 (.c (.bool true))) := by
  intro args K ht n ρ vs w hr
  unfold tr0 at ht
  split at ht
  · exact pure_sound (Γ := Γ6) hm H0 [] (c := bd Try.f7) Try.func7 rfl (by kernel_rfl) (by kernel_rfl) (kcast (A := K (.c (.bool true)) ∧ true = true) (by kernel_rfl) ⟨ht, rfl⟩) hr
  · exact ht.elim
noncomputable def Γ7 : Gam Try.prog := ⟨[ps 7 _ Try.func7 rfl (by kernel_rfl) c7] ++ Γ6.ps, []⟩

/-! ### the plain laws -/

theorem clip_le (a : Int) : 0 ≤ clipN a ∧ clipN a ≤ 1000000 := by
  unfold clipN mn mx; (repeat' split) <;> omega
theorem w64 {x : Int} (h : -9223372036854775808 ≤ x ∧ x ≤ 9223372036854775807) : IntKind.i64.wrap x = x := by
  unfold IntKind.wrap; simp [IntKind.bits, IntKind.signed]; omega
theorem treeN_eq (b : Int) : treeN b = clipN b / 4 + 4 := by
  have := clip_le b
  unfold treeN
  rw [Int.tdiv_eq_ediv_of_nonneg (by omega), w64 (x := clipN b / 4) (by omega), w64 (by omega)]
theorem winN_eq (c : Int) : winN c = 9 * clipN c := by have := clip_le c; unfold winN; rw [w64 (by omega)]
theorem penN_eq (c : Int) : penN c = 10 * clipN c := by have := clip_le c; unfold penN; rw [w64 (by omega)]
theorem allN_eq (b c d : Int) : allN b c d = 82 + (clipN b / 4 + 4) + 9 * clipN c + 10 * clipN d := by
  have := clip_le b; have := clip_le c; have := clip_le d
  unfold allN
  rw [treeN_eq, winN_eq, penN_eq, w64 (x := 0 + 82) (by omega), w64 (x := 0 + 82 + _) (by omega), w64 (x := 0 + 82 + _ + _) (by omega), w64 (by omega)]
  omega
theorem allM_eq (b c d : Int) : allM b c d = allN b c d := by
  have := clip_le b; have := clip_le c; have := clip_le d
  rw [allN_eq]
  unfold allM
  rw [treeN_eq, winN_eq, penN_eq, w64 (x := 82 + _) (by omega), w64 (x := 82 + _ + _) (by omega), w64 (by omega)]
theorem leftM_eq (a b c d : Int) : leftM a b c d = leftN a b c d := by unfold leftM leftN; rw [allM_eq]
theorem moreM_eq (a b c d : Int) : moreM a b c d = moreN a b c d := by unfold moreM moreN; rw [leftM_eq]
theorem fitsM_eq (a b c d k : Int) : fitsM a b c d k = fitsN a b c d k := by unfold fitsM fitsN; rw [moreM_eq]
theorem leftN_eq (a b c d : Int) : leftN a b c d = mx 0 (clipN a - allN b c d) := by
  have h1 := allN_eq b c d
  have := clip_le a; have := clip_le b; have := clip_le c; have := clip_le d
  unfold leftN; rw [w64 (by omega)]
theorem left_le (a b c d : Int) : 0 ≤ leftN a b c d ∧ leftN a b c d ≤ 1000000 := by
  have h1 := allN_eq b c d
  have := clip_le a; have := clip_le b; have := clip_le c; have := clip_le d
  rw [leftN_eq]; unfold mx; split <;> omega
theorem moreN_eq (a b c d : Int) : moreN a b c d = leftN a b c d / 10 := by
  have := left_le a b c d
  unfold moreN; rw [Int.tdiv_eq_ediv_of_nonneg (by omega), w64 (by omega)]

abbrev isTrue (b : Bool) : Prop := (SV.c (.bool b) = SV.c (.bool true)) ∧ true = true
theorem isTrue_mk {b : Bool} (h : b = true) : isTrue b := ⟨by rw [h], rfl⟩

theorem ev3 (a b c d e : Int) : evC Γ7 H0 O3 (bd Try.f3) (fnPost Try.prog Try.f3 (fun r _ _ => r = .c (.bool true) ∧ within 0 r = true)) ⟨startT 0 [.c (.int .i64 a), .c (.int .i64 b), .c (.int .i64 c), .c (.int .i64 d), .c (.int .i64 e)], Try.f3.ntmps, [], 0, 0⟩ := by
  refine kcast (A := brk (treeN b == treeN b) (brk (allN b c d == allM b c d) (brk (leftN a b c d == leftM a b c d) (brk (moreN a b c d == moreM a b c d) (isTrue (fitsN a b c d e == fitsM a b c d e)) (isTrue false)) (isTrue false)) (isTrue false)) (isTrue false)) (by kernel_rfl) ?_
  rw [allM_eq, leftM_eq, moreM_eq, fitsM_eq]
  simp [brk, isTrue]
theorem walk3 (a b c d e : Int) (w : World) : Calls Try.prog 3 #[.int .i64 a, .int .i64 b, .int .i64 c, .int .i64 d, .int .i64 e] w fun e w' => e = .returned (.bool true) ∧ Below w.heap.size w w' :=
  law_sound hm H0 O3 Try.func3 rfl (by kernel_rfl) (by kernel_rfl) (ev3 a b c d e) (RelL.consts [.int .i64 a, .int .i64 b, .int .i64 c, .int .i64 d, .int .i64 e] 0 id)
def someN (n : Int) : Int := (IntKind.i64.wrap (n.tmod 900000 + 900000)).tmod 900000
theorem c18 : Sound 18 (trI someN) := mkI (Γ := Γ0) (O := []) Try.func18 (c := bd Try.f18) rfl (by kernel_rfl) rfl fun a K => by kernel_rfl
noncomputable def Γ8 : Gam Try.prog := ⟨[ps 18 _ Try.func18 rfl (by kernel_rfl) c18] ++ Γ7.ps, []⟩
theorem some_le (n : Int) : 0 ≤ someN n ∧ someN n < 900000 := by
  have h1 := Int.tmod_lt_of_pos n (b := 900000) (by omega)
  have h2 := Int.lt_tmod_of_pos n (b := 900000) (by omega)
  unfold someN
  rw [w64 (by omega), Int.tmod_eq_emod_of_nonneg (by omega)]
  omega

theorem ev4 (a b c d e : Int) : evC Γ8 H0 O4 (bd Try.f4) (fnPost Try.prog Try.f4 (fun r _ _ => r = .c (.bool true) ∧ within 0 r = true)) ⟨startT 0 [.c (.int .i64 a), .c (.int .i64 b), .c (.int .i64 c), .c (.int .i64 d), .c (.int .i64 e)], Try.f4.ntmps, [], 0, 0⟩ := by
  have h : ∀ i w p k g, i = IntKind.i64.wrap ((someN a).tdiv 2) → w = IntKind.i64.wrap ((someN b).tdiv 2) → p = IntKind.i64.wrap ((someN c).tdiv 2) → k = (someN d).tmod (IntKind.i64.wrap (p + 1)) → g = (someN e).tmod (IntKind.i64.wrap (k + 1)) →
      IntKind.i64.wrap (p + 1) ≠ 0 ∧ (IntKind.i64.wrap (k + 1) ≠ 0 ∧ brk (decide (allN (IntKind.i64.wrap (i + g)) (IntKind.i64.wrap (w + k)) (IntKind.i64.wrap (p - k)) ≤ allN i w p))
        (isTrue (decide (leftN 1024 (IntKind.i64.wrap (i + g)) (IntKind.i64.wrap (w + k)) (IntKind.i64.wrap (p - k)) ≥ leftN 1024 i w p))) (isTrue false)) := by
    intro i w p k g hi hw hp hk hg
    have := some_le a; have := some_le b; have := some_le c; have := some_le d; have := some_le e
    rw [Int.tdiv_eq_ediv_of_nonneg (by omega), w64 (by omega)] at hi hw hp
    have e1 : IntKind.i64.wrap (p + 1) = p + 1 := w64 (by omega)
    rw [e1] at hk ⊢
    rw [Int.tmod_eq_emod_of_nonneg (by omega)] at hk
    have hk1 := Int.emod_nonneg (someN d) (b := p + 1) (by omega)
    have hk2 := Int.emod_lt_of_pos (someN d) (b := p + 1) (by omega)
    rw [← hk] at hk1 hk2
    have e2 : IntKind.i64.wrap (k + 1) = k + 1 := w64 (by omega)
    rw [e2] at hg ⊢
    rw [Int.tmod_eq_emod_of_nonneg (by omega)] at hg
    have hg1 := Int.emod_nonneg (someN e) (b := k + 1) (by omega)
    have hg2 := Int.emod_lt_of_pos (someN e) (b := k + 1) (by omega)
    rw [← hg] at hg1 hg2
    rw [w64 (x := i + g) (by omega), w64 (x := w + k) (by omega), w64 (x := p - k) (by omega)]
    have key : allN (i + g) (w + k) (p - k) ≤ allN i w p := by
      rw [allN_eq, allN_eq]
      have : ∀ x : Int, 0 ≤ x → x ≤ 1000000 → clipN x = x := by intro x h1 h2; unfold clipN mn mx; (repeat' split) <;> omega
      rw [this (i + g) (by omega) (by omega), this (w + k) (by omega) (by omega), this (p - k) (by omega) (by omega), this i (by omega) (by omega), this w (by omega) (by omega), this p (by omega) (by omega)]
      omega
    refine ⟨by omega, by omega, ?_⟩
    have key2 : leftN 1024 (i + g) (w + k) (p - k) ≥ leftN 1024 i w p := by
      rw [leftN_eq, leftN_eq]; unfold mx; split <;> split <;> omega
    rw [decide_eq_true key, decide_eq_true key2]
    exact isTrue_mk rfl
  exact kcast (by kernel_rfl) (h _ _ _ _ _ rfl rfl rfl rfl rfl)
theorem walk4 (a b c d e : Int) (w : World) : Calls Try.prog 4 #[.int .i64 a, .int .i64 b, .int .i64 c, .int .i64 d, .int .i64 e] w fun e w' => e = .returned (.bool true) ∧ Below w.heap.size w w' :=
  law_sound hm H0 O4 Try.func4 rfl (by kernel_rfl) (by kernel_rfl) (ev4 a b c d e) (RelL.consts [.int .i64 a, .int .i64 b, .int .i64 c, .int .i64 d, .int .i64 e] 0 id)

theorem ev6 (a b c d : Int) : evC Γ8 H0 [] (bd Try.f6) (fnPost Try.prog Try.f6 (fun r _ _ => r = .c (.bool true) ∧ within 0 r = true)) ⟨startT 0 [.c (.int .i64 a), .c (.int .i64 b), .c (.int .i64 c), .c (.int .i64 d)], Try.f6.ntmps, [], 0, 0⟩ := by
  have h : ∀ n, n = moreN a b c d → brk (decide (n < 0)) (isTrue false) (brk (!(fitsN a b c d n)) (isTrue false) (brk (fitsN a b c d (IntKind.i64.wrap (n + 1))) (isTrue false)
      (brk (!(fitsN a b c d 0)) (isTrue false) (brk (!(fitsN a b c d (-1))) (isTrue false)
      (brk (decide (leftN a b c d ≥ IntKind.i64.wrap (10 * n))) (brk (decide (leftN a b c d < IntKind.i64.wrap (10 * IntKind.i64.wrap (n + 1)))) (isTrue (decide (allN b c d ≥ 86))) (isTrue false)) (isTrue false)))))) := by
    intro n hn
    have h1 := left_le a b c d
    have h2 := moreN_eq a b c d
    have h3 := allN_eq b c d
    have := clip_le b; have := clip_le c; have := clip_le d
    rw [← hn] at h2
    rw [w64 (x := n + 1) (by omega), w64 (x := 10 * n) (by omega), w64 (x := 10 * (n + 1)) (by omega)]
    have f1 : fitsN a b c d n = true := by
      unfold fitsN; split
      · rfl
      · rw [← hn]; simp
    have f2 : fitsN a b c d (n + 1) = false := by
      unfold fitsN; split
      · rename_i h; simp at h; omega
      · rw [← hn]; simp; omega
    have f3 : fitsN a b c d 0 = true := by unfold fitsN; simp
    have f4 : fitsN a b c d (-1) = true := by unfold fitsN; simp
    rw [f1, f2, f3, f4, decide_eq_false (show ¬ n < 0 by omega), decide_eq_true (show leftN a b c d ≥ 10 * n by omega), decide_eq_true (show leftN a b c d < 10 * (n + 1) by omega), decide_eq_true (show allN b c d ≥ 86 by omega)]
    exact isTrue_mk rfl
  exact kcast (by kernel_rfl) (h _ rfl)

theorem walk6 (a b c d : Int) (w : World) : Calls Try.prog 6 #[.int .i64 a, .int .i64 b, .int .i64 c, .int .i64 d] w fun e w' => e = .returned (.bool true) ∧ Below w.heap.size w w' :=
  law_sound hm H0 [] Try.func6 rfl (by kernel_rfl) (by kernel_rfl) (ev6 a b c d) (RelL.consts [.int .i64 a, .int .i64 b, .int .i64 c, .int .i64 d] 0 id)

theorem more_mono (a a' b c d d' : Int) (h1 : clipN a ≤ clipN a') (h2 : clipN d' ≤ clipN d) : moreN a b c d ≤ moreN a' b c d' := by
  rw [moreN_eq, moreN_eq, leftN_eq, leftN_eq, allN_eq, allN_eq]
  unfold mx; split <;> split <;> omega
theorem clip_mono {a b : Int} (h : a ≤ b) : clipN a ≤ clipN b := by
  unfold clipN mn mx; (repeat' split) <;> omega
theorem ev5 (a b c d e f : Int) (he : -9223372036854775808 ≤ e ∧ e ≤ 9223372036854775807) : evC Γ8 H0 O5 (bd Try.f5) (fnPost Try.prog Try.f5 (fun r _ _ => r = .c (.bool true) ∧ within 0 r = true)) ⟨startT 0 [.c (.int .i64 a), .c (.int .i64 b), .c (.int .i64 c), .c (.int .i64 d), .c (.int .i64 e), .c (.int .i64 f)], Try.f5.ntmps, [], 0, 0⟩ := by
  have h : ∀ y A B C D, y = someN f → A = someN a → B = someN b → C = someN c → D = someN d →
      brk (decide (moreN (IntKind.i64.wrap (A + y.tmod 1000)) B C D ≥ moreN A B C D)) (brk (decide (moreN A B C (mx 0 (IntKind.i64.wrap (D - y))) ≥ moreN A B C D))
        (brk (!(fitsN A B C D e)) (isTrue true) (brk (decide (e < 1)) (isTrue true) (isTrue (fitsN A B C D (IntKind.i64.wrap (e - 1)))))) (isTrue false)) (isTrue false) := by
    intro y A B C D hy hA hB hC hD
    have := some_le a; have := some_le d; have := some_le f
    rw [Int.tmod_eq_emod_of_nonneg (by omega), w64 (x := A + y % 1000) (by omega), w64 (x := D - y) (by omega)]
    have k1 : moreN (A + y % 1000) B C D ≥ moreN A B C D := more_mono _ _ _ _ _ _ (clip_mono (by omega)) (Int.le_refl _)
    have k2 : moreN A B C (mx 0 (D - y)) ≥ moreN A B C D := more_mono _ _ _ _ _ _ (Int.le_refl _) (clip_mono (by unfold mx; split <;> omega))
    rw [decide_eq_true k1, decide_eq_true k2]
    show brk _ _ _
    cases hf : fitsN A B C D e
    · exact isTrue_mk rfl
    · show brk (decide (e < 1)) _ _
      cases h1 : decide (e < 1)
      · have h1 : ¬ e < 1 := by simpa using h1
        rw [w64 (by omega)]
        refine isTrue_mk ?_
        unfold fitsN at hf ⊢
        split
        · rfl
        · split at hf
          · rename_i h2; simp at h2; omega
          · simp at hf ⊢; omega
      · exact isTrue_mk rfl
  exact kcast (by kernel_rfl) (h _ _ _ _ _ rfl rfl rfl rfl rfl)
theorem walk5 (a b c d e f : Int) (he : -9223372036854775808 ≤ e ∧ e ≤ 9223372036854775807) (w : World) : Calls Try.prog 5 #[.int .i64 a, .int .i64 b, .int .i64 c, .int .i64 d, .int .i64 e, .int .i64 f] w fun e w' => e = .returned (.bool true) ∧ Below w.heap.size w w' :=
  law_sound hm H0 O5 Try.func5 rfl (by kernel_rfl) (by kernel_rfl) (ev5 a b c d e f he) (RelL.consts [.int .i64 a, .int .i64 b, .int .i64 c, .int .i64 d, .int .i64 e, .int .i64 f] 0 id)

end Go.Proofs.Ytjbialminpdogaa
