/-
  Patch: the contracts of chapter 12's functions.
-/
import Derived.Test.YtlobbcodnkfbiaaDoorPatchT
namespace Go.Proofs.YtlobbcodnkfbiaaDoor
open Go Go.RowKit Sx
set_option maxRecDepth 100000

theorem hm : Tryd.prog.follows .mixedOrders = true := by kernel_rfl

def Sound (f : FuncId) (tr : List SV → (SV → Prop) → Prop) : Prop :=
  ∀ args K, tr args K → ∀ n ρ vs w, RelL n ρ args vs → GP w → NG ≤ w.heap.size →
    Calls Tryd.prog f vs.toArray w fun e w' => ∃ r v, K r ∧ e = .returned v ∧ (∀ n' ρ', Rel n' ρ' r v) ∧ Below w.heap.size w w'
def ps (f : FuncId) (fn : Func) (hf : Tryd.prog.funcs[f]? = some fn) (hn : fn.body.isSome = true) (hr : (fn.name == "runtime.NumGoroutine") = false) {tr : List SV → (SV → Prop) → Prop} (h : Sound f tr) : PSpec Tryd.prog :=
  ⟨f, callFunc_run hf hn hr, tr, h⟩

/-- the run of a body whose arguments are plain -/
abbrev Ev (Γ : Gam Tryd.prog) (H : Nat → LH) (O : List (Nat × OT)) (fn : Func) (args : List SV) (K : SV → Prop) : Prop :=
  evC Γ H O (bd fn) (fnPost Tryd.prog fn (fun r _ _ => K r ∧ within 0 r = true)) ⟨startT 0 args, fn.ntmps, [], 0, 0⟩

def O4 : List (Nat × OT) := [(15, .l [0, 1, 2, 3, 5, 4, 6, 7, 8, 9, 11, 10, 12, 13, 14])]
def O5 : List (Nat × OT) := [(2, .l [0, 1, 2, 3, 5, 6, 4, 7, 8, 9, 10, 11, 12, 14, 15, 13, 16, 17, 18, 19, 20, 22, 21, 23, 24, 25, 26])]
def O6 : List (Nat × OT) := [(2, (.one 0 (.one 1 (.one 3 (.alt 2 (.alt 4 (.l [5, 6]) (.l [5, 4, 6])) (.l [5, 2, 4, 6])))))), (3, (.l [0, 1, 2, 3, 4, 7, 5, 6, 8, 9, 10, 11, 12, 14, 16, 17, 18, 13, 15, 19, 20, 21, 22, 23]))]
def O7 : List (Nat × OT) := [(4, .l [0, 1, 2, 3, 5, 7, 8, 10, 4, 6, 9, 11, 12, 13, 14, 15, 16, 18, 19, 17, 20, 21, 22, 23])]
def O10 : List (Nat × OT) := [(8, .l [0, 1, 2, 3, 4, 5, 6, 7, 8])]
def O12 : List (Nat × OT) := [(7, .l [0, 1, 2, 3, 4, 5, 6])]
def O19 : List (Nat × OT) := [(1, .l [0, 1, 2, 3, 4, 5, 6])]
def O20 : List (Nat × OT) := [(4, .l [0, 1, 2, 3, 4, 5, 6, 7, 8, 9, 10, 11, 12])]

/-! ### TrailingZeros32 -/
def trTz (args : List SV) (K : SV → Prop) : Prop :=
  match args with
  | [.c (.int .u32 m)] => M32 m ∧ K (.c (.int .i64 (Lib.ctz 32 m.toNat)))
  | _ => False
theorem c22 : Sound 22 trTz := by
  intro args K ht n ρ vs w hr hg _
  unfold trTz at ht
  split at ht
  · rename_i m
    obtain ⟨v, rfl, h1⟩ := hr.inv_one rfl
    have h1 := h1.inv_c
    subst h1
    refine (tz_any m ht.1 w hg).mono ?_
    rintro e w' ⟨rfl, rfl⟩
    exact ⟨_, _, ht.2, rfl, fun _ _ => .c _, Below.refl _ _⟩
  · exact ht.elim

/-! ### span -/
noncomputable def Γ0 : Gam Tryd.prog := ⟨[], []⟩
def trSpan (args : List SV) (K : SV → Prop) : Prop :=
  match args with
  | [.c (.int .i64 a), .c (.int .i64 b)] => (0 ≤ a ∧ 0 ≤ b) ∧ K (.c (.int .u32 (spanI a b)))
  | _ => False
theorem c19 : Sound 19 trSpan := by
  intro args K ht n ρ vs w hr hg hng
  unfold trSpan at ht
  split at ht
  · rename_i a b
    refine pure_sound (Γ := Γ0) hm H0 O19 (c := bd Tryd.f19) Tryd.func19 rfl (by kernel_rfl) (by kernel_rfl) ?_ hr hg hng
    exact kcast (A := 0 ≤ b ∧ 0 ≤ a ∧ K (.c (.int .u32 (spanI a b))) ∧ true = true) (by kernel_rfl) ⟨ht.1.2, ht.1.1, ht.2, rfl⟩
  · exact ht.elim

/-! ### over -/
noncomputable def Γ1 : Gam Tryd.prog := ⟨[ps 19 _ Tryd.func19 rfl (by kernel_rfl) c19, ps 22 _ Tryd.func22 rfl (by kernel_rfl) c22], []⟩
def okOver (n n' : Nat) (xs ys : List Int) (m : Int) : Prop := n = 32 ∧ n' = 32 ∧ xs.length = 32 ∧ ys.length = 32 ∧ M32 m
def FOver (off : Nat) (rest cs : List SV) (_ : TypeId) (K : SV → List SV → Prop) : Prop :=
  match off, rest, cs with
  | 0, [.agg [.row .u8 n ys], .c (.int .u32 m)], [.row .u8 n' xs] => okOver n n' xs ys m ∧ K (.tup []) [.row .u8 32 (overL xs ys m)]
  | 2, [.agg [.row .u8 n ys], .c (.int .u32 m)], [.c (.bool f), .c (.int .u32 k), .row .u8 n' xs] => okOver n n' xs ys m ∧ K (.tup []) [.c (.bool f), .c (.int .u32 k), .row .u8 32 (overL xs ys m)]
  | _, _, _ => False

/-- the state at the head of the loop -/
def overI (off : Nat) (cs : List Int → List SV) (t : TypeId) (ys xs0 : List Int) (m0 : Int) : LInv where
  X := Int × List Int
  st := fun x => ⟨[(0, .ptr 0 off), (4, .ptr 1 0), (2, .c (.int .u32 x.1))], 37, [(1, .cells [.row .u8 32 ys] 24), (0, .cells (cs x.2) t)], 2, 1⟩
  ok := fun x => M32 x.1 ∧ x.2.length = 32 ∧ overL x.2 ys x.1 = overL xs0 ys m0
  μ := fun x => x.1.toNat

theorem over_round (a : Int) (ys zs : List Int) (ha : M32 a) (h0 : a ≠ 0) (hy : ys.length = 32) (hz : zs.length = 32) (i n j : Int) (hi : i = (Lib.ctz 32 a.toNat : Nat))
    (hn : n = (Lib.ctz 32 (ibits .xor .u32 IntKind.u32.max (ishr .u32 a i)).toNat : Nat)) (hj : j = IntKind.i64.wrap (i + n)) :
    M32 (ibits .xor .u32 IntKind.u32.max (ishr .u32 a i)) ∧ 0 ≤ i ∧ i ≤ j ∧ j ≤ 32 ∧
    let a' := ibits .andNot .u32 a (spanI i j)
    let zs' := spl zs i.toNat (((ys.drop i.toNat).take (j.toNat - i.toNat)).take (j.toNat - i.toNat))
    M32 a' ∧ zs'.length = 32 ∧ overL zs' ys a' = overL zs ys a ∧ a'.toNat < a.toNat := by
  have hc := (ctz_bits a.toNat (by have := ha.1; have := ha.2; omega)).2
  have hclt := (hc.1 (by have := ha.1; omega)).2
  have hshr : ishr .u32 a i = ((a.toNat / 2 ^ (Lib.ctz 32 a.toNat) : Nat) : Int) := by
    unfold ishr
    subst hi
    rw [Int.toNat_natCast, show min (Lib.ctz 32 a.toNat) IntKind.u32.bits = Lib.ctz 32 a.toNat by simp [IntKind.bits]; omega]
    rw [Int.fdiv_eq_ediv_of_nonneg _ (Int.pow_nonneg (by omega))]
    obtain ⟨x, rfl⟩ := Int.eq_ofNat_of_zero_le ha.1
    simp
  have hdiv : a.toNat / 2 ^ (Lib.ctz 32 a.toNat) < 4294967296 := Nat.lt_of_le_of_lt (Nat.div_le_self _ _) (by have := ha.1; have := ha.2; omega)
  have hmax : M32 IntKind.u32.max := ⟨by decide, by decide⟩
  have hms : M32 (ishr .u32 a i) := by rw [hshr]; exact ⟨Int.natCast_nonneg _, Int.ofNat_lt.2 hdiv⟩
  obtain ⟨x1, x2⟩ := ibits_and .xor (fun x y => x ^^ y) hmax hms (.inr (.inr (.inl ⟨rfl, rfl⟩)))
  have hxor : (ibits .xor .u32 IntKind.u32.max (ishr .u32 a i)).toNat = 4294967295 - a.toNat / 2 ^ (Lib.ctz 32 a.toNat) := by
    have e : ibits .xor .u32 IntKind.u32.max (ishr .u32 a i) = ((4294967295 - a.toNat / 2 ^ (Lib.ctz 32 a.toNat) : Nat) : Int) := by
      refine mask_ext x1 ⟨by omega, ?_⟩ fun j hj => ?_
      · have := Nat.sub_le 4294967295 (a.toNat / 2 ^ (Lib.ctz 32 a.toNat)); omega
      rw [x2 j hj, hshr]
      have hmb : bit IntKind.u32.max j = true := by
        have : ∀ j, j < 32 → bit IntKind.u32.max j = true := by decide
        exact this j hj
      have := Nat.testBit_two_pow_sub_succ (x := a.toNat / 2 ^ (Lib.ctz 32 a.toNat)) (n := 32) (by omega) j
      have e2 : 2 ^ 32 - (a.toNat / 2 ^ (Lib.ctz 32 a.toNat) + 1) = 4294967295 - a.toNat / 2 ^ (Lib.ctz 32 a.toNat) := by omega
      rw [e2] at this
      simp only [bit, Int.toNat_natCast] at hmb ⊢
      rw [hmb, this]
      simp [hj]
    rw [e, Int.toNat_natCast]
  rw [hxor] at hn
  obtain ⟨r1, r2, r3⟩ := round_bits ha h0 rfl rfl
  generalize hk : Lib.ctz 32 a.toNat = k at *
  generalize hl : Lib.ctz 32 (4294967295 - a.toNat / 2 ^ k) = l at *
  have hj' : j = ((k + l : Nat) : Int) := by rw [hj, w64 (by omega)]; omega
  subst hi hn
  refine ⟨x1, by omega, by omega, by omega, ?_⟩
  obtain ⟨s1, s2⟩ := span_spec (a := (k : Int)) (b := j) (by omega) (by omega) (by omega)
  obtain ⟨n1, n2⟩ := ibits_and .andNot (fun x y => x && !y) ha s1 (.inr (.inr (.inr ⟨rfl, rfl⟩)))
  have hd : j.toNat - (k : Int).toNat = l := by omega
  have htk : ((ys.drop k).take (j.toNat - k)).take (j.toNat - k) = (ys.drop k).take l := by
    rw [Int.toNat_natCast] at hd
    rw [hd, List.take_take, Nat.min_self]
  have hlen : ((ys.drop k).take l).length = l := by simp; omega
  simp only [Int.toNat_natCast, htk]
  have hsl := spl_len zs k ((ys.drop k).take l) (by omega)
  refine ⟨n1, by omega, ?_, ?_⟩
  · unfold overL
    refine range_congr fun p hp => ?_
    rw [n2 p hp, s2 p hp, spl_getD _ _ _ (by omega), hlen]
    by_cases hin : k ≤ p ∧ p < k + l
    · have hb := r3 p hin.1 hin.2
      rw [hb, if_pos hin]
      have e1 : decide ((k : Int) ≤ (p : Int)) = true := by simpa using hin.1
      have e2 : decide ((p : Int) < j) = true := by simp; omega
      rw [e1, e2]
      simp only [Bool.and_self, Bool.not_true, Bool.and_false, Bool.false_eq_true, if_false, if_true]
      simp only [List.getD_eq_getElem?_getD, List.getElem?_take, List.getElem?_drop]
      rw [if_pos (by omega), show k + (p - k) = p by omega]
    · rw [if_neg hin]
      have e : (decide ((k : Int) ≤ (p : Int)) && decide ((p : Int) < j)) = false := by
        simp only [Bool.and_eq_false_iff, decide_eq_false_iff_not]; omega
      rw [e]
      simp
  · have hk1 : bit a k = true := r3 k (Nat.le_refl _) (by omega)
    have hk2 : bit (ibits .andNot .u32 a (spanI k j)) k = false := by
      rw [n2 k (by omega), s2 k (by omega)]
      have e2 : decide ((k : Int) < j) = true := by simp; omega
      rw [e2]
      simp
    generalize ibits .andNot .u32 a (spanI k j) = a' at *
    have hsub : a'.toNat &&& a.toNat = a'.toNat := by
      apply Nat.eq_of_testBit_eq
      intro p
      rw [Nat.testBit_and]
      by_cases hp : p < 32
      · have := n2 p hp
        simp only [bit] at this
        rw [this]
        cases a.toNat.testBit p <;> simp
      · have hp2 : 2 ^ 32 ≤ 2 ^ p := Nat.pow_le_pow_right (by omega) (by omega)
        rw [Nat.testBit_lt_two_pow (x := a'.toNat) (by have := n1.2; omega)]
        simp
    have hle : a'.toNat ≤ a.toNat := by rw [← hsub]; exact Nat.and_le_right
    rcases Nat.lt_or_eq_of_le hle with h | h
    · exact h
    · simp only [bit] at hk1 hk2
      rw [h, hk1] at hk2
      cases hk2

theorem over_ev0 (ys xs : List Int) (m : Int) (h : okOver 32 32 xs ys m) (t : TypeId) (K : SV → List SV → Prop) (hK : K (.tup []) [.row .u8 32 (overL xs ys m)]) :
    evC Γ1 (fun _ => .inv (overI 0 (fun xs => [.row .u8 32 xs]) t ys xs m)) O20 (bd Tryd.f20) (fnPost Tryd.prog Tryd.f20 (fun r heap' _ => ∃ cs', Sx.look heap' 0 = some (SB.cells cs' t) ∧ K r cs' ∧ (within 0 r && withinL 0 cs') = true))
      ⟨startT 0 [.ptr 0 0, .agg [.row .u8 32 ys], .c (.int .u32 m)], Tryd.f20.ntmps, [(0, .cells [.row .u8 32 xs] t)], 1, 1⟩ := by
  conv => whnf
  refine ⟨⟨(m, xs), ⟨h.2.2.2.2, h.2.2.1, rfl⟩, ⟨rfl, rfl, Nat.le_of_ble_eq_true rfl, Nat.le_of_ble_eq_true rfl, ⟨rfl, rfl, rfl, trivial⟩, ⟨rfl, rfl, trivial⟩, rfl⟩⟩, ?_⟩
  rintro ⟨a, zs⟩ ⟨ha, hz, he⟩
  conv => whnf
  split
  · rename_i hne
    have h0 : a ≠ 0 := by simpa using hne
    obtain ⟨q1, q2, q3, q4, q5, q6, q7, q8⟩ := over_round a ys zs ha h0 h.2.2.2.1 hz _ _ _ rfl rfl rfl
    refine ⟨ha, q2, q1, ⟨q2, q3, q4⟩, ⟨q2, q3, q4⟩, ⟨q2, Int.le_trans q2 q3⟩, ⟨(_, _), ⟨q5, q6, q7.trans he⟩, q8, ⟨rfl, rfl, Nat.le_of_ble_eq_true rfl, Nat.le_of_ble_eq_true rfl, ⟨rfl, rfl, rfl, trivial⟩, ⟨rfl, rfl, trivial⟩, rfl⟩⟩⟩
  · rename_i hne
    have h0 : a = 0 := by simpa using hne
    subst h0
    have e : zs = overL xs ys m := by rw [← he, overL_zero _ _ hz]
    subst e
    exact ⟨_, rfl, hK, rfl⟩
theorem over_ev2 (f : Bool) (k : Int) (ys xs : List Int) (m : Int) (h : okOver 32 32 xs ys m) (t : TypeId) (K : SV → List SV → Prop) (hK : K (.tup []) [.c (.bool f), .c (.int .u32 k), .row .u8 32 (overL xs ys m)]) :
    evC Γ1 (fun _ => .inv (overI 2 (fun xs => [.c (.bool f), .c (.int .u32 k), .row .u8 32 xs]) t ys xs m)) O20 (bd Tryd.f20) (fnPost Tryd.prog Tryd.f20 (fun r heap' _ => ∃ cs', Sx.look heap' 0 = some (SB.cells cs' t) ∧ K r cs' ∧ (within 0 r && withinL 0 cs') = true))
      ⟨startT 0 [.ptr 0 2, .agg [.row .u8 32 ys], .c (.int .u32 m)], Tryd.f20.ntmps, [(0, .cells [.c (.bool f), .c (.int .u32 k), .row .u8 32 xs] t)], 1, 1⟩ := by
  conv => whnf
  refine ⟨⟨(m, xs), ⟨h.2.2.2.2, h.2.2.1, rfl⟩, ⟨rfl, rfl, Nat.le_of_ble_eq_true rfl, Nat.le_of_ble_eq_true rfl, ⟨rfl, rfl, rfl, trivial⟩, ⟨rfl, rfl, trivial⟩, rfl⟩⟩, ?_⟩
  rintro ⟨a, zs⟩ ⟨ha, hz, he⟩
  conv => whnf
  split
  · rename_i hne
    have h0 : a ≠ 0 := by simpa using hne
    obtain ⟨q1, q2, q3, q4, q5, q6, q7, q8⟩ := over_round a ys zs ha h0 h.2.2.2.1 hz _ _ _ rfl rfl rfl
    refine ⟨ha, q2, q1, ⟨q2, q3, q4⟩, ⟨q2, q3, q4⟩, ⟨q2, Int.le_trans q2 q3⟩, ⟨(_, _), ⟨q5, q6, q7.trans he⟩, q8, ⟨rfl, rfl, Nat.le_of_ble_eq_true rfl, Nat.le_of_ble_eq_true rfl, ⟨rfl, rfl, rfl, trivial⟩, ⟨rfl, rfl, trivial⟩, rfl⟩⟩⟩
  · rename_i hne
    have h0 : a = 0 := by simpa using hne
    subst h0
    have e : zs = overL xs ys m := by rw [← he, overL_zero _ _ hz]
    subst e
    exact ⟨_, rfl, hK, rfl⟩

theorem c20 : ∀ args heap next K, inPlace FOver args heap next K → ∀ w0 own ρ vs w, RelL next ρ args vs → HMod w0 own heap next ρ w →
      Calls Tryd.prog 20 vs.toArray w fun e w' => ∃ r v heap' next' ρ', K r heap' next' ∧ e = .returned v ∧ Rel next' ρ' r v ∧ next ≤ next' ∧ Ext next ρ ρ' ∧ HMod w0 own heap' next' ρ' w' := by
  refine inPlace_sound (Γ := Γ1) hm O20 (c := bd Tryd.f20) Tryd.func20 rfl (by kernel_rfl) ?_
  intro off rest cs t K h
  unfold FOver at h
  split at h
  · rename_i n ys m n' xs
    obtain ⟨ho, hK⟩ := h
    obtain ⟨rfl, rfl, _⟩ := id ho
    exact ⟨rfl, _, over_ev0 ys xs m ho t K hK⟩
  · rename_i n ys m f k n' xs
    obtain ⟨ho, hK⟩ := h
    obtain ⟨rfl, rfl, _⟩ := id ho
    exact ⟨rfl, _, over_ev2 f k ys xs m ho t K hK⟩
  · exact h.elim
def gs20 : GSpec Tryd.prog := ⟨20, callFunc_run Tryd.func20 rfl (by kernel_rfl), inPlace FOver, c20⟩

/-! ### Lay, Trim, Join of the program -/
noncomputable def Γ2 : Gam Tryd.prog := ⟨Γ1.ps, [gs20]⟩
def layL (bs : List Int) (f : Bool) (m : Int) (ys : List Int) : List Int := overL (match f with | true => zero32 | false => bs) ys m
def trLay (args : List SV) (K : SV → Prop) : Prop :=
  match args with
  | [.agg [.row .u8 n bs], .agg [.c (.bool f), .c (.int .u32 m), .row .u8 n' ys]] => okOver n n' bs ys m ∧ K (.agg [.row .u8 32 (layL bs f m ys)])
  | _ => False
theorem c13 : Sound 13 trLay := by
  intro args K ht n ρ vs w hr hg hng
  unfold trLay at ht
  split at ht
  · rename_i n bs f m n' ys
    obtain ⟨ho, hK⟩ := ht
    obtain ⟨rfl, rfl, _⟩ := id ho
    refine pure_sound (Γ := Γ2) hm H0 [] (c := bd Tryd.f13) Tryd.func13 rfl (by kernel_rfl) (by kernel_rfl) ?_ hr hg hng
    conv => whnf
    split
    · have e : spl bs (Int.toNat 0) (List.replicate (((32 : Nat) : Int).toNat - Int.toNat 0) 0) = zero32 := spl_all _ _ (by rw [ho.2.2.1]; rfl)
      refine ⟨⟨rfl, rfl, ?_, ho.2.2.2.1, ho.2.2.2.2⟩, ?_, rfl⟩
      · exact (congrArg List.length e).trans rfl
      · have h1 : layL bs true m ys = overL (spl bs (Int.toNat 0) (List.replicate (((32 : Nat) : Int).toNat - Int.toNat 0) 0)) ys m := by rw [e]; rfl
        rw [h1] at hK
        exact hK
    · exact ⟨ho, hK, rfl⟩
  · exact ht.elim
def trTrim (args : List SV) (K : SV → Prop) : Prop :=
  match args with
  | [.agg [.c (.bool f), .c (.int .u32 m), .row .u8 n ys]] => okOver 32 n ys ys m ∧ K (.agg [.c (.bool f), .c (.int .u32 m), .row .u8 32 (overL zero32 ys m)])
  | _ => False
theorem c14 : Sound 14 trTrim := by
  intro args K ht n ρ vs w hr hg hng
  unfold trTrim at ht
  split at ht
  · rename_i f m n' ys
    obtain ⟨ho, hK⟩ := ht
    obtain ⟨_, rfl, _⟩ := id ho
    refine pure_sound (Γ := Γ2) hm H0 [] (c := bd Tryd.f14) Tryd.func14 rfl (by kernel_rfl) (by kernel_rfl) ?_ hr hg hng
    exact ⟨⟨rfl, rfl, rfl, ho.2.2.1, ho.2.2.2.2⟩, hK, rfl⟩
  · exact ht.elim

noncomputable def Γ3 : Gam Tryd.prog := ⟨[ps 13 _ Tryd.func13 rfl (by kernel_rfl) c13, ps 14 _ Tryd.func14 rfl (by kernel_rfl) c14] ++ Γ1.ps, [gs20]⟩
def joinF (fa fb : Bool) : Bool := match fb with | true => fb | false => fa
def joinMk (ma mb : Int) (fb : Bool) : Int := match fb with | true => mb | false => ibits .or .u32 ma mb
def joinL (ya yb : List Int) (ma mb : Int) (fb : Bool) : List Int := match fb with | true => overL zero32 yb mb | false => overL (overL zero32 ya ma) yb mb
def trJoin (args : List SV) (K : SV → Prop) : Prop :=
  match args with
  | [.agg [.c (.bool fa), .c (.int .u32 ma), .row .u8 n ya], .agg [.c (.bool fb), .c (.int .u32 mb), .row .u8 n' yb]] =>
    (okOver 32 n ya ya ma ∧ okOver 32 n' yb yb mb) ∧ K (.agg [.c (.bool (joinF fa fb)), .c (.int .u32 (joinMk ma mb fb)), .row .u8 32 (joinL ya yb ma mb fb)])
  | _ => False
theorem c16 : Sound 16 trJoin := by
  intro args K ht n ρ vs w hr hg hng
  unfold trJoin at ht
  split at ht
  · rename_i fa ma n ya fb mb n' yb
    obtain ⟨⟨ha, hb⟩, hK⟩ := ht
    obtain ⟨_, rfl, _⟩ := id ha
    obtain ⟨_, rfl, _⟩ := id hb
    refine pure_sound (Γ := Γ3) hm H0 [] (c := bd Tryd.f16) Tryd.func16 rfl (by kernel_rfl) (by kernel_rfl) ?_ hr hg hng
    conv => whnf
    split
    · exact ⟨hb, hK, rfl⟩
    · refine ⟨ha, ⟨rfl, rfl, overL_len _ _ _, hb.2.2.1, hb.2.2.2.2⟩, hK, rfl⟩
  · exact ht.elim

/-! ### Of, Zero -/
def zeroE (off : Int) : Int := match decide (off < 0) with | true => 1 | false => match decide (off > 32) with | true => 1 | false => 0
def zeroM (off : Int) : Int := match decide (off < 0) with | true => 0 | false => match decide (off > 32) with | true => 0 | false => spanI off 32
def patchV (f : Bool) (m : Int) (ys : List Int) : SV := .agg [.c (.bool f), .c (.int .u32 m), .row .u8 32 ys]
def trZero (args : List SV) (K : SV → Prop) : Prop :=
  match args with
  | [.c (.int .i64 off)] => K (.tup [.agg [.c (.bool false), .c (.int .u32 (zeroM off)), .row .u8 32 zero32], .c (.int .i64 (zeroE off))])
  | _ => False
theorem c11 : Sound 11 trZero := by
  intro args K ht n ρ vs w hr hg hng
  unfold trZero zeroE zeroM at ht
  split at ht
  · rename_i off
    refine pure_sound (Γ := Γ3) hm H0 [] (c := bd Tryd.f11) Tryd.func11 rfl (by kernel_rfl) (by kernel_rfl) ?_ hr hg hng
    conv => whnf
    cases h1 : decide (off < 0)
    · rw [h1] at ht
      conv => whnf
      cases h2 : decide (off > 32)
      · rw [h2] at ht
        exact ⟨⟨(by simpa using h1), by decide⟩, ht, rfl⟩
      · rw [h2] at ht
        exact ⟨ht, rfl⟩
    · rw [h1] at ht
      exact ⟨ht, rfl⟩
  · exact ht.elim
def ofT {α : Type} (off : Int) (s : ByteArray) (a b : α) : α :=
  match decide (off < 0) with
  | true => a
  | false => match decide (off > 32) with
    | true => a
    | false => match decide ((s.size : Int) > IntKind.i64.wrap (32 - off)) with
      | true => a
      | false => b
def ofM (off : Int) (s : ByteArray) : Int := ofT off s 0 (spanI off (IntKind.i64.wrap (off + s.size)))
def ofB (off : Int) (s : ByteArray) : List Int := ofT off s zero32 (spl zero32 off.toNat ((bytesI s).take (32 - off.toNat)))
def ofE (off : Int) (s : ByteArray) : Int := ofT off s 1 0
def trOf (args : List SV) (K : SV → Prop) : Prop :=
  match args with
  | [.c (.int .i64 off), .c (.string s)] => K (.tup [.agg [.c (.bool false), .c (.int .u32 (ofM off s)), .row .u8 32 (ofB off s)], .c (.int .i64 (ofE off s))])
  | _ => False
theorem c9 : Sound 9 trOf := by
  intro args K ht n ρ vs w hr hg hng
  unfold trOf ofM ofB ofE ofT at ht
  split at ht
  · rename_i off s
    refine pure_sound (Γ := Γ3) hm H0 [] (c := bd Tryd.f9) Tryd.func9 rfl (by kernel_rfl) (by kernel_rfl) ?_ hr hg hng
    conv => whnf
    cases h1 : decide (off < 0)
    · rw [h1] at ht
      conv => whnf
      cases h2 : decide (off > 32)
      · rw [h2] at ht
        conv => whnf
        cases h3 : decide ((s.size : Int) > IntKind.i64.wrap (32 - off))
        · rw [h3] at ht
          have h1' : 0 ≤ off := by simpa using h1
          have h2' : off ≤ 32 := by simpa using h2
          have h4 := w64 (x := 32 - off) (by omega)
          have h3' : (s.size : Int) ≤ 32 - off := by rw [h4] at h3; simpa using h3
          have h5 := w64 (x := off + s.size) (by omega)
          exact ⟨⟨h1', (by rw [h5]; omega)⟩, ⟨h1', h2'⟩, ht, rfl⟩
        · rw [h3] at ht
          exact ⟨ht, rfl⟩
      · rw [h2] at ht
        exact ⟨ht, rfl⟩
    · rw [h1] at ht
      exact ⟨ht, rfl⟩
  · exact ht.elim

/-! ### live -/
noncomputable def Γ5 : Gam Tryd.prog := ⟨[ps 9 _ Tryd.func9 rfl (by kernel_rfl) c9, ps 11 _ Tryd.func11 rfl (by kernel_rfl) c11] ++ Γ3.ps, []⟩
def trLive (args : List SV) (K : SV → Prop) : Prop :=
  match args with
  | [] => K (.c (.bool true))
  | _ => False
theorem c8 : Sound 8 trLive := by
  intro args K ht n ρ vs w hr hg hng
  unfold trLive at ht
  split at ht
  · refine pure_sound (Γ := Γ5) hm H0 [] (c := bd Tryd.f8) Tryd.func8 rfl (by kernel_rfl) (by kernel_rfl) ?_ hr hg hng
    exact ⟨⟨rfl, rfl, rfl, rfl, (by decide), (by decide)⟩, ⟨(by decide), (by decide)⟩, ht, rfl⟩
  · exact ht.elim
noncomputable def Γ6 : Gam Tryd.prog := ⟨[ps 8 _ Tryd.func8 rfl (by kernel_rfl) c8, ps 16 _ Tryd.func16 rfl (by kernel_rfl) c16] ++ Γ5.ps, []⟩

end Go.Proofs.YtlobbcodnkfbiaaDoor
