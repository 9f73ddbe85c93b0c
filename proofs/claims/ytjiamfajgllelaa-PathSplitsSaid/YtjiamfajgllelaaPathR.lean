/-
  PathR: copies; a path's parent, by the program and the document.
-/
import Derived.Test.YtjiamfajgllelaaPathQ
namespace Go.Proofs.Ytjiamfajgllelaa
open Go Go.RowKit Sy
set_option maxRecDepth 100000

/-- a copy: nil may stay nil -/
def FClone (args : List SV) (K : SV → Option SB → Prop) : Prop :=
  match args with
  | [x] => ∃ L, strs x L ∧ L.length ≤ 1000 ∧ (L = [] → K nilS none) ∧ K (.gs 0 1 0 L.length none) (some (.arr 9 1 L.length (encS L)))
  | _ => False
theorem c_CloneS : OSound 20 FClone := by
  refine sndO (Γ := Γ0) (O := O20) Try.func20 rfl (by kernel_rfl) fun args K h => ?_
  unfold FClone at h
  split at h
  · rename_i x
    obtain ⟨L, hL, hn, hk0, hk⟩ := h
    refine ⟨[rsS L], sleL1 hL trivial, rfl, H0, kcast (A := ((L.length = (0 : Nat)) →
∃ r' : SV,
SV.c (Value.slice none (0 : Nat) (0 : Nat)) = r' ∧
K r' none) ∧
L.length * (16 : Nat) ≤ (140737488355328 : Nat) ∧
∃ r' : SV,
SV.gs (0 : Nat) (1 : Nat) (0 : Nat) L.length none = r' ∧
∃ m' : Nat,
∃ f' : Nat → List SV,
L.length = m' ∧
(∀ (i : Nat),
((i < L.length) →
encS L i = f' i)) ∧
K r' (some (SB.arr (9 : Nat) (1 : Nat) m' f'))) (by kernel_rfl) ?_⟩
    refine ⟨fun h0 => ⟨_, rfl, hk0 (List.eq_nil_of_length_eq_zero h0)⟩, by omega, _, rfl, _, _, rfl, fun _ _ => rfl, hk⟩
  · exact h.elim

/-- what Parent answers -/
def FParent (args : List SV) (K : SV → Option SB → Prop) : Prop :=
  match args with
  | [.c (.string s)] => ((parse s = none ∨ parse s = some []) → K (.tup [nilS, .c (.string ⟨#[]⟩), .c (.int .i64 160)]) none) ∧ ∀ L, parse s = some L → L ≠ [] →
      (L.take (L.length - 1) = [] → K (.tup [nilS, .c (.string (L.getD (L.length - 1) .empty)), .c (.int .i64 0)]) none) ∧
      K (.tup [.gs 0 1 0 (L.take (L.length - 1)).length none, .c (.string (L.getD (L.length - 1) .empty)), .c (.int .i64 0)]) (some (.arr 9 1 (L.take (L.length - 1)).length (encS (L.take (L.length - 1)))))
  | _ => False
noncomputable def Γp : Gam Try.prog := ⟨[], [gs 9 _ Try.func9 rfl (by kernel_rfl) c_Split, gs 20 _ Try.func20 rfl (by kernel_rfl) c_CloneS]⟩
theorem c_Parent : OSound 11 FParent := by
  refine sndO (Γ := Γp) (O := O11) Try.func11 rfl (by kernel_rfl) fun args K h => ?_
  unfold FParent at h
  split at h
  · rename_i s
    refine ⟨[.c (.string s)], ⟨rfl, trivial⟩, rfl, H0, kcast (A := ((parse s = none) →
∃ r' : SV,
SV.tup
    [SV.c (Value.slice none (0 : Nat) (0 : Nat)), SV.c (Value.string (ByteArray.mk #[])),
      SV.c (Value.int IntKind.i64 (160 : Int))] =
  r' ∧
K r' none) ∧
∀ (L : List ByteArray),
((parse s = some L) →
((L = []) →
∃ r' : SV,
SV.tup
    [SV.c (Value.slice none (0 : Nat) (0 : Nat)), SV.c (Value.string (ByteArray.mk #[])),
      SV.c (Value.int IntKind.i64 (160 : Int))] =
  r' ∧
K r' none) ∧
((L ≠ []) →
brk ((↑L.length : Int) == (0 : Int))
  (∃ r' : SV,
  SV.tup
    [SV.c (Value.slice none (0 : Nat) (0 : Nat)), SV.c (Value.string (ByteArray.mk #[])),
      SV.c (Value.int IntKind.i64 (160 : Int))] =
  r' ∧
  K r' none)
  (((0 : Int) ≤ (0 : Int) ∧
  (0 : Int) ≤ IntKind.i64.wrap ((↑L.length : Int) - (1 : Int)) ∧
  IntKind.i64.wrap ((↑L.length : Int) - (1 : Int)) ≤ (↑L.length : Int)) ∧
  ((0 : Int) ≤ IntKind.i64.wrap ((↑L.length : Int) - (1 : Int)) ∧
  IntKind.i64.wrap ((↑L.length : Int) - (1 : Int)) < (↑L.length : Int)) ∧
  IntKind.i64.wrap ((↑L.length : Int) - (1 : Int)) < (↑L.length : Int) ∧
  (IntKind.i64.wrap ((↑L.length : Int) - (1 : Int))).toNat ≤ L.length ∧
  ∃ L_1 : List ByteArray,
  strs (SV.rs (1 : Nat) (IntKind.i64.wrap ((↑L.length : Int) - (1 : Int))).toNat (encS L)) L_1 ∧
  L_1.length ≤ (1000 : Nat) ∧
  ((L_1 = []) →
  ∃ r' : SV,
  SV.tup
    [SV.c (Value.slice none (0 : Nat) (0 : Nat)),
      SV.c (Value.string (L.getD (IntKind.i64.wrap ((↑L.length : Int) - (1 : Int))).toNat ByteArray.empty)),
      SV.c (Value.int IntKind.i64 (0 : Int))] =
  r' ∧
  K r' none) ∧
  (∀ (j : Nat),
  ((j < L_1.length) →
  plainSV.plainL (encS L_1 j) = true)) ∧
  ∃ r' : SV,
  SV.tup
    [SV.gs (0 : Nat) (1 : Nat) (0 : Nat) L_1.length none,
      SV.c (Value.string (L.getD (IntKind.i64.wrap ((↑L.length : Int) - (1 : Int))).toNat ByteArray.empty)),
      SV.c (Value.int IntKind.i64 (0 : Int))] =
  r' ∧
  ∃ m' : Nat,
  ∃ f' : Nat → List SV,
  L_1.length = m' ∧
  (∀ (i : Nat),
  ((i < L_1.length) →
  encS L_1 i = f' i)) ∧
  K r' (some (SB.arr (9 : TypeId) (1 : Nat) m' f')))))) (by kernel_rfl) ?_⟩
    refine ⟨fun e => ⟨_, rfl, h.1 (.inl e)⟩, fun L hp => ⟨fun e => ⟨_, rfl, h.1 (.inr (by rw [hp, e]))⟩, fun hne => brkI (fun h1 => ?_) (fun h1 => ?_)⟩⟩
    · have := eq_of_beq h1
      exact absurd (List.eq_nil_of_length_eq_zero (by omega)) hne
    · have hl := parse_len hp
      have hpos : 0 < L.length := List.length_pos_iff.2 hne
      have hw : IntKind.i64.wrap ((L.length : Int) - 1) = ((L.length - 1 : Nat) : Int) := by rw [IntWalk.i64_in _ (by omega)]; omega
      obtain ⟨k0, k1⟩ := h.2 L hp hne
      rw [hw, Int.toNat_natCast]
      refine ⟨⟨by omega, by omega, by omega⟩, ⟨by omega, by omega⟩, by omega, by omega, L.take (L.length - 1), strs_of (by simp) (fun i hi => ?_) (by simp; omega), by simp; omega, fun e => ⟨_, rfl, k0 e⟩, fun _ _ => rfl, _, rfl, _, _, rfl, fun _ _ => rfl, k1⟩
      have : i < L.length - 1 := by simp at hi; omega
      simp [encS, List.getD, this, show i < L.length by omega]
  · exact h.elim
def trRParent (args : List SV) (K : SV → Prop) : Prop :=
  match args with
  | [.c (.string s)] => ((parse s = none ∨ parse s = some []) → K (.tup [nilS, .c (.string ⟨#[]⟩), .c (.int .i64 160)])) ∧ ∀ L, parse s = some L → L ≠ [] →
      K (.tup [rsS (L.take (L.length - 1)), .c (.string (L.getD (L.length - 1) .empty)), .c (.int .i64 0)])
  | _ => False
noncomputable def Γrp : Gam Try.prog := ⟨[ps 10 _ Try.func10 rfl (by kernel_rfl) c_rSplit], []⟩
theorem c_rParent : Sound 12 trRParent := by
  refine sndW (Γ := Γrp) (O := O12) Try.func12 rfl (by kernel_rfl) fun args K h => ?_
  unfold trRParent at h
  split at h
  · rename_i s
    refine ⟨[.c (.string s)], ⟨rfl, trivial⟩, rfl, H0, kcast (A := ((parse s = none) →
∃ r' : SV,
Fits
  (SV.tup
    [SV.c (Value.int IntKind.i64 (160 : Int)), SV.c (Value.string (ByteArray.mk #[])),
        SV.c (Value.slice none (0 : Nat) (0 : Nat))].reverse)
  r' ∧
K r') ∧
∀ (L : List ByteArray),
((parse s = some L) →
((L = []) →
∃ r' : SV,
Fits
  (SV.tup
    [SV.c (Value.int IntKind.i64 (160 : Int)), SV.c (Value.string (ByteArray.mk #[])),
        SV.c (Value.slice none (0 : Nat) (0 : Nat))].reverse)
  r' ∧
K r') ∧
((L ≠ []) →
brk ((↑L.length : Int) == (0 : Int))
  (∃ r' : SV,
  Fits
  (SV.tup
    [SV.c (Value.int IntKind.i64 (160 : Int)), SV.c (Value.string (ByteArray.mk #[])),
        SV.c (Value.slice none (0 : Nat) (0 : Nat))].reverse)
  r' ∧
  K r')
  (((0 : Int) ≤ (0 : Int) ∧
  (0 : Int) ≤ IntKind.i64.wrap ((↑L.length : Int) - (1 : Int)) ∧
  IntKind.i64.wrap ((↑L.length : Int) - (1 : Int)) ≤ (↑L.length : Int)) ∧
  ((0 : Int) ≤ IntKind.i64.wrap ((↑L.length : Int) - (1 : Int)) ∧
  IntKind.i64.wrap ((↑L.length : Int) - (1 : Int)) < (↑L.length : Int)) ∧
  ∃ r' : SV,
  Fits
  (SV.tup
    [SV.c (Value.int IntKind.i64 (0 : Int)),
        SV.c (Value.string (L.getD (IntKind.i64.wrap ((↑L.length : Int) - (1 : Int))).toNat ByteArray.empty)),
        SV.rs (1 : Nat) (IntKind.i64.wrap ((↑L.length : Int) - (1 : Int)) - (0 : Int)).toNat (encS L)].reverse)
  r' ∧
  K r')))) (by kernel_rfl) ?_⟩
    refine ⟨fun e => ⟨_, fits_c3 _ _ _, h.1 (.inl e)⟩, fun L hp => ⟨fun e => ⟨_, fits_c3 _ _ _, h.1 (.inr (by rw [hp, e]))⟩, fun hne => brkI (fun h1 => ?_) (fun h1 => ?_)⟩⟩
    · have := eq_of_beq h1
      exact absurd (List.eq_nil_of_length_eq_zero (by omega)) hne
    · have hl := parse_len hp
      have hpos : 0 < L.length := List.length_pos_iff.2 hne
      have hw : IntKind.i64.wrap ((L.length : Int) - 1) = ((L.length - 1 : Nat) : Int) := by rw [IntWalk.i64_in _ (by omega)]; omega
      have k1 := h.2 L hp hne
      rw [hw, Int.toNat_natCast]
      have e1 : (((L.length - 1 : Nat) : Int) - 0).toNat = L.length - 1 := by omega
      rw [e1]
      have e2 : (L.take (L.length - 1)).length = L.length - 1 := by simp
      unfold rsS at k1
      rw [e2] at k1
      refine ⟨⟨by omega, by omega, by omega⟩, ⟨by omega, by omega⟩, _, fits_r3 (f' := encS (L.take (L.length - 1))) (fun i hi => ?_) _ _ rfl, k1⟩
      simp [encS, List.getD, hi, show i < L.length by omega]
  · exact h.elim
end Go.Proofs.Ytjiamfajgllelaa
