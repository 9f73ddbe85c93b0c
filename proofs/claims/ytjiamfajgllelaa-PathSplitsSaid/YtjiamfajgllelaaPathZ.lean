/-
  PathZ: the walk of the law on what is split and written over.
-/
import Derived.Test.YtjiamfajgllelaaPathX
namespace Go.Proofs.Ytjiamfajgllelaa
open Go Go.RowKit Sy
set_option maxRecDepth 100000

/-- the rounds -/
def outI (s : ByteArray) : LInv where
  X := Nat
  st := fun p => ⟨[(0, .c (.string s)), (3, .c (.bool true)), (21, .c (.int .i64 p))], 90, [], 0, 0⟩
  ok := fun p => p ≤ 2
  μ := fun p => 2 - p
/-- one slice is written over, the other is at hand -/
def bothI (s0 s3 s21 : SV) (n k : Nat) : LInv where
  X := Nat × (Nat → List SV) × (Nat → List SV)
  st := fun x => ⟨[(0, s0), (3, s3), (21, s21), (4, .gs 0 1 0 n none), (8, .gs 1 1 0 k none), (71, .c (.int .i64 n)), (72, .c (.int .i64 x.1))], 90, [(0, .arr 9 1 n x.2.1), (1, .arr 9 1 k x.2.2)], 2, 0⟩
  ok := fun x => x.1 ≤ n
  μ := fun x => n - x.1
def oneI (s0 s3 s21 s8 : SV) (n : Nat) : LInv where
  X := Nat × (Nat → List SV)
  st := fun x => ⟨[(0, s0), (3, s3), (21, s21), (4, .gs 0 1 0 n none), (8, s8), (71, .c (.int .i64 n)), (72, .c (.int .i64 x.1))], 90, [(0, .arr 9 1 n x.2)], 1, 0⟩
  ok := fun x => x.1 ≤ n
  μ := fun x => n - x.1
def lastI (s0 s3 s21 : SV) (n : Nat) : LInv where
  X := Nat × (Nat → List SV)
  st := fun x => ⟨[(0, s0), (3, s3), (21, s21), (8, .gs 0 1 0 n none), (80, .c (.int .i64 n)), (81, .c (.int .i64 x.1))], 90, [(0, .arr 9 1 n x.2)], 1, 0⟩
  ok := fun x => x.1 ≤ n
  μ := fun x => n - x.1
def hSplits (s : ByteArray) : Nat → LH := fun id =>
  match id with
  | 5 => .inv (outI s)
  | 13 => .sel fun σ => match σ.get 4, σ.get 8 with
    | .gs _ _ _ n _, .gs _ _ _ k _ => .inv (bothI (σ.get 0) (σ.get 3) (σ.get 21) n k)
    | .gs _ _ _ n _, x => .inv (oneI (σ.get 0) (σ.get 3) (σ.get 21) x n)
    | _, _ => .rounds 1
  | _ => .sel fun σ => match σ.get 8 with
    | .gs _ _ _ n _ => .inv (lastI (σ.get 0) (σ.get 3) (σ.get 21) n)
    | _ => .rounds 1
/-! ### the contracts, each way by itself -/
def fS1 (e : Option (List ByteArray)) (r : Int) (args : List SV) (K : SV → Option SB → Prop) : Prop :=
  match args with
  | [.c (.string s)] => parse s = e ∧ K (.tup [nilS, .c (.int .i64 r)]) none
  | _ => False
def fR1 (e : Option (List ByteArray)) (r : Int) (args : List SV) (K : SV → Prop) : Prop :=
  match args with
  | [.c (.string s)] => parse s = e ∧ K (.tup [nilS, .c (.int .i64 r)])
  | _ => False
def fP1 (e : Option (List ByteArray)) (args : List SV) (K : SV → Option SB → Prop) : Prop :=
  match args with
  | [.c (.string s)] => parse s = e ∧ K (.tup [nilS, .c (.string ⟨#[]⟩), .c (.int .i64 160)]) none
  | _ => False
def fQ1 (e : Option (List ByteArray)) (args : List SV) (K : SV → Prop) : Prop :=
  match args with
  | [.c (.string s)] => parse s = e ∧ K (.tup [nilS, .c (.string ⟨#[]⟩), .c (.int .i64 160)])
  | _ => False
theorem s1N : OSound 9 (fS1 none 160) := by
  intro args K ht
  refine c_Split args K ?_
  unfold fS1 at ht; unfold FSplit
  split at ht
  · exact ⟨fun _ => ht.2, fun L h => by rw [ht.1] at h; cases h⟩
  · exact ht.elim
theorem s1E : OSound 9 (fS1 (some []) 0) := by
  intro args K ht
  refine c_Split args K ?_
  unfold fS1 at ht; unfold FSplit
  split at ht
  · exact ⟨fun h => (by rw [ht.1] at h; cases h), fun L h => by rw [ht.1] at h; cases h; exact ⟨fun _ => ht.2, fun h => absurd rfl h⟩⟩
  · exact ht.elim
theorem r1N : Sound 10 (fR1 none 160) := by
  intro args K ht
  refine c_rSplit args K ?_
  unfold fR1 at ht; unfold trRSplit
  split at ht
  · exact ⟨fun _ => ht.2, fun L h => by rw [ht.1] at h; cases h⟩
  · exact ht.elim
theorem r1E : Sound 10 (fR1 (some []) 0) := by
  intro args K ht
  refine c_rSplit args K ?_
  unfold fR1 at ht; unfold trRSplit
  split at ht
  · exact ⟨fun h => (by rw [ht.1] at h; cases h), fun L h => by rw [ht.1] at h; cases h; exact ⟨fun _ => ht.2, fun h => absurd rfl h⟩⟩
  · exact ht.elim
theorem p1 (e : Option (List ByteArray)) (he : e = none ∨ e = some []) : OSound 11 (fP1 e) := by
  intro args K ht
  refine c_Parent args K ?_
  unfold fP1 at ht; unfold FParent
  split at ht
  · refine ⟨fun _ => ht.2, fun L h hL => ?_⟩
    rw [ht.1] at h
    rcases he with rfl | rfl
    · cases h
    · cases h; exact absurd rfl hL
  · exact ht.elim
theorem q1 (e : Option (List ByteArray)) (he : e = none ∨ e = some []) : Sound 12 (fQ1 e) := by
  intro args K ht
  refine c_rParent args K ?_
  unfold fQ1 at ht; unfold trRParent
  split at ht
  · refine ⟨fun _ => ht.2, fun L h hL => ?_⟩
    rw [ht.1] at h
    rcases he with rfl | rfl
    · cases h
    · cases h; exact absurd rfl hL
  · exact ht.elim
def fS3 (L : List ByteArray) (args : List SV) (K : SV → Option SB → Prop) : Prop :=
  match args with
  | [.c (.string s)] => parse s = some L ∧ K (.tup [.gs 0 1 0 L.length none, .c (.int .i64 0)]) (some (.arr 9 1 L.length (encS L)))
  | _ => False
def fR3 (L : List ByteArray) (args : List SV) (K : SV → Prop) : Prop :=
  match args with
  | [.c (.string s)] => parse s = some L ∧ K (.tup [rsS L, .c (.int .i64 0)])
  | _ => False
def fP3 (L T : List ByteArray) (z : ByteArray) (args : List SV) (K : SV → Option SB → Prop) : Prop :=
  match args with
  | [.c (.string s)] => parse s = some L ∧ (T = [] → K (.tup [nilS, .c (.string z), .c (.int .i64 0)]) none) ∧ K (.tup [.gs 0 1 0 T.length none, .c (.string z), .c (.int .i64 0)]) (some (.arr 9 1 T.length (encS T)))
  | _ => False
def fQ3 (L T : List ByteArray) (z : ByteArray) (args : List SV) (K : SV → Prop) : Prop :=
  match args with
  | [.c (.string s)] => parse s = some L ∧ K (.tup [rsS T, .c (.string z), .c (.int .i64 0)])
  | _ => False
theorem s3 {L : List ByteArray} (hL : L ≠ []) : OSound 9 (fS3 L) := by
  intro args K ht
  refine c_Split args K ?_
  unfold fS3 at ht; unfold FSplit
  split at ht
  · exact ⟨fun h => (by rw [ht.1] at h; cases h), fun M h => by rw [ht.1] at h; cases h; exact ⟨fun h => absurd h hL, fun _ => ht.2⟩⟩
  · exact ht.elim
theorem r3 {L : List ByteArray} (hL : L ≠ []) : Sound 10 (fR3 L) := by
  intro args K ht
  refine c_rSplit args K ?_
  unfold fR3 at ht; unfold trRSplit
  split at ht
  · exact ⟨fun h => (by rw [ht.1] at h; cases h), fun M h => by rw [ht.1] at h; cases h; exact ⟨fun h => absurd h hL, fun _ => ht.2⟩⟩
  · exact ht.elim
theorem p3 {L : List ByteArray} (hL : L ≠ []) : OSound 11 (fP3 L (L.take (L.length - 1)) (L.getD (L.length - 1) .empty)) := by
  intro args K ht
  refine c_Parent args K ?_
  unfold fP3 at ht; unfold FParent
  split at ht
  · exact ⟨fun h => (by rw [ht.1] at h; rcases h with h | h; cases h; cases h; exact absurd rfl hL), fun M h _ => by rw [ht.1] at h; cases h; exact ht.2⟩
  · exact ht.elim
theorem q3 {L : List ByteArray} (hL : L ≠ []) : Sound 12 (fQ3 L (L.take (L.length - 1)) (L.getD (L.length - 1) .empty)) := by
  intro args K ht
  refine c_rParent args K ?_
  unfold fQ3 at ht; unfold trRParent
  split at ht
  · exact ⟨fun h => (by rw [ht.1] at h; rcases h with h | h; cases h; cases h; exact absurd rfl hL), fun M h _ => by rw [ht.1] at h; cases h; exact ht.2⟩
  · exact ht.elim

noncomputable def Γz1 : Gam Try.prog := ⟨[ps 8 _ Try.func8 rfl (by kernel_rfl) c_live, ps 13 _ Try.func13 rfl (by kernel_rfl) c_Same, ps 10 _ Try.func10 rfl (by kernel_rfl) r1N, ps 12 _ Try.func12 rfl (by kernel_rfl) (q1 none (.inl rfl))],
  [gs 9 _ Try.func9 rfl (by kernel_rfl) s1N, gs 11 _ Try.func11 rfl (by kernel_rfl) (p1 none (.inl rfl))]⟩
noncomputable def Γz2 : Gam Try.prog := ⟨[ps 8 _ Try.func8 rfl (by kernel_rfl) c_live, ps 13 _ Try.func13 rfl (by kernel_rfl) c_Same, ps 10 _ Try.func10 rfl (by kernel_rfl) r1E, ps 12 _ Try.func12 rfl (by kernel_rfl) (q1 (some []) (.inr rfl))],
  [gs 9 _ Try.func9 rfl (by kernel_rfl) s1E, gs 11 _ Try.func11 rfl (by kernel_rfl) (p1 (some []) (.inr rfl))]⟩
noncomputable def Γz3 (L T : List ByteArray) (z : ByteArray) (hS : OSound 9 (fS3 L)) (hR : Sound 10 (fR3 L)) (hP : OSound 11 (fP3 L T z)) (hQ : Sound 12 (fQ3 L T z)) : Gam Try.prog :=
  ⟨[ps 8 _ Try.func8 rfl (by kernel_rfl) c_live, ps 13 _ Try.func13 rfl (by kernel_rfl) c_Same, ps 10 _ Try.func10 rfl (by kernel_rfl) hR, ps 12 _ Try.func12 rfl (by kernel_rfl) hQ],
  [gs 9 _ Try.func9 rfl (by kernel_rfl) hS, gs 11 _ Try.func11 rfl (by kernel_rfl) hP]⟩

def trSe (e : Option (List ByteArray)) (args : List SV) (K : SV → Prop) : Prop :=
  match args with
  | [.c (.string s)] => parse s = e ∧ K (.c (.bool true))
  | _ => False
theorem setF_rec (f : Nat → List SV) (i : Nat) (new : List SV) (j : Nat) : (Bool.rec (f j) new (Nat.beq j i) : List SV) = setF f i new j := by
  unfold setF; cases Nat.beq j i <;> rfl
theorem outS {s : ByteArray} {x : Nat} (h : x < 2) : ∃ x' : Nat, x'.le 2 ∧ Nat.sub 2 x' < Nat.sub 2 x ∧ (s = s ∧ true = true ∧ IntKind.i64.wrap ((x : Int) + 1) = (x' : Int) ∧ True) ∧ True :=
  ⟨x + 1, h, sub_lt h rfl, ⟨rfl, rfl, by rw [IntWalk.i64_in _ (by omega)]; omega, trivial⟩, trivial⟩
theorem c_Splits1 : Sound 3 (trSe none) := by
  refine sndA (Γ := Γz1) (O := O3) Try.func3 rfl (by kernel_rfl) fun args K h => ?_
  unfold trSe at h
  split at h
  · rename_i s
    obtain ⟨hp, hk⟩ := h
    refine ⟨[.c (.string s)], ⟨rfl, trivial⟩, rfl, hSplits s, kcast (A := brk (decide ((↑s.size : Int) > (100000 : Int)))
  (K (SV.c (Value.bool true)))
  ((∃ x : Nat,
  Nat.le x (2 : Nat) ∧
  (s = s ∧
  true = true ∧
  (0 : Int) = (↑x : Int) ∧
  True) ∧
  True) ∧
  ∀ (x : Nat),
  ((Nat.le x (2 : Nat)) →
  brk (decide ((↑x : Int) < (2 : Int)))
    (parse s = none ∧
    parse s = none ∧
    parse s = none ∧
    parse s = none ∧
    ∃ L : List ByteArray,
    ∃ M : List ByteArray,
    strs (SV.c (Value.slice none (0 : Nat) (0 : Nat))) L ∧
    strs (SV.c (Value.slice none (0 : Nat) (0 : Nat))) M ∧
    brk (!decide (L = M))
      (K (SV.c (Value.bool false)))
      (∃ L_1 : List ByteArray,
      ∃ M_1 : List ByteArray,
      strs (SV.c (Value.slice none (0 : Nat) (0 : Nat))) L_1 ∧
      strs (SV.c (Value.slice none (0 : Nat) (0 : Nat))) M_1 ∧
      brk (!decide (L_1 = M_1))
        (K (SV.c (Value.bool false)))
        (∃ x' : Nat,
        Nat.le x' (2 : Nat) ∧
        Nat.sub (2 : Nat) x' < Nat.sub (2 : Nat) x ∧
        (s = s ∧
        true = true ∧
        IntKind.i64.wrap ((↑x : Int) + (1 : Int)) = (↑x' : Int) ∧
        True) ∧
        True)))
    (K (SV.c (Value.bool true)))))) (by kernel_rfl) ?_⟩
    have nil_ : strs (.c (.slice none 0 0)) [] := ⟨rfl, by simp⟩
    refine brkI (fun _ => hk) (fun _ => ⟨⟨0, Nat.zero_le _, ⟨rfl, rfl, rfl, trivial⟩, trivial⟩, fun x hx => brkI (fun h1 => ?_) (fun _ => hk)⟩)
    have hlt : x < 2 := by have := of_decide_eq_true h1; omega
    exact ⟨hp, hp, hp, hp, [], [], nil_, nil_, [], [], nil_, nil_, outS hlt⟩
  · exact h.elim
theorem c_Splits2 : Sound 3 (trSe (some [])) := by
  refine sndA (Γ := Γz2) (O := O3) Try.func3 rfl (by kernel_rfl) fun args K h => ?_
  unfold trSe at h
  split at h
  · rename_i s
    obtain ⟨hp, hk⟩ := h
    refine ⟨[.c (.string s)], ⟨rfl, trivial⟩, rfl, hSplits s, kcast (A := brk (decide ((↑s.size : Int) > (100000 : Int)))
  (K (SV.c (Value.bool true)))
  ((∃ x : Nat,
  Nat.le x (2 : Nat) ∧
  (s = s ∧
  true = true ∧
  (0 : Int) = (↑x : Int) ∧
  True) ∧
  True) ∧
  ∀ (x : Nat),
  ((Nat.le x (2 : Nat)) →
  brk (decide ((↑x : Int) < (2 : Int)))
    (parse s = some [] ∧
    parse s = some [] ∧
    parse s = some [] ∧
    parse s = some [] ∧
    ∃ L : List ByteArray,
    ∃ M : List ByteArray,
    strs (SV.c (Value.slice none (0 : Nat) (0 : Nat))) L ∧
    strs (SV.c (Value.slice none (0 : Nat) (0 : Nat))) M ∧
    brk (!decide (L = M))
      (K (SV.c (Value.bool false)))
      (∃ L_1 : List ByteArray,
      ∃ M_1 : List ByteArray,
      strs (SV.c (Value.slice none (0 : Nat) (0 : Nat))) L_1 ∧
      strs (SV.c (Value.slice none (0 : Nat) (0 : Nat))) M_1 ∧
      brk (!decide (L_1 = M_1))
        (K (SV.c (Value.bool false)))
        (∃ x' : Nat,
        Nat.le x' (2 : Nat) ∧
        Nat.sub (2 : Nat) x' < Nat.sub (2 : Nat) x ∧
        (s = s ∧
        true = true ∧
        IntKind.i64.wrap ((↑x : Int) + (1 : Int)) = (↑x' : Int) ∧
        True) ∧
        True)))
    (K (SV.c (Value.bool true)))))) (by kernel_rfl) ?_⟩
    have nil_ : strs (.c (.slice none 0 0)) [] := ⟨rfl, by simp⟩
    refine brkI (fun _ => hk) (fun _ => ⟨⟨0, Nat.zero_le _, ⟨rfl, rfl, rfl, trivial⟩, trivial⟩, fun x hx => brkI (fun h1 => ?_) (fun _ => hk)⟩)
    have hlt : x < 2 := by have := of_decide_eq_true h1; omega
    exact ⟨hp, hp, hp, hp, [], [], nil_, nil_, [], [], nil_, nil_, outS hlt⟩
  · exact h.elim
theorem c_Splits3 (L T : List ByteArray) (z : ByteArray) (hS : OSound 9 (fS3 L)) (hR : Sound 10 (fR3 L)) (hP : OSound 11 (fP3 L T z)) (hQ : Sound 12 (fQ3 L T z)) (hl : L.length ≤ 6) (ht : T.length ≤ 6) : Sound 3 (trSe (some L)) := by
  refine sndA (Γ := Γz3 L T z hS hR hP hQ) (O := O3) Try.func3 rfl (by kernel_rfl) fun args K h => ?_
  unfold trSe at h
  split at h
  · rename_i s
    obtain ⟨hp, hk⟩ := h
    refine ⟨[.c (.string s)], ⟨rfl, trivial⟩, rfl, hSplits s, kcast (A := brk (decide ((↑s.size : Int) > (100000 : Int)))
  (K (SV.c (Value.bool true)))
  ((∃ x : Nat,
  Nat.le x (2 : Nat) ∧
  (s = s ∧
  true = true ∧
  (0 : Int) = (↑x : Int) ∧
  True) ∧
  True) ∧
  ∀ (x : Nat),
  ((Nat.le x (2 : Nat)) →
  brk (decide ((↑x : Int) < (2 : Int)))
    (parse s = some L ∧
    parse s = some L ∧
    parse s = some L ∧
    ((T = []) →
    parse s = some L ∧
    L.length ≤ L.length ∧
    ∃ L_1 : List ByteArray,
    ∃ M : List ByteArray,
    strs (SV.rs (1 : Nat) L.length (encS L)) L_1 ∧
    strs (SV.rs (1 : Nat) L.length (encS L)) M ∧
    brk (!decide (L_1 = M))
      (K (SV.c (Value.bool false)))
      (∃ L_2 : List ByteArray,
      ∃ M_1 : List ByteArray,
      strs (SV.c (Value.slice none (0 : Nat) (0 : Nat))) L_2 ∧
      strs (SV.rs (1 : Nat) T.length (encS T)) M_1 ∧
      brk (!decide (L_2 = M_1))
        (K (SV.c (Value.bool false)))
        (brk (!z.toList == z.toList)
          (K (SV.c (Value.bool false)))
          ((∃ x_3 : Nat × (Nat → List SV),
          x_3.fst.le L.length ∧
          (s = s ∧
          true = true ∧
          (↑x : Int) = (↑x : Int) ∧
          ((0 : Nat) = (0 : Nat) ∧
          L.length = L.length ∧
          True) ∧
          Value.slice none (0 : Nat) (0 : Nat) = Value.slice none (0 : Nat) (0 : Nat) ∧
          (↑L.length : Int) = (↑L.length : Int) ∧
          (0 : Int) = (↑x_3.fst : Int) ∧
          True) ∧
          (L.length = L.length ∧
          ∀ (i : Nat),
          ((i < L.length) →
          encS L i = x_3.snd i)) ∧
          True) ∧
          ∀ (x_3 : Nat × (Nat → List SV)),
          ((x_3.fst.le L.length) →
          brk (decide ((↑x_3.fst : Int) < (↑L.length : Int)))
            (((0 : Int) ≤ (↑x_3.fst : Int) ∧
            (↑x_3.fst : Int) < (↑L.length : Int)) ∧
            (↑x_3.fst : Int) < (↑L.length : Int) ∧
            ∃ x' : Nat × (Nat → List SV),
            x'.fst.le L.length ∧
            L.length.sub x'.fst < L.length.sub x_3.fst ∧
            (s = s ∧
            true = true ∧
            (↑x : Int) = (↑x : Int) ∧
            ((0 : Nat) = (0 : Nat) ∧
            L.length = L.length ∧
            True) ∧
            Value.slice none (0 : Nat) (0 : Nat) = Value.slice none (0 : Nat) (0 : Nat) ∧
            (↑L.length : Int) = (↑L.length : Int) ∧
            IntKind.i64.wrap ((↑x_3.fst : Int) + (1 : Int)) = (↑x'.fst : Int) ∧
            True) ∧
            (L.length = L.length ∧
            ∀ (i : Nat),
            ((i < L.length) →
            Bool.rec (x_3.snd i) [SV.c (Value.string (ByteArray.mk #[(122 : UInt8), (122 : UInt8)]))]
    (i.beq (↑x_3.fst : Int).toNat) =
  x'.snd i)) ∧
            True)
            (∃ x' : Nat,
            Nat.le x' (2 : Nat) ∧
            Nat.sub (2 : Nat) x' < Nat.sub (2 : Nat) x ∧
            (s = s ∧
            true = true ∧
            IntKind.i64.wrap ((↑x : Int) + (1 : Int)) = (↑x' : Int) ∧
            True) ∧
            True)))))) ∧
    parse s = some L ∧
    L.length ≤ L.length ∧
    ∃ L_1 : List ByteArray,
    ∃ M : List ByteArray,
    strs (SV.rs (1 : Nat) L.length (encS L)) L_1 ∧
    strs (SV.rs (1 : Nat) L.length (encS L)) M ∧
    brk (!decide (L_1 = M))
      (K (SV.c (Value.bool false)))
      (T.length ≤ T.length ∧
      ∃ L_2 : List ByteArray,
      ∃ M_1 : List ByteArray,
      strs (SV.rs (1 : Nat) T.length (encS T)) L_2 ∧
      strs (SV.rs (1 : Nat) T.length (encS T)) M_1 ∧
      brk (!decide (L_2 = M_1))
        (K (SV.c (Value.bool false)))
        (brk (!z.toList == z.toList)
          (K (SV.c (Value.bool false)))
          ((∃ x_2 : Nat × (Nat → List SV) × (Nat → List SV),
          x_2.fst.le L.length ∧
          (s = s ∧
          true = true ∧
          (↑x : Int) = (↑x : Int) ∧
          ((0 : Nat) = (0 : Nat) ∧
          L.length = L.length ∧
          True) ∧
          ((0 : Nat) = (0 : Nat) ∧
          T.length = T.length ∧
          True) ∧
          (↑L.length : Int) = (↑L.length : Int) ∧
          (0 : Int) = (↑x_2.fst : Int) ∧
          True) ∧
          (L.length = L.length ∧
          ∀ (i : Nat),
          ((i < L.length) →
          encS L i = x_2.snd.fst i)) ∧
          (T.length = T.length ∧
          ∀ (i : Nat),
          ((i < T.length) →
          encS T i = x_2.snd.snd i)) ∧
          True) ∧
          ∀ (x_2 : Nat × (Nat → List SV) × (Nat → List SV)),
          ((x_2.fst.le L.length) →
          brk (decide ((↑x_2.fst : Int) < (↑L.length : Int)))
            (((0 : Int) ≤ (↑x_2.fst : Int) ∧
            (↑x_2.fst : Int) < (↑L.length : Int)) ∧
            (↑x_2.fst : Int) < (↑L.length : Int) ∧
            ∃ x' : Nat × (Nat → List SV) × (Nat → List SV),
            x'.fst.le L.length ∧
            L.length.sub x'.fst < L.length.sub x_2.fst ∧
            (s = s ∧
            true = true ∧
            (↑x : Int) = (↑x : Int) ∧
            ((0 : Nat) = (0 : Nat) ∧
            L.length = L.length ∧
            True) ∧
            ((0 : Nat) = (0 : Nat) ∧
            T.length = T.length ∧
            True) ∧
            (↑L.length : Int) = (↑L.length : Int) ∧
            IntKind.i64.wrap ((↑x_2.fst : Int) + (1 : Int)) = (↑x'.fst : Int) ∧
            True) ∧
            (L.length = L.length ∧
            ∀ (i : Nat),
            ((i < L.length) →
            Bool.rec (x_2.snd.fst i) [SV.c (Value.string (ByteArray.mk #[(122 : UInt8), (122 : UInt8)]))]
    (i.beq (↑x_2.fst : Int).toNat) =
  x'.snd.fst i)) ∧
            (T.length = T.length ∧
            ∀ (i : Nat),
            ((i < T.length) →
            x_2.snd.snd i = x'.snd.snd i)) ∧
            True)
            ((∃ x_4 : Nat × (Nat → List SV),
            x_4.fst.le T.length ∧
            (s = s ∧
            true = true ∧
            (↑x : Int) = (↑x : Int) ∧
            ((0 : Nat) = (0 : Nat) ∧
            T.length = T.length ∧
            True) ∧
            (↑T.length : Int) = (↑T.length : Int) ∧
            (0 : Int) = (↑x_4.fst : Int) ∧
            True) ∧
            (T.length = T.length ∧
            ∀ (i : Nat),
            ((i < T.length) →
            x_2.snd.snd i = x_4.snd i)) ∧
            True) ∧
            ∀ (x_4 : Nat × (Nat → List SV)),
            ((x_4.fst.le T.length) →
            brk (decide ((↑x_4.fst : Int) < (↑T.length : Int)))
              (((0 : Int) ≤ (↑x_4.fst : Int) ∧
              (↑x_4.fst : Int) < (↑T.length : Int)) ∧
              (↑x_4.fst : Int) < (↑T.length : Int) ∧
              ∃ x' : Nat × (Nat → List SV),
              x'.fst.le T.length ∧
              T.length.sub x'.fst < T.length.sub x_4.fst ∧
              (s = s ∧
              true = true ∧
              (↑x : Int) = (↑x : Int) ∧
              ((0 : Nat) = (0 : Nat) ∧
              T.length = T.length ∧
              True) ∧
              (↑T.length : Int) = (↑T.length : Int) ∧
              IntKind.i64.wrap ((↑x_4.fst : Int) + (1 : Int)) = (↑x'.fst : Int) ∧
              True) ∧
              (T.length = T.length ∧
              ∀ (i : Nat),
              ((i < T.length) →
              Bool.rec (x_4.snd i) [SV.c (Value.string (ByteArray.mk #[(122 : UInt8), (122 : UInt8)]))]
    (i.beq (↑x_4.fst : Int).toNat) =
  x'.snd i)) ∧
              True)
              (∃ x' : Nat,
              Nat.le x' (2 : Nat) ∧
              Nat.sub (2 : Nat) x' < Nat.sub (2 : Nat) x ∧
              (s = s ∧
              true = true ∧
              IntKind.i64.wrap ((↑x : Int) + (1 : Int)) = (↑x' : Int) ∧
              True) ∧
              True))))))))
    (K (SV.c (Value.bool true)))))) (by kernel_rfl) ?_⟩
    have nil_ : strs (.c (.slice none 0 0)) [] := ⟨rfl, by simp⟩
    have sL := strs_self L (by omega)
    have sT := strs_self T (by omega)
    refine brkI (fun _ => hk) (fun _ => ⟨⟨0, Nat.zero_le _, ⟨rfl, rfl, rfl, trivial⟩, trivial⟩, fun x hx => brkI (fun h1 => ?_) (fun _ => hk)⟩)
    have hlt : x < 2 := by have := of_decide_eq_true h1; omega
    have wr : ∀ (m n : Nat), m < n → n ≤ 6 → IntKind.i64.wrap ((m : Int) + 1) = ((m + 1 : Nat) : Int) := fun m n h1 h2 => by rw [IntWalk.i64_in _ (by omega)]; omega
    refine ⟨hp, hp, hp, fun hT => ⟨hp, Nat.le_refl _, L, L, sL, sL, brkF (by simp) ⟨[], T, nil_, sT, brkF (by simp [hT]) (brkF (by simp) ⟨⟨(0, encS L), Nat.zero_le _, ⟨rfl, rfl, rfl, ⟨rfl, rfl, trivial⟩, rfl, rfl, rfl, trivial⟩, ⟨rfl, fun _ _ => rfl⟩, trivial⟩, ?_⟩)⟩⟩,
      hp, Nat.le_refl _, L, L, sL, sL, brkF (by simp) ⟨Nat.le_refl _, T, T, sT, sT, brkF (by simp) (brkF (by simp) ⟨⟨(0, encS L, encS T), Nat.zero_le _, ⟨rfl, rfl, rfl, ⟨rfl, rfl, trivial⟩, ⟨rfl, rfl, trivial⟩, rfl, rfl, trivial⟩, ⟨rfl, fun _ _ => rfl⟩, ⟨rfl, fun _ _ => rfl⟩, trivial⟩, ?_⟩)⟩⟩
    · rintro ⟨j, f⟩ hj
      refine brkI (fun h2 => ?_) (fun _ => outS hlt)
      have hj2 : j < L.length := by have := of_decide_eq_true h2; simp only at this; omega
      exact ⟨⟨by simp only; omega, by simp only; omega⟩, by simp only; omega, (j + 1, setF f ((j : Int)).toNat [.c (.string ⟨#[122, 122]⟩)]), hj2, sub_lt hj2 rfl, ⟨rfl, rfl, rfl, ⟨rfl, rfl, trivial⟩, rfl, rfl, wr j _ hj2 hl, trivial⟩, ⟨rfl, fun i _ => setF_rec f _ _ i⟩, trivial⟩
    · rintro ⟨j, f, g⟩ hj
      refine brkI (fun h2 => ?_) (fun _ => ⟨⟨(0, g), Nat.zero_le _, ⟨rfl, rfl, rfl, ⟨rfl, rfl, trivial⟩, rfl, rfl, trivial⟩, ⟨rfl, fun _ _ => rfl⟩, trivial⟩, ?_⟩)
      · have hj2 : j < L.length := by have := of_decide_eq_true h2; simp only at this; omega
        exact ⟨⟨by simp only; omega, by simp only; omega⟩, by simp only; omega, (j + 1, setF f ((j : Int)).toNat [.c (.string ⟨#[122, 122]⟩)], g), hj2, sub_lt hj2 rfl, ⟨rfl, rfl, rfl, ⟨rfl, rfl, trivial⟩, ⟨rfl, rfl, trivial⟩, rfl, wr j _ hj2 hl, trivial⟩, ⟨rfl, fun i _ => setF_rec f _ _ i⟩, ⟨rfl, fun _ _ => rfl⟩, trivial⟩
      · rintro ⟨k, e⟩ hk'
        refine brkI (fun h2 => ?_) (fun _ => outS hlt)
        have hk2 : k < T.length := by have := of_decide_eq_true h2; simp only at this; omega
        exact ⟨⟨by simp only; omega, by simp only; omega⟩, by simp only; omega, (k + 1, setF e ((k : Int)).toNat [.c (.string ⟨#[122, 122]⟩)]), hk2, sub_lt hk2 rfl, ⟨rfl, rfl, rfl, ⟨rfl, rfl, trivial⟩, rfl, wr k _ hk2 ht, trivial⟩, ⟨rfl, fun i _ => setF_rec e _ _ i⟩, trivial⟩
  · exact h.elim
theorem c_PathSplits : Sound 3 trS := by
  intro args K h
  unfold trS at h
  split at h
  · rename_i s
    cases hp : parse s with
    | none => exact c_Splits1 _ K ⟨hp, h.2⟩
    | some L =>
      by_cases hL : L = []
      · subst hL; exact c_Splits2 _ K ⟨hp, h.2⟩
      · have h6 := parse_len hp
        exact c_Splits3 L _ _ (s3 hL) (r3 hL) (p3 hL) (q3 hL) h6 (by simp; omega) _ K ⟨hp, h.2⟩
  · exact h.elim
end Go.Proofs.Ytjiamfajgllelaa
