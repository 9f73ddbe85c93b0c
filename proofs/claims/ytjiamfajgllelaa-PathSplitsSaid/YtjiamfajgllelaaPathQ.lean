/-
  PathQ: a path's names and its parent by the document; copies.
-/
import Derived.Test.YtjiamfajgllelaaPathP
namespace Go.Proofs.Ytjiamfajgllelaa
open Go Go.RowKit Sy
set_option maxRecDepth 100000

def trRSplit (args : List SV) (K : SV → Prop) : Prop :=
  match args with
  | [.c (.string s)] => (parse s = none → K (.tup [nilS, .c (.int .i64 160)])) ∧ ∀ L, parse s = some L → (L = [] → K (.tup [nilS, .c (.int .i64 0)])) ∧ (L ≠ [] → K (.tup [rsS L, .c (.int .i64 0)]))
  | _ => False
/-- what the document's loop has cut so far -/
def Cut (s : ByteArray) (L : List ByteArray) (name : ByteArray) (i : Nat) : Prop :=
  (i ≤ s.size → cut ((s.data.toList.drop 1).take (i - 1)) = L.map (·.data.toList) ++ [name.data.toList]) ∧ (s.size < i → L = namesB (s.extract 1 s.size))
def rspA (s : ByteArray) : LInv where
  X := List ByteArray × ByteArray × Nat
  st := fun x => ⟨[(0, .c (.string s)), (4, .gs 0 1 0 x.1.length none), (5, .c (.string x.2.1)), (6, .c (.int .i64 x.2.2))], 65, [(0, .arr 9 1 x.1.length (encS x.1))], 1, 0⟩
  ok := fun x => (1 ≤ x.2.2 ∧ x.2.2 ≤ s.size + 1) ∧ (x.1.length ≤ x.2.2 ∧ x.2.1.size ≤ x.2.2) ∧ Cut s x.1 x.2.1 x.2.2
  μ := fun x => s.size + 1 - x.2.2
def rspB (L : List ByteArray) : LInv where
  X := Nat
  st := fun p => ⟨[(4, .gs 0 1 0 L.length none), (54, .gs 0 1 0 L.length none), (55, .c (.int .i64 L.length)), (56, .c (.int .i64 p))], 65, [(0, .arr 9 1 L.length (encS L))], 1, 0⟩
  ok := fun p => p ≤ L.length ∧ (L.take p).any bad = false
  μ := fun p => L.length - p
theorem drop1 (s : ByteArray) : (s.extract 1 s.size).data.toList = s.data.toList.drop 1 := by
  rw [ba_extract, List.take_of_length_le (by have := ba_size s; simp <;> omega)]
theorem one_byte (s : ByteArray) (i : Nat) (h : i < s.size) : (s.extract i (i + 1)).data.toList = [s.get! i] := by
  rw [ba_extract, Nat.add_sub_cancel_left]
  have hl := ba_size s
  rw [List.drop_eq_getElem_cons (by omega), List.take_succ_cons, List.take_zero]
  have h1 := get_by h
  rw [List.getElem?_eq_getElem (by omega)] at h1
  injection h1 with h1
  rw [h1]
theorem take_next (s : ByteArray) (i : Nat) (h1 : 1 ≤ i) (h : i < s.size) : (s.data.toList.drop 1).take i = (s.data.toList.drop 1).take (i - 1) ++ [s.get! i] := by
  have hl := ba_size s
  obtain ⟨j, rfl⟩ : ∃ j, i = j + 1 := ⟨i - 1, by omega⟩
  rw [List.take_succ_eq_append_getElem (by simp <;> omega), Nat.add_sub_cancel]
  congr 2
  rw [List.getElem_drop]
  have h3 := get_by h
  rw [List.getElem?_eq_getElem (by omega)] at h3
  injection h3 with h3
  rw [← h3]
  congr 1
  omega
theorem cut_step1 {s : ByteArray} {L : List ByteArray} {n : ByteArray} {i : Nat} (h : Cut s L n i) (h1 : 1 ≤ i) (hi : i < s.size) (hb : bAt s i ≠ 47) : Cut s L (n ++ s.extract i (i + 1)) (i + 1) := by
  refine ⟨fun _ => ?_, fun hh => by omega⟩
  have h2 := h.1 (by omega)
  have hne : s.get! i ≠ 47 := by
    intro e
    refine hb ?_
    have h3 := get_by hi
    rw [Array.getElem?_toList] at h3
    simp [bAt, h3, e]
  rw [Nat.add_sub_cancel, take_next s i h1 hi, ba_append, one_byte s i hi]
  exact cut_snoc _ _ hne _ _ h2
theorem cut_step2 {s : ByteArray} {L : List ByteArray} {n : ByteArray} {i : Nat} (h : Cut s L n i) (h1 : 1 ≤ i) (hi : i < s.size) (hb : bAt s i = 47) : Cut s (L ++ [n]) (ByteArray.mk #[]) (i + 1) := by
  refine ⟨fun _ => ?_, fun hh => by omega⟩
  have h2 := h.1 (by omega)
  have he : s.get! i = 47 := by
    have h3 := get_by hi
    rw [Array.getElem?_toList] at h3
    simp [bAt, h3] at hb
    exact UInt8.toNat_inj.1 (by simpa using Int.ofNat_inj.1 hb)
  rw [Nat.add_sub_cancel, take_next s i h1 hi, he, cut_stroke, h2]
  simp
theorem cut_last {s : ByteArray} {L : List ByteArray} {n : ByteArray} (h : Cut s L n s.size) (h1 : 1 ≤ s.size) : Cut s (L ++ [n]) (ByteArray.mk #[]) (s.size + 1) := by
  refine ⟨fun hh => by omega, fun _ => ?_⟩
  have h2 := h.1 (Nat.le_refl _)
  have hl := ba_size s
  rw [List.take_of_length_le (by simp <;> omega)] at h2
  unfold namesB
  rw [drop1, h2]
  have : (mk ∘ fun x : ByteArray => x.data.toList) = id := rfl
  simp [this]
  rfl
theorem bounds_step {a b c : Nat} (h : b = a + 1) (hc : a < c) : c.sub b < c.sub a := by show c - b < c - a; omega

theorem c_rSplit : Sound 10 trRSplit := by
  refine sndW (Γ := Γrj) (O := O10) Try.func10 rfl (by kernel_rfl) fun args K h => ?_
  unfold trRSplit at h
  split at h
  · rename_i s
    refine ⟨[.c (.string s)], ⟨rfl, trivial⟩, rfl, fun id => if id = 8 then .inv (rspA s) else .inv (rspB (namesB (s.extract 1 s.size))), kcast (A := brk (s.toList == (ByteArray.mk #[(47 : UInt8)]).toList)
  (∃ r' : SV,
  Fits (SV.tup [SV.c (Value.int IntKind.i64 (0 : Int)), SV.c (Value.slice none (0 : Nat) (0 : Nat))].reverse) r' ∧
  K r')
  (brk (decide ((↑s.size : Int) < (2 : Int)))
    (∃ r' : SV,
    Fits (SV.tup [SV.c (Value.int IntKind.i64 (160 : Int)), SV.c (Value.slice none (0 : Nat) (0 : Nat))].reverse) r' ∧
    K r')
    (brk (decide ((↑s.size : Int) > (64 : Int)))
      (∃ r' : SV,
      Fits (SV.tup [SV.c (Value.int IntKind.i64 (160 : Int)), SV.c (Value.slice none (0 : Nat) (0 : Nat))].reverse) r' ∧
      K r')
      (((0 : Int) ≤ (0 : Int) ∧
      (0 : Int) < (↑s.size : Int)) ∧
      brk (bAt s (0 : Int) != (47 : Int))
        (∃ r' : SV,
        Fits (SV.tup [SV.c (Value.int IntKind.i64 (160 : Int)), SV.c (Value.slice none (0 : Nat) (0 : Nat))].reverse) r' ∧
        K r')
        ((∃ x : List ByteArray × ByteArray × Nat,
        (((1 : Nat) ≤ x.snd.snd ∧
        x.snd.snd ≤ s.size + (1 : Nat)) ∧
        (x.fst.length ≤ x.snd.snd ∧
        x.snd.fst.size ≤ x.snd.snd) ∧
        Cut s x.fst x.snd.fst x.snd.snd) ∧
        (s = s ∧
        ((0 : Nat) = (0 : Nat) ∧
        x.fst.length = (0 : Nat)) ∧
        ByteArray.mk #[] = x.snd.fst ∧
        (1 : Int) = (↑x.snd.snd : Int) ∧
        True) ∧
        x.fst.length = (0 : Nat) ∧
        True) ∧
        ∀ (x : List ByteArray × ByteArray × Nat),
        ((((1 : Nat) ≤ x.snd.snd ∧
        x.snd.snd ≤ s.size + (1 : Nat)) ∧
        (x.fst.length ≤ x.snd.snd ∧
        x.snd.fst.size ≤ x.snd.snd) ∧
        Cut s x.fst x.snd.fst x.snd.snd) →
        brk (decide ((↑x.snd.snd : Int) ≤ (↑s.size : Int)))
          (brk (decide ((↑x.snd.snd : Int) < (↑s.size : Int)))
            (((0 : Int) ≤ (↑x.snd.snd : Int) ∧
            (↑x.snd.snd : Int) < (↑s.size : Int)) ∧
            brk (bAt s (↑x.snd.snd : Int) != (47 : Int))
              (((0 : Int) ≤ (↑x.snd.snd : Int) ∧
              (↑x.snd.snd : Int) ≤ IntKind.i64.wrap ((↑x.snd.snd : Int) + (1 : Int)) ∧
              IntKind.i64.wrap ((↑x.snd.snd : Int) + (1 : Int)) ≤ (↑s.size : Int)) ∧
              (↑(x.snd.fst.size +
        (s.extract (↑x.snd.snd : Int).toNat (IntKind.i64.wrap ((↑x.snd.snd : Int) + (1 : Int))).toNat).size) :
    Int) ≤
  (9223372036854775807 : Int) ∧
              ∃ x' : List ByteArray × ByteArray × Nat,
              (((1 : Nat) ≤ x'.snd.snd ∧
              x'.snd.snd ≤ s.size + (1 : Nat)) ∧
              (x'.fst.length ≤ x'.snd.snd ∧
              x'.snd.fst.size ≤ x'.snd.snd) ∧
              Cut s x'.fst x'.snd.fst x'.snd.snd) ∧
              (s.size + (1 : Nat)).sub x'.snd.snd < (s.size + (1 : Nat)).sub x.snd.snd ∧
              (s = s ∧
              ((0 : Nat) = (0 : Nat) ∧
              x.fst.length = x'.fst.length ∧
              True) ∧
              x.snd.fst ++ s.extract (↑x.snd.snd : Int).toNat (IntKind.i64.wrap ((↑x.snd.snd : Int) + (1 : Int))).toNat = x'.snd.fst ∧
              IntKind.i64.wrap ((↑x.snd.snd : Int) + (1 : Int)) = (↑x'.snd.snd : Int) ∧
              True) ∧
              (x.fst.length = x'.fst.length ∧
              ∀ (i : Nat),
              ((i < x'.fst.length) →
              encS x.fst i = encS x'.fst i)) ∧
              True)
              (x.fst.length ≤ x.fst.length ∧
              (1 : Nat) ≤ (1 : Nat) ∧
              addZ x.fst.length (1 : Nat) * (16 : Nat) ≤ (140737488355328 : Nat) ∧
              ∃ x' : List ByteArray × ByteArray × Nat,
              (((1 : Nat) ≤ x'.snd.snd ∧
              x'.snd.snd ≤ s.size + (1 : Nat)) ∧
              (x'.fst.length ≤ x'.snd.snd ∧
              x'.snd.fst.size ≤ x'.snd.snd) ∧
              Cut s x'.fst x'.snd.fst x'.snd.snd) ∧
              (s.size + (1 : Nat)).sub x'.snd.snd < (s.size + (1 : Nat)).sub x.snd.snd ∧
              (s = s ∧
              ((0 : Nat) = (0 : Nat) ∧
              addZ x.fst.length (1 : Nat) = x'.fst.length ∧
              True) ∧
              ByteArray.mk #[] = x'.snd.fst ∧
              IntKind.i64.wrap ((↑x.snd.snd : Int) + (1 : Int)) = (↑x'.snd.snd : Int) ∧
              True) ∧
              (addZ x.fst.length (1 : Nat) = x'.fst.length ∧
              ∀ (i : Nat),
              ((i < x'.fst.length) →
              catF x.fst.length (encS x.fst)
    (fun i =>
      ((List.replicate (1 : Nat) [SV.c (Value.string (ByteArray.mk #[]))]).set ((0 : Nat), Operand.tmp (48 : Nat)).fst
            [SV.c (Value.string x.snd.fst)]).getD
        i [])
    i =
  encS x'.fst i)) ∧
              True))
            (x.fst.length ≤ x.fst.length ∧
            (1 : Nat) ≤ (1 : Nat) ∧
            addZ x.fst.length (1 : Nat) * (16 : Nat) ≤ (140737488355328 : Nat) ∧
            ∃ x' : List ByteArray × ByteArray × Nat,
            (((1 : Nat) ≤ x'.snd.snd ∧
            x'.snd.snd ≤ s.size + (1 : Nat)) ∧
            (x'.fst.length ≤ x'.snd.snd ∧
            x'.snd.fst.size ≤ x'.snd.snd) ∧
            Cut s x'.fst x'.snd.fst x'.snd.snd) ∧
            (s.size + (1 : Nat)).sub x'.snd.snd < (s.size + (1 : Nat)).sub x.snd.snd ∧
            (s = s ∧
            ((0 : Nat) = (0 : Nat) ∧
            addZ x.fst.length (1 : Nat) = x'.fst.length ∧
            True) ∧
            ByteArray.mk #[] = x'.snd.fst ∧
            IntKind.i64.wrap ((↑x.snd.snd : Int) + (1 : Int)) = (↑x'.snd.snd : Int) ∧
            True) ∧
            (addZ x.fst.length (1 : Nat) = x'.fst.length ∧
            ∀ (i : Nat),
            ((i < x'.fst.length) →
            catF x.fst.length (encS x.fst)
    (fun i =>
      ((List.replicate (1 : Nat) [SV.c (Value.string (ByteArray.mk #[]))]).set ((0 : Nat), Operand.tmp (48 : Nat)).fst
            [SV.c (Value.string x.snd.fst)]).getD
        i [])
    i =
  encS x'.fst i)) ∧
            True))
          (brk (decide ((↑x.fst.length : Int) > (6 : Int)))
            (∃ r' : SV,
            Fits (SV.tup [SV.c (Value.int IntKind.i64 (160 : Int)), SV.c (Value.slice none (0 : Nat) (0 : Nat))].reverse) r' ∧
            K r')
            ((∃ x_2 : Nat,
            (x_2 ≤ (namesB (s.extract (1 : Nat) s.size)).length ∧
            (List.take x_2 (namesB (s.extract (1 : Nat) s.size))).any bad = false) ∧
            (((0 : Nat) = (0 : Nat) ∧
            x.fst.length = (namesB (s.extract (1 : Nat) s.size)).length ∧
            True) ∧
            ((0 : Nat) = (0 : Nat) ∧
            x.fst.length = (namesB (s.extract (1 : Nat) s.size)).length ∧
            True) ∧
            (↑x.fst.length : Int) = (↑(namesB (s.extract (1 : Nat) s.size)).length : Int) ∧
            (0 : Int) = (↑x_2 : Int) ∧
            True) ∧
            (x.fst.length = (namesB (s.extract (1 : Nat) s.size)).length ∧
            ∀ (i : Nat),
            ((i < (namesB (s.extract (1 : Nat) s.size)).length) →
            encS x.fst i = encS (namesB (s.extract (1 : Nat) s.size)) i)) ∧
            True) ∧
            ∀ (x_2 : Nat),
            ((x_2 ≤ (namesB (s.extract (1 : Nat) s.size)).length ∧
            (List.take x_2 (namesB (s.extract (1 : Nat) s.size))).any bad = false) →
            brk (decide ((↑x_2 : Int) < (↑(namesB (s.extract (1 : Nat) s.size)).length : Int)))
              (((0 : Int) ≤ (↑x_2 : Int) ∧
              (↑x_2 : Int) < (↑(namesB (s.extract (1 : Nat) s.size)).length : Int)) ∧
              (↑x_2 : Int) < (↑(namesB (s.extract (1 : Nat) s.size)).length : Int) ∧
              brk (errOf (badName ((namesB (s.extract (1 : Nat) s.size)).getD (↑x_2 : Int).toNat ByteArray.empty).data.toList) != (0 : Int))
                (∃ r' : SV,
                Fits (SV.tup [SV.c (Value.int IntKind.i64 (160 : Int)), SV.c (Value.slice none (0 : Nat) (0 : Nat))].reverse) r' ∧
                K r')
                (∃ x' : Nat,
                (x' ≤ (namesB (s.extract (1 : Nat) s.size)).length ∧
                (List.take x' (namesB (s.extract (1 : Nat) s.size))).any bad = false) ∧
                (namesB (s.extract (1 : Nat) s.size)).length.sub x' < (namesB (s.extract (1 : Nat) s.size)).length.sub x_2 ∧
                (((0 : Nat) = (0 : Nat) ∧
                (namesB (s.extract (1 : Nat) s.size)).length = (namesB (s.extract (1 : Nat) s.size)).length ∧
                True) ∧
                ((0 : Nat) = (0 : Nat) ∧
                (namesB (s.extract (1 : Nat) s.size)).length = (namesB (s.extract (1 : Nat) s.size)).length ∧
                True) ∧
                (↑(namesB (s.extract (1 : Nat) s.size)).length : Int) = (↑(namesB (s.extract (1 : Nat) s.size)).length : Int) ∧
                IntKind.i64.wrap ((↑x_2 : Int) + (1 : Int)) = (↑x' : Int) ∧
                True) ∧
                ((namesB (s.extract (1 : Nat) s.size)).length = (namesB (s.extract (1 : Nat) s.size)).length ∧
                ∀ (i : Nat),
                ((i < (namesB (s.extract (1 : Nat) s.size)).length) →
                encS (namesB (s.extract (1 : Nat) s.size)) i = encS (namesB (s.extract (1 : Nat) s.size)) i)) ∧
                True))
              ((namesB (s.extract (1 : Nat) s.size)).length ≤ (namesB (s.extract (1 : Nat) s.size)).length ∧
              ∃ r' : SV,
              Fits
  (SV.tup
    [SV.c (Value.int IntKind.i64 (0 : Int)),
        SV.rs (1 : Nat) (namesB (s.extract (1 : Nat) s.size)).length
          (encS (namesB (s.extract (1 : Nat) s.size)))].reverse)
  r' ∧
              K r')))))))))) (by kernel_rfl) ?_⟩
    simp only [true_and, and_true, implies_true]
    have err : parse s = none → ∃ r', Fits (SV.tup [SV.c (Value.int IntKind.i64 160), SV.c (Value.slice none 0 0)].reverse) r' ∧ K r' := fun e => ⟨_, fits_c2 _ _, h.1 e⟩
    have hl := ba_size s
    refine brkI (fun h1 => ?_) (fun h1 => brkI (fun h2 => err ?_) (fun h2 => brkI (fun h3 => err ?_) (fun h3 => ?_)))
    · have h1 : s.data.toList = [47] := by rw [Lib.toList_data, Lib.toList_data] at h1; exact eq_of_beq h1
      have hp : parse s = some [] := by rw [parse, if_pos h1]
      exact ⟨_, fits_c2 _ _, (h.2 [] hp).1 rfl⟩
    · have h1 : ¬ s.data.toList = [47] := by rw [Lib.toList_data, Lib.toList_data] at h1; exact ne_of_beq_false h1
      have h2 := of_decide_eq_true h2
      have : ¬ (s.data.toList.head? = some 47 ∧ s.size ≤ 64) := by
        rintro ⟨a, _⟩
        cases hs : s.data.toList with
        | nil => rw [hs] at a; cases a
        | cons b r =>
          rw [hs] at a h1 hl
          simp at a hl
          have : r = [] := List.eq_nil_of_length_eq_zero (by omega)
          rw [this, a] at h1; exact h1 rfl
      rw [parse, if_neg h1, if_neg this]
    · have h1 : ¬ s.data.toList = [47] := by rw [Lib.toList_data, Lib.toList_data] at h1; exact ne_of_beq_false h1
      have h3 := of_decide_eq_true h3
      rw [parse, if_neg h1, if_neg (by omega)]
    have h1 : ¬ s.data.toList = [47] := by rw [Lib.toList_data, Lib.toList_data] at h1; exact ne_of_beq_false h1
    have h2 := of_decide_eq_false h2
    have h3 := of_decide_eq_false h3
    obtain ⟨b, r, hbr⟩ : ∃ b r, s.data.toList = b :: r := by cases h : s.data.toList with
      | nil => rw [h] at hl; simp at hl; omega
      | cons b r => exact ⟨b, r, rfl⟩
    have hb0 : bAt s 0 = (b.toNat : Int) := by
      have h3 : s.data[0]? = some b := by rw [← Array.getElem?_toList, hbr]; rfl
      simp [bAt, h3]
    refine ⟨⟨by omega, by omega⟩, brkI (fun h4 => err ?_) (fun h4 => ?_)⟩
    · have : ¬ b = 47 := by rintro rfl; rw [hb0] at h4; simp at h4
      rw [parse, if_neg h1, if_neg (by rw [hbr]; simp [this])]
    have hb : b = 47 := by
      rw [hb0] at h4
      simp at h4
      exact UInt8.toNat_inj.1 (by simpa using Int.ofNat_inj.1 h4)
    have hps := parse_long h1 (by rw [hbr, hb]; rfl) (by omega)
    refine ⟨⟨⟨[], ByteArray.mk #[], 1⟩, ⟨⟨Nat.le_refl _, by show 1 ≤ s.size + 1; omega⟩, ⟨Nat.zero_le _, Nat.zero_le _⟩, fun _ => by simp [cut], fun hh => absurd hh (by show ¬ s.size < 1; omega)⟩, ⟨rfl, rfl, rfl⟩, rfl⟩, ?_⟩
    rintro ⟨L, n, i⟩ ⟨⟨o1, o2⟩, ⟨o3, o4⟩, o5⟩
    dsimp only at o1 o2 o3 o4 o5 ⊢
    have hadd : addZ L.length 1 = L.length + 1 := addZ_eq _ _
    have hw : IntKind.i64.wrap ((i : Int) + 1) = ((i + 1 : Nat) : Int) := by rw [IntWalk.i64_in _ (by omega)]; omega
    have hcat := encS_cat L n (fun i => ((List.replicate 1 [SV.c (.string (ByteArray.mk #[]))]).set 0 [SV.c (.string n)]).getD i []) rfl
    have app : ∀ (m : ByteArray), Cut s (L ++ [n]) m (i + 1) → m = ByteArray.mk #[] → i ≤ s.size → ∃ x' : List ByteArray × ByteArray × Nat, ((1 ≤ x'.snd.snd ∧ x'.snd.snd ≤ s.size + 1) ∧ (x'.fst.length ≤ x'.snd.snd ∧ x'.snd.fst.size ≤ x'.snd.snd) ∧ Cut s x'.fst x'.snd.fst x'.snd.snd) ∧
        (s.size + 1).sub x'.snd.snd < (s.size + 1).sub i ∧ (addZ L.length 1 = x'.fst.length ∧ ByteArray.mk #[] = x'.snd.fst ∧ IntKind.i64.wrap ((i : Int) + 1) = (x'.snd.snd : Int)) ∧ addZ L.length 1 = x'.fst.length ∧ ∀ (j : Nat), j < x'.fst.length →
          catF L.length (encS L) (fun i => ((List.replicate 1 [SV.c (.string (ByteArray.mk #[]))]).set 0 [SV.c (.string n)]).getD i []) j = encS x'.fst j := by
      rintro m hc rfl hi
      refine ⟨⟨L ++ [n], ByteArray.mk #[], i + 1⟩, ⟨⟨by show 1 ≤ i + 1; omega, by show i + 1 ≤ s.size + 1; omega⟩, ⟨by simp; omega, Nat.zero_le _⟩, hc⟩, bounds_step rfl (by omega), ⟨by rw [hadd]; simp, rfl, hw⟩, by rw [hadd]; simp, fun j hj => hcat j (by simpa using hj)⟩
    refine brkI (fun h5 => brkI (fun h6 => ⟨⟨by omega, by have := of_decide_eq_true h6; omega⟩, brkI (fun h7 => ?_) (fun h7 => ⟨Nat.le_refl _, Nat.le_refl _, by rw [hadd]; omega, ?_⟩)⟩) (fun h6 => ⟨Nat.le_refl _, Nat.le_refl _, by rw [hadd]; omega, ?_⟩)) (fun h5 => ?_)
    · have hi : i < s.size := by have := of_decide_eq_true h6; omega
      have hn47 : bAt s i ≠ 47 := by simpa using h7
      have he : (s.extract i (i + 1)).size = 1 := by rw [← ba_size, one_byte s i hi]; rfl
      rw [hw, Int.toNat_natCast, Int.toNat_natCast]
      exact ⟨⟨by omega, by omega, by omega⟩, by rw [he]; omega, ⟨L, n ++ s.extract i (i + 1), i + 1⟩, ⟨⟨by show 1 ≤ i + 1; omega, by show i + 1 ≤ s.size + 1; omega⟩, ⟨by show L.length ≤ i + 1; omega, by show (n ++ s.extract i (i + 1)).size ≤ i + 1; rw [cat_size, he]; omega⟩, cut_step1 o5 o1 hi hn47⟩, bounds_step rfl (by omega), ⟨rfl, rfl, rfl⟩, rfl, fun _ _ => rfl⟩
    · have hi : i < s.size := by have := of_decide_eq_true h6; omega
      exact app _ (cut_step2 o5 o1 hi (by simpa using h7)) rfl (by omega)
    · have hi : i = s.size := by have := of_decide_eq_true h5; have := of_decide_eq_false h6; omega
      subst hi
      exact app _ (cut_last o5 o1) rfl (Nat.le_refl _)
    · have hi : s.size < i := by have := of_decide_eq_false h5; omega
      have hL := o5.2 hi
      rw [← hL] at hps ⊢
      have hbd : ∀ z : ByteArray, (errOf (badName z.data.toList) != 0) = bad z := by
        intro z; unfold errOf bad; cases badName z.data.toList <;> rfl
      refine brkI (fun h6 => err ?_) (fun h6 => ⟨⟨0, ⟨Nat.zero_le _, rfl⟩, ⟨rfl, rfl, rfl, rfl⟩, rfl, fun _ _ => rfl⟩, fun x ⟨hx, hno⟩ => brkI (fun h7 => ?_) (fun h7 => ?_)⟩)
      · have h6 : 6 < L.length := by have := of_decide_eq_true h6; omega
        rw [hps, if_pos (by unfold sillyL; rw [decide_eq_true h6]; rfl)]
      · have hlt : x < L.length := by have := of_decide_eq_true h7; omega
        rw [Int.toNat_natCast, hbd]
        refine ⟨⟨by omega, by omega⟩, by omega, brkI (fun h8 => err ?_) (fun h8 => ⟨x + 1, ⟨hlt, by rw [any_take_succ bad L x .empty hlt, hno, h8]; rfl⟩, sub_lt hlt rfl, by rw [IntWalk.i64_in _ (by omega)]; omega⟩)⟩
        have : L.any bad = true := List.any_eq_true.2 ⟨L.getD x .empty, by simp [List.getD, hlt], h8⟩
        rw [hps, if_pos (by unfold sillyL; rw [this, Bool.or_true])]
      · have hx' : x = L.length := by have := of_decide_eq_false h7; omega
        subst hx'
        rw [List.take_length] at hno
        have h6 : ¬ 6 < L.length := by have := of_decide_eq_false h6; omega
        rw [if_neg (by unfold sillyL; rw [hno, decide_eq_false h6]; simp)] at hps
        have hne : L ≠ [] := by rw [hL]; unfold namesB; simpa using cut_ne _
        exact ⟨Nat.le_refl _, _, fits_r2 (fun _ _ => rfl) _ rfl, (h.2 _ hps).2 hne⟩
  · exact h.elim
end Go.Proofs.Ytjiamfajgllelaa
