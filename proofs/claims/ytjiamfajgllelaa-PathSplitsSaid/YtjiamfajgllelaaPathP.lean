/-
  PathP: a path's names, its parent: the program's and the document's.
-/
import Derived.Test.YtjiamfajgllelaaPathJ
namespace Go.Proofs.Ytjiamfajgllelaa
open Go Go.RowKit Sy
set_option maxRecDepth 100000

/-- no stroke among the first p bytes -/
def NoS (s : ByteArray) (p : Nat) : Prop := ∀ j, j < p → by_ s j ≠ 47
def namesB (s : ByteArray) : List ByteArray := (cut s.data.toList).map mk

theorem get_by {s : ByteArray} {p : Nat} (h : p < s.size) : s.data.toList[p]? = some (s.get! p) := by_get h
theorem nos_take {s : ByteArray} {p : Nat} (hp : p ≤ s.size) (h : NoS s p) : ∀ b ∈ s.data.toList.take p, b ≠ 47 := by
  intro b hb e
  obtain ⟨j, hj, rfl⟩ := List.mem_iff_getElem.1 hb
  have hl := ba_size s
  have hjp : j < p := by simp at hj; omega
  have h1 := get_by (s := s) (p := j) (by omega)
  rw [List.getElem_take] at e
  rw [List.getElem?_eq_getElem (by omega)] at h1
  injection h1 with h1
  rw [h1] at e
  exact h j hjp (by show (s.get! j).toNat = 47; rw [e]; rfl)
theorem namesB_cons {s : ByteArray} {p : Nat} (hp : p < s.size) (h : NoS s p) (hb : by_ s p = 47) : namesB s = s.extract 0 p :: namesB (s.extract (p + 1) s.size) := by
  unfold namesB
  have hl := ba_size s
  have e : s.data.toList = s.data.toList.take p ++ 47 :: s.data.toList.drop (p + 1) := by
    conv => lhs; rw [← List.take_append_drop p s.data.toList]
    congr 1
    rw [List.drop_eq_getElem_cons (by omega)]
    congr 1
    have h1 := get_by hp
    rw [List.getElem?_eq_getElem (by omega)] at h1
    injection h1 with h1
    rw [h1]
    exact UInt8.toNat_inj.1 hb
  have e2 : (s.extract (p + 1) s.size).data.toList = s.data.toList.drop (p + 1) := by
    rw [ba_extract, List.take_of_length_le (by simp <;> omega)]
  rw [e2]
  conv => lhs; rw [e]
  rw [cut_at _ _ (nos_take (by omega) h), List.map_cons]
  congr 1
  apply ba_ext
  rw [toList_mk, ba_extract, List.drop_zero, Nat.sub_zero]
theorem namesB_last {s : ByteArray} (h : NoS s s.size) : namesB s = [s] := by
  unfold namesB
  rw [cut_none]
  · rfl
  · intro b hb
    have := nos_take (Nat.le_refl _) h b
    rw [← ba_size, List.take_length] at this
    exact this hb
theorem ext_size (s : ByteArray) (i : Nat) (h : i ≤ s.size) : (s.extract i s.size).size = s.size - i := by
  rw [← ba_size, ba_extract]; simp [ba_size]
theorem encS_cat (L : List ByteArray) (z : ByteArray) (g : Nat → List SV) (hg : g 0 = [.c (.string z)]) : ∀ i, i < L.length + 1 → catF L.length (encS L) g i = encS (L ++ [z]) i := by
  intro i hi
  rw [catF_eq]
  show (if i < L.length then encS L i else g (i - L.length)) = _
  unfold encS
  by_cases h : i < L.length
  · rw [if_pos h]; simp [List.getD, h, List.getElem?_append_left h]
  · rw [if_neg h]
    have : i = L.length := by omega
    subst this
    rw [Nat.sub_self, hg]; simp [List.getD]
theorem parse_long {s : ByteArray} (h : ¬ s.data.toList = [47]) (h1 : s.data.toList.head? = some 47) (h2 : s.size ≤ 64) : parse s = if sillyL (namesB (s.extract 1 s.size)) then none else some (namesB (s.extract 1 s.size)) := by
  rw [parse, if_neg h, if_pos ⟨h1, h2⟩]
  have : (s.extract 1 s.size).data.toList = s.data.toList.drop 1 := by
    rw [ba_extract, List.take_of_length_le (by have := ba_size s; simp <;> omega)]
  unfold namesB
  rw [this]

abbrev nilS : SV := .c (.slice none 0 0)
def FSplit (args : List SV) (K : SV → Option SB → Prop) : Prop :=
  match args with
  | [.c (.string s)] => (parse s = none → K (.tup [nilS, .c (.int .i64 160)]) none) ∧ ∀ L, parse s = some L → (L = [] → K (.tup [nilS, .c (.int .i64 0)]) none) ∧
      (L ≠ [] → K (.tup [.gs 0 1 0 L.length none, .c (.int .i64 0)]) (some (.arr 9 1 L.length (encS L))))
  | _ => False

def splO (s0 : ByteArray) : LInv where
  X := List ByteArray × ByteArray
  st := fun x => ⟨[(4, .gs 0 1 0 x.1.length none), (5, .c (.string x.2))], 51, [(0, .arr 9 1 x.1.length (encS x.1))], 1, 0⟩
  ok := fun x => x.1.length + x.2.size ≤ 64 ∧ x.1 ++ namesB x.2 = namesB s0
  μ := fun x => x.2.size
def splI (x : List ByteArray × ByteArray) : LInv where
  X := Nat
  st := fun p => ⟨[(4, .gs 0 1 0 x.1.length none), (5, .c (.string x.2)), (27, .ptr 1 0)], 51, [(0, .arr 9 1 x.1.length (encS x.1)), (1, .siter x.2 p)], 2, 0⟩
  ok := fun p => p ≤ x.2.size ∧ NoS x.2 p
  μ := fun p => x.2.size - p
theorem c_Split : OSound 9 FSplit := by
  refine sndO (Γ := Γj) (O := O9) Try.func9 rfl (by kernel_rfl) fun args K h => ?_
  unfold FSplit at h
  split at h
  · rename_i s
    refine ⟨[.c (.string s)], ⟨rfl, trivial⟩, rfl, fun _ => .nest (splO (s.extract 1 s.size)) (fun x _ => some (.inv (splI x))), kcast (A := brk (s.toList == (ByteArray.mk #[(47 : UInt8)]).toList)
  (∃ r' : SV,
  SV.tup [SV.c (Value.slice none (0 : Nat) (0 : Nat)), SV.c (Value.int IntKind.i64 (0 : Int))] = r' ∧
  K r' none)
  (brk (s.toList == (ByteArray.mk #[]).toList)
    (∃ r' : SV,
    SV.tup [SV.c (Value.slice none (0 : Nat) (0 : Nat)), SV.c (Value.int IntKind.i64 (160 : Int))] = r' ∧
    K r' none)
    (((0 : Int) ≤ (0 : Int) ∧
    (0 : Int) < (↑s.size : Int)) ∧
    brk (bAt s (0 : Int) != (47 : Int))
      (∃ r' : SV,
      SV.tup [SV.c (Value.slice none (0 : Nat) (0 : Nat)), SV.c (Value.int IntKind.i64 (160 : Int))] = r' ∧
      K r' none)
      (brk (decide ((↑s.size : Int) > (64 : Int)))
        (∃ r' : SV,
        SV.tup [SV.c (Value.slice none (0 : Nat) (0 : Nat)), SV.c (Value.int IntKind.i64 (160 : Int))] = r' ∧
        K r' none)
        (((0 : Int) ≤ (1 : Int) ∧
        (1 : Int) ≤ (↑s.size : Int)) ∧
        (∃ x : List ByteArray × ByteArray,
        (x.fst.length + x.snd.size ≤ (64 : Nat) ∧
        x.fst ++ namesB x.snd = namesB (s.extract (1 : Nat) s.size)) ∧
        (((0 : Nat) = (0 : Nat) ∧
        x.fst.length = (0 : Nat)) ∧
        s.extract (Int.toNat (1 : Int)) s.size = x.snd ∧
        True) ∧
        x.fst.length = (0 : Nat) ∧
        True) ∧
        ∀ (x : List ByteArray × ByteArray),
        ((x.fst.length + x.snd.size ≤ (64 : Nat) ∧
        x.fst ++ namesB x.snd = namesB (s.extract (1 : Nat) s.size)) →
        (∃ x_2 : Nat,
        (x_2 ≤ x.snd.size ∧
        NoS x.snd x_2) ∧
        (((0 : Nat) = (0 : Nat) ∧
        x.fst.length = x.fst.length ∧
        True) ∧
        x.snd = x.snd ∧
        (0 : Nat) = (0 : Nat) ∧
        True) ∧
        (x.fst.length = x.fst.length ∧
        ∀ (i : Nat),
        ((i < x.fst.length) →
        encS x.fst i = encS x.fst i)) ∧
        (x.snd = x.snd ∧
        (0 : Nat) = x_2) ∧
        True) ∧
        ∀ (x_2 : Nat),
        ((x_2 ≤ x.snd.size ∧
        NoS x.snd x_2) →
        brk (Nat.blt x_2 x.snd.size)
          (brk ((↑(Utf8.decode x.snd x_2).fst : Int) == (47 : Int))
            (((0 : Int) ≤ (↑x_2 : Int) ∧
            (↑x_2 : Int) ≤ (↑x.snd.size : Int)) ∧
            x.fst.length ≤ x.fst.length ∧
            (1 : Nat) ≤ (1 : Nat) ∧
            addZ x.fst.length (1 : Nat) * (16 : Nat) ≤ (140737488355328 : Nat) ∧
            ((0 : Int) ≤ IntKind.i64.wrap ((↑x_2 : Int) + (1 : Int)) ∧
            IntKind.i64.wrap ((↑x_2 : Int) + (1 : Int)) ≤ (↑x.snd.size : Int)) ∧
            ∃ x' : List ByteArray × ByteArray,
            (x'.fst.length + x'.snd.size ≤ (64 : Nat) ∧
            x'.fst ++ namesB x'.snd = namesB (s.extract (1 : Nat) s.size)) ∧
            x'.2.data.toList.length < x.2.data.toList.length ∧
            (((0 : Nat) = (0 : Nat) ∧
            addZ x.fst.length (1 : Nat) = x'.fst.length ∧
            True) ∧
            x.snd.extract (IntKind.i64.wrap ((↑x_2 : Int) + (1 : Int))).toNat x.snd.size = x'.snd ∧
            True) ∧
            (addZ x.fst.length (1 : Nat) = x'.fst.length ∧
            ∀ (i : Nat),
            ((i < x'.fst.length) →
            catF x.fst.length (encS x.fst)
    (fun i =>
      ((List.replicate (1 : Nat) [SV.c (Value.string (ByteArray.mk #[]))]).set ((0 : Nat), Operand.tmp (37 : Nat)).fst
            [SV.c (Value.string (x.snd.extract (0 : Nat) (↑x_2 : Int).toNat))]).getD
        i [])
    i =
  encS x'.fst i)) ∧
            True)
            (∃ x' : Nat,
            (x' ≤ x.snd.size ∧
            NoS x.snd x') ∧
            x.snd.size.sub x' < x.snd.size.sub x_2 ∧
            (((0 : Nat) = (0 : Nat) ∧
            x.fst.length = x.fst.length ∧
            True) ∧
            x.snd = x.snd ∧
            (0 : Nat) = (0 : Nat) ∧
            True) ∧
            (x.fst.length = x.fst.length ∧
            ∀ (i : Nat),
            ((i < x.fst.length) →
            encS x.fst i = encS x.fst i)) ∧
            (x.snd = x.snd ∧
            x_2 + (Utf8.decode x.snd x_2).snd = x') ∧
            True))
          (x.fst.length ≤ x.fst.length ∧
          (1 : Nat) ≤ (1 : Nat) ∧
          addZ x.fst.length (1 : Nat) * (16 : Nat) ≤ (140737488355328 : Nat) ∧
          addZ x.fst.length (1 : Nat) ≤ addZ x.fst.length (1 : Nat) ∧
          ∃ L : List ByteArray,
          strs
  (SV.rs (1 : Nat) (addZ x.fst.length (1 : Nat))
    (catF x.fst.length (encS x.fst) fun i =>
      ((List.replicate (1 : Nat) [SV.c (Value.string (ByteArray.mk #[]))]).set ((0 : Nat), Operand.tmp (45 : Nat)).fst
            [SV.c (Value.string x.snd)]).getD
        i []))
  L ∧
          brk (sillyL L)
            (∃ r' : SV,
            SV.tup [SV.c (Value.slice none (0 : Nat) (0 : Nat)), SV.c (Value.int IntKind.i64 (160 : Int))] = r' ∧
            K r' none)
            (∃ r' : SV,
            SV.tup
    [SV.gs (0 : Nat) (1 : Nat) (0 : Nat) (addZ x.fst.length (1 : Nat)) none, SV.c (Value.int IntKind.i64 (0 : Int))] =
  r' ∧
            ∃ m' : Nat,
            ∃ f' : Nat → List SV,
            addZ x.fst.length (1 : Nat) = m' ∧
            (∀ (i : Nat),
            ((i < addZ x.fst.length (1 : Nat)) →
            catF x.fst.length (encS x.fst)
    (fun i =>
      ((List.replicate (1 : Nat) [SV.c (Value.string (ByteArray.mk #[]))]).set ((0 : Nat), Operand.tmp (45 : Nat)).fst
            [SV.c (Value.string x.snd)]).getD
        i [])
    i =
  f' i)) ∧
            K r' (some (SB.arr (9 : Nat) (1 : Nat) m' f'))))))))))) (by kernel_rfl) ?_⟩
    simp only [true_and, and_true, implies_true]
    have err : parse s = none → ∃ r', SV.tup [SV.c (Value.slice none 0 0), SV.c (Value.int IntKind.i64 160)] = r' ∧ K r' none := fun e => ⟨_, rfl, h.1 e⟩
    have hl := ba_size s
    refine brkI (fun h1 => ?_) (fun h1 => brkI (fun h2 => err ?_) (fun h2 => ?_))
    · have h1 : s.data.toList = [47] := by rw [Lib.toList_data, Lib.toList_data] at h1; exact eq_of_beq h1
      have hp : parse s = some [] := by rw [parse, if_pos h1]
      exact ⟨_, rfl, (h.2 [] hp).1 rfl⟩
    · have h2 : s.data.toList = [] := by rw [Lib.toList_data, Lib.toList_data] at h2; exact eq_of_beq h2
      rw [parse, h2]; rfl
    · have h1 : ¬ s.data.toList = [47] := by rw [Lib.toList_data, Lib.toList_data] at h1; exact ne_of_beq_false h1
      have h2 : ¬ s.data.toList = [] := by rw [Lib.toList_data, Lib.toList_data] at h2; exact ne_of_beq_false h2
      obtain ⟨b, r, hbr⟩ : ∃ b r, s.data.toList = b :: r := by cases h : s.data.toList with
        | nil => exact absurd h h2
        | cons b r => exact ⟨b, r, rfl⟩
      have hpos : 0 < s.size := by rw [← hl, hbr]; simp
      have hb0 : bAt s 0 = (b.toNat : Int) := by
        have h3 : s.data[0]? = some b := by rw [← Array.getElem?_toList, hbr]; rfl
        simp [bAt, h3]
      refine ⟨⟨by omega, by omega⟩, brkI (fun h3 => err ?_) (fun h3 => brkI (fun h4 => err ?_) (fun h4 => ?_))⟩
      · have : ¬ b = 47 := by rintro rfl; rw [hb0] at h3; simp at h3
        rw [parse, if_neg h1, if_neg (by rw [hbr]; simp [this])]
      · have := of_decide_eq_true h4
        rw [parse, if_neg h1, if_neg (by omega)]
      · have hb : b = 47 := by
          rw [hb0] at h3
          simp at h3
          exact UInt8.toNat_inj.1 (by simpa using Int.ofNat_inj.1 h3)
        have h4 := of_decide_eq_false h4
        have hps := parse_long h1 (by rw [hbr, hb]; rfl) (by omega)
        have hex := ext_size s 1 (by omega)
        refine ⟨⟨by omega, by omega⟩, ⟨⟨[], s.extract 1 s.size⟩, ⟨by simp; omega, rfl⟩, ⟨rfl, rfl⟩, rfl⟩, ?_⟩
        rintro ⟨M, t⟩ ⟨q1, q2⟩
        simp only at q1 q2
        refine ⟨⟨0, ⟨Nat.zero_le _, fun j hj => absurd hj (Nat.not_lt_zero _)⟩, rfl⟩, ?_⟩
        rintro p ⟨q3, q4⟩
        have q3 : p ≤ t.size := q3
        have q4 : NoS t p := q4
        dsimp only
        have hadd : addZ M.length 1 = M.length + 1 := addZ_eq _ _
        refine brkI (fun h5 => ?_) (fun h5 => ?_)
        · have hp : p < t.size := by simpa [Nat.blt_eq] using h5
          obtain ⟨d1, d2, d3, d4, d5⟩ := decode_spec t p hp
          have hw : IntKind.i64.wrap ((p : Int) + 1) = ((p + 1 : Nat) : Int) := by rw [IntWalk.i64_in _ (by omega)]; omega
          refine brkI (fun h6 => ?_) (fun h6 => ?_)
          · have h6 : (Utf8.decode t p).1 = 47 := by have := eq_of_beq h6; omega
            have hb47 : by_ t p = 47 := by
              rcases Nat.lt_or_ge (by_ t p) 128 with h | h
              · have := (d4 h).1; omega
              · have := (d5 h).1; omega
            have hc := namesB_cons hp q4 hb47
            have he := ext_size t (p + 1) (by omega)
            show _ ∧ _ ≤ _ ∧ _ ≤ _ ∧ addZ M.length 1 * 16 ≤ _ ∧ _
            rw [hw]
            refine ⟨⟨by omega, by omega⟩, Nat.le_refl _, Nat.le_refl _, by rw [hadd]; omega, ⟨by omega, by omega⟩, ⟨M ++ [t.extract 0 p], t.extract (p + 1) t.size⟩, ⟨?_, ?_⟩, ?_, ⟨?_, rfl⟩, ?_, ?_⟩
            · simp; omega
            · rw [List.append_assoc]; show M ++ (t.extract 0 p :: namesB (t.extract (p + 1) t.size)) = _; rw [← hc]; exact q2
            · show (t.extract (p + 1) t.size).data.toList.length < t.data.toList.length
              rw [ba_size, ba_size, he]; omega
            · show addZ M.length 1 = _; rw [hadd]; simp
            · show addZ M.length 1 = _; rw [hadd]; simp
            · intro i hi
              exact encS_cat M (t.extract 0 p) _ rfl i (by simpa using hi)
          · have h6 : ¬ (Utf8.decode t p).1 = 47 := by have := ne_of_beq_false h6; omega
            refine ⟨p + (Utf8.decode t p).2, ⟨d2, fun j hj => ?_⟩, by show t.size - (p + (Utf8.decode t p).2) < t.size - p; omega, rfl⟩
            by_cases hjp : j < p
            · exact q4 j hjp
            · rcases Nat.lt_or_ge (by_ t p) 128 with h | h
              · obtain ⟨e1, e2⟩ := d4 h
                have : j = p := by omega
                subst this; omega
              · have := (d5 h).2 j (by omega) hj
                omega
        · have hp : p = t.size := by
            have : ¬ p < t.size := by simpa [Nat.blt_eq, Bool.eq_false_iff] using h5
            omega
          subst hp
          have hL := namesB_last q4
          rw [hL] at q2
          rw [← q2] at hps
          have hcat := encS_cat M t (fun i => ((List.replicate 1 [SV.c (.string (ByteArray.mk #[]))]).set 0 [SV.c (.string t)]).getD i []) rfl
          show _ ≤ _ ∧ _ ≤ _ ∧ addZ M.length 1 * 16 ≤ _ ∧ _ ≤ _ ∧ _
          refine ⟨Nat.le_refl _, Nat.le_refl _, by rw [hadd]; omega, Nat.le_refl _, M ++ [t], strs_of (by rw [hadd]; simp) (fun i hi => hcat i (by simpa using hi)) (by simp; omega), brkI (fun h7 => err ?_) (fun h7 => ⟨_, rfl, M.length + 1, encS (M ++ [t]), hadd, fun i hi => hcat i (by rw [hadd] at hi; exact hi), ?_⟩)⟩
          · rw [hps, if_pos h7]
          · rw [if_neg (by simp [h7])] at hps
            have := (h.2 _ hps).2 (by simp)
            rw [hadd]
            simpa using this
  · exact h.elim
end Go.Proofs.Ytjiamfajgllelaa
