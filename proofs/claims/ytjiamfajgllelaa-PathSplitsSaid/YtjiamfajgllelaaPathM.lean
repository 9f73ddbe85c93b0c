/-
  PathM: plain: a path's names, names' path.
-/
import Derived.Test.YtjiamfajgllelaaBytM
import Derived.Laws.Concat
namespace Go.Proofs.Ytjiamfajgllelaa
open Go

/-- a list cut at each stroke -/
def cut : List UInt8 → List (List UInt8)
  | [] => [[]]
  | b :: r => if b = 47 then [] :: cut r else match cut r with
    | x :: xs => (b :: x) :: xs
    | [] => [[b]]

theorem cut_ne (l : List UInt8) : cut l ≠ [] := by
  cases l with
  | nil => simp [cut]
  | cons b r => simp only [cut]; split; simp; split <;> simp
theorem cut_len (l : List UInt8) : (cut l).length ≤ l.length + 1 := by
  induction l with
  | nil => simp [cut]
  | cons b r ih =>
    simp only [cut]
    split
    · simpa using ih
    · split
      · rename_i h; rw [h] at ih; simp at ih ⊢; omega
      · simp
theorem cut_none (l : List UInt8) (h : ∀ b ∈ l, b ≠ 47) : cut l = [l] := by
  induction l with
  | nil => rfl
  | cons b r ih =>
    simp only [cut]
    rw [if_neg (h b (List.mem_cons_self ..)), ih fun x hx => h x (List.mem_cons_of_mem _ hx)]
theorem cut_at (a c : List UInt8) (h : ∀ b ∈ a, b ≠ 47) : cut (a ++ 47 :: c) = a :: cut c := by
  induction a with
  | nil => simp [cut]
  | cons b r ih =>
    simp only [List.cons_append, cut]
    rw [if_neg (h b (List.mem_cons_self ..)), ih fun x hx => h x (List.mem_cons_of_mem _ hx)]
theorem cut_stroke (l : List UInt8) : cut (l ++ [47]) = cut l ++ [[]] := by
  induction l with
  | nil => simp [cut]
  | cons b r ih =>
    simp only [List.cons_append, cut, ih]
    split
    · rfl
    · have := cut_ne r
      cases h : cut r with
      | nil => exact absurd h this
      | cons x xs => simp
theorem cut_snoc (l : List UInt8) (b : UInt8) (hb : b ≠ 47) (X : List (List UInt8)) (x : List UInt8) (h : cut l = X ++ [x]) : cut (l ++ [b]) = X ++ [x ++ [b]] := by
  induction l generalizing X x with
  | nil =>
    simp only [cut] at h
    cases X with
    | nil => simp at h; subst h; simp [cut, hb]
    | cons y Y => simp at h
  | cons c r ih =>
    simp only [List.cons_append, cut] at h ⊢
    split
    · rename_i hc
      rw [if_pos hc] at h
      cases X with
      | nil => simp at h; exact absurd h.2 (cut_ne r)
      | cons y Y =>
        simp at h
        rw [ih Y x h.2, ← h.1]; rfl
    · rename_i hc
      rw [if_neg hc] at h
      cases hr : cut r with
      | nil => exact absurd hr (cut_ne r)
      | cons y Y =>
        rw [hr] at h
        simp only at h
        cases X with
        | nil =>
          simp at h
          obtain ⟨rfl, rfl⟩ := h
          rw [ih [] y (by rw [hr]; rfl)]; simp
        | cons z Z =>
          simp at h
          obtain ⟨rfl, rfl⟩ := h
          rw [ih (y :: Z) x (by rw [hr]; rfl)]; simp

/-- names with a stroke ahead of each -/
def tie : List (List UInt8) → List UInt8
  | [] => []
  | x :: xs => 47 :: (x ++ tie xs)
theorem tie_append (a b : List (List UInt8)) : tie (a ++ b) = tie a ++ tie b := by
  induction a with
  | nil => rfl
  | cons x a ih => simp [tie, ih]
theorem tie_cut (l : List UInt8) : tie (cut l) = 47 :: l := by
  induction l with
  | nil => rfl
  | cons b r ih =>
    simp only [cut]
    split
    · rename_i hb; subst hb; simp [tie, ih]
    · cases h : cut r with
      | nil => exact absurd h (cut_ne r)
      | cons x xs =>
        rw [h] at ih
        simp [tie] at ih ⊢
        exact ih
theorem cut_tie (x : List UInt8) (xs : List (List UInt8)) (h : ∀ y ∈ x :: xs, ∀ b ∈ y, b ≠ 47) : cut (x ++ tie xs) = x :: xs := by
  induction xs generalizing x with
  | nil => simp [tie, cut_none x (h x (List.mem_cons_self ..))]
  | cons y ys ih =>
    simp only [tie]
    rw [cut_at x _ (h x (List.mem_cons_self ..)), ih y fun z hz => h z (List.mem_cons_of_mem _ hz)]

/-! ### the same of strings -/
def mk (l : List UInt8) : ByteArray := ⟨l.toArray⟩
theorem mk_toList (s : ByteArray) : mk s.data.toList = s := rfl
theorem toList_mk (l : List UInt8) : (mk l).data.toList = l := rfl
theorem mk_append (a b : List UInt8) : mk a ++ mk b = mk (a ++ b) := ByteArray.mk_append_mk a b
theorem ba_ext {a b : ByteArray} (h : a.data.toList = b.data.toList) : a = b := by
  rw [← mk_toList a, ← mk_toList b, h]
theorem ba_append (a b : ByteArray) : (a ++ b).data.toList = a.data.toList ++ b.data.toList := by
  rw [← mk_toList a, ← mk_toList b, mk_append]; rfl
theorem ba_size (s : ByteArray) : s.data.toList.length = s.size := by rw [Array.length_toList]; rfl
theorem ba_extract (s : ByteArray) (i j : Nat) : (s.extract i j).data.toList = (s.data.toList.drop i).take (j - i) := by
  simp [ByteArray.data_extract, List.extract_eq_take_drop]

def bad (s : ByteArray) : Bool := badName s.data.toList
/-- whether names may not be a path's -/
def sillyL (L : List ByteArray) : Bool := decide (6 < L.length) || L.any bad

/-- a path's names -/
def parse (s : ByteArray) : Option (List ByteArray) :=
  if s.data.toList = [47] then some []
  else if s.data.toList.head? = some 47 ∧ s.size ≤ 64 then
    (if sillyL ((cut (s.data.toList.drop 1)).map mk) then none else some ((cut (s.data.toList.drop 1)).map mk))
  else none
/-- the path of names -/
def unparse (L : List ByteArray) : Option ByteArray :=
  if sillyL L then none else some (if L = [] then mk [47] else mk (tie (L.map (·.data.toList))))

theorem bad_len {s : ByteArray} (h : bad s = false) : s.size ≤ 8 ∧ 0 < s.size ∧ ∀ b ∈ s.data.toList, b ≠ 47 := by
  unfold bad badName at h
  simp only [Bool.or_eq_false_iff, decide_eq_false_iff_not] at h
  obtain ⟨⟨⟨⟨h1, h2⟩, _⟩, _⟩, h5⟩ := h
  have hl := ba_size s
  refine ⟨by omega, ?_, fun b hb e => ?_⟩
  · cases hs : s.data.toList with
    | nil => rw [hs] at h1; simp at h1
    | cons x xs => rw [hs] at hl; simp at hl; omega
  · unfold slashy at h5
    rw [List.any_eq_false] at h5
    exact h5 b hb (by simp [e])

theorem silly_take {L : List ByteArray} (h : sillyL L = false) (n : Nat) : sillyL (L.take n) = false := by
  unfold sillyL at h ⊢
  simp only [Bool.or_eq_false_iff, decide_eq_false_iff_not] at h ⊢
  refine ⟨by simp; omega, ?_⟩
  rw [List.any_eq_false] at h ⊢
  exact fun x hx => h.2 x (List.mem_of_mem_take hx)

theorem parse_unparse {s : ByteArray} {L : List ByteArray} (h : parse s = some L) : unparse L = some s := by
  unfold parse at h
  split at h
  · rename_i h1
    cases h
    rw [unparse, if_neg (by decide), if_pos rfl]
    congr 1
    exact ba_ext (by rw [h1]; rfl)
  · split at h
    · rename_i h1 h2
      split at h
      · cases h
      · rename_i hs
        cases h
        have hne : (cut (s.data.toList.drop 1)).map mk ≠ [] := by simpa using cut_ne _
        rw [unparse, if_neg hs, if_neg hne]
        congr 1
        apply ba_ext
        rw [toList_mk, List.map_map]
        have : ((fun x : ByteArray => x.data.toList) ∘ mk) = id := rfl
        rw [this, List.map_id, tie_cut]
        cases hl : s.data.toList with
        | nil => rw [hl] at h2; simp at h2
        | cons b r => rw [hl] at h2; simp at h2; simp [h2.1]
    · cases h

theorem tie_len (L : List (List UInt8)) (h : ∀ y ∈ L, y.length ≤ 8) : (tie L).length ≤ 9 * L.length := by
  induction L with
  | nil => simp [tie]
  | cons x L ih =>
    have := ih fun y hy => h y (List.mem_cons_of_mem _ hy)
    have := h x (List.mem_cons_self ..)
    simp [tie]; omega

theorem unparse_parse {L : List ByteArray} {s : ByteArray} (h : unparse L = some s) : parse s = some L := by
  unfold unparse at h
  split at h
  · cases h
  · rename_i hs
    cases h
    have hs' : sillyL L = false := by simpa using hs
    have hs2 := hs'
    unfold sillyL at hs2
    simp only [Bool.or_eq_false_iff, decide_eq_false_iff_not] at hs2
    have hbad : ∀ x ∈ L, bad x = false := fun x hx => by
      have := List.any_eq_false.1 hs2.2 x hx
      simpa using this
    split
    · rename_i h0
      subst h0
      rfl
    · rename_i h0
      cases L with
      | nil => exact absurd rfl h0
      | cons x xs =>
        have hx := bad_len (hbad x (List.mem_cons_self ..))
        have hcut : cut (x.data.toList ++ tie (xs.map (·.data.toList))) = (x :: xs).map (·.data.toList) := by
          refine cut_tie _ _ fun y hy b hb => ?_
          have hy : y ∈ (x :: xs).map (·.data.toList) := hy
          obtain ⟨z, hz, rfl⟩ := List.mem_map.1 hy
          exact (bad_len (hbad z hz)).2.2 b hb
        have hb : (mk (tie ((x :: xs).map (·.data.toList)))).data.toList = 47 :: (x.data.toList ++ tie (xs.map (·.data.toList))) := rfl
        have hne : ¬ (mk (tie ((x :: xs).map (·.data.toList)))).data.toList = [47] := by
          rw [hb]
          intro e
          have h3 := ba_size x
          have := congrArg List.length e
          simp only [List.length_cons, List.length_append, List.length_nil] at this
          omega
        have hsz : (mk (tie ((x :: xs).map (·.data.toList)))).size ≤ 64 := by
          rw [← ba_size, toList_mk]
          have := tie_len ((x :: xs).map (·.data.toList)) fun y hy => by
            obtain ⟨z, hz, rfl⟩ := List.mem_map.1 hy
            have := (bad_len (hbad z hz)).1
            rw [ba_size]; exact this
          simp only [List.length_map] at this
          omega
        rw [parse, if_neg hne, if_pos ⟨by rw [hb]; rfl, hsz⟩]
        have hd : (mk (tie ((x :: xs).map (·.data.toList)))).data.toList.drop 1 = x.data.toList ++ tie (xs.map (·.data.toList)) := by rw [hb]; rfl
        rw [hd, hcut, List.map_map]
        have : (mk ∘ fun x : ByteArray => x.data.toList) = id := rfl
        rw [this, List.map_id, if_neg hs]

theorem parse_silly {s : ByteArray} {L : List ByteArray} (h : parse s = some L) : sillyL L = false := by
  unfold parse at h
  split at h
  · cases h; rfl
  · split at h
    · split at h
      · cases h
      · rename_i hs; cases h; simpa using hs
    · cases h
theorem parse_len {s : ByteArray} {L : List ByteArray} (h : parse s = some L) : L.length ≤ 6 := by
  have := parse_silly h
  unfold sillyL at this
  simp only [Bool.or_eq_false_iff, decide_eq_false_iff_not] at this
  omega
end Go.Proofs.Ytjiamfajgllelaa
