/-
  Sx5: what the silent operations answer.
-/
import Derived.Test.YtjiamfajgllelaaSy4
import Derived.Laws.Cells
import Derived.Laws.Entries
import Derived.Laws.IdiomCopy
namespace Go.Proofs.Ytjiamfajgllelaa.Sy
open Go

theorem cell_of {w : World} {g o : Nat} {vs : List Value} {t : TypeId} {fr : Nat × Nat} (h : w.heap[g]? = some (.cells vs.toArray t fr)) : w.cell? ⟨g, o, none⟩ = vs[o]? := by
  simp [World.cell?, h]

theorem run_isAgg {P : Program} {t : TypeId} {b : Bool} (h : tyAgg P t = some b) (w : World) : (isAgg t).run P w = .ok b w := by
  unfold tyAgg at h
  unfold isAgg
  cases hu : P.underlying t with
  | none => simp [hu] at h
  | some d => cases d <;> simp [hu] at h <;> subst h <;> simp [underlying, hu, Sem.run_bind]

theorem run_sizeOf' {P : Program} {t : TypeId} {n : Nat} (h : tySize P t = some n) (w : World) : (sizeOf t).run P w = .ok n w := by
  unfold tySize at h
  cases hi : P.info? t with
  | none => simp [hi] at h
  | some i => simp [hi] at h; subst h; simp [sizeOf, typeInfo, hi]

theorem run_zeroValue' {P : Program} {t : TypeId} {i : TypeInfo} {z : Value} (h : P.info? t = some i) (hz : i.zero = some z) (w : World) : (zeroValue t).run P w = .ok z w := by
  simp [zeroValue, typeInfo, h, hz]

theorem open0_rel {n : Nat} {ρ : Env} (v : Value) : Rel n ρ (open0 v) v := by
  have key : ∀ l : List Value, RelL n ρ (comp l) l := by
    intro l
    induction l with
    | nil => exact .nil
    | cons x l ih =>
      unfold comp
      split
      · rename_i a
        split
        · rename_i m xs q hq
          rw [hq] at ih
          cases ih with
          | cons _ _ _ _ hr => simp [SV.isRow] at hr
          | row _ _ _ _ vs hl h2 => exact .row .u8 _ (a :: xs) _ _ (by simp [hl]) h2
        · exact .row .u8 1 [a] _ _ rfl ih
      · exact .cons _ _ _ _ rfl (.c _) ih
  cases v with
  | agg cs => exact .agg _ _ (key cs.toList)
  | _ => exact .c _

theorem tyZero_rel {P : Program} {t : TypeId} {z : SV} (h : tyZero P t = some z) {n : Nat} {ρ : Env} : ∃ v, (∀ w, (zeroValue t).run P w = .ok v w) ∧ Rel n ρ z v := by
  unfold tyZero at h
  cases hi : P.info? t with
  | none => simp [hi] at h
  | some i =>
    cases hz : i.zero with
    | none => simp [hi, hz] at h
    | some v =>
      simp [hi, hz] at h
      subst h
      exact ⟨v, fun w => run_zeroValue' hi hz w, open0_rel v⟩

/-- a variable in a known block -/
theorem run_loadVar_known {P : Program} {t : TypeId} {cs : List SV} {off : Nat} {v : SV} (h : readAt P t cs off = some v) {n : Nat} {ρ : Env} {vs : List Value} (hr : RelL n ρ cs vs) :
    ∃ x, Rel n ρ v x ∧ ∀ (w : World) (g : Nat) (t' : TypeId) (fr : Nat × Nat), w.heap[g]? = some (.cells vs.toArray t' fr) → (loadVar t ⟨g, off, none⟩).run P w = .ok x w := by
  unfold readAt at h
  cases ha : tyAgg P t with
  | none => simp [ha] at h
  | some b =>
    cases b with
    | false =>
      simp only [ha] at h
      obtain ⟨x, hx, hrel⟩ := hr.cellAt h
      refine ⟨x, hrel, fun w g t' fr hg => ?_⟩
      have hc : w.cell? ⟨g, off, none⟩ = some x := (cell_of hg).trans hx
      simp [loadVar, run_isAgg ha, hc]
    | true =>
      simp only [ha] at h
      cases hs : tySize P t with
      | none => simp [hs] at h
      | some m =>
        simp only [hs] at h
        cases hd : dropC cs off with
        | none => simp [hd] at h
        | some r =>
          simp only [hd] at h
          cases ht : takeC r m with
          | none => simp [ht] at h
          | some q =>
            simp only [ht] at h
            cases h
            obtain ⟨h1, h2⟩ := hr.dropC hd
            obtain ⟨h3, h4⟩ := h1.takeC ht
            refine ⟨.agg ((vs.drop off).take m).toArray, .agg _ _ h3, fun w g t' fr hg => ?_⟩
            have hl : (loadCells ⟨g, off, none⟩ m).run P w = .ok ((vs.drop off).take m).toArray w := by
              have := run_loadCells_list (P := P) (w := w) ⟨g, off, none⟩ ((vs.drop off).take m) (by
                intro j u hj
                have hj' : vs[off + j]? = some u := by
                  rw [List.getElem?_take] at hj
                  split at hj
                  · simpa using hj
                  · cases hj
                have : (Addr.add ⟨g, off, none⟩ j) = ⟨g, off + j, none⟩ := by
                  unfold Addr.add; split <;> simp_all
                rw [this]
                exact (cell_of hg).trans hj')
              rw [List.length_take, Nat.min_eq_left h4] at this
              simpa using this
            simp [loadVar, run_isAgg ha, run_sizeOf' hs, hl]

section
variable {P : Program} {w0 : World} {own : Nat → Prop} {ρ0 : Nat × Env} {σ : St} {ρ : Env} {a : Act} {w : World}

theorem Mod.ev (m : Mod w0 own ρ0 σ ρ a w) (x : Operand) : Rel σ.next ρ (σ.ev x) (a.eval x) := by
  cases x with
  | tmp t => exact m.tmp t
  | const v => exact .c v
  | global g => exact .any _
  | func f => exact .fn (.func f) [] [] [] [] .nil .nil

/-- lists of operands; no row stands in a slot -/

theorem Mod.evs (m : Mod w0 own ρ0 σ ρ a w) (xs : List Operand) : RelL σ.next ρ (evs σ xs) (xs.map a.eval) := by
  induction xs with
  | nil => exact .nil
  | cons x xs ih => exact .cons _ _ _ _ (m.ev x).notRow (m.ev x) ih


theorem ibin_sound {op : BinOp} {k : IntKind} {x y : Int} {s : Sil} (h : ibin op k x y = some s) (hob : ∀ p, s.obl = some p → p) (t : TypeId) (n : Nat) (ρ : Env) :
    ∃ v, Rel n ρ s.val v ∧ ∀ w, (binOp op t (.int k x) (.int k y)).run P w = .ok v w := by
  cases op <;> simp only [ibin, sv] at h <;> cases h <;> refine ⟨_, .c _, fun w => ?_⟩ <;>
    (try (have := hob _ rfl)) <;> simp_all [binOp, Op.intArith, Op.intDiv, Op.intCmp, Op.intBits, ibits]

theorem eqGuard_plain {op : BinOp} {t : TypeId} {x y : Operand} {a b : Value} (h1 : a ≠ .nilIface) (h2 : ∀ cs, a ≠ .agg cs) (w : World) :
    (eqGuard op t x y a b).run P w = .ok () w := by
  unfold eqGuard
  split
  · simp only [Bool.not_true, Bool.false_eq_true, if_false]
    split
    · exact absurd rfl h1
    · exact absurd rfl (h2 _)
    · rfl
  · simp only [Bool.not_true, Bool.false_eq_true, if_false]
    split
    · exact absurd rfl h1
    · exact absurd rfl (h2 _)
    · rfl
  · simp

theorem run_equal_bool {t : TypeId} (h : P.underlying t = some .bool) (a b : Bool) (w : World) : (Op.equal t (.bool a) (.bool b)).run P w = .ok (a == b) w := by
  show (Op.equalIn (9999 + 1) t (.bool a) (.bool b)).run P w = _
  unfold Op.equalIn
  simp [underlying, h]

/-- what a division by a constant owes is paid -/
theorem plainly_spec {y : Operand} {op : BinOp} {t : TypeId} {x : SV} {s : Sil} (ho : op = .quo ∨ op = .rem) (h : plainly y (bin P t op x (σ.ev y)) = some s) (hob : ∀ p, s.obl = some p → p) :
    ∃ s', bin P t op x (σ.ev y) = some s' ∧ (∀ p, s'.obl = some p → p) ∧ s.val = s'.val ∧ s.reads = s'.reads := by
  unfold plainly at h
  split at h
  · rename_i k n
    split at h
    · rename_i m
      split at h
      · rename_i o v r hs
        cases h
        refine ⟨_, hs, ?_, rfl, rfl⟩
        intro p hp
        simp only [St.ev] at hs
        unfold bin at hs
        rcases ho with rfl | rfl <;> (try simp only [] at hs) <;> (repeat' split at hs) <;>
          (first | (cases hs; done) | skip) <;> (try simp only [ibin] at hs) <;> cases hs <;> cases hp <;> simp_all <;> omega
      · cases h
    · exact ⟨s, h, hob, rfl, rfl⟩
  · exact ⟨s, h, hob, rfl, rfl⟩

theorem mm1_sound (f : Int → Int → Int) (m2 : Value → Value → Sem Value) (hm : ∀ k x y, m2 (.int k x) (.int k y) = pure (.int k (f x y))) {k : IntKind} {n : Nat} {ρ : Env} :
    ∀ (l : List SV) (vs : List Value) (x : Int) (r : SV), mm1 f k x l = some r → RelL n ρ l vs → ∃ v, Rel n ρ r v ∧ ∀ w, ((vs.foldlM m2 (.int k x) : Sem Value)).run P w = .ok v w := by
  intro l
  induction l with
  | nil =>
    intro vs x r h hv
    cases hv
    cases h
    exact ⟨_, .c _, fun w => rfl⟩
  | cons y l ih =>
    intro vs x r h hv
    cases hv with
    | row => simp [mm1] at h
    | cons _ _ v vs hx h1 h2 =>
      cases h1 with
      | c v =>
        cases v <;> simp only [mm1] at h <;> (try cases h)
        split at h
        · rename_i hk
          obtain rfl := kindEq_eq hk
          obtain ⟨v, hv, hr⟩ := ih vs _ r h h2
          exact ⟨v, hv, fun w => by simp [List.foldlM_cons, hm, hr]⟩
        · cases h
      | _ => simp [mm1] at h

theorem mm_sound (f : Int → Int → Int) (m2 : Value → Value → Sem Value) (hm : ∀ k x y, m2 (.int k x) (.int k y) = pure (.int k (f x y))) {n : Nat} {ρ : Env}
    {l : List SV} {vs : List Value} {r : SV} (h : mm f l = some r) (hv : RelL n ρ l vs) : ∃ v, Rel n ρ r v ∧ ∃ x rest, vs = x :: rest ∧ ∀ w, ((rest.foldlM m2 x : Sem Value)).run P w = .ok v w := by
  cases hv with
  | nil => simp [mm] at h
  | row => simp [mm] at h
  | cons x cs v vs hx h1 h2 =>
    cases h1 with
    | c v =>
      cases v <;> simp only [mm] at h <;> (try cases h)
      obtain ⟨v, hv, hr⟩ := mm1_sound (P := P) f m2 hm _ _ _ _ h h2
      exact ⟨v, hv, _, _, rfl, hr⟩
    | _ => simp [mm] at h

theorem RelL.get {n : Nat} {ρ : Env} {cs : List SV} {vs : List Value} (h : RelL n ρ cs vs) (hn : ∀ x ∈ cs, x.isRow = false) {i : Nat} {x : SV} (hi : cs[i]? = some x) : ∃ v, vs[i]? = some v ∧ Rel n ρ x v := by
  induction cs generalizing vs i with
  | nil => simp at hi
  | cons y cs ih =>
    cases h with
    | row => have := hn _ (List.mem_cons_self ..); simp [SV.isRow] at this
    | cons _ _ v vs hx h1 h2 =>
      cases i with
      | zero => simp at hi; subst hi; exact ⟨v, rfl, h1⟩
      | succ i => simpa using ih h2 (fun x hx => hn x (List.mem_cons_of_mem _ hx)) (by simpa using hi)

theorem fold_set (l : List Value) : ∀ (s k : Nat) (c : Array Value), k + s + l.length ≤ c.size →
    ((l.zipIdx s).foldl (fun (cs : Array Value) (x : Value × Nat) => cs.setIfInBounds (k + x.2) x.1) c).toList = c.toList.take (k + s) ++ l ++ c.toList.drop (k + s + l.length) := by
  induction l with
  | nil => intro s k c h; simp
  | cons v l ih =>
    intro s k c h
    simp only [List.length_cons] at h
    simp only [List.zipIdx_cons, List.foldl_cons]
    rw [ih (s + 1) k _ (by simp; omega)]
    simp only [Array.toList_setIfInBounds]
    apply List.ext_getElem?
    intro i
    simp only [List.getElem?_append, List.getElem?_take, List.length_take, List.length_append, List.length_set, List.getElem?_drop, List.length_cons, Array.length_toList, List.getElem?_set]
    have hs : k + s < c.size := by omega
    rcases Nat.lt_trichotomy i (k + s) with hi | hi | hi
    · simp [show i < k + (s + 1) by omega, show i < min (k + (s + 1)) c.size by omega, show i < min (k + s) c.size by omega, hi, show i < min (k + (s + 1)) c.size + l.length by omega, show i < min (k + s) c.size + (l.length + 1) by omega, show k + s ≠ i by omega]
    · subst hi
      simp [show k + s < k + (s + 1) by omega, show min (k + s) c.size = k + s by omega, show min (k + (s + 1)) c.size = k + s + 1 by omega, hs]
      intro hh; omega
    · have e1 : min (k + (s + 1)) c.size = k + s + 1 := by omega
      have e2 : min (k + s) c.size = k + s := by omega
      simp only [e1, e2]
      by_cases h2 : i < k + s + (l.length + 1)
      · rw [if_pos (by omega), if_neg (by omega), if_pos (by omega), if_neg (by omega)]
        have : i - (k + s) = i - (k + s + 1) + 1 := by omega
        rw [this, List.getElem?_cons_succ]
      · rw [if_neg (by omega), if_neg (by omega)]
        have e3 : k + (s + 1) + l.length + (i - (k + s + 1 + l.length)) = k + s + (l.length + 1) + (i - (k + s + (l.length + 1))) := by omega
        rw [e3, if_neg (by omega)]

theorem fillC_sound {n : Nat} {ρ : Env} (place : Nat → Option (Nat × Nat)) : ∀ (ps : List (Nat × SV)) (qs : List (Nat × Value)) (cs r : List SV) (vs : List Value),
    fillC place cs ps = some r → RelL n ρ cs vs → ps.length = qs.length → (∀ (j : Nat) (p : Nat × SV) (q : Nat × Value), ps[j]? = some p → qs[j]? = some q → p.1 = q.1 ∧ Rel n ρ p.2 q.2) →
    ∃ us, RelL n ρ r us ∧ Instr.fill place vs.toArray qs = some us.toArray := by
  intro ps
  induction ps with
  | nil =>
    intro qs cs r vs h hv hl _
    cases qs with
    | nil => cases h; exact ⟨vs, hv, rfl⟩
    | cons => simp at hl
  | cons p ps ih =>
    intro qs cs r vs h hv hl hq
    cases qs with
    | nil => simp at hl
    | cons q qs =>
      obtain ⟨i, x⟩ := p
      obtain ⟨j, v⟩ := q
      obtain ⟨h0, hx⟩ := hq 0 (i, x) (j, v) rfl rfl
      simp only at h0 hx
      subst h0
      simp only [fillC] at h
      cases hp : place i with
      | none => simp [hp] at h
      | some os =>
        obtain ⟨off, size⟩ := os
        cases hc : x.cells with
        | none => simp [hp, hc] at h
        | some new =>
          simp only [hp, hc] at h
          split at h
          · rename_i hw
            have hw := Nat.eq_of_beq_eq_true hw
            cases hs : setC cs off new with
            | none => simp [hs] at h
            | some cs' =>
              simp only [hs] at h
              have hnew := SV.cells_rel hx hc
              obtain ⟨s1, s2⟩ := hv.setC hnew hs
              have hlen := hnew.len
              obtain ⟨us, hus, hfill⟩ := ih qs cs' r _ h s1 (by simpa using hl) (fun j p q hp hq' => hq (j + 1) p q (by simpa using hp) (by simpa using hq'))
              refine ⟨us, hus, ?_⟩
              simp only [Instr.fill, hp]
              have e1 : v.cells.size = size := by rw [← hw, ← hlen]; simp
              have e2 : ¬ (off + v.cells.size > vs.toArray.size) := by simp at s2 ⊢; omega
              simp only [e1, ne_eq, not_true_eq_false, decide_false, Bool.false_or, decide_eq_true_eq] at e2 ⊢
              rw [if_neg e2, ← hfill]
              congr 1
              apply Array.ext'
              rw [← Array.foldl_toList, Array.toList_zipIdx]
              rw [show (fun (x : Array Value) (y : Value × Nat) => match y with | (c, j) => x.setIfInBounds (off + j) c) = fun cs x => cs.setIfInBounds (off + x.2) x.1 from rfl]
              rw [fold_set _ 0 off vs.toArray (by simp at s2 ⊢; omega)]
              simp
          · cases h

end
end Go.Proofs.Ytjiamfajgllelaa.Sy
