/-
  Sx7: what the operations that change the world do to a state.
-/
import Derived.Test.YtlobbcodnkfbiaaDoorSx6
namespace Go.Proofs.YtlobbcodnkfbiaaDoor.Sx
open Go Go.RowKit

section
variable {P : Program} {w0 : World} {own : Nat → Prop} {ρ0 : Nat × (Nat → Nat)} {σ : St} {ρ : Nat → Nat} {a : Act} {w : World}

/-- ρ with one block more -/
def push (ρ : Nat → Nat) (n g : Nat) : Nat → Nat := fun i => if i = n then g else ρ i
theorem push_ext (ρ : Nat → Nat) (n g : Nat) : Ext n ρ (push ρ n g) := fun i hi => by simp [push]; omega
theorem push_at (ρ : Nat → Nat) (n g : Nat) : push ρ n g n = g := by simp [push]

theorem BRel.ext {n n' : Nat} {ρ ρ' : Nat → Nat} (hn : n ≤ n') (he : Ext n ρ ρ') {sb : SB} {o : Option Obj} (h : BRel n ρ sb o) : BRel n' ρ' sb o := by
  cases sb with
  | cells cs t => obtain ⟨vs, fr, h1, h2, h3⟩ := h; exact ⟨vs, fr, h1, h2.ext hn he, h3⟩
  | junk => trivial

theorem alloc_heap (w : World) (o : Obj) (g : Nat) : (w.alloc o).heap[g]? = if g = w.heap.size then some o else w.heap[g]? := by
  show (w.heap.push o)[g]? = _
  rw [Array.getElem?_push]

/-- a new block -/
theorem HMod.alloc {heap : List (Nat × SB)} {next : Nat} (h : HMod w0 own heap next ρ w) {cs : List SV} {vs : List Value} (t : TypeId) (hr : RelL next ρ cs vs) :
    HMod w0 own ((next, .cells cs t) :: heap) (next + 1) (push ρ next w.heap.size) (w.alloc (.cells vs.toArray t)) := by
  have hnew : ∀ i, i < next → push ρ next w.heap.size i = ρ i := push_ext ρ next w.heap.size
  have old : ∀ i sb, look heap i = some sb → i < next := fun i sb hl => (h.rel i sb hl).1
  have key : ∀ i sb, look ((next, SB.cells cs t) :: heap) i = some sb → (i = next ∧ sb = .cells cs t) ∨ (i < next ∧ look heap i = some sb) := by
    intro i sb hl
    by_cases hi : next = i
    · subst hi; rw [look_cons_same] at hl; cases hl; exact .inl ⟨rfl, rfl⟩
    · rw [look_cons_ne hi] at hl; exact .inr ⟨old _ _ hl, hl⟩
  refine ⟨?_, ?_, ?_, ?_, h.os, h.tape, h.output, ?_, ?_, h.glob.keep fun g hg => (by rw [alloc_heap, if_neg (by have := h.gsz; have := h.size; omega)]), h.gsz, h.gown⟩
  · intro i sb hl
    rcases key i sb hl with ⟨rfl, rfl⟩ | ⟨hi, hl'⟩
    · refine ⟨Nat.lt_succ_self _, vs, (0, 0), ?_, hr.ext (Nat.le_succ _) (push_ext _ _ _), fun i _ hh => by simp at hh⟩
      rw [push_at, alloc_heap, if_pos rfl]
    · refine ⟨by omega, ?_⟩
      rw [hnew i hi, alloc_heap, if_neg (by have := h.there i hi; omega)]
      exact (h.rel i sb hl').2.ext (Nat.le_succ _) (push_ext _ _ _)
  · intro i j sb sb' hl hl' ho1 ho2 hij
    rcases key i sb hl with ⟨rfl, rfl⟩ | ⟨hi, hl1⟩ <;> rcases key j sb' hl' with ⟨rfl, rfl⟩ | ⟨hj, hl2⟩
    · exact absurd rfl hij
    · rw [push_at, hnew j hj]; have := h.there j hj; omega
    · rw [push_at, hnew i hi]; have := h.there i hi; omega
    · rw [hnew i hi, hnew j hj]; exact h.inj i j _ _ hl1 hl2 ho1 ho2 hij
  · intro i sb hl ho1
    rcases key i sb hl with ⟨rfl, rfl⟩ | ⟨hi, hl1⟩
    · rw [push_at]; exact .inr h.size
    · rw [hnew i hi]; exact h.mine i sb hl1 ho1
  · intro i hi
    rw [World.size_alloc]
    by_cases hin : i = next
    · subst hin; rw [push_at]; omega
    · rw [hnew i (by omega)]; have := h.there i (by omega); omega
  · rw [World.size_alloc]; have := h.size; omega
  · intro g hg hn
    rw [alloc_heap, if_neg (by have := h.size; omega)]
    exact h.block g hg hn

/-- nothing that is there has changed -/
theorem HMod.below {heap : List (Nat × SB)} {next : Nat} {w' : World} (h : HMod w0 own heap next ρ w) (hb : Below w.heap.size w w') : HMod w0 own heap next ρ w' := by
  refine ⟨?_, h.inj, h.mine, ?_, hb.os.trans h.os, hb.tape.trans h.tape, hb.output.trans h.output, ?_, ?_, h.glob.keep fun g hg => (hb.block g (by have := h.gsz; have := h.size; omega)), h.gsz, h.gown⟩
  · intro i sb hl
    obtain ⟨h1, h2⟩ := h.rel i sb hl
    exact ⟨h1, by rw [hb.block _ (h.there i h1)]; exact h2⟩
  · intro i hi; have := h.there i hi; have := hb.size; omega
  · have := h.size; have := hb.size; omega
  · intro g hg hn
    rw [hb.block g (by have := h.size; omega)]
    exact h.block g hg hn

theorem HMod.drew {heap : List (Nat × SB)} {next : Nat} (h : HMod w0 own heap next ρ w) : HMod w0 own heap next ρ { w with drawn := w.drawn + 1 } :=
  h.below ⟨rfl, rfl, rfl, Nat.le_refl _, fun _ _ => rfl⟩

/-- a known block of ours written anew -/
theorem HMod.write {heap : List (Nat × SB)} {next : Nat} (h : HMod w0 own heap next ρ w) {b : Nat} {cs : List SV} {t : TypeId} (hl : look heap b = some (.cells cs t)) {cs' : List SV} {w' : World}
    (hos : w'.os = w.os) (htape : w'.tape = w.tape) (hout : w'.output = w.output) (hsize : w'.heap.size = w.heap.size) (hother : ∀ g, g ≠ ρ b → w'.heap[g]? = w.heap[g]?)
    (hnew : ∃ vs fr, w'.heap[ρ b]? = some (.cells vs.toArray t fr) ∧ RelL next ρ cs' vs ∧ ∀ i, i < vs.length → ¬ (fr.1 ≤ i ∧ i < fr.2)) :
    HMod w0 own ((b, .cells cs' t) :: heap) next ρ w' := by
  have hb := (h.rel b _ hl).1
  have key : ∀ i sb, look ((b, SB.cells cs' t) :: heap) i = some sb → (i = b ∧ sb = .cells cs' t) ∨ (i ≠ b ∧ look heap i = some sb) := by
    intro i sb hl
    by_cases hi : b = i
    · subst hi; rw [look_cons_same] at hl; cases hl; exact .inl ⟨rfl, rfl⟩
    · rw [look_cons_ne hi] at hl; exact .inr ⟨fun e => hi e.symm, hl⟩
  refine ⟨?_, ?_, ?_, ?_, hos.trans h.os, htape.trans h.tape, hout.trans h.output, by rw [hsize]; exact h.size, ?_, h.glob.keep fun g hg => (hother g (by
    rintro rfl
    rcases h.mine _ _ hl rfl with h1 | h1
    · exact h.gown _ hg h1
    · have := h.gsz; omega)), h.gsz, h.gown⟩
  · intro i sb hli
    rcases key i sb hli with ⟨rfl, rfl⟩ | ⟨hi, hl'⟩
    · exact ⟨hb, hnew⟩
    · obtain ⟨h1, h2⟩ := h.rel i sb hl'
      refine ⟨h1, ?_⟩
      cases sb with
      | junk => trivial
      | cells c2 t2 =>
        rw [hother _ (h.inj i b _ _ hl' hl rfl rfl hi)]
        exact h2
  · intro i j sb sb' hl1 hl2 ho1 ho2 hij
    rcases key i sb hl1 with ⟨rfl, rfl⟩ | ⟨hi, hl1'⟩ <;> rcases key j sb' hl2 with ⟨rfl, rfl⟩ | ⟨hj, hl2'⟩
    · exact absurd rfl hij
    · exact h.inj _ _ _ _ hl hl2' rfl ho2 hij
    · exact h.inj _ _ _ _ hl1' hl ho1 rfl hij
    · exact h.inj _ _ _ _ hl1' hl2' ho1 ho2 hij
  · intro i sb hli ho1
    rcases key i sb hli with ⟨rfl, rfl⟩ | ⟨hi, hl1⟩
    · exact h.mine _ _ hl rfl
    · exact h.mine i sb hl1 ho1
  · intro i hi; rw [hsize]; exact h.there i hi
  · intro g hg hn
    rw [hother g ?_]
    · exact h.block g hg hn
    · rintro rfl
      rcases h.mine _ _ hl rfl with h1 | h1
      · exact hn h1
      · omega

theorem setCell_heap (w : World) (g o : Nat) (v : Value) (k : Nat) : (w.setCell ⟨g, o, none⟩ v).heap[k]? =
    if k = g then (w.heap[g]?).map (fun | .cells c e f => .cells (c.setIfInBounds o v) e f | x => x) else w.heap[k]? := by
  simp only [World.setCell, Array.getElem?_modify]
  by_cases hk : k = g
  · subst hk
    simp
    cases w.heap[k]? <;> simp
    rename_i o
    cases o <;> simp
  · rw [if_neg (fun e => hk e.symm), if_neg hk]

/-- stores into one block -/
theorem run_stores (P : Program) (g : Nat) (t : TypeId) (fr : Nat × Nat) : ∀ (us : List Value) (o i : Nat) (vs : List Value) (w : World), w.heap[g]? = some (.cells vs.toArray t fr) → o + i + us.length ≤ vs.length →
    (∀ j, j < vs.length → ¬ (fr.1 ≤ j ∧ j < fr.2)) → (∀ u ∈ us, u.oneCell' = true) →
    ∃ w', (storeCells ⟨g, o, none⟩ us i).run P w = .ok () w' ∧ w'.os = w.os ∧ w'.tape = w.tape ∧ w'.output = w.output ∧ w'.heap.size = w.heap.size ∧
      (∀ k, k ≠ g → w'.heap[k]? = w.heap[k]?) ∧ w'.heap[g]? = some (.cells (vs.take (o + i) ++ us ++ vs.drop (o + i + us.length)).toArray t fr) := by
  intro us
  induction us with
  | nil =>
    intro o i vs w h _ _ _
    exact ⟨w, rfl, rfl, rfl, rfl, rfl, fun _ _ => rfl, by simpa using h⟩
  | cons u us ih =>
    intro o i vs w h hl hf hu
    simp only [List.length_cons] at hl
    have hadd : Addr.add ⟨g, o, none⟩ i = ⟨g, o + i, none⟩ := by unfold Addr.add; split <;> simp_all
    have hc : w.cell? ⟨g, o + i, none⟩ = vs[o + i]? := cell_of h
    have hc' : ∃ x, w.cell? ⟨g, o + i, none⟩ = some x := ⟨vs[o + i]'(by omega), by rw [hc]; exact List.getElem?_eq_getElem _⟩
    obtain ⟨x, hx⟩ := hc'
    have hfz : w.frozen? ⟨g, o + i, none⟩ = false := by
      have h1 := hf (o + i) (by omega)
      simp only [World.frozen?, h]
      simp only [Bool.and_eq_false_iff, decide_eq_false_iff_not]
      by_cases h2 : fr.1 ≤ o + i
      · exact .inr fun h3 => h1 ⟨h2, h3⟩
      · exact .inl h2
    have hst : (store ⟨g, o + i, none⟩ u).run P w = .ok () (w.setCell ⟨g, o + i, none⟩ u) := by
      have hone := hu u (List.mem_cons_self ..)
      rw [run_store P w _ u _ hone, hx]
      simp [hfz]
    have h' : (w.setCell ⟨g, o + i, none⟩ u).heap[g]? = some (.cells (vs.set (o + i) u).toArray t fr) := by
      rw [setCell_heap, if_pos rfl, h]; simp
    obtain ⟨w', h1, h2, h3, h4, h5, h6, h7⟩ := ih o (i + 1) (vs.set (o + i) u) _ h' (by simp; omega) (by simpa using hf) (fun v hv => hu v (List.mem_cons_of_mem _ hv))
    refine ⟨w', ?_, h2, h3, h4, ?_, ?_, ?_⟩
    · simp only [storeCells, Sem.run_bind, hadd, hst, Result.andThen_ok, h1]
    · rw [h5, World.size_setCell]
    · intro k hk; rw [h6 k hk, setCell_heap, if_neg hk]
    · rw [h7]
      congr 3
      have e1 : o + (i + 1) = o + i + 1 := by omega
      rw [e1]
      generalize o + i = q at *
      apply List.ext_getElem?
      intro k
      simp only [List.getElem?_append, List.getElem?_take, List.length_take, List.length_append, List.length_set, List.getElem?_drop, List.length_cons, List.getElem?_set]
      have hq : q < vs.length := by omega
      have m1 : min (q + 1) vs.length = q + 1 := by omega
      have m2 : min q vs.length = q := by omega
      simp only [m1, m2]
      rcases Nat.lt_trichotomy k q with hk | hk | hk
      · simp [show k < q + 1 by omega, hk, show k < q + 1 + us.length by omega, show k < q + (us.length + 1) by omega, show q ≠ k by omega]
      · subst hk
        simp [show k < k + 1 + us.length by omega, show k < k + (us.length + 1) by omega, hq]
      · by_cases h2 : k < q + (us.length + 1)
        · rw [if_pos (by omega), if_neg (by omega), if_pos (by omega), if_neg (by omega)]
          have : k - q = k - (q + 1) + 1 := by omega
          rw [this, List.getElem?_cons_succ]
        · rw [if_neg (by omega), if_neg (by omega)]
          have e3 : q + 1 + us.length + (k - (q + 1 + us.length)) = q + (us.length + 1) + (k - (q + (us.length + 1))) := by omega
          rw [e3, if_neg (by omega)]

end
end Go.Proofs.YtlobbcodnkfbiaaDoor.Sx
