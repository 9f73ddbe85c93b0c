/-
  SyR: from what a row reads to what a contract asks: strings, slices of strings; arguments read again behind the call.
-/
import Derived.Test.YtjiamfajgllelaaSyC
import Derived.SliceStrings
import Derived.Carry
import Derived.OpenShut
namespace Go.Proofs.Ytjiamfajgllelaa.Sy
open Go Go.RowKit Go.WideShapes Go.ChangeShapes

/-- all that is there, as it is -/
def envAll (w : World) : Env := ⟨id, fun _ => false, fun _ => 0, fun g => w.heap[g]?⟩

section
variable {H : Type} {enc : TypeId × Value → H} {P : Program}

theorem cell_block {w : World} {b o : Nat} {v : Value} (h : w.cell? ⟨b, o, none⟩ = some v) : ∃ us t fr, w.heap[b]? = some (.cells us t fr) ∧ us[o]? = some v := by
  unfold World.cell? at h
  split at h
  · rename_i c t fr hb
    exact ⟨c, t, fr, hb, by simpa using h⟩
  · cases h

theorem open_strs {r : Reach} {b0 : Nat} {W : World} {t e : TypeId} {v : Value} {d : DataW H} {ps : List MemPlace} (ht : P.underlying t = some (.slice e)) (he : P.underlying e = some .string) (hc : P.cellsOf e = 1)
    (hval : Value.okWide P W r b0 t v) (h : DataW.Trod enc P W 0 (fun _ => true) true t v d ps) :
    ∃ L : List ByteArray, Rel 0 (envAll W) (.rs 1 L.length (fun i => [.c (.string (L.getD i .empty))])) v ∧ L.length ≤ 9223372036854775807 ∧ ∀ s ∈ L, s.size ≤ 9223372036854775807 := by
  obtain ⟨a0, len, cap, rfl⟩ := okWide_slice ht hval
  obtain ⟨fuel, hf⟩ := h
  rcases open_strings ht he hc hf with ⟨hcs, _⟩ | ⟨a, len', cap', ss, hcs, _, hl, hm, hz, _, hcell, hws⟩
  · simp [Value.cells] at hcs
    obtain ⟨rfl, rfl, rfl⟩ := hcs
    exact ⟨[], .rs0 _ _ _ _, by simp, by simp⟩
  · simp [Value.cells] at hcs
    obtain ⟨rfl, rfl, rfl⟩ := hcs
    simp only [if_true] at hz
    have hm' : cap ≤ 9223372036854775807 := hm
    by_cases h0 : len = 0
    · subst h0
      exact ⟨[], .rs0 _ _ _ _, by simp, by simp⟩
    obtain ⟨b, off, spot⟩ := a
    have hspot : spot = none := by simpa [Addr.add] using World.cell?_spot (hcell 0 (by omega))
    subst hspot
    have hc' : ∀ i, i < ss.length → W.cell? ⟨b, off + i, none⟩ = some (.string (ss.getD i .empty)) := fun i hi => by rw [← add_lit]; exact hcell i hi
    obtain ⟨us, tt, fr, hb, _⟩ := cell_block (hc' 0 (by omega))
    have hu : ∀ i, i < ss.length → us[off + i]? = some (.string (ss.getD i .empty)) := fun i hi => by
      have := hc' i hi
      rw [show us = us.toList.toArray from rfl] at hb
      rw [cell_of hb] at this
      simpa using this
    have hlen : (ss.take len).length = len := by simp; omega
    have hd : ∀ i, i < len → (us.toList.drop (off + i * 1)).take 1 = [.string ((ss.take len).getD i .empty)] := fun i hi => by
      have h1 := hu i (by omega)
      have h3 : off + i < us.size := (Array.getElem?_eq_some_iff.1 h1).1
      rw [Nat.mul_one, List.drop_eq_getElem_cons (by simpa using h3)]
      have h4 := (Array.getElem?_eq_some_iff.1 h1).2
      simp only [List.take_succ_cons, List.take_zero, Array.getElem_toList]
      rw [h4]
      congr 2
      simp [List.getD, List.getElem?_take, hi]
    refine ⟨ss.take len, ?_, by rw [hlen]; omega, fun s hs => hws s (List.mem_of_mem_take hs)⟩
    rw [hlen]
    refine .rs _ _ _ b off cap us.toList tt fr (by omega) hl (show W.heap[b]? = _ from hb) ?_ (fun i hi => ?_) (fun u hu' => ?_)
    · have := (Array.getElem?_eq_some_iff.1 (hu (len - 1) (by omega))).1
      simp; omega
    · rw [hd i hi]
      exact .cons _ _ _ _ rfl (.c _) .nil
    · obtain ⟨i, hi⟩ := List.getElem?_of_mem hu'
      rw [List.getElem?_take] at hi
      split at hi
      · rename_i hlt
        rw [List.getElem?_drop] at hi
        have := hu i (by omega)
        rw [← Array.getElem?_toList, hi] at this
        cases this; rfl
      · cases hi

theorem staysAll (hl : laidOutB P = true) {W W' : World} (hb : Below W.heap.size W W') {sp : Nat → Bool} :
    ∀ {ts : List TypeId} {vs : List Value} {ds : List (DataW H)} {ps : List MemPlace}, (ts.all fun t => P.readableRec t && decide (t < P.types.size)) = true → DataW.TrodAll enc P W 0 (fun _ => true) true ts vs ds ps →
    (∀ x ∈ ps, x.block < W.heap.size) → (∀ x ∈ ps, sp x.block = true) → DataW.TrodAll enc P W' 0 sp true ts vs ds ps
  | [], vs, ds, ps, _, h, _, _ => by
      obtain ⟨rfl, rfl, rfl⟩ := trodAll_nil h
      exact trodAll_mk0
  | t :: ts, vs, ds, ps, hr, h, hlt, hsp => by
      simp only [List.all_cons, Bool.and_eq_true, decide_eq_true_eq] at hr
      obtain ⟨v, vs', d, ds', p, q, rfl, rfl, rfl, h1, h2⟩ := trodAll_cons h
      exact trodAll_cons_mk (WideElems.Trod_stays hl hr.1.1 hr.1.2 h1 (fun x hx => hb.same (hlt x (List.mem_append_left _ hx))) (fun x hx => hsp x (List.mem_append_left _ hx)))
        (staysAll hl hb hr.2 h2 (fun x hx => hlt x (List.mem_append_right _ hx)) (fun x hx => hsp x (List.mem_append_right _ hx)))
end
end Go.Proofs.Ytjiamfajgllelaa.Sy
