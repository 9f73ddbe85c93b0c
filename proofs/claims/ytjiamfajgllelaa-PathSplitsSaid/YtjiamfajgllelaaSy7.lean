/-
  Sx7: what the operations that change the world do to a state.
-/
import Derived.Test.YtjiamfajgllelaaSy6
namespace Go.Proofs.Ytjiamfajgllelaa.Sy
open Go Go.RowKit

section
variable {P : Program} {w0 : World} {own : Nat → Prop} {ρ0 : Nat × Env} {σ : St} {ρ : Env} {a : Act} {w : World}

/-- ρ with one block more -/
def push (ρ : Env) (n g : Nat) (no : Bool) (cap : Nat) : Env := ⟨fun i => if i = n then g else ρ i, fun i => if i = n then no else ρ.no i, fun i => if i = n then cap else ρ.cap i, ρ.R⟩
theorem push_ext (ρ : Env) (n g : Nat) (no : Bool) (cap : Nat) : Ext n ρ (push ρ n g no cap) :=
  ⟨fun i hi => by simp [push, Nat.ne_of_lt hi], fun _ _ h => h⟩
theorem push_at (ρ : Env) (n g : Nat) (no : Bool) (cap : Nat) : push ρ n g no cap n = g := by simp [push]
theorem push_no (ρ : Env) (n g : Nat) (no : Bool) (cap : Nat) : (push ρ n g no cap).no n = no := by simp [push]
theorem push_cap (ρ : Env) (n g : Nat) (no : Bool) (cap : Nat) : (push ρ n g no cap).cap n = cap := by simp [push]
theorem push_R (ρ : Env) (n g : Nat) (no : Bool) (cap : Nat) : (push ρ n g no cap).R = ρ.R := rfl

theorem BRel.ext {n n' : Nat} {ρ ρ' : Env} (hn : n ≤ n') (he : Ext n ρ ρ') {i : Nat} (hi : i < n) {sb : SB} {o : Option Obj} (h : BRel n ρ i sb o) : BRel n' ρ' i sb o := by
  obtain ⟨e1, e2, e3⟩ := he.1 i hi
  cases sb with
  | cells cs t => obtain ⟨h0, vs, fr, h1, h2, h3⟩ := h; exact ⟨e2.trans h0, vs, fr, h1, h2.ext hn he, h3⟩
  | arr t wd m f =>
    rcases h with ⟨h0, h1⟩ | ⟨h0, us, h1, h2, h3, h4, h5, h6⟩
    · exact .inl ⟨e2.trans h0, h1⟩
    · exact .inr ⟨e2.trans h0, us, h1, by rw [e3]; exact h2, by rw [e3]; exact h3, by rw [e3]; exact h4, h5, fun j hj => (h6 j hj).R0 he.2 0⟩
  | map m kf vf =>
    obtain ⟨h0, es, clock, h1, h2, h3, h4⟩ := h
    exact ⟨e2.trans h0, es, clock, h1, h2, fun j e hj => ⟨(h3 j e hj).1.R0 he.2 0, (h3 j e hj).2.1.R0 he.2 0, (h3 j e hj).2.2⟩, h4⟩
  | siter s pos => exact ⟨e2.trans h.1, h.2⟩
  | junk => trivial

theorem BRel.real {n : Nat} {ρ : Env} {i : Nat} {sb : SB} {o : Option Obj} (h : BRel n ρ i sb o) (hs : sb.owned = true) (ha : ∀ t wd m f, sb ≠ .arr t wd m f) : ρ.no i = false := by
  cases sb with
  | cells => exact h.1
  | arr t wd m f => exact absurd rfl (ha t wd m f)
  | map => exact h.1
  | siter => exact h.1
  | junk => cases hs

theorem alloc_heap (w : World) (o : Obj) (g : Nat) : (w.alloc o).heap[g]? = if g = w.heap.size then some o else w.heap[g]? := by
  show (w.heap.push o)[g]? = _
  rw [Array.getElem?_push]

/-- a new block, of whatever kind -/
theorem HMod.allocSB {heap : List (Nat × SB)} {next : Nat} (h : HMod w0 own heap next ρ w) {sb : SB} {ob : Obj} (cap : Nat) (hso : sb.owned = true)
    (hr : BRel (next + 1) (push ρ next w.heap.size false cap) next sb (some ob)) :
    HMod w0 own ((next, sb) :: heap) (next + 1) (push ρ next w.heap.size false cap) (w.alloc ob) := by
  have hext := push_ext ρ next w.heap.size false cap
  have hnew : ∀ i, i < next → push ρ next w.heap.size false cap i = ρ i := fun i hi => (hext.1 i hi).1
  have hno : ∀ i, i < next → (push ρ next w.heap.size false cap).no i = ρ.no i := fun i hi => (hext.1 i hi).2.1
  have old : ∀ i sb, look heap i = some sb → i < next := fun i sb hl => (h.rel i sb hl).1
  have key : ∀ i sb', look ((next, sb) :: heap) i = some sb' → (i = next ∧ sb' = sb) ∨ (i < next ∧ look heap i = some sb') := by
    intro i sb' hl
    by_cases hi : next = i
    · subst hi; rw [look_cons_same] at hl; cases hl; exact .inl ⟨rfl, rfl⟩
    · rw [look_cons_ne hi] at hl; exact .inr ⟨old _ _ hl, hl⟩
  have hR : ρ.R w.heap.size = none := by
    cases hr : ρ.R w.heap.size with
    | none => rfl
    | some o => have := h.ro _ _ hr; simp at this
  refine ⟨?_, ?_, ?_, h.os, h.tape, h.output, ?_, ?_, h.glob.keep fun g hg => (by rw [alloc_heap, if_neg (by have := h.gsz; have := h.size; omega)]), h.gsz, h.gown, ?_⟩
  · intro i sb' hl
    rcases key i sb' hl with ⟨rfl, rfl⟩ | ⟨hi, hl'⟩
    · refine ⟨Nat.lt_succ_self _, ?_⟩
      rw [push_at, alloc_heap, if_pos rfl]
      exact hr
    · refine ⟨by omega, ?_⟩
      have h2 := (h.rel i sb' hl').2
      rw [hnew i hi, alloc_heap]
      by_cases hrl : sb'.owned = true ∧ ρ.no i = false
      · rw [if_neg (by have := (h.mine i sb' hl' hrl.1 hrl.2).2.1; omega)]
        exact h2.ext (Nat.le_succ _) hext hi
      · have h3 : BRel next ρ i sb' (if ρ i = w.heap.size then some ob else w.heap[ρ i]?) := by
          cases sb' with
          | junk => trivial
          | arr t wd m f =>
            rcases h2 with h2 | h2
            · exact .inl h2
            · exact absurd ⟨rfl, h2.1⟩ hrl
          | cells => exact absurd ⟨rfl, h2.1⟩ hrl
          | map => exact absurd ⟨rfl, h2.1⟩ hrl
          | siter => exact absurd ⟨rfl, h2.1⟩ hrl
        exact h3.ext (Nat.le_succ _) hext hi
  · intro i j sb1 sb2 hl hl' ho1 ho2 n1 n2 hij
    rcases key i sb1 hl with ⟨rfl, rfl⟩ | ⟨hi, hl1⟩ <;> rcases key j sb2 hl' with ⟨rfl, rfl⟩ | ⟨hj, hl2⟩
    · exact absurd rfl hij
    · rw [hno j hj] at n2
      rw [push_at, hnew j hj]; have := (h.mine j sb2 hl2 ho2 n2).2.1; omega
    · rw [hno i hi] at n1
      rw [push_at, hnew i hi]; have := (h.mine i sb1 hl1 ho1 n1).2.1; omega
    · rw [hno i hi] at n1
      rw [hno j hj] at n2
      rw [hnew i hi, hnew j hj]; exact h.inj i j _ _ hl1 hl2 ho1 ho2 n1 n2 hij
  · intro i sb1 hl ho1 n1
    rcases key i sb1 hl with ⟨rfl, rfl⟩ | ⟨hi, hl1⟩
    · rw [push_at, push_R, World.size_alloc]; exact ⟨.inr h.size, Nat.lt_succ_self _, hR⟩
    · rw [hno i hi] at n1
      rw [hnew i hi, push_R, World.size_alloc]
      obtain ⟨m1, m2, m3⟩ := h.mine i sb1 hl1 ho1 n1
      exact ⟨m1, by omega, m3⟩
  · rw [World.size_alloc]; have := h.size; omega
  · intro g hg hn
    rw [alloc_heap, if_neg (by have := h.size; omega)]
    exact h.block g hg hn
  · intro g o hg
    have := h.ro g o hg
    rw [alloc_heap, if_neg (by have := (Array.getElem?_eq_some_iff.1 this).1; omega)]
    exact this

theorem HMod.alloc {heap : List (Nat × SB)} {next : Nat} (h : HMod w0 own heap next ρ w) {cs : List SV} {vs : List Value} (t : TypeId) (hr : RelL next ρ cs vs) :
    HMod w0 own ((next, .cells cs t) :: heap) (next + 1) (push ρ next w.heap.size false 0) (w.alloc (.cells vs.toArray t)) :=
  h.allocSB 0 rfl ⟨push_no _ _ _ _ _, vs, (0, 0), rfl, hr.ext (Nat.le_succ _) (push_ext _ _ _ _ _), fun i _ hh => by simp at hh⟩

/-- nothing that is there has changed -/
theorem HMod.below {heap : List (Nat × SB)} {next : Nat} {w' : World} (h : HMod w0 own heap next ρ w) (hb : Below w.heap.size w w') : HMod w0 own heap next ρ w' := by
  refine ⟨?_, h.inj, ?_, hb.os.trans h.os, hb.tape.trans h.tape, hb.output.trans h.output, ?_, ?_, h.glob.keep fun g hg => (hb.block g (by have := h.gsz; have := h.size; omega)), h.gsz, h.gown, ?_⟩
  · intro i sb hl
    obtain ⟨h1, h2⟩ := h.rel i sb hl
    refine ⟨h1, ?_⟩
    by_cases hrl : sb.owned = true ∧ ρ.no i = false
    · rw [hb.block _ (h.mine i sb hl hrl.1 hrl.2).2.1]; exact h2
    · cases sb with
      | junk => trivial
      | arr t wd m f =>
        rcases h2 with h2 | h2
        · exact .inl h2
        · exact absurd ⟨rfl, h2.1⟩ hrl
      | cells => exact absurd ⟨rfl, h2.1⟩ hrl
      | map => exact absurd ⟨rfl, h2.1⟩ hrl
      | siter => exact absurd ⟨rfl, h2.1⟩ hrl
  · intro i sb hl ho n1
    obtain ⟨m1, m2, m3⟩ := h.mine i sb hl ho n1
    exact ⟨m1, by have := hb.size; omega, m3⟩
  · have := h.size; have := hb.size; omega
  · intro g hg hn
    rw [hb.block g (by have := h.size; omega)]
    exact h.block g hg hn
  · intro g o hg
    have := h.ro g o hg
    rw [hb.block g (Array.getElem?_eq_some_iff.1 this).1]
    exact this

theorem HMod.drew {heap : List (Nat × SB)} {next : Nat} (h : HMod w0 own heap next ρ w) : HMod w0 own heap next ρ { w with drawn := w.drawn + 1 } :=
  h.below ⟨rfl, rfl, rfl, Nat.le_refl _, fun _ _ => rfl⟩

/-- a known block of ours written anew, by what may have made others; its index may be another one from now on -/
theorem HMod.writeSB {heap : List (Nat × SB)} {next : Nat} (h : HMod w0 own heap next ρ w) {b : Nat} {sb0 sb : SB} (hl : look heap b = some sb0) (ho : sb0.owned = true) (hno : ρ.no b = false) {w' : World}
    (hos : w'.os = w.os) (htape : w'.tape = w.tape) (hout : w'.output = w.output) (hsize : w.heap.size ≤ w'.heap.size) (hother : ∀ g, g < w.heap.size → g ≠ ρ b → w'.heap[g]? = w.heap[g]?)
    (hnew : BRel next ρ b sb w'.heap[ρ b]?) : HMod w0 own ((b, sb) :: heap) next ρ w' := by
  have hb := (h.rel b _ hl).1
  obtain ⟨mb1, mb2, mb3⟩ := h.mine b _ hl ho hno
  have key : ∀ i sb', look ((b, sb) :: heap) i = some sb' → (i = b ∧ sb' = sb) ∨ (i ≠ b ∧ look heap i = some sb') := by
    intro i sb' hl
    by_cases hi : b = i
    · subst hi; rw [look_cons_same] at hl; cases hl; exact .inl ⟨rfl, rfl⟩
    · rw [look_cons_ne hi] at hl; exact .inr ⟨fun e => hi e.symm, hl⟩
  have hgb : ∀ g, g < NG → g ≠ ρ b := by
    intro g hg e
    rcases mb1 with h1 | h1
    · exact h.gown _ hg (by rw [e]; exact h1)
    · have := h.gsz; omega
  refine ⟨?_, ?_, ?_, hos.trans h.os, htape.trans h.tape, hout.trans h.output, Nat.le_trans h.size hsize, ?_, h.glob.keep fun g hg => (hother g (by have := h.gsz; have := h.size; omega) (hgb g hg)), h.gsz, h.gown, ?_⟩
  · intro i sb' hli
    rcases key i sb' hli with ⟨rfl, rfl⟩ | ⟨hi, hl'⟩
    · exact ⟨hb, hnew⟩
    · obtain ⟨h1, h2⟩ := h.rel i sb' hl'
      refine ⟨h1, ?_⟩
      by_cases hrl : sb'.owned = true ∧ ρ.no i = false
      · rw [hother _ (h.mine i _ hl' hrl.1 hrl.2).2.1 (h.inj i b _ _ hl' hl hrl.1 ho hrl.2 hno hi)]
        exact h2
      · cases sb' with
        | junk => trivial
        | arr t wd m f =>
          rcases h2 with h2 | h2
          · exact .inl h2
          · exact absurd ⟨rfl, h2.1⟩ hrl
        | cells => exact absurd ⟨rfl, h2.1⟩ hrl
        | map => exact absurd ⟨rfl, h2.1⟩ hrl
        | siter => exact absurd ⟨rfl, h2.1⟩ hrl
  · intro i j sb1 sb2 hl1 hl2 ho1 ho2 n1 n2 hij
    rcases key i sb1 hl1 with ⟨rfl, rfl⟩ | ⟨hi, hl1'⟩ <;> rcases key j sb2 hl2 with ⟨rfl, rfl⟩ | ⟨hj, hl2'⟩
    · exact absurd rfl hij
    · exact h.inj _ _ _ _ hl hl2' ho ho2 n1 n2 hij
    · exact h.inj _ _ _ _ hl1' hl ho1 ho n1 n2 hij
    · exact h.inj _ _ _ _ hl1' hl2' ho1 ho2 n1 n2 hij
  · intro i sb1 hli ho1 n1
    rcases key i sb1 hli with ⟨rfl, rfl⟩ | ⟨hi, hl1⟩
    · exact ⟨mb1, by omega, mb3⟩
    · obtain ⟨m1, m2, m3⟩ := h.mine i sb1 hl1 ho1 n1
      exact ⟨m1, by omega, m3⟩
  · intro g hg hn
    rw [hother g (by have := h.size; omega) ?_]
    · exact h.block g hg hn
    · rintro rfl
      rcases mb1 with h1 | h1
      · exact hn h1
      · omega
  · intro g o hg
    have := h.ro g o hg
    rw [hother g (Array.getElem?_eq_some_iff.1 this).1 (by rintro rfl; rw [mb3] at hg; cases hg)]
    exact this

theorem HMod.write {heap : List (Nat × SB)} {next : Nat} (h : HMod w0 own heap next ρ w) {b : Nat} {cs : List SV} {t : TypeId} (hl : look heap b = some (.cells cs t)) {cs' : List SV} {w' : World}
    (hos : w'.os = w.os) (htape : w'.tape = w.tape) (hout : w'.output = w.output) (hsize : w'.heap.size = w.heap.size) (hother : ∀ g, g ≠ ρ b → w'.heap[g]? = w.heap[g]?)
    (hnew : ∃ vs fr, w'.heap[ρ b]? = some (.cells (List.toArray vs) t fr) ∧ RelL next ρ cs' vs ∧ ∀ i, i < vs.length → ¬ (fr.1 ≤ i ∧ i < fr.2)) :
    HMod w0 own ((b, .cells cs' t) :: heap) next ρ w' :=
  h.writeSB hl rfl (h.rel _ _ hl).2.1 hos htape hout (by omega) (fun g _ => hother g) ⟨(h.rel _ _ hl).2.1, hnew⟩

/-- an index set aside -/
theorem HMod.junk {heap : List (Nat × SB)} {next : Nat} (h : HMod w0 own heap next ρ w) {b : Nat} (hb : b < next) : HMod w0 own ((b, .junk) :: heap) next ρ w := by
  have key : ∀ i sb', look ((b, SB.junk) :: heap) i = some sb' → (i = b ∧ sb' = .junk) ∨ (i ≠ b ∧ look heap i = some sb') := by
    intro i sb' hl
    by_cases hi : b = i
    · subst hi; rw [look_cons_same] at hl; cases hl; exact .inl ⟨rfl, rfl⟩
    · rw [look_cons_ne hi] at hl; exact .inr ⟨fun e => hi e.symm, hl⟩
  refine ⟨?_, ?_, ?_, h.os, h.tape, h.output, h.size, h.block, h.glob, h.gsz, h.gown, h.ro⟩
  · intro i sb hl
    rcases key i sb hl with ⟨rfl, rfl⟩ | ⟨_, hl⟩
    · exact ⟨hb, trivial⟩
    · exact h.rel i sb hl
  · intro i j sb1 sb2 hl1 hl2 ho1 ho2 n1 n2 hij
    rcases key i sb1 hl1 with ⟨rfl, rfl⟩ | ⟨hi, hl1'⟩
    · cases ho1
    rcases key j sb2 hl2 with ⟨rfl, rfl⟩ | ⟨hj, hl2'⟩
    · cases ho2
    exact h.inj _ _ _ _ hl1' hl2' ho1 ho2 n1 n2 hij
  · intro i sb1 hl1 ho1 n1
    rcases key i sb1 hl1 with ⟨rfl, rfl⟩ | ⟨hi, hl1'⟩
    · cases ho1
    exact h.mine i sb1 hl1' ho1 n1

/-- a slice with no row behind it -/
theorem HMod.phantom {heap : List (Nat × SB)} {next : Nat} (h : HMod w0 own heap next ρ w) (t : TypeId) (wd : Nat) (f : Nat → List SV) :
    HMod w0 own ((next, .arr t wd 0 f) :: heap) (next + 1) (push ρ next 0 true 0) w := by
  have hext := push_ext ρ next 0 true 0
  have hnew : ∀ i, i < next → push ρ next 0 true 0 i = ρ i := fun i hi => (hext.1 i hi).1
  have hno : ∀ i, i < next → (push ρ next 0 true 0).no i = ρ.no i := fun i hi => (hext.1 i hi).2.1
  have key : ∀ i sb', look ((next, SB.arr t wd 0 f) :: heap) i = some sb' → (i = next ∧ sb' = .arr t wd 0 f) ∨ (i < next ∧ look heap i = some sb') := by
    intro i sb' hl
    by_cases hi : next = i
    · subst hi; rw [look_cons_same] at hl; cases hl; exact .inl ⟨rfl, rfl⟩
    · rw [look_cons_ne hi] at hl; exact .inr ⟨(h.rel _ _ hl).1, hl⟩
  refine ⟨?_, ?_, ?_, h.os, h.tape, h.output, h.size, h.block, h.glob, h.gsz, h.gown, h.ro⟩
  · intro i sb' hl
    rcases key i sb' hl with ⟨rfl, rfl⟩ | ⟨hi, hl'⟩
    · exact ⟨Nat.lt_succ_self _, .inl ⟨push_no _ _ _ _ _, rfl⟩⟩
    · rw [hnew i hi]
      exact ⟨by omega, (h.rel i sb' hl').2.ext (Nat.le_succ _) hext hi⟩
  · intro i j sb1 sb2 hl hl' ho1 ho2 n1 n2 hij
    rcases key i sb1 hl with ⟨rfl, rfl⟩ | ⟨hi, hl1⟩
    · rw [push_no] at n1; cases n1
    rcases key j sb2 hl' with ⟨rfl, rfl⟩ | ⟨hj, hl2⟩
    · rw [push_no] at n2; cases n2
    rw [hno i hi] at n1
    rw [hno j hj] at n2
    rw [hnew i hi, hnew j hj]; exact h.inj i j _ _ hl1 hl2 ho1 ho2 n1 n2 hij
  · intro i sb1 hl ho1 n1
    rcases key i sb1 hl with ⟨rfl, rfl⟩ | ⟨hi, hl1⟩
    · rw [push_no] at n1; cases n1
    rw [hno i hi] at n1
    rw [hnew i hi, push_R]
    exact h.mine i sb1 hl1 ho1 n1

/-- a block goes on under a new index -/
theorem HMod.rename {heap : List (Nat × SB)} {next : Nat} (h : HMod w0 own heap next ρ w) {b : Nat} {sb0 sb : SB} (cap : Nat) (hl : look heap b = some sb0) (ho : sb0.owned = true) (hno : ρ.no b = false)
    (hr : BRel (next + 1) (push ρ next (ρ b) false cap) next sb w.heap[ρ b]?) :
    HMod w0 own ((next, sb) :: (b, .junk) :: heap) (next + 1) (push ρ next (ρ b) false cap) w := by
  have hext := push_ext ρ next (ρ b) false cap
  have hnew : ∀ i, i < next → push ρ next (ρ b) false cap i = ρ i := fun i hi => (hext.1 i hi).1
  have hnoi : ∀ i, i < next → (push ρ next (ρ b) false cap).no i = ρ.no i := fun i hi => (hext.1 i hi).2.1
  have hbn := (h.rel _ _ hl).1
  obtain ⟨mb1, mb2, mb3⟩ := h.mine b _ hl ho hno
  have key : ∀ i sb', look ((next, sb) :: (b, SB.junk) :: heap) i = some sb' → (i = next ∧ sb' = sb) ∨ (i = b ∧ sb' = .junk) ∨ (i < next ∧ i ≠ b ∧ look heap i = some sb') := by
    intro i sb' hl
    by_cases hi : next = i
    · subst hi; rw [look_cons_same] at hl; cases hl; exact .inl ⟨rfl, rfl⟩
    · rw [look_cons_ne hi] at hl
      by_cases hib : b = i
      · subst hib; rw [look_cons_same] at hl; cases hl; exact .inr (.inl ⟨rfl, rfl⟩)
      · rw [look_cons_ne hib] at hl; exact .inr (.inr ⟨(h.rel _ _ hl).1, fun e => hib e.symm, hl⟩)
  refine ⟨?_, ?_, ?_, h.os, h.tape, h.output, h.size, h.block, h.glob, h.gsz, h.gown, h.ro⟩
  · intro i sb' hl'
    rcases key i sb' hl' with ⟨rfl, rfl⟩ | ⟨rfl, rfl⟩ | ⟨hi, hib, hl'⟩
    · exact ⟨Nat.lt_succ_self _, by rw [push_at]; exact hr⟩
    · exact ⟨by omega, trivial⟩
    · rw [hnew i hi]
      exact ⟨by omega, (h.rel i sb' hl').2.ext (Nat.le_succ _) hext hi⟩
  · intro i j sb1 sb2 hl1 hl2 ho1 ho2 n1 n2 hij
    rcases key i sb1 hl1 with ⟨rfl, rfl⟩ | ⟨rfl, rfl⟩ | ⟨hi, hib, hl1'⟩ <;> rcases key j sb2 hl2 with ⟨rfl, rfl⟩ | ⟨rfl, rfl⟩ | ⟨hj, hjb, hl2'⟩ <;> (try (cases ho1; done)) <;> (try (cases ho2; done))
    · exact absurd rfl hij
    · rw [hnoi j hj] at n2
      rw [push_at, hnew j hj]; exact (h.inj j b _ _ hl2' hl ho2 ho n2 hno hjb).symm
    · rw [hnoi i hi] at n1
      rw [push_at, hnew i hi]; exact h.inj i b _ _ hl1' hl ho1 ho n1 hno hib
    · rw [hnoi i hi] at n1
      rw [hnoi j hj] at n2
      rw [hnew i hi, hnew j hj]; exact h.inj i j _ _ hl1' hl2' ho1 ho2 n1 n2 hij
  · intro i sb1 hl1 ho1 n1
    rcases key i sb1 hl1 with ⟨rfl, rfl⟩ | ⟨rfl, rfl⟩ | ⟨hi, hib, hl1⟩
    · rw [push_at, push_R]; exact ⟨mb1, mb2, mb3⟩
    · cases ho1
    · rw [hnoi i hi] at n1
      rw [hnew i hi, push_R]
      exact h.mine i sb1 hl1 ho1 n1

theorem setCell_heap (w : World) (g o : Nat) (v : Value) (k : Nat) : (w.setCell ⟨g, o, none⟩ v).heap[k]? =
    if k = g then (w.heap[g]?).map (fun | .cells c e f => .cells (c.setIfInBounds o v) e f | x => x) else w.heap[k]? := by
  simp only [World.setCell, Array.getElem?_modify]
  by_cases hk : k = g
  · subst hk
    simp
    cases w.heap[k]? <;> simp
    rename_i o
    cases o <;> simp
  · rw [if_neg (fun e => hk e.symm), if_neg hk]

/-- stores into one block -/
theorem run_stores (P : Program) (g : Nat) (t : TypeId) (fr : Nat × Nat) : ∀ (us : List Value) (o i : Nat) (vs : List Value) (w : World), w.heap[g]? = some (.cells vs.toArray t fr) → o + i + us.length ≤ vs.length →
    (∀ j, j < vs.length → ¬ (fr.1 ≤ j ∧ j < fr.2)) → (∀ u ∈ us, u.oneCell' = true) →
    ∃ w', (storeCells ⟨g, o, none⟩ us i).run P w = .ok () w' ∧ w'.os = w.os ∧ w'.tape = w.tape ∧ w'.output = w.output ∧ w'.heap.size = w.heap.size ∧
      (∀ k, k ≠ g → w'.heap[k]? = w.heap[k]?) ∧ w'.heap[g]? = some (.cells (vs.take (o + i) ++ us ++ vs.drop (o + i + us.length)).toArray t fr) := by
  intro us
  induction us with
  | nil =>
    intro o i vs w h _ _ _
    exact ⟨w, rfl, rfl, rfl, rfl, rfl, fun _ _ => rfl, by simpa using h⟩
  | cons u us ih =>
    intro o i vs w h hl hf hu
    simp only [List.length_cons] at hl
    have hadd : Addr.add ⟨g, o, none⟩ i = ⟨g, o + i, none⟩ := by unfold Addr.add; split <;> simp_all
    have hc : w.cell? ⟨g, o + i, none⟩ = vs[o + i]? := cell_of h
    have hc' : ∃ x, w.cell? ⟨g, o + i, none⟩ = some x := ⟨vs[o + i]'(by omega), by rw [hc]; exact List.getElem?_eq_getElem _⟩
    obtain ⟨x, hx⟩ := hc'
    have hfz : w.frozen? ⟨g, o + i, none⟩ = false := by
      have h1 := hf (o + i) (by omega)
      simp only [World.frozen?, h]
      simp only [Bool.and_eq_false_iff, decide_eq_false_iff_not]
      by_cases h2 : fr.1 ≤ o + i
      · exact .inr fun h3 => h1 ⟨h2, h3⟩
      · exact .inl h2
    have hst : (store ⟨g, o + i, none⟩ u).run P w = .ok () (w.setCell ⟨g, o + i, none⟩ u) := by
      have hone := hu u (List.mem_cons_self ..)
      rw [run_store P w _ u _ hone, hx]
      simp [hfz]
    have h' : (w.setCell ⟨g, o + i, none⟩ u).heap[g]? = some (.cells (vs.set (o + i) u).toArray t fr) := by
      rw [setCell_heap, if_pos rfl, h]; simp
    obtain ⟨w', h1, h2, h3, h4, h5, h6, h7⟩ := ih o (i + 1) (vs.set (o + i) u) _ h' (by simp; omega) (by simpa using hf) (fun v hv => hu v (List.mem_cons_of_mem _ hv))
    refine ⟨w', ?_, h2, h3, h4, ?_, ?_, ?_⟩
    · simp only [storeCells, Sem.run_bind, hadd, hst, Result.andThen_ok, h1]
    · rw [h5, World.size_setCell]
    · intro k hk; rw [h6 k hk, setCell_heap, if_neg hk]
    · rw [h7]
      congr 3
      have e1 : o + (i + 1) = o + i + 1 := by omega
      rw [e1]
      generalize o + i = q at *
      apply List.ext_getElem?
      intro k
      simp only [List.getElem?_append, List.getElem?_take, List.length_take, List.length_append, List.length_set, List.getElem?_drop, List.length_cons, List.getElem?_set]
      have hq : q < vs.length := by omega
      have m1 : min (q + 1) vs.length = q + 1 := by omega
      have m2 : min q vs.length = q := by omega
      simp only [m1, m2]
      rcases Nat.lt_trichotomy k q with hk | hk | hk
      · simp [show k < q + 1 by omega, hk, show k < q + 1 + us.length by omega, show k < q + (us.length + 1) by omega, show q ≠ k by omega]
      · subst hk
        simp [show k < k + 1 + us.length by omega, show k < k + (us.length + 1) by omega, hq]
      · by_cases h2 : k < q + (us.length + 1)
        · rw [if_pos (by omega), if_neg (by omega), if_pos (by omega), if_neg (by omega)]
          have : k - q = k - (q + 1) + 1 := by omega
          rw [this, List.getElem?_cons_succ]
        · rw [if_neg (by omega), if_neg (by omega)]
          have e3 : q + 1 + us.length + (k - (q + 1 + us.length)) = q + (us.length + 1) + (k - (q + (us.length + 1))) := by omega
          rw [e3, if_neg (by omega)]

end
end Go.Proofs.Ytjiamfajgllelaa.Sy
