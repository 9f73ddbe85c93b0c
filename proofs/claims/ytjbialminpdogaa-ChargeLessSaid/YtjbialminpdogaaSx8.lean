/-
  Sx8: each operation keeps a state fitting.
-/
import Derived.Test.YtjbialminpdogaaSx7
namespace Go.Proofs.Ytjbialminpdogaa.Sx
open Go Go.RowKit

/-- a state that fits, of which K holds -/
def Sat (w0 : World) (own : Nat → Prop) (ρ0 : Nat × (Nat → Nat)) (K : St → Prop) (a : Act) (w : World) : Prop := ∃ σ ρ, K σ ∧ Mod w0 own ρ0 σ ρ a w

/-- operations that leave alone what is there -/
def harmless {P : Program} (Γ : Gam P) : Op → Bool
  | .box .. | .alloc _ | .buildSlice .. => true
  | .call ⟨.value (.func f), _, _⟩ => (findP Γ.ps f).isSome
  | op => silentOp op

section
variable {P : Program} {w0 : World} {own : Nat → Prop} {ρ0 : Nat × (Nat → Nat)} {σ : St} {ρ : Nat → Nat} {a : Act} {w : World} {Γ : Gam P} {K : St → Prop}

theorem Mod.put (m : Mod w0 own ρ0 σ ρ a w) {d : Option Nat} {v : SV} {x : Value} (hr : Rel σ.next ρ v x) (h : putK σ d v K) : Sat w0 own ρ0 K (a.put d x) w := by
  cases d with
  | none => exact ⟨σ, ρ, h, m⟩
  | some t =>
    simp only [putK, force_eq] at h
    split at h
    · rename_i hb
      have hb : t < σ.sz := by simpa [Nat.blt_eq] using hb
      refine ⟨_, ρ, h, ⟨m.defers, by simp [Act.put, m.sz], fun t' => ?_, m.heap, m.base, m.ext⟩⟩
      simp only [Act.put, St.get]
      by_cases ht : t = t'
      · subst ht
        rw [look_cons_same]
        simp [m.sz, hb]; exact hr
      · rw [look_cons_ne ht]
        have := m.tmp t'
        simp only [St.get] at this
        simpa [Array.getElem?_setIfInBounds_ne ht] using this
    · exact h.elim

theorem Mod.heapTo (m : Mod w0 own ρ0 σ ρ a w) {heap : List (Nat × SB)} {next : Nat} {ρ' : Nat → Nat} {w' : World} (hn : σ.next ≤ next) (he : Ext σ.next ρ ρ') (h : HMod w0 own heap next ρ' w') :
    Mod w0 own ρ0 { σ with heap := heap, next := next } ρ' a w' :=
  ⟨m.defers, m.sz, fun t => (m.tmp t).ext hn he, h, Nat.le_trans m.base hn, ⟨m.ext.1, Ext.trans m.ext.2 he m.base⟩⟩

theorem alloc_below (w : World) (o : Obj) : Below w.heap.size w (w.alloc o) := (Below.refl _ _).alloc (Nat.le_refl _) o

/-- a new block, its address in a slot -/
theorem Mod.allocPut (m : Mod w0 own ρ0 σ ρ a w) {cs : List SV} {vs : List Value} {t : TypeId} (hr : RelL σ.next ρ cs vs) {d : Option Nat} {v : SV} {x : Value}
    (hx : Rel (σ.next + 1) (push ρ σ.next w.heap.size) v x)
    (h : putK { σ with heap := (σ.next, .cells cs t) :: σ.heap, next := σ.next + 1 } d v K) : Sat w0 own ρ0 K (a.put d x) (w.alloc (.cells vs.toArray t)) :=
  (m.heapTo (Nat.le_succ _) (push_ext _ _ _) (m.heap.alloc t hr)).put hx h

theorem callFn_sound (m : Mod w0 own ρ0 σ ρ a w) {g : FuncId} {args : List SV} {vs : List Value} (hr : RelL σ.next ρ args vs) {d : Option Nat} (h : callFn Γ σ g args d K) :
    (∀ args w, (callFunc g args).run P w = .ok (.enter g args) w) ∧ Calls P g vs.toArray w fun e w' => ∃ v, e = .returned v ∧ Sat w0 own ρ0 K (a.put d v) w' ∧ ((findP Γ.ps g).isSome = true → Below w.heap.size w w') := by
  unfold callFn at h
  split at h
  · rename_i s hs
    have hg : s.f = g := by
      have key : ∀ l : List (PSpec P), findP l g = some s → s.f = g := by
        intro l
        induction l with
        | nil => intro h; cases h
        | cons x l ih =>
          intro h
          simp only [findP] at h
          split at h
          · rename_i hb; cases h; exact Nat.eq_of_beq_eq_true hb
          · exact ih h
      exact key _ hs
    subst hg
    refine ⟨s.enter, ?_⟩
    refine (s.sound args _ h σ.next ρ vs w hr).mono ?_
    rintro e w' ⟨r, v, hk, rfl, hrel, hb⟩
    refine ⟨v, rfl, ?_, fun _ => hb⟩
    exact (m.heapTo (Nat.le_refl _) (Ext.refl _ _) (m.heap.below hb)).put (hrel _ _) hk
  · rename_i hs
    split at h
    · rename_i s hs'
      have hg : s.f = g := by
        have key : ∀ l : List (GSpec P), findG l g = some s → s.f = g := by
          intro l
          induction l with
          | nil => intro h; cases h
          | cons x l ih =>
            intro h
            simp only [findG] at h
            split at h
            · rename_i hb; cases h; exact Nat.eq_of_beq_eq_true hb
            · exact ih h
        exact key _ hs'
      subst hg
      refine ⟨s.enter, ?_⟩
      refine (s.sound args _ _ _ h w0 own ρ vs w hr m.heap).mono ?_
      rintro e w' ⟨r, v, heap', next', ρ', hk, rfl, hrel, hn, he, hm⟩
      refine ⟨v, rfl, ?_, fun hh => by rw [hs] at hh; cases hh⟩
      exact (m.heapTo hn he hm).put hrel hk
    · exact h.elim

theorem run_box (t : TypeId) (v : Value) (w : World) : (Instr.box t v).run P w = .ok (.pointer (some ⟨w.heap.size, 0, none⟩)) (w.alloc (.cells v.cells t)) := by
  simp [Instr.box, newVar, newRow]

def OpOk (P : Program) (w0 : World) (own : Nat → Prop) (ρ0 : Nat × (Nat → Nat)) (Γ : Gam P) (K : St → Prop) (o : Oper) (a : Act) (w : World) (Q : Exit → Act → World → Prop) : Prop :=
  o.wp P a w (fun a' w' => Sat w0 own ρ0 K a' w' ∧ (harmless Γ o.op = true → Below w.heap.size w w')) Q


theorem tyZero_noRow {t : TypeId} {z : SV} (h : tyZero P t = some z) {cs : List SV} (hc : z.cells = some cs) : ∀ x ∈ cs, x.isRow = false := by
  unfold tyZero at h
  split at h
  · split at h
    · rename_i v _
      cases h
      cases v <;> simp [open0, SV.cells] at hc <;> subst hc <;> simp [SV.isRow]
    · cases h
  · cases h

theorem RelL.replicate {n : Nat} {ρ : Nat → Nat} {x : SV} {v : Value} (h : Rel n ρ x v) (k : Nat) : RelL n ρ (List.replicate k x) (List.replicate k v) := by
  induction k with
  | zero => exact .nil
  | succ k ih => exact .cons _ _ _ _ h.notRow h ih

theorem loud_sound (m : Mod w0 own ρ0 σ ρ a w) {o : Oper} (h : loud Γ σ o K) (Q : Exit → Act → World → Prop) : OpOk P w0 own ρ0 Γ K o a w Q := by
  obtain ⟨dst, op, type, pos, after, guard⟩ := o
  unfold OpOk Oper.wp
  cases op <;> simp only [loud] at h <;> (try exact h.elim)
  case box t x =>
    split at h
    · rename_i cs hc
      have hr := SV.cells_rel (m.ev x) hc
      have : (execOp a.eval ⟨dst, .box t x, type, pos, after, guard⟩).run P w = .ok (.value (.pointer (some ⟨w.heap.size, 0, none⟩))) (w.alloc (.cells (a.eval x).cells t)) := by
        simp [execOp, run_box]
      rw [this, Oper.upon_value]
      refine ⟨?_, fun _ => alloc_below _ _⟩
      have := m.allocPut (t := t) hr (d := dst) (v := .ptr σ.next 0) (x := .pointer (some ⟨w.heap.size, 0, none⟩)) (by
        have := Rel.ptr (n := σ.next + 1) (ρ := push ρ σ.next w.heap.size) σ.next 0 (Nat.lt_succ_self _)
        rwa [push_at] at this) (by rw [newBlock_eq] at h; exact h)
      simpa using this
    · exact h.elim
  case alloc t =>
    split at h
    · rename_i z hz
      split at h
      · rename_i cs hc
        obtain ⟨v, hv, hzr⟩ := tyZero_rel hz (n := σ.next) (ρ := ρ)
        have hr := SV.cells_rel hzr hc
        have : (execOp a.eval ⟨dst, .alloc t, type, pos, after, guard⟩).run P w = .ok (.value (.pointer (some ⟨w.heap.size, 0, none⟩))) (w.alloc (.cells v.cells t)) := by
          simp [execOp, Instr.alloc, hv, newVar, newRow]
        rw [this, Oper.upon_value]
        refine ⟨?_, fun _ => alloc_below _ _⟩
        have := m.allocPut (t := t) hr (d := dst) (v := .ptr σ.next 0) (x := .pointer (some ⟨w.heap.size, 0, none⟩)) (by
          have := Rel.ptr (n := σ.next + 1) (ρ := push ρ σ.next w.heap.size) σ.next 0 (Nat.lt_succ_self _)
          rwa [push_at] at this) (by rw [newBlock_eq] at h; exact h)
        simpa using this
      · exact h.elim
    · exact h.elim
  case store t x y =>
    split at h
    · rename_i b off new n h1 h2 h3
      split at h
      · rename_i cs t' hw hl
        simp only [Bool.and_eq_true] at hw
        have hwid := Nat.eq_of_beq_eq_true hw.1
        split at h
        · rename_i cs' hs
          have hx := m.ev x
          rw [h1] at hx
          obtain ⟨hx, hb⟩ := hx.inv_ptr
          have hnew := SV.cells_rel (m.ev y) h2
          obtain ⟨vs, fr, ho, hr, hf⟩ := (m.heap.rel _ _ hl).2
          obtain ⟨s1, s2⟩ := hr.setC hnew hs
          obtain ⟨w', r1, r2, r3, r4, r5, r6, r7⟩ := run_stores P (ρ b) t' fr (a.eval y).cells.toList off 0 vs w ho (by simpa using s2) hf (oneC_rel hnew hw.2)
          have hsz : (a.eval y).cells.size = n := by
            have := hnew.len
            rw [hwid] at this; simpa using this
          have hrun : (execOp a.eval ⟨dst, .store t x y, type, pos, after, guard⟩).run P w = .ok .skip w' := by
            simp [execOp, Instr.storeAt, hx, Instr.sureAddr, storeVar, run_sizeOf' h3, hsz, r1]
          rw [hrun, Oper.upon_skip]
          refine ⟨?_, fun hh => by simp [harmless, silentOp] at hh⟩
          rw [withBlock_eq] at h
          refine Mod.put (σ := { σ with heap := (b, .cells cs' t') :: σ.heap }) (ρ := ρ) ⟨m.defers, m.sz, m.tmp, ?_, m.base, m.ext⟩ (.any _) h
          refine m.heap.write hl r2 r3 r4 r5 r6 ⟨_, fr, r7, by simpa using s1, ?_⟩
          intro i hi
          refine hf i ?_
          simp at hi s2
          omega
        · exact h.elim
      · exact h.elim
    · exact h.elim
  case buildSlice t len parts =>
    split at h
    · rename_i e hu
      split at h
      · rename_i z h1 h2
        split at h
        · rename_i z1 hz1
          split at h
          · rename_i cs hf
            split at h
            · rename_i hl1 hl2
              have hl1 : 0 < len := by simpa [Nat.blt_eq] using hl1
              have hl2 : len ≤ 1000 := by simpa using hl2
              obtain ⟨v, hv, hzr⟩ := tyZero_rel h2 (n := σ.next) (ρ := ρ)
              have hzc := SV.cells_rel hzr hz1
              obtain ⟨v1, hv1, hr1⟩ := hzc.inv_one (tyZero_noRow h2 hz1 _ (List.mem_cons_self ..))
              obtain ⟨us, hus, hfill⟩ := fillC_sound _ _ (parts.toList.map fun (i, x) => (i, a.eval x)) _ _ _ hf (RelL.replicate hr1 len) (by simp [evParts]) (evParts_spec m _)
              have hc1 : v.cells = #[v1] := by apply Array.ext'; rw [hv1]
              have hcells : (Array.range (len * 1)).map (fun j => (v.cells)[j % v.cells.size]!) = (List.replicate len v1).toArray := by
                apply Array.ext'
                simp only [hc1, Nat.mul_one, Array.toList_map, Array.toList_range]
                apply List.ext_getElem?
                intro i
                simp only [List.getElem?_map, List.getElem?_replicate]
                by_cases hi : i < len
                · rw [List.getElem?_range hi]; simp [hi, Nat.mod_one]
                · rw [List.getElem?_eq_none (by simpa using hi)]; simp [hi]
              have hrun : (execOp a.eval ⟨dst, .buildSlice t len parts, type, pos, after, guard⟩).run P w = .ok (.value (.slice (some ⟨w.heap.size, 0, none⟩) len len)) (w.alloc (.cells us.toArray e)) := by
                have hz0 : len ≠ 0 := by omega
                simp only [execOp, Instr.buildSlice, Sem.run_bind, run_underlying hu, Result.andThen_ok, run_sizeOf' h1, Nat.mul_one]
                rw [if_neg (by omega), if_neg hz0]
                simp only [Sem.run_pure, Sem.run_bind, hv, Result.andThen_ok]
                rw [Nat.mul_one] at hcells
                rw [hcells]
                simp at hfill
                simp [hfill, newRow]
              rw [hrun, Oper.upon_value]
              refine ⟨?_, fun _ => alloc_below _ _⟩
              refine m.allocPut hus ?_ (by rw [newBlock_eq] at h; exact h)
              have := Rel.slc (n := σ.next + 1) (ρ := push ρ σ.next w.heap.size) σ.next 0 len len (Nat.lt_succ_self _)
              rwa [push_at] at this
            · exact h.elim
          · exact h.elim
        · exact h.elim
      · exact h.elim
    · exact h.elim
  case call c =>
    obtain ⟨callee, args, tys⟩ := c
    cases callee <;> simp only [] at h <;> (try exact h.elim)
    rename_i f
    split at h
    · rename_i g first caps hfv
      have hv := m.ev f
      rw [hfv] at hv
      obtain ⟨xs, ys, hv, hxs, hys⟩ := hv.inv_fn
      have hargs := (hxs.append (m.evs args.toList)).append hys
      obtain ⟨hent, hcalls⟩ := callFn_sound m hargs (d := dst) h
      have hrun : (execOp a.eval ⟨dst, .call ⟨.value f, args, tys⟩, type, pos, after, guard⟩).run P w = .ok (.enter g (xs ++ args.toList.map a.eval ++ ys).toArray) w := by
        simp only [execOp, resolve, hv, Deferred.ofValue, Sem.run_bind, Sem.run_pure, Result.andThen_ok, invoke, hent]
        congr 2
        apply Array.ext'; simp
      rw [hrun, Oper.upon_enter]
      refine hcalls.mono ?_
      rintro e w' ⟨v, rfl, hs, hb⟩
      refine ⟨hs, fun hh => hb ?_⟩
      cases f <;> simp [harmless, silentOp] at hh
      simp only [St.ev] at hfv
      cases hfv
      exact hh
    · exact h.elim

theorem evOp_sound (m : Mod w0 own ρ0 σ ρ a w) {o : Oper} (h : evOp Γ σ o K) (Q : Exit → Act → World → Prop) : OpOk P w0 own ρ0 Γ K o a w Q := by
  unfold evOp at h
  split at h
  · rename_i s hs
    have key : (∀ p, s.obl = some p → p) ∧ putK σ o.dst s.val K := by
      split at h
      · rename_i hn; exact ⟨fun p hp => (by rw [hn] at hp; cases hp), h⟩
      · rename_i p hp; exact ⟨fun q hq => (by rw [hp] at hq; cases hq; exact h.1), h.2⟩
    obtain ⟨x, hx, hrun⟩ := sil_sound m hs key.1
    unfold OpOk Oper.wp
    rw [hrun w (fun _ _ => rfl), Oper.upon_value]
    exact ⟨m.put hx key.2, fun _ => Below.refl _ _⟩
  · exact loud_sound m h Q

end
end Go.Proofs.Ytjbialminpdogaa.Sx
