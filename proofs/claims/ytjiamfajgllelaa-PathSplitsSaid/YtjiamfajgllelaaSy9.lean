/-
  Sx9: regions: in the order of the text, and in whatever order.
-/
import Derived.Test.YtjiamfajgllelaaSy8
import Derived.OrdersHeld
namespace Go.Proofs.Ytjiamfajgllelaa.Sy
open Go Go.RowKit

section
variable {P : Program} {w0 : World} {own : Nat → Prop} {ρ0 : Nat × Env} {σ : St} {ρ : Env} {a : Act} {w : World} {Γ : Gam P} {K : St → Prop}
variable {ops : Array Oper} {Q : Exit → Act → World → Prop}

theorem Mod.literal (m : Mod w0 own ρ0 σ ρ a w) {t : Nat} {b : Bool} (h : σ.get t = .c (.bool b)) : Mod w0 own ρ0 { σ with tmps := (t, .c (.bool b)) :: σ.tmps } ρ a w := by
  refine ⟨m.defers, m.sz, fun t' => ?_, m.heap, m.base, m.ext, m.rnew⟩
  by_cases ht : t = t'
  · subst ht
    have := m.tmp t
    rw [h] at this
    simp only [St.get, look_cons_same]
    exact this
  · have := m.tmp t'
    simp only [St.get] at this ⊢
    rw [look_cons_ne ht]
    exact this

theorem guard_yield (m : Mod w0 own ρ0 σ ρ a w) {j t : Nat} {oj : Oper} {b : Bool} (hj : ops[j]? = some oj) (hd : oj.dst = some t) (ht : t < σ.sz) (h : σ.get t = .c (.bool b)) :
    yielded ops a.tmps j = some b := by
  have := m.tmp t
  rw [h] at this
  have := this.inv_c
  have hlt : t < a.tmps.size := by rw [m.sz]; exact ht
  have h2 : a.tmps[t]? = some (.bool b) := by
    rw [Array.getElem?_eq_getElem hlt]
    simpa [Array.getD, hlt] using this
  simp [yielded, hj, hd, h2]

/-- What one number of a region asks, the guard decided. -/
theorem evOps_cons {i : Nat} {rest : List Nat} (m : Mod w0 own ρ0 σ ρ a w) (h : evOps Γ ops (i :: rest) σ K) :
    ∃ o σ', ops[i]? = some o ∧ Mod w0 own ρ0 σ' ρ a w ∧
      ((Region.wanted o (yielded ops a.tmps) = true ∧ evOp Γ σ' o fun σ'' => evOps Γ ops rest σ'' K) ∨
       (Region.wanted o (yielded ops a.tmps) = false ∧ putK σ' o.dst (.c undef) fun σ'' => evOps Γ ops rest σ'' K)) := by
  simp only [evOps] at h
  cases ho : ops[i]? with
  | none => simp [ho] at h
  | some o =>
    simp only [ho] at h
    refine ⟨o, ?_⟩
    cases hg : o.guard with
    | none =>
      simp only [hg] at h
      exact ⟨σ, rfl, m, .inl ⟨by simp [Region.wanted, hg], h⟩⟩
    | some jw =>
      obtain ⟨j, want⟩ := jw
      simp only [hg] at h
      cases hj : ops[j]? with
      | none => simp [hj] at h
      | some oj =>
        simp only [hj] at h
        cases hd : oj.dst with
        | none => simp [hd] at h
        | some t =>
          simp only [hd] at h
          split at h
          · rename_i b hb hget
            have ht : t < σ.sz := by simpa [Nat.blt_eq] using hb
            have hy := guard_yield m hj hd ht hget
            have m' := m.literal hget
            simp only [putK, force_eq, hb] at h
            cases want <;> cases b <;> simp only [brk] at h
            · exact ⟨_, rfl, m', .inl ⟨by simp [Region.wanted, hg, hy], h⟩⟩
            · exact ⟨_, rfl, m', .inr ⟨by simp [Region.wanted, hg, hy], h⟩⟩
            · exact ⟨_, rfl, m', .inr ⟨by simp [Region.wanted, hg, hy], h⟩⟩
            · exact ⟨_, rfl, m', .inl ⟨by simp [Region.wanted, hg, hy], h⟩⟩
          · rename_i vs hb hget
            have ht : t < σ.sz := by simpa [Nat.blt_eq] using hb
            have h1 := m.tmp t
            rw [hget] at h1
            have h1 := h1.inv_c
            have hlt : t < a.tmps.size := by rw [m.sz]; exact ht
            have h2 : a.tmps[t]? = some (.tuple vs) := by
              rw [Array.getElem?_eq_getElem hlt]
              simpa [Array.getD, hlt] using h1
            have hy : yielded ops a.tmps j = none := by simp [yielded, hj, hd, h2]
            exact ⟨σ, rfl, m, .inr ⟨by simp [Region.wanted, hg, hy], h⟩⟩
          · exact h.elim

theorem evOps_sound (hQ : ∀ a w, Sat w0 own ρ0 K a w → Q .normal a w) : ∀ (l : List Nat) (σ : St) (ρ : Env) (a : Act) (w : World), evOps Γ ops l σ K → Mod w0 own ρ0 σ ρ a w → wpOps P ops Q l a w := by
  intro l
  induction l with
  | nil => intro σ ρ a w h m; exact hQ _ _ ⟨σ, ρ, h, m⟩
  | cons i rest ih =>
    intro σ ρ a w h m
    obtain ⟨o, σ', ho, m', hh⟩ := evOps_cons m h
    simp only [wpOps, ho]
    rcases hh with ⟨hw, h⟩ | ⟨hw, h⟩
    · rw [if_pos hw]
      refine .inl ?_
      have := evOp_sound m' h Q
      unfold OpOk at this
      refine Oper.wp_mono (fun a w hs => ?_) this
      obtain ⟨⟨σ2, ρ2, h2, m2⟩, _⟩ := hs
      exact ih σ2 ρ2 a w h2 m2
    · rw [if_neg (by simp [hw])]
      obtain ⟨σ2, ρ2, h2, m2⟩ := m'.put (.c undef) h
      exact ih σ2 ρ2 _ w h2 m2

/-! ### whatever order -/

variable {md : Region.Mode} {R : Nat → World → World → Prop}

def wpAnyR (P : Program) (md : Region.Mode) (ops : Array Oper) (Q : Exit → Act → World → Prop) (R : Nat → World → World → Prop) : Nat → Array Bool → Act → World → Prop
  | 0, listed, a, w => Region.ready md ops listed = [] ∧ Q .normal a w
  | fuel + 1, listed, a, w =>
    (Region.ready md ops listed = [] → Q .normal a w) ∧
    ∀ i ∈ Region.ready md ops listed, wpOp P ops Q i (fun a' w' => R i w w' ∧ wpAnyR P md ops Q R fuel (listed.setIfInBounds i true) a' w') a w

theorem wpAny_of_R : ∀ (fuel : Nat) (listed : Array Bool) (a : Act) (w : World), wpAnyR P md ops Q R fuel listed a w → wpAny P md ops Q fuel listed a w
  | 0, _, _, _, h => h
  | fuel + 1, _, _, _, h => ⟨h.1, fun i hi => wpOp_mono (fun a' w' h' => wpAny_of_R fuel _ a' w' h'.2) (h.2 i hi)⟩

/-- j waits for i -/
inductive Dep (md : Region.Mode) (ops : Array Oper) (i : Nat) : Nat → Prop
  | self : Dep md ops i i
  | step (j : Nat) (o : Oper) (e : Edge) : ops[j]? = some o → e ∈ o.after → Region.binds md e = true → Dep md ops i e.on → Dep md ops i j

def Down (md : Region.Mode) (ops : Array Oper) (listed : Array Bool) : Prop :=
  ∀ k o e, listed.getD k false = true → ops[k]? = some o → e ∈ o.after → Region.binds md e = true → listed.getD e.on false = true

theorem dep_unlisted {listed : Array Bool} (hd : Down md ops listed) {i k : Nat} (hi : listed.getD i false = false) (h : Dep md ops i k) : listed.getD k false = false := by
  induction h with
  | self => exact hi
  | step j o e ho he hb _ ih =>
    cases hl : listed.getD j false with
    | false => rfl
    | true => have := hd j o e hl ho he hb; rw [ih] at this; cases this

theorem getD_false_of_true {listed : Array Bool} {i : Nat} (h : listed.getD i true = false) : listed.getD i false = false := by
  rcases Nat.lt_or_ge i listed.size with h' | h'
  · simp [Array.getD, h'] at h ⊢; exact h
  · simp [Array.getD, Nat.not_lt.2 h']

theorem down_set {listed : Array Bool} (hd : Down md ops listed) {j : Nat} (hj : j ∈ Region.ready md ops listed) : Down md ops (listed.setIfInBounds j true) := by
  intro k o e hk ho he hb
  by_cases hkj : j = k
  · subst hkj
    obtain ⟨_, o', ho', hall⟩ := mem_ready.1 hj
    rw [ho] at ho'; cases ho'
    exact getD_set_true (hall e he hb)
  · rw [getD_set_ne false hkj] at hk
    exact getD_set_true (hd k o e hk ho he hb)

theorem wpAnyR_first {i : Nat} {oi : Oper} {v : Value} (hi : ops[i]? = some oi) (hsel : ∀ (j : Nat) (o : Oper) cs b, ops[j]? = some o → o.op ≠ .select cs b)
    (hQ : ∀ c a w, ¬ Q (.panic c) a w) (S : World → Prop) (hRi : ∀ w, R i w w) (hpres : ∀ j w w', ¬ Dep md ops i j → S w → R j w w' → S w') :
    ∀ (fuel : Nat) (listed : Array Bool) (a : Act) (w : World), Down md ops listed →
      (∀ j oj, ops[j]? = some oj → j ≠ i → listed.getD j true = false → (∀ e ∈ oj.after, Region.binds md e = true → e.on ≠ i) → oi.apart ops oj = true) →
      i ∈ Region.ready md ops listed → YieldsIf P ops S oi v a → S w →
      wpAnyR P md ops Q R fuel (listed.setIfInBounds i true) (a.put oi.dst v) w → wpAnyR P md ops Q R (fuel + 1) listed a w := by
  intro fuel
  induction fuel with
  | zero =>
    intro listed a w _ _ hr hy hS H
    refine ⟨fun h => (by rw [h] at hr; cases hr), fun j hj => ?_⟩
    by_cases hji : j = i
    · subst hji; exact hy.wpOp hi hS ⟨hRi w, H⟩
    · have := ready_mono hj hji
      rw [H.1] at this
      cases this
  | succ fuel ih =>
    intro listed a w hdown hfree hr hy hS H
    refine ⟨fun h => (by rw [h] at hr; cases hr), fun j hj => ?_⟩
    by_cases hji : j = i
    · subst hji; exact hy.wpOp hi hS ⟨hRi w, H⟩
    · have h1 := H.2 j (ready_mono hj hji)
      obtain ⟨hjun, oj, hoj, hall⟩ := mem_ready.1 hj
      have hiun := getD_false_of_true (mem_ready.1 hr).1
      have hnot : ∀ e ∈ oj.after, Region.binds md e = true → e.on ≠ i := fun e he hb heq => by
        have h1 := hall e he hb
        rw [heq, hiun] at h1
        cases h1
      have hnd : ¬ Dep md ops i j := by
        intro hdep
        cases hdep with
        | self => exact hji rfl
        | step _ o e ho he hb hd =>
          rw [hoj] at ho; cases ho
          have h1 := hall e he hb
          rw [dep_unlisted hdown hiun hd] at h1
          cases h1
      have h2 := wpOp_putIf hoj (hfree j oj hoj hji hjun hnot) (fun cs b => hsel i oi cs b hi) (fun cs b => hsel j oj cs b hoj) (fun c a w h => absurd h (hQ c _ w)) hy h1
      have hfree' : ∀ k ok, ops[k]? = some ok → k ≠ i → (listed.setIfInBounds j true).getD k true = false →
          (∀ e ∈ ok.after, Region.binds md e = true → e.on ≠ i) → oi.apart ops ok = true := fun k ok hk hki hun hno => by
        refine hfree k ok hk hki ?_ hno
        by_cases hjk : j = k
        · subst hjk; exact hjun
        · rw [getD_set_ne true hjk] at hun; exact hun
      refine wpOp_mono (fun a' w' h3 => ⟨h3.2.1, ih (listed.setIfInBounds j true) a' w' (down_set hdown hj) hfree' (ready_mono hr (Ne.symm hji)) h3.1 (hpres j w w' hnd hS h3.2.1) ?_⟩) h2
      rw [Array.setIfInBounds_comm _ _ hji]
      exact h3.2.2

/-! ### the check of a region that draws, and its soundness -/

def depList (ops : Array Oper) (i : Nat) : List Nat :=
  (List.range ops.size).foldl (fun acc j => match ops[j]? with
    | some o => if j == i || o.after.any (fun e => Region.binds .any e && acc.contains e.on) then j :: acc else acc
    | none => acc) []

theorem depList_sound (i : Nat) : ∀ k ∈ depList ops i, Dep .any ops i k := by
  unfold depList
  have key : ∀ (l acc : List Nat), (∀ k ∈ acc, Dep .any ops i k) → ∀ k ∈ l.foldl (fun acc j => match ops[j]? with
    | some o => if j == i || o.after.any (fun e => Region.binds .any e && acc.contains e.on) then j :: acc else acc
    | none => acc) acc, Dep .any ops i k := by
    intro l
    induction l with
    | nil => intro acc h; exact h
    | cons j l ih =>
      intro acc h
      rw [List.foldl_cons]
      refine ih _ ?_
      cases ho : ops[j]? with
      | none => exact h
      | some o =>
        simp only []
        split
        · rename_i hc
          intro k hk
          rcases List.mem_cons.1 hk with rfl | hk
          · rw [Bool.or_eq_true] at hc
            rcases hc with hc | hc
            · rw [beq_iff_eq] at hc; subst hc; exact .self
            · obtain ⟨x, hx, hb⟩ := Array.any_eq_true.1 hc
              rw [Bool.and_eq_true] at hb
              exact .step _ o _ ho (Array.getElem_mem hx) hb.1 (h _ (by simpa using hb.2))
          · exact h k hk
        · exact h
  exact key _ _ (by simp)

def loadOK {P : Program} (Γ : Gam P) (ops : Array Oper) (i : Nat) : Bool :=
  let ds := depList ops i
  (List.range ops.size).all fun j => ds.contains j || match ops[j]? with
    | some o => harmless Γ o.op
    | none => true

def heads : OT → List Nat
  | .done => []
  | .one i _ => [i]
  | .alt i _ rest => i :: heads rest
/-- the tree holds what the region may do; 'alone': no branch stands beside it -/
def drawT {P : Program} (Γ : Gam P) (ops : Array Oper) : OT → Bool → Array Bool → Nat → Bool
  | .done, _, listed, n => Nat.beq n 0 && (Region.ready .any ops listed).isEmpty
  | .one i r, alone, listed, n => match n with
    | 0 => false
    | n + 1 => match ops[i]? with
      | none => false
      | some o => ((Region.ready .any ops listed).contains i && (if silentOp o.op then alone && (Region.free .any ops listed i && (!readsOp o.op || loadOK Γ ops i))
          else (!alone || (Region.ready .any ops listed).all fun j => j == i))) && drawT Γ ops r true (listed.setIfInBounds i true) n
  | .alt i r rest, alone, listed, n => match n with
    | 0 => false
    | n + 1 => match ops[i]? with
      | none => false
      | some o => ((Region.ready .any ops listed).contains i && (!silentOp o.op && (!alone || (Region.ready .any ops listed).all fun j => j == i || (heads rest).contains j))) &&
          (drawT Γ ops r true (listed.setIfInBounds i true) n && drawT Γ ops rest false listed (n + 1))
def drawOK {P : Program} (Γ : Gam P) (ops : Array Oper) (t : OT) : Bool :=
  Region.noSelect ops && drawT Γ ops t true (Array.replicate ops.size false) ops.size

theorem slicing_reads {wd : Nat} {x : SV} {lo hi mx : Option Operand} {s : Sil} (h : slicing σ wd x lo hi mx = some s) : s.reads = none := by
  unfold slicing slicing1 at h
  (repeat' split at h) <;> (first | (cases h; rfl) | cases h)

theorem sil_reads {o : Op} {s : Sil} (h : sil P σ o = some s) (hr : readsOp o = false) : s.reads = none := by
  have hib : ∀ op k x y (s : Sil), ibin op k x y = some s → s.reads = none := by
    intro op k x y s h
    cases op <;> simp only [ibin, sv] at h <;> cases h <;> rfl
  have hbin : ∀ t op x y (s : Sil), bin P t op x y = some s → s.reads = none := by
    intro t op x y s h
    unfold bin at h
    (repeat' split at h) <;> (first | exact hib _ _ _ _ _ h | (simp only [sv] at h; cases h; rfl) | (cases h; rfl) | cases h)
  cases o <;> simp only [sil, sv] at h <;> (try cases h) <;> (try rfl)
  case load => simp [readsOp] at hr
  case binOp op t x y ty =>
    have hpl : ∀ op x (s : Sil), plainly y (bin P t op x (σ.ev y)) = some s → s.reads = none := by
      intro op x s h
      unfold plainly at h
      split at h
      · split at h
        · split at h
          · rename_i hs; cases h; have h1 := hbin _ _ _ _ _ hs; exact h1
          · cases h
        · exact hbin _ _ _ _ _ h
      · exact hbin _ _ _ _ _ h
    have hsh : ∀ (r : Sil), r.reads = none → ∀ s, plainly y (some r) = some s → s.reads = none := by
      clear h hpl hr
      intro r hq s h
      unfold plainly at h
      split at h
      · split at h
        · split at h
          · rename_i h2; cases h2; cases h; exact hq
          · cases h
        · cases h; exact hq
      · cases h; exact hq
    split at h
    · split at h
      · exact hsh _ rfl _ h
      · cases h
    · split at h
      · exact hsh _ rfl _ h
      · cases h
    · exact hpl _ _ _ h
    · exact hpl _ _ _ h
    · exact hbin _ _ _ _ _ h
  case call c =>
    obtain ⟨callee, args, tys⟩ := c
    cases callee <;> simp only [] at h <;> (try cases h)
    rename_i b
    cases b <;> simp only [] at h <;> (try cases h)
    all_goals ((repeat' split at h) <;> (first | (cases h; rfl) | cases h))
  all_goals ((repeat' split at h) <;> (first | (cases h; rfl) | exact slicing_reads h | cases h))
theorem sil_reads_lt (m : Mod w0 own ρ0 σ ρ a w) {o : Op} {s : Sil} {b : Nat} (h : sil P σ o = some s) (hb : s.reads = some b) : ρ b < w.heap.size := by
  cases hr : readsOp o with
  | false => rw [sil_reads h hr] at hb; cases hb
  | true =>
    cases o <;> simp [readsOp] at hr <;> simp only [sil] at h <;> (try cases h)
    case load t x =>
      have hx := m.ev x
      split at h
      · split at h
        · rename_i hl
          split at h
          · cases h; cases hb; exact (m.heap.mine _ _ hl rfl (m.heap.rel _ _ hl).2.1).2.1
          · cases h
        · cases h
      · split at h
        · rename_i hl _
          split at h
          · cases h; cases hb; exact (m.heap.mine _ _ hl rfl (m.heap.rel _ _ hl).2.1).2.1
          · cases h
        · cases h
      · rename_i heq
        rw [heq] at hx
        split at h
        · rename_i hl
          split at h
          · cases h; cases hb; exact (m.heap.mine _ _ hl rfl hx.inv_ap.2.2.1).2.1
          · cases h
        · cases h
      · split at h
        · cases h; cases hb
        · cases h
      · cases h
    all_goals ((repeat' split at h) <;> (first | (cases h; cases hb) | cases h))
theorem sil_silent {o : Op} {s : Sil} (h : sil P σ o = some s) : silentOp o = true := by
  cases o <;> simp only [sil] at h <;> (try cases h) <;> (try rfl)
  case call c =>
    obtain ⟨callee, args, tys⟩ := c
    cases callee <;> simp only [] at h <;> (try cases h)
    rename_i b
    cases b <;> simp only [] at h <;> (first | rfl | cases h)
theorem loud_not_silent {o : Oper} (h : loud Γ σ o K) : silentOp o.op = false := by
  obtain ⟨dst, op, type, pos, after, guard⟩ := o
  cases op <;> simp only [loud] at h <;> (try exact h.elim) <;> (try rfl)
  case call c =>
    obtain ⟨callee, args, tys⟩ := c
    cases callee <;> (try simp only [] at h) <;> (first | rfl | exact h.elim | skip)
    rename_i b
    cases b <;> (try simp only [] at h) <;> (first | rfl | exact h.elim)

/-- a silent operation's answer, whatever else the region does meanwhile -/
theorem evOp_quiet (m : Mod w0 own ρ0 σ ρ a w) {o : Oper} (hs : silentOp o.op = true) (h : evOp Γ σ o K) : ∃ v x, Rel σ.next ρ v x ∧ putK σ o.dst v K ∧
    ∀ w', (readsOp o.op = true → w.heap.size ≤ w'.heap.size ∧ ∀ g, g < w.heap.size → w'.heap[g]? = w.heap[g]?) → (execOp a.eval o).run P w' = .ok (.value x) w' := by
  unfold evOp at h
  cases hsil : sil P σ o.op with
  | none =>
    simp only [hsil] at h
    split at h
    · rename_i na b hn
      obtain ⟨r, hrun, hk⟩ := nilEq_sound m hn
      exact ⟨.c (.bool r), .bool r, .c _, hk _ h, fun w' _ => hrun w'⟩
    · have := loud_not_silent h
      rw [hs] at this; cases this
  | some s =>
    simp only [hsil] at h
    have key : (∀ p, s.obl = some p → p) ∧ putK σ o.dst s.val K := by
      split at h
      · rename_i hn; exact ⟨fun p hp => (by rw [hn] at hp; cases hp), h⟩
      · rename_i p hp; exact ⟨fun q hq => (by rw [hp] at hq; cases hq; exact h.1), h.2⟩
    obtain ⟨x, hx, hrun⟩ := sil_sound m hsil key.1
    refine ⟨s.val, x, hx, key.2, fun w' hw => hrun w' (fun b hb => ?_) (fun hr g ob hg => ?_)⟩
    · have hr : readsOp o.op = true := by
        cases hx : readsOp o.op with
        | true => rfl
        | false => have := sil_reads hsil hx; rw [hb] at this; cases this
      exact (hw hr).2 _ (sil_reads_lt m hsil hb)
    · have := m.heap.ro g ob hg
      rw [(hw hr).2 g (Array.getElem?_eq_some_iff.1 this).1]
      exact this

end
end Go.Proofs.Ytjiamfajgllelaa.Sy
