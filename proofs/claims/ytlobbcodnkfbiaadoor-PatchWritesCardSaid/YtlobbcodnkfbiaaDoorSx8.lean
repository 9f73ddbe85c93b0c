/-
  Sx8: each operation keeps a state fitting.
-/
import Derived.Test.YtlobbcodnkfbiaaDoorSx7
namespace Go.Proofs.YtlobbcodnkfbiaaDoor.Sx
open Go Go.RowKit

/-- a state that fits, of which K holds -/
def Sat (w0 : World) (own : Nat → Prop) (ρ0 : Nat × (Nat → Nat)) (K : St → Prop) (a : Act) (w : World) : Prop := ∃ σ ρ, K σ ∧ Mod w0 own ρ0 σ ρ a w

/-- operations that leave alone what is there -/
def harmless {P : Program} (Γ : Gam P) : Op → Bool
  | .box .. | .alloc _ | .buildSlice .. => true
  | .call ⟨.value (.func f), _, _⟩ => (findP Γ.ps f).isSome
  | op => silentOp op

section
variable {P : Program} {w0 : World} {own : Nat → Prop} {ρ0 : Nat × (Nat → Nat)} {σ : St} {ρ : Nat → Nat} {a : Act} {w : World} {Γ : Gam P} {K : St → Prop}

theorem Mod.put (m : Mod w0 own ρ0 σ ρ a w) {d : Option Nat} {v : SV} {x : Value} (hr : Rel σ.next ρ v x) (h : putK σ d v K) : Sat w0 own ρ0 K (a.put d x) w := by
  cases d with
  | none => exact ⟨σ, ρ, h, m⟩
  | some t =>
    simp only [putK, force_eq] at h
    split at h
    · rename_i hb
      have hb : t < σ.sz := by simpa [Nat.blt_eq] using hb
      refine ⟨_, ρ, h, ⟨m.defers, by simp [Act.put, m.sz], fun t' => ?_, m.heap, m.base, m.ext⟩⟩
      simp only [Act.put, St.get]
      by_cases ht : t = t'
      · subst ht
        rw [look_cons_same]
        simp [m.sz, hb]; exact hr
      · rw [look_cons_ne ht]
        have := m.tmp t'
        simp only [St.get] at this
        simpa [Array.getElem?_setIfInBounds_ne ht] using this
    · exact h.elim

theorem Mod.heapTo (m : Mod w0 own ρ0 σ ρ a w) {heap : List (Nat × SB)} {next : Nat} {ρ' : Nat → Nat} {w' : World} (hn : σ.next ≤ next) (he : Ext σ.next ρ ρ') (h : HMod w0 own heap next ρ' w') :
    Mod w0 own ρ0 { σ with heap := heap, next := next } ρ' a w' :=
  ⟨m.defers, m.sz, fun t => (m.tmp t).ext hn he, h, Nat.le_trans m.base hn, ⟨m.ext.1, Ext.trans m.ext.2 he m.base⟩⟩

theorem alloc_below (w : World) (o : Obj) : Below w.heap.size w (w.alloc o) := (Below.refl _ _).alloc (Nat.le_refl _) o

/-- a new block, its address in a slot -/
theorem Mod.allocPut (m : Mod w0 own ρ0 σ ρ a w) {cs : List SV} {vs : List Value} {t : TypeId} (hr : RelL σ.next ρ cs vs) {d : Option Nat} {v : SV} {x : Value}
    (hx : Rel (σ.next + 1) (push ρ σ.next w.heap.size) v x)
    (h : putK { σ with heap := (σ.next, .cells cs t) :: σ.heap, next := σ.next + 1 } d v K) : Sat w0 own ρ0 K (a.put d x) (w.alloc (.cells vs.toArray t)) :=
  (m.heapTo (Nat.le_succ _) (push_ext _ _ _) (m.heap.alloc t hr)).put hx h

theorem callFn_sound (m : Mod w0 own ρ0 σ ρ a w) {g : FuncId} {args : List SV} {vs : List Value} (hr : RelL σ.next ρ args vs) {d : Option Nat} (h : callFn Γ σ g args d K) :
    (∀ args w, (callFunc g args).run P w = .ok (.enter g args) w) ∧ Calls P g vs.toArray w fun e w' => ∃ v, e = .returned v ∧ Sat w0 own ρ0 K (a.put d v) w' ∧ ((findP Γ.ps g).isSome = true → Below w.heap.size w w') := by
  unfold callFn at h
  split at h
  · rename_i s hs
    have hg : s.f = g := by
      have key : ∀ l : List (PSpec P), findP l g = some s → s.f = g := by
        intro l
        induction l with
        | nil => intro h; cases h
        | cons x l ih =>
          intro h
          simp only [findP] at h
          split at h
          · rename_i hb; cases h; exact Nat.eq_of_beq_eq_true hb
          · exact ih h
      exact key _ hs
    subst hg
    refine ⟨s.enter, ?_⟩
    refine (s.sound args _ h σ.next ρ vs w hr m.heap.glob (Nat.le_trans m.heap.gsz m.heap.size)).mono ?_
    rintro e w' ⟨r, v, hk, rfl, hrel, hb⟩
    refine ⟨v, rfl, ?_, fun _ => hb⟩
    exact (m.heapTo (Nat.le_refl _) (Ext.refl _ _) (m.heap.below hb)).put (hrel _ _) hk
  · rename_i hs
    split at h
    · rename_i s hs'
      have hg : s.f = g := by
        have key : ∀ l : List (GSpec P), findG l g = some s → s.f = g := by
          intro l
          induction l with
          | nil => intro h; cases h
          | cons x l ih =>
            intro h
            simp only [findG] at h
            split at h
            · rename_i hb; cases h; exact Nat.eq_of_beq_eq_true hb
            · exact ih h
        exact key _ hs'
      subst hg
      refine ⟨s.enter, ?_⟩
      refine (s.sound args _ _ _ h w0 own ρ vs w hr m.heap).mono ?_
      rintro e w' ⟨r, v, heap', next', ρ', hk, rfl, hrel, hn, he, hm⟩
      refine ⟨v, rfl, ?_, fun hh => by rw [hs] at hh; cases hh⟩
      exact (m.heapTo hn he hm).put hrel hk
    · exact h.elim

theorem run_box (t : TypeId) (v : Value) (w : World) : (Instr.box t v).run P w = .ok (.pointer (some ⟨w.heap.size, 0, none⟩)) (w.alloc (.cells v.cells t)) := by
  simp [Instr.box, newVar, newRow]

def OpOk (P : Program) (w0 : World) (own : Nat → Prop) (ρ0 : Nat × (Nat → Nat)) (Γ : Gam P) (K : St → Prop) (o : Oper) (a : Act) (w : World) (Q : Exit → Act → World → Prop) : Prop :=
  o.wp P a w (fun a' w' => Sat w0 own ρ0 K a' w' ∧ (harmless Γ o.op = true → Below w.heap.size w w')) Q


theorem RelL.replicate {n : Nat} {ρ : Nat → Nat} {x : SV} {v : Value} (h : Rel n ρ x v) (k : Nat) : RelL n ρ (List.replicate k x) (List.replicate k v) := by
  induction k with
  | zero => exact .nil
  | succ k ih => exact .cons _ _ _ _ h.notRow h ih

/-- a part of a row of integers written -/
theorem Mod.rowWrite (m : Mod w0 own ρ0 σ ρ a w) {b : Nat} {cs : List SV} {t' : TypeId} (hl : look σ.heap b = some (.cells cs t')) {k : IntKind} {base mm p : Nat} {xs zs : List Int}
    (hx : rowAt k cs base mm = some xs) {cs' : List SV} (hs : setC cs base [.row k mm (spl xs p zs)] = some cs') (hp : p + zs.length ≤ mm) (g : Nat) (hg : g = ρ b) (off : Nat) (hoff : zs = [] ∨ off = base + p) :
    ∃ w', (storeCells ⟨g, off, none⟩ (zs.map (Value.int k))).run P w = .ok () w' ∧ HMod w0 own ((b, .cells cs' t') :: σ.heap) σ.next ρ w' := by
  subst hg
  obtain ⟨vs, fr, ho, hr, hf⟩ := (m.heap.rel _ _ hl).2
  obtain ⟨e1, e2, e3⟩ := rowAt_rel hr hx
  have hlen : (spl xs p zs).length = mm := by simp [spl]; omega
  have hnew : RelL σ.next ρ [.row k mm (spl xs p zs)] ((spl xs p zs).map (Value.int k)) := by
    have := RelL.row (n := σ.next) (ρ := ρ) k mm (spl xs p zs) [] [] hlen .nil
    simpa using this
  obtain ⟨s1, s2⟩ := hr.setC hnew hs
  simp only [List.length_map, hlen] at s1 s2
  have hvs : vs.take (base + p) ++ zs.map (Value.int k) ++ vs.drop (base + p + zs.length) = vs.take base ++ (spl xs p zs).map (Value.int k) ++ vs.drop (base + mm) := by
    have h1 : vs = vs.take base ++ (xs.map (Value.int k) ++ vs.drop (base + mm)) := by
      rw [← e1]
      conv => lhs; rw [← List.take_append_drop base vs]
      congr 1
      conv => lhs; rw [← List.take_append_drop mm (vs.drop base)]
      rw [List.drop_drop]
    have h2 : (vs.take base).length = base := by simp; omega
    have h3 : vs.take (base + p) = vs.take base ++ (xs.take p).map (Value.int k) := by
      conv => lhs; rw [h1]
      rw [List.take_append, h2, List.take_of_length_le (by omega), show base + p - base = p by omega, List.take_append, List.map_take]
      have : vs.drop (base + mm) = vs.drop (base + mm) := rfl
      rw [List.length_map, e3, show p - mm = 0 by omega]
      simp
    have h4 : vs.drop (base + p + zs.length) = (xs.drop (p + zs.length)).map (Value.int k) ++ vs.drop (base + mm) := by
      conv => lhs; rw [h1]
      rw [List.drop_append, h2, List.drop_of_length_le (by omega), List.nil_append, show base + p + zs.length - base = p + zs.length by omega, List.drop_append, List.map_drop]
      rw [List.length_map, e3, show p + zs.length - mm = 0 by omega]
      simp
    rw [h3, h4]
    simp [spl]
  by_cases hz : zs = []
  · subst hz
    refine ⟨w, rfl, m.heap.write hl rfl rfl rfl rfl (fun _ _ => rfl) ⟨vs, fr, ho, ?_, hf⟩⟩
    have : vs.take base ++ (spl xs p []).map (Value.int k) ++ vs.drop (base + mm) = vs := by
      rw [← hvs]; simp
    rw [this] at s1
    exact s1
  · have hoff : off = base + p := by rcases hoff with h | h; exact absurd h hz; exact h
    subst hoff
    obtain ⟨w', r1, r2, r3, r4, r5, r6, r7⟩ := run_stores P (ρ b) t' fr (zs.map (Value.int k)) (base + p) 0 vs w ho (by simp; omega) hf (by intro u hu; obtain ⟨i, _, rfl⟩ := List.mem_map.1 hu; rfl)
    refine ⟨w', r1, m.heap.write hl r2 r3 r4 r5 r6 ⟨_, fr, r7, ?_, ?_⟩⟩
    · simp only [Nat.add_zero, List.length_map]
      rw [hvs]
      exact s1
    · intro i hi
      refine hf i ?_
      simp at hi
      omega

theorem srcInts_run (m : Mod w0 own ρ0 σ ρ a w) {k : IntKind} {src : SV} {zs : List Int} (h : srcInts σ.heap k src = some zs) {v : Value} (hv : Rel σ.next ρ src v) :
    (Builtin.lenOf v).run P w = .ok zs.length w ∧ ∀ n, n ≤ zs.length → (Builtin.firstCells 1 n v).run P w = .ok ((zs.take n).map (Value.int k)).toArray w := by
  unfold srcInts at h
  split at h
  · rename_i b base mm lo hi
    split at h
    · rename_i cs t' hl
      split at h
      · rename_i xs hx
        cases h
        obtain ⟨rfl, hb, o1, o2, o3⟩ := hv.inv_sl
        obtain ⟨vs, fr, ho, hr, hf⟩ := (m.heap.rel _ _ hl).2
        obtain ⟨e1, e2, e3⟩ := rowAt_rel hr hx
        have hlen : ((xs.drop lo.toNat).take (hi.toNat - lo.toNat)).length = hi.toNat - lo.toNat := by simp; omega
        refine ⟨by rw [hlen]; rfl, fun n hn => ?_⟩
        rw [hlen] at hn
        by_cases hn0 : n = 0
        · subst hn0
          simp [Builtin.firstCells, loadCells, loadCellsFrom]
        · have hne : mm ≠ lo.toNat := by omega
          simp only [Builtin.firstCells, if_neg hne, Nat.mul_one]
          have := run_loadCells_list (P := P) (w := w) ⟨ρ b, base + lo.toNat, none⟩ ((((xs.drop lo.toNat).take (hi.toNat - lo.toNat)).take n).map (Value.int k)) (by
            intro j u hj
            have hadd : (Addr.add ⟨ρ b, base + lo.toNat, none⟩ j) = ⟨ρ b, base + lo.toNat + j, none⟩ := by
              unfold Addr.add; split <;> simp_all
            rw [hadd]
            refine (cell_of ho).trans ?_
            have hjn : j < n := by
              have := (List.getElem?_eq_some_iff.1 hj).1
              simp at this; omega
            have h2 : ((vs.drop base).take mm)[lo.toNat + j]? = (xs.map (Value.int k))[lo.toNat + j]? := by rw [e1]
            rw [List.getElem?_take, if_pos (by omega), List.getElem?_drop] at h2
            rw [show base + lo.toNat + j = base + (lo.toNat + j) by omega, h2, ← hj]
            simp only [List.getElem?_map, List.getElem?_take, List.getElem?_drop]
            rw [if_pos hjn, if_pos (by omega)])
          simp only [List.length_map, List.length_take, hlen, Nat.min_eq_left hn] at this
          exact this
      · cases h
    · cases h
  · rename_i s
    split at h
    · cases h
      have := hv.inv_c
      subst this
      have hlen : (bytesI s).length = s.size := by simp [bytesI]
      refine ⟨by rw [hlen]; rfl, fun n hn => ?_⟩
      simp only [Builtin.firstCells, Sem.run_pure]
      congr 1
      apply Array.ext'
      rw [hlen] at hn
      have : (s.extract 0 n).data.toList = s.data.toList.take n := by
        simp [ByteArray.data_extract]
      simp only [Array.toList_map, this, bytesI, ← List.map_take, List.map_map]
      rfl
    · cases h
  · cases h

theorem run_clear {t e : TypeId} {k : IntKind} {z : Int} {ty : TypeId} (hu : P.underlying t = some (.slice e)) (hz : ∀ w, (zeroValue e).run P w = .ok (.int k z) w) (x : Addr) (n c : Nat) (w w' : World)
    (h : (storeCells x ((List.replicate n z).map (Value.int k))).run P w = .ok () w') (tys : Array TypeId) (ht : tys[0]? = some t) :
    (Builtin.clear_ tys ty #[.slice (some x) n c]).run P w = .ok (.tuple #[]) w' := by
  have hzc : (Builtin.zeroCells (Value.int k z).cells n).toList = (List.replicate n z).map (Value.int k) := by
    simp only [Builtin.zeroCells, Value.cells, List.size_toArray, List.length_cons, List.length_nil, Nat.zero_add, Nat.mul_one, Array.toList_map, Array.toList_range]
    apply List.ext_getElem?
    intro i
    simp only [List.getElem?_map, List.getElem?_replicate]
    by_cases hi' : i < n
    · rw [List.getElem?_range hi']; simp [hi', Nat.mod_one]
    · rw [List.getElem?_eq_none (by simpa using hi')]; simp [hi']
  unfold Builtin.clear_
  cases n with
  | zero =>
    simp only [List.replicate_zero, List.map_nil, storeCells, Sem.run_pure] at h
    cases h
    simp [ht, run_underlying hu]
  | succ n =>
    simp only [ht, List.getElem?_toArray, List.getElem?_cons_zero, Sem.run_bind, run_underlying hu, Result.andThen_ok, hz, hzc, h, Sem.run_pure]

theorem set_spl (xs : List Int) (i : Nat) (v : Int) (h : i < xs.length) : xs.set i v = spl xs i [v] := by
  unfold spl
  rw [List.set_eq_take_append_cons_drop, if_pos h]
  simp

theorem loud_sound (m : Mod w0 own ρ0 σ ρ a w) {o : Oper} (h : loud Γ σ o K) (Q : Exit → Act → World → Prop) : OpOk P w0 own ρ0 Γ K o a w Q := by
  obtain ⟨dst, op, type, pos, after, guard⟩ := o
  unfold OpOk Oper.wp
  cases op <;> simp only [loud] at h <;> (try exact h.elim)
  case box t x =>
    split at h
    · rename_i cs hc
      have hr := SV.cells_rel (m.ev x) hc
      have : (execOp a.eval ⟨dst, .box t x, type, pos, after, guard⟩).run P w = .ok (.value (.pointer (some ⟨w.heap.size, 0, none⟩))) (w.alloc (.cells (a.eval x).cells t)) := by
        simp [execOp, run_box]
      rw [this, Oper.upon_value]
      refine ⟨?_, fun _ => alloc_below _ _⟩
      have := m.allocPut (t := t) hr (d := dst) (v := .ptr σ.next 0) (x := .pointer (some ⟨w.heap.size, 0, none⟩)) (by
        have := Rel.ptr (n := σ.next + 1) (ρ := push ρ σ.next w.heap.size) σ.next 0 (Nat.lt_succ_self _)
        rwa [push_at] at this) (by rw [newBlock_eq] at h; exact h)
      simpa using this
    · exact h.elim
  case alloc t =>
    split at h
    · rename_i z hz
      split at h
      · rename_i cs hc
        obtain ⟨v, hv, hzr⟩ := tyZero_rel hz (n := σ.next) (ρ := ρ)
        have hr := SV.cells_rel hzr hc
        have : (execOp a.eval ⟨dst, .alloc t, type, pos, after, guard⟩).run P w = .ok (.value (.pointer (some ⟨w.heap.size, 0, none⟩))) (w.alloc (.cells v.cells t)) := by
          simp [execOp, Instr.alloc, hv, newVar, newRow]
        rw [this, Oper.upon_value]
        refine ⟨?_, fun _ => alloc_below _ _⟩
        have := m.allocPut (t := t) hr (d := dst) (v := .ptr σ.next 0) (x := .pointer (some ⟨w.heap.size, 0, none⟩)) (by
          have := Rel.ptr (n := σ.next + 1) (ρ := push ρ σ.next w.heap.size) σ.next 0 (Nat.lt_succ_self _)
          rwa [push_at] at this) (by rw [newBlock_eq] at h; exact h)
        simpa using this
      · exact h.elim
    · exact h.elim
  case store t x y =>
    split at h
    · rename_i b off new n h1 h2 h3
      split at h
      · rename_i cs t' hw hl
        simp only [Bool.and_eq_true] at hw
        have hwid := Nat.eq_of_beq_eq_true hw.1
        split at h
        · rename_i cs' hs
          have hx := m.ev x
          rw [h1] at hx
          obtain ⟨hx, hb⟩ := hx.inv_ptr
          have hnew := SV.cells_rel (m.ev y) h2
          obtain ⟨vs, fr, ho, hr, hf⟩ := (m.heap.rel _ _ hl).2
          obtain ⟨s1, s2⟩ := hr.setC hnew hs
          obtain ⟨w', r1, r2, r3, r4, r5, r6, r7⟩ := run_stores P (ρ b) t' fr (a.eval y).cells.toList off 0 vs w ho (by simpa using s2) hf (oneC_rel hnew hw.2)
          have hsz : (a.eval y).cells.size = n := by
            have := hnew.len
            rw [hwid] at this; simpa using this
          have hrun : (execOp a.eval ⟨dst, .store t x y, type, pos, after, guard⟩).run P w = .ok .skip w' := by
            simp [execOp, Instr.storeAt, hx, Instr.sureAddr, storeVar, run_sizeOf' h3, hsz, r1]
          rw [hrun, Oper.upon_skip]
          refine ⟨?_, fun hh => by simp [harmless, silentOp] at hh⟩
          rw [withBlock_eq] at h
          refine Mod.put (σ := { σ with heap := (b, .cells cs' t') :: σ.heap }) (ρ := ρ) ⟨m.defers, m.sz, m.tmp, ?_, m.base, m.ext⟩ (.any _) h
          refine m.heap.write hl r2 r3 r4 r5 r6 ⟨_, fr, r7, by simpa using s1, ?_⟩
          intro i hi
          refine hf i ?_
          simp at hi s2
          omega
        · exact h.elim
      · exact h.elim
    · rename_i b base mm i k v h1 h2 h3
      split at h
      · rename_i cs t' k' hl hk
        split at h
        · rename_i xs hkk hx
          obtain rfl := kindEq_eq hkk
          split at h
          · rename_i cs' hs
            have hxr := m.ev x
            rw [h1] at hxr
            obtain ⟨hxr, hb, o1, o2⟩ := hxr.inv_ep
            have hnew := SV.cells_rel (m.ev y) h2
            obtain ⟨y1, hy1, hy2⟩ := hnew.inv_one rfl
            have hy2 := hy2.inv_c
            have hlen := (rowAt_rel (m.heap.rel _ _ hl).2.choose_spec.choose_spec.2.1 hx).2.2
            rw [set_spl xs i.toNat v (by omega)] at hs
            obtain ⟨w', r1, r2⟩ := m.rowWrite (P := P) hl hx hs (by simp; omega) (ρ b) rfl (base + i.toNat) (.inr rfl)
            have hsz : (a.eval y).cells.size = 1 := by
              have := congrArg List.length hy1; simpa using this
            have hrun : (execOp a.eval ⟨dst, .store t x y, type, pos, after, guard⟩).run P w = .ok .skip w' := by
              have e : (a.eval y).cells.toList = [v].map (Value.int k) := by rw [hy1, hy2]; rfl
              simp only [execOp, Instr.storeAt, hxr, Instr.sureAddr, storeVar, Sem.run_bind, Sem.run_pure, Result.andThen_ok, run_sizeOf' h3, hsz, ne_eq, not_true_eq_false, if_false, e, r1]
            rw [hrun, Oper.upon_skip]
            refine ⟨?_, fun hh => by simp [harmless, silentOp] at hh⟩
            rw [withBlock_eq] at h
            exact Mod.put (σ := { σ with heap := (b, .cells cs' t') :: σ.heap }) (ρ := ρ) ⟨m.defers, m.sz, m.tmp, r2, m.base, m.ext⟩ (.any _) h
          · exact h.elim
        · exact h.elim
      · exact h.elim
    · exact h.elim
  case buildSlice t len parts =>
    split at h
    · rename_i e hu
      split at h
      · rename_i z h1 h2
        split at h
        · rename_i z1 hz1
          split at h
          · exact h.elim
          rename_i hzr
          split at h
          · rename_i cs hf
            split at h
            · rename_i hl1 hl2
              have hl1 : 0 < len := by simpa [Nat.blt_eq] using hl1
              have hl2 : len ≤ 1000 := by simpa using hl2
              obtain ⟨v, hv, hzrel⟩ := tyZero_rel h2 (n := σ.next) (ρ := ρ)
              have hzc := SV.cells_rel hzrel hz1
              obtain ⟨v1, hv1, hr1⟩ := hzc.inv_one hzr
              obtain ⟨us, hus, hfill⟩ := fillC_sound _ _ (parts.toList.map fun (i, x) => (i, a.eval x)) _ _ _ hf (RelL.replicate hr1 len) (by simp [evParts]) (evParts_spec m _)
              have hc1 : v.cells = #[v1] := by apply Array.ext'; rw [hv1]
              have hcells : (Array.range (len * 1)).map (fun j => (v.cells)[j % v.cells.size]!) = (List.replicate len v1).toArray := by
                apply Array.ext'
                simp only [hc1, Nat.mul_one, Array.toList_map, Array.toList_range]
                apply List.ext_getElem?
                intro i
                simp only [List.getElem?_map, List.getElem?_replicate]
                by_cases hi : i < len
                · rw [List.getElem?_range hi]; simp [hi, Nat.mod_one]
                · rw [List.getElem?_eq_none (by simpa using hi)]; simp [hi]
              have hrun : (execOp a.eval ⟨dst, .buildSlice t len parts, type, pos, after, guard⟩).run P w = .ok (.value (.slice (some ⟨w.heap.size, 0, none⟩) len len)) (w.alloc (.cells us.toArray e)) := by
                have hz0 : len ≠ 0 := by omega
                simp only [execOp, Instr.buildSlice, Sem.run_bind, run_underlying hu, Result.andThen_ok, run_sizeOf' h1, Nat.mul_one]
                rw [if_neg (by omega), if_neg hz0]
                simp only [Sem.run_pure, Sem.run_bind, hv, Result.andThen_ok]
                rw [Nat.mul_one] at hcells
                rw [hcells]
                simp at hfill
                simp [hfill, newRow]
              rw [hrun, Oper.upon_value]
              refine ⟨?_, fun _ => alloc_below _ _⟩
              refine m.allocPut hus ?_ (by rw [newBlock_eq] at h; exact h)
              have := Rel.slc (n := σ.next + 1) (ρ := push ρ σ.next w.heap.size) σ.next 0 len len (Nat.lt_succ_self _)
              rwa [push_at] at this
            · exact h.elim
          · exact h.elim
        · exact h.elim
      · exact h.elim
    · exact h.elim
  case call c =>
    obtain ⟨callee, args, tys⟩ := c
    cases callee with
    | invoke => exact h.elim
    | builtin bi =>
      cases bi <;> simp only [] at h <;> (try exact h.elim)
      case copy =>
        split at h
        · rename_i t b base mm lo hi src ht ha
          split at h
          · rename_i e hu
            split at h
            · rename_i cs t' k hl hk
              split at h
              · rename_i xs zs hx hz
                split at h
                · rename_i cs' hs
                  have hargs := m.evs args.toList
                  have hav : (args.map a.eval).toList = args.toList.map a.eval := by simp
                  rw [ha] at hargs
                  generalize hgen : args.toList.map a.eval = avs at hargs hav
                  obtain ⟨vd, vs1, rfl, hd, hsr⟩ := hargs.inv_two rfl (by cases src <;> first | rfl | (simp [srcInts] at hz))
                  obtain ⟨hvd, hb, o1, o2, o3⟩ := hd.inv_sl
                  subst hvd
                  obtain ⟨q1, q2⟩ := srcInts_run (P := P) m hz hsr
                  have hsz : tySize P e = some 1 := by
                    unfold elemKind at hk
                    split at hk
                    · assumption
                    · cases hk
                  obtain ⟨w', r1, r2⟩ := m.rowWrite (P := P) hl hx hs (by simp; omega) (ρ b) rfl (if mm = lo.toNat then base else base + lo.toNat)
                    (by by_cases hml : mm = lo.toNat
                        · left; apply List.eq_nil_of_length_eq_zero; simp; omega
                        · right; rw [if_neg hml])
                  have h1 : args.map a.eval = #[.slice (some ⟨ρ b, if mm = lo.toNat then base else base + lo.toNat, none⟩) (hi.toNat - lo.toNat) (mm - lo.toNat), vs1] := by
                    apply Array.ext'; rw [hav]
                  have h2 : tys[0]? = some t := by
                    rw [List.head?_eq_getElem?] at ht; simpa using ht
                  have hmin : zs.take (hi.toNat - lo.toNat) = zs.take (Nat.min zs.length (hi.toNat - lo.toNat)) := by
                    rcases Nat.le_total zs.length (hi.toNat - lo.toNat) with hq | hq
                    · rw [show Nat.min zs.length (hi.toNat - lo.toNat) = zs.length from Nat.min_eq_left hq, List.take_of_length_le hq, List.take_length]
                    · rw [show Nat.min zs.length (hi.toNat - lo.toNat) = hi.toNat - lo.toNat from Nat.min_eq_right hq]
                  have hle : Nat.min zs.length (hi.toNat - lo.toNat) ≤ zs.length := Nat.min_le_left _ _
                  have q3 := q2 _ hle
                  rw [hmin] at r1
                  have hrun : (execOp a.eval ⟨dst, .call ⟨.builtin .copy, args, tys⟩, type, pos, after, guard⟩).run P w = .ok (.value (.int .i64 (Nat.min zs.length (hi.toNat - lo.toNat)))) w' := by
                    simp only [execOp, resolve, Sem.run_bind, Sem.run_pure, Result.andThen_ok, invoke, builtin, Builtin.copy_, h1, h2]
                    simp [run_underlying hu, q1, run_sizeOf' hsz, goInt]
                    simp at q3 r1
                    simp [q3, r1]
                  rw [hrun, Oper.upon_value]
                  refine ⟨?_, fun hh => by simp [harmless, silentOp] at hh⟩
                  rw [withBlock_eq] at h
                  exact Mod.put (σ := { σ with heap := (b, .cells cs' t') :: σ.heap }) (ρ := ρ) ⟨m.defers, m.sz, m.tmp, r2, m.base, m.ext⟩ (.c _) h
                · exact h.elim
              · exact h.elim
            · exact h.elim
          · exact h.elim
        · exact h.elim
      case clear =>
        split at h
        · rename_i t b base mm lo hi ht ha
          split at h
          · rename_i e hu
            split at h
            · rename_i cs t' k hl hk
              split at h
              · rename_i xs kz z hx htz
                split at h
                · rename_i cs' hkz hs
                  obtain rfl := kindEq_eq hkz
                  have hargs := m.evs args.toList
                  have hav : (args.map a.eval).toList = args.toList.map a.eval := by simp
                  rw [ha] at hargs
                  generalize hgen : args.toList.map a.eval = avs at hargs hav
                  obtain ⟨vd, rfl, hd⟩ := hargs.inv_one rfl
                  obtain ⟨hvd, hb, o1, o2, o3⟩ := hd.inv_sl
                  subst hvd
                  have hsz : tySize P e = some 1 ∧ P.underlying e = some (.int kz) := by
                    unfold elemKind at hk
                    split at hk
                    · rename_i hu2 _; cases hk; exact ⟨by assumption, hu2⟩
                    · cases hk
                  obtain ⟨w', r1, r2⟩ := m.rowWrite (P := P) hl hx hs (by simp; omega) (ρ b) rfl (if mm = lo.toNat then base else base + lo.toNat)
                    (by by_cases hml : mm = lo.toNat
                        · left; apply List.eq_nil_of_length_eq_zero; simp; omega
                        · right; rw [if_neg hml])
                  obtain ⟨zv, hzv, hzr⟩ := tyZero_rel htz (n := σ.next) (ρ := ρ)
                  have hzv' := hzr.inv_c
                  subst hzv'
                  have h1 : args.map a.eval = #[.slice (some ⟨ρ b, if mm = lo.toNat then base else base + lo.toNat, none⟩) (hi.toNat - lo.toNat) (mm - lo.toNat)] := by
                    apply Array.ext'; rw [hav]
                  have h2 : tys[0]? = some t := by
                    rw [List.head?_eq_getElem?] at ht; simpa using ht
                  have hrun : (execOp a.eval ⟨dst, .call ⟨.builtin .clear, args, tys⟩, type, pos, after, guard⟩).run P w = .ok (.value (.tuple #[])) w' := by
                    simp only [execOp, resolve, Sem.run_bind, Sem.run_pure, Result.andThen_ok, invoke, builtin, Builtin.clear_, h1, h2]
                    have := run_clear (ty := type) hu hzv _ _ (mm - lo.toNat) w w' r1 tys h2
                    simp only [Builtin.clear_, h2] at this
                    rw [this]; rfl
                  rw [hrun, Oper.upon_value]
                  refine ⟨?_, fun hh => by simp [harmless, silentOp] at hh⟩
                  rw [withBlock_eq] at h
                  exact Mod.put (σ := { σ with heap := (b, .cells cs' t') :: σ.heap }) (ρ := ρ) ⟨m.defers, m.sz, m.tmp, r2, m.base, m.ext⟩ (.any _) h
                · exact h.elim
              · exact h.elim
            · exact h.elim
          · exact h.elim
        · exact h.elim
    | value f =>
    simp only [] at h
    split at h
    · rename_i g first caps hfv
      have hv := m.ev f
      rw [hfv] at hv
      obtain ⟨xs, ys, hv, hxs, hys⟩ := hv.inv_fn
      have hargs := (hxs.append (m.evs args.toList)).append hys
      obtain ⟨hent, hcalls⟩ := callFn_sound m hargs (d := dst) h
      have hrun : (execOp a.eval ⟨dst, .call ⟨.value f, args, tys⟩, type, pos, after, guard⟩).run P w = .ok (.enter g (xs ++ args.toList.map a.eval ++ ys).toArray) w := by
        simp only [execOp, resolve, hv, Deferred.ofValue, Sem.run_bind, Sem.run_pure, Result.andThen_ok, invoke, hent]
        congr 2
        apply Array.ext'; simp
      rw [hrun, Oper.upon_enter]
      refine hcalls.mono ?_
      rintro e w' ⟨v, rfl, hs, hb⟩
      refine ⟨hs, fun hh => hb ?_⟩
      cases f <;> simp [harmless, silentOp] at hh
      simp only [St.ev] at hfv
      cases hfv
      exact hh
    · exact h.elim

theorem evOp_sound (m : Mod w0 own ρ0 σ ρ a w) {o : Oper} (h : evOp Γ σ o K) (Q : Exit → Act → World → Prop) : OpOk P w0 own ρ0 Γ K o a w Q := by
  unfold evOp at h
  split at h
  · rename_i s hs
    have key : (∀ p, s.obl = some p → p) ∧ putK σ o.dst s.val K := by
      split at h
      · rename_i hn; exact ⟨fun p hp => (by rw [hn] at hp; cases hp), h⟩
      · rename_i p hp; exact ⟨fun q hq => (by rw [hp] at hq; cases hq; exact h.1), h.2⟩
    obtain ⟨x, hx, hrun⟩ := sil_sound m hs key.1
    unfold OpOk Oper.wp
    rw [hrun w (fun _ _ => rfl), Oper.upon_value]
    exact ⟨m.put hx key.2, fun _ => Below.refl _ _⟩
  · exact loud_sound m h Q

end
end Go.Proofs.YtlobbcodnkfbiaaDoor.Sx
