/-
  Sx8: each operation keeps a state fitting.
-/
import Derived.Test.YtjiamfajgllelaaSy7
import Derived.Deep.AppendSrc
import Derived.Deep.Upon
import Derived.Laws.AppendOwn
namespace Go.Proofs.Ytjiamfajgllelaa.Sy
open Go Go.RowKit

/-- a state that fits, of which K holds -/
def Sat (w0 : World) (own : Nat → Prop) (ρ0 : Nat × Env) (K : St → Prop) (a : Act) (w : World) : Prop := ∃ σ ρ, K σ ∧ Mod w0 own ρ0 σ ρ a w

/-- operations that leave alone what is there -/
def harmless {P : Program} (Γ : Gam P) : Op → Bool
  | .box .. | .alloc _ | .buildSlice .. | .range .. => true
  | .call ⟨.value (.func f), _, _⟩ => quietF Γ f
  | op => silentOp op

section
variable {P : Program} {w0 : World} {own : Nat → Prop} {ρ0 : Nat × Env} {σ : St} {ρ : Env} {a : Act} {w : World} {Γ : Gam P} {K : St → Prop}

theorem Mod.put (m : Mod w0 own ρ0 σ ρ a w) {d : Option Nat} {v : SV} {x : Value} (hr : Rel σ.next ρ v x) (h : putK σ d v K) : Sat w0 own ρ0 K (a.put d x) w := by
  cases d with
  | none => exact ⟨σ, ρ, h, m⟩
  | some t =>
    simp only [putK, force_eq] at h
    split at h
    · rename_i hb
      have hb : t < σ.sz := by simpa [Nat.blt_eq] using hb
      refine ⟨_, ρ, h, ⟨m.defers, by simp [Act.put, m.sz], fun t' => ?_, m.heap, m.base, m.ext, m.rnew⟩⟩
      simp only [Act.put, St.get]
      by_cases ht : t = t'
      · subst ht
        rw [look_cons_same]
        simp [m.sz, hb]; exact hr
      · rw [look_cons_ne ht]
        have := m.tmp t'
        simp only [St.get] at this
        simpa [Array.getElem?_setIfInBounds_ne ht] using this
    · exact h.elim

theorem Mod.heapTo (m : Mod w0 own ρ0 σ ρ a w) {heap : List (Nat × SB)} {next : Nat} {ρ' : Env} {w' : World} (hn : σ.next ≤ next) (he : Ext σ.next ρ ρ') (h : HMod w0 own heap next ρ' w') (hR : RNew w0 ρ.R ρ'.R := by exact fun _ _ h => .inl h) :
    Mod w0 own ρ0 { σ with heap := heap, next := next } ρ' a w' :=
  ⟨m.defers, m.sz, fun t => (m.tmp t).ext hn he, h, Nat.le_trans m.base hn, ⟨m.ext.1, Ext.trans m.ext.2 he m.base⟩, fun g o hg => (hR g o hg).elim (m.rnew g o) .inr⟩

theorem alloc_below (w : World) (o : Obj) : Below w.heap.size w (w.alloc o) := (Below.refl _ _).alloc (Nat.le_refl _) o

/-- a new block, its address in a slot -/
theorem Mod.allocPut (m : Mod w0 own ρ0 σ ρ a w) {cs : List SV} {vs : List Value} {t : TypeId} (hr : RelL σ.next ρ cs vs) {d : Option Nat} {v : SV} {x : Value}
    (hx : Rel (σ.next + 1) (push ρ σ.next w.heap.size false 0) v x)
    (h : putK { σ with heap := (σ.next, .cells cs t) :: σ.heap, next := σ.next + 1 } d v K) : Sat w0 own ρ0 K (a.put d x) (w.alloc (.cells vs.toArray t)) :=
  (m.heapTo (Nat.le_succ _) (push_ext _ _ _ _ _) (m.heap.alloc t hr)).put hx h

/-- more is read alone from now on -/
theorem HMod.more {heap : List (Nat × SB)} {next : Nat} {w' : World} (h : HMod w0 own heap next ρ w) (hb : Below w.heap.size w w') {R' : Nat → Option Obj} (hR : RMore w w' ρ.R R') : HMod w0 own heap next { ρ with R := R' } w' := by
  have h' := h.below hb
  have hext : Ext next ρ { ρ with R := R' } := ⟨fun _ _ => ⟨rfl, rfl, rfl⟩, hR.1⟩
  refine ⟨fun i sb hl => ⟨(h'.rel i sb hl).1, (h'.rel i sb hl).2.ext (Nat.le_refl _) hext (h'.rel i sb hl).1⟩, h'.inj, fun i sb hl ho hn => ?_, h'.os, h'.tape, h'.output, h'.size, h'.block, h'.glob, h'.gsz, h'.gown, fun g o hg => (hR.2 g o hg).1⟩
  obtain ⟨m1, m2, m3⟩ := h.mine i sb hl ho hn
  refine ⟨m1, by show ρ i < _; have := hb.size; omega, ?_⟩
  cases hr : R' (ρ i) with
  | none => exact hr
  | some o =>
    rcases (hR.2 _ _ hr).2 with h1 | h1
    · rw [m3] at h1; cases h1
    · exact absurd m2 (by show ¬ (ρ i < w.heap.size); omega)

mutual
theorem plain_rel {n : Nat} {ρ ρ' : Env} : ∀ {x : SV} {v : Value}, plainSV x = true → Rel n ρ' x v → Rel 0 ρ x v
  | .c _, _, _, h => by rw [h.inv_c]; exact .c _
  | .any, _, _, _ => .any _
  | .agg cs, _, hp, h => by
    obtain ⟨vs, rfl, hl⟩ := h.inv_agg
    exact .agg _ _ (plainL_rel (by simpa [plainSV] using hp) hl)
  | .tup cs, _, hp, h => by
    obtain ⟨vs, rfl, hl⟩ := h.inv_tup
    exact .tup _ _ (plainL_rel (by simpa [plainSV] using hp) hl)
  | .ptr .., _, hp, _ | .slc .., _, hp, _ | .ep .., _, hp, _ | .sl .., _, hp, _ | .fn .., _, hp, _ | .row .., _, hp, _ | .gs .., _, hp, _ | .ap .., _, hp, _ | .rs .., _, hp, _ | .rp .., _, hp, _ | .ifc .., _, hp, _ | .mp .., _, hp, _ | .zs, _, hp, _ => by simp [plainSV] at hp
theorem plainL_rel {n : Nat} {ρ ρ' : Env} : ∀ {x : List SV} {v : List Value}, plainSV.plainL x = true → RelL n ρ' x v → RelL 0 ρ x v
  | [], _, _, h => by cases h; exact .nil
  | x :: cs, _, hp, h => by
    cases h with
    | cons _ _ v vs hx h1 h2 =>
      have : plainSV x = true ∧ plainSV.plainL cs = true := by
        cases x <;> simp_all [plainSV.plainL, SV.isRow]
      exact .cons _ _ _ _ hx (plain_rel this.1 h1) (plainL_rel this.2 h2)
    | row k m xs _ vs hl h2 => exact .row _ _ _ _ _ hl (plainL_rel (by simpa [plainSV.plainL] using hp) h2)
end

theorem gs_as_rs {heap : List (Nat × SB)} {next : Nat} (h : HMod w0 own heap next ρ w) {b wd lo hi : Nat} {mx : Option Nat} {v : Value} (hv : Rel next ρ (.gs b wd lo hi mx) v) {t : TypeId} {m : Nat} {f : Nat → List SV}
    (hl : look heap b = some (.arr t wd m f)) (hm : hi ≤ m) {R' : Nat → Option Obj} (hR : ∀ g o, ρ.R g = some o → R' g = some o) (hb : ρ.no b = false → R' (ρ b) = w.heap[ρ b]?) (n : Nat) :
    Rel n { ρ with R := R' } (.rs wd (subN hi lo) (shiftF f lo)) v := by
  rw [subN_eq, shiftF_eq]
  obtain ⟨_, hlo, hg⟩ := hv.inv_gs
  rcases hg with ⟨hno, rfl, _, rfl⟩ | ⟨hno, c1, c2, off, rfl, hoff⟩
  · rw [Nat.zero_sub]; exact .rs0 _ _ _ _
  · by_cases hz : hi - lo = 0
    · rw [hz]; exact .rs0 _ _ _ _
    · have hoff := hoff (.inr (by omega))
      subst hoff
      obtain ⟨us, ho, h1, h2, h3, h4, h5⟩ := BRel.arr_some (h.rel _ _ hl).2 hno
      refine .rs _ _ _ (ρ b) (lo * wd) _ us t (0, 0) (by omega) (by omega) ((hb hno).trans ho) ?_ (fun i hi => ?_) (fun u hu => h4 u (List.mem_of_mem_drop (List.mem_of_mem_take hu)))
      · have : lo + (hi - lo) ≤ ρ.cap b := by omega
        have := Nat.mul_le_mul_right wd this
        rw [Nat.add_mul] at this
        omega
      · have := h5 (lo + i) (by omega)
        rw [Nat.add_mul] at this
        exact this.R0 hR 0

/-- slices lent -/
theorem lend_sound {heap : List (Nat × SB)} {next : Nat} (h : HMod w0 own heap next ρ w) {KL : List SV → Bool → Prop} : ∀ (args : List SV) (vs : List Value) (acc : List SV) (us : List Value) (lent : Bool),
    RelL next ρ args vs → RelL next { ρ with R := fun g => w.heap[g]? } acc.reverse us → lend heap KL args acc lent →
    ∃ args' lent', KL args' lent' ∧ RelL next { ρ with R := fun g => w.heap[g]? } args' (us ++ vs) ∧ (lent' = false → lent = false ∧ args' = acc.reverse ++ args)
  | [], vs, acc, us, lent, hv, hu, hk => by
    cases hv
    exact ⟨acc.reverse, lent, hk, by simpa using hu, fun e => ⟨e, by simp⟩⟩
  | x :: r, vs, acc, us, lent, hv, hu, hk => by
    have hext : Ext next ρ { ρ with R := fun g => w.heap[g]? } := ⟨fun _ _ => ⟨rfl, rfl, rfl⟩, h.ro⟩
    have other : lend heap KL r (x :: acc) lent → ∃ args' lent', KL args' lent' ∧ RelL next { ρ with R := fun g => w.heap[g]? } args' (us ++ vs) ∧ (lent' = false → lent = false ∧ args' = acc.reverse ++ (x :: r)) := by
      intro hk
      have : ∃ u1 u2, vs = u1 ++ u2 ∧ RelL next { ρ with R := fun g => w.heap[g]? } [x] u1 ∧ RelL next ρ r u2 := by
        cases hv with
        | cons _ _ v vs' hx h1 h2 => exact ⟨[v], vs', rfl, .cons _ _ _ _ hx (h1.ext (Nat.le_refl _) hext) .nil, h2⟩
        | row k m xs _ vs' hl h2 => exact ⟨xs.map (Value.int k), vs', rfl, by have := RelL.row (n := next) (ρ := { ρ with R := fun g => w.heap[g]? }) k m xs [] [] hl .nil; simpa using this, h2⟩
      obtain ⟨u1, u2, rfl, h1, h2⟩ := this
      obtain ⟨args', lent', k1, k2, k3⟩ := lend_sound h r u2 (x :: acc) (us ++ u1) lent h2 (by rw [List.reverse_cons]; exact hu.append h1) hk
      exact ⟨args', lent', k1, by simpa using k2, fun e => ⟨(k3 e).1, by simpa using (k3 e).2⟩⟩
    cases x with
    | gs b wd lo hi mx =>
      simp only [lend] at hk
      split at hk
      · rename_i t w' m f hl
        unfold chk at hk
        split at hk
        · rename_i hc
          simp only [Bool.and_eq_true] at hc
          obtain rfl := Nat.eq_of_beq_eq_true hc.1
          obtain ⟨hm, hk⟩ := hk
          cases hv with
          | cons _ _ v vs' hx h1 h2 =>
            have hrs := gs_as_rs (R' := fun g => w.heap[g]?) h h1 hl hm h.ro (fun _ => rfl) next
            obtain ⟨args', lent', k1, k2, k3⟩ := lend_sound h r vs' (_ :: acc) (us ++ [v]) true h2 (by rw [List.reverse_cons]; exact hu.append (.cons _ _ _ _ rfl hrs .nil)) hk
            exact ⟨args', lent', k1, by simpa using k2, fun e => by have := (k3 e).1; cases this⟩
        · exact hk.elim
      · exact hk.elim
    | _ => simp only [lend] at hk; exact other hk

theorem callFn_sound (m : Mod w0 own ρ0 σ ρ a w) {g : FuncId} {args : List SV} {vs : List Value} (hr : RelL σ.next ρ args vs) {d : Option Nat} (h : callFn Γ σ g args d K) :
    (∀ args w, (callFunc g args).run P w = .ok (.enter g args) w) ∧ Calls P g vs.toArray w fun e w' => ∃ v, e = .returned v ∧ Sat w0 own ρ0 K (a.put d v) w' ∧ (quietF Γ g = true → Below w.heap.size w w') := by
  unfold callFn at h
  split at h
  · rename_i s hs
    have hg : s.f = g := by
      have key : ∀ l : List (PSpec P), findP l g = some s → s.f = g := by
        intro l
        induction l with
        | nil => intro h; cases h
        | cons x l ih =>
          intro h
          simp only [findP] at h
          split at h
          · rename_i hb; cases h; exact Nat.eq_of_beq_eq_true hb
          · exact ih h
      exact key _ hs
    subst hg
    refine ⟨s.enter, ?_⟩
    have hng : NG ≤ w.heap.size := Nat.le_trans m.heap.gsz m.heap.size
    obtain ⟨args', lent', hk, hargs, hlent⟩ := lend_sound m.heap args vs [] [] false hr .nil h
    cases lent' with
    | false =>
      obtain ⟨_, he⟩ := hlent rfl
      have he : args' = args := by simpa using he
      rw [he] at hk
      refine (s.sound args _ hk σ.next ρ vs w hr m.heap.glob hng m.heap.ro).mono ?_
      rintro e w' ⟨r, v, R', hk, rfl, hrel, hb, hR⟩
      refine ⟨v, rfl, ?_, fun _ => hb⟩
      have hext : Ext σ.next ρ { ρ with R := R' } := ⟨fun _ _ => ⟨rfl, rfl, rfl⟩, hR.1⟩
      exact (m.heapTo (Nat.le_refl _) hext (m.heap.more hb hR) (fun g o hg => (hR.2 g o hg).2.imp id (Nat.le_trans m.heap.size))).put (hrel.R0 (fun _ _ h => h) _) hk
    | true =>
      refine (s.sound args' _ hk σ.next _ vs w (by simpa using hargs) m.heap.glob hng (fun _ _ h => h)).mono ?_
      rintro e w' ⟨r, v, R', hk, rfl, hrel, hb, hR⟩
      refine ⟨v, rfl, ?_, fun _ => hb⟩
      simp only [chk] at hk
      split at hk
      · rename_i hp
        exact (m.heapTo (Nat.le_refl _) (Ext.refl _ _) (m.heap.below hb)).put ((plain_rel hp hrel).R0 (fun _ _ h => h) _) hk
      · exact hk.elim
  · rename_i hs
    split at h
    · rename_i s hs'
      have hg : s.f = g := by
        have key : ∀ l : List (GSpec P), findG l g = some s → s.f = g := by
          intro l
          induction l with
          | nil => intro h; cases h
          | cons x l ih =>
            intro h
            simp only [findG] at h
            split at h
            · rename_i hb; cases h; exact Nat.eq_of_beq_eq_true hb
            · exact ih h
        exact key _ hs'
      subst hg
      refine ⟨s.enter, ?_⟩
      refine (s.sound args _ _ _ h w0 own ρ vs w hr m.heap).mono ?_
      rintro e w' ⟨r, v, heap', next', ρ', hk, rfl, hrel, hn, he, hm, hrn, hq⟩
      refine ⟨v, rfl, ?_, fun hh => hq (by unfold quietF at hh; rw [hs, hs'] at hh; exact hh)⟩
      exact (m.heapTo hn he hm hrn).put hrel hk
    · exact h.elim

theorem run_box (t : TypeId) (v : Value) (w : World) : (Instr.box t v).run P w = .ok (.pointer (some ⟨w.heap.size, 0, none⟩)) (w.alloc (.cells v.cells t)) := by
  simp [Instr.box, newVar, newRow]

def OpOk (P : Program) (w0 : World) (own : Nat → Prop) (ρ0 : Nat × Env) (Γ : Gam P) (K : St → Prop) (o : Oper) (a : Act) (w : World) (Q : Exit → Act → World → Prop) : Prop :=
  o.wp P a w (fun a' w' => Sat w0 own ρ0 K a' w' ∧ (harmless Γ o.op = true → Below w.heap.size w w')) Q


theorem RelL.replicate {n : Nat} {ρ : Env} {x : SV} {v : Value} (h : Rel n ρ x v) (k : Nat) : RelL n ρ (List.replicate k x) (List.replicate k v) := by
  induction k with
  | zero => exact .nil
  | succ k ih => exact .cons _ _ _ _ h.notRow h ih

/-- a part of a row of integers written -/
theorem Mod.rowWrite (m : Mod w0 own ρ0 σ ρ a w) {b : Nat} {cs : List SV} {t' : TypeId} (hl : look σ.heap b = some (.cells cs t')) {k : IntKind} {base mm p : Nat} {xs zs : List Int}
    (hx : rowAt k cs base mm = some xs) {cs' : List SV} (hs : setC cs base [.row k mm (spl xs p zs)] = some cs') (hp : p + zs.length ≤ mm) (g : Nat) (hg : g = ρ b) (off : Nat) (hoff : zs = [] ∨ off = base + p) :
    ∃ w', (storeCells ⟨g, off, none⟩ (zs.map (Value.int k))).run P w = .ok () w' ∧ HMod w0 own ((b, .cells cs' t') :: σ.heap) σ.next ρ w' := by
  subst hg
  obtain ⟨_, vs, fr, ho, hr, hf⟩ := (m.heap.rel _ _ hl).2
  obtain ⟨e1, e2, e3⟩ := rowAt_rel hr hx
  have hlen : (spl xs p zs).length = mm := by simp [spl]; omega
  have hnew : RelL σ.next ρ [.row k mm (spl xs p zs)] ((spl xs p zs).map (Value.int k)) := by
    have := RelL.row (n := σ.next) (ρ := ρ) k mm (spl xs p zs) [] [] hlen .nil
    simpa using this
  obtain ⟨s1, s2⟩ := hr.setC hnew hs
  simp only [List.length_map, hlen] at s1 s2
  have hvs : vs.take (base + p) ++ zs.map (Value.int k) ++ vs.drop (base + p + zs.length) = vs.take base ++ (spl xs p zs).map (Value.int k) ++ vs.drop (base + mm) := by
    have h1 : vs = vs.take base ++ (xs.map (Value.int k) ++ vs.drop (base + mm)) := by
      rw [← e1]
      conv => lhs; rw [← List.take_append_drop base vs]
      congr 1
      conv => lhs; rw [← List.take_append_drop mm (vs.drop base)]
      rw [List.drop_drop]
    have h2 : (vs.take base).length = base := by simp; omega
    have h3 : vs.take (base + p) = vs.take base ++ (xs.take p).map (Value.int k) := by
      conv => lhs; rw [h1]
      rw [List.take_append, h2, List.take_of_length_le (by omega), show base + p - base = p by omega, List.take_append, List.map_take]
      have : vs.drop (base + mm) = vs.drop (base + mm) := rfl
      rw [List.length_map, e3, show p - mm = 0 by omega]
      simp
    have h4 : vs.drop (base + p + zs.length) = (xs.drop (p + zs.length)).map (Value.int k) ++ vs.drop (base + mm) := by
      conv => lhs; rw [h1]
      rw [List.drop_append, h2, List.drop_of_length_le (by omega), List.nil_append, show base + p + zs.length - base = p + zs.length by omega, List.drop_append, List.map_drop]
      rw [List.length_map, e3, show p + zs.length - mm = 0 by omega]
      simp
    rw [h3, h4]
    simp [spl]
  by_cases hz : zs = []
  · subst hz
    refine ⟨w, rfl, m.heap.write hl rfl rfl rfl rfl (fun _ _ => rfl) ⟨vs, fr, ho, ?_, hf⟩⟩
    have : vs.take base ++ (spl xs p []).map (Value.int k) ++ vs.drop (base + mm) = vs := by
      rw [← hvs]; simp
    rw [this] at s1
    exact s1
  · have hoff : off = base + p := by rcases hoff with h | h; exact absurd h hz; exact h
    subst hoff
    obtain ⟨w', r1, r2, r3, r4, r5, r6, r7⟩ := run_stores P (ρ b) t' fr (zs.map (Value.int k)) (base + p) 0 vs w ho (by simp; omega) hf (by intro u hu; obtain ⟨i, _, rfl⟩ := List.mem_map.1 hu; rfl)
    refine ⟨w', r1, m.heap.write hl r2 r3 r4 r5 r6 ⟨_, fr, r7, ?_, ?_⟩⟩
    · simp only [Nat.add_zero, List.length_map]
      rw [hvs]
      exact s1
    · intro i hi
      refine hf i ?_
      simp at hi
      omega

theorem srcInts_run (m : Mod w0 own ρ0 σ ρ a w) {k : IntKind} {src : SV} {zs : List Int} (h : srcInts σ.heap k src = some zs) {v : Value} (hv : Rel σ.next ρ src v) :
    (Builtin.lenOf v).run P w = .ok zs.length w ∧ ∀ n, n ≤ zs.length → (Builtin.firstCells 1 n v).run P w = .ok ((zs.take n).map (Value.int k)).toArray w := by
  unfold srcInts at h
  split at h
  · rename_i b base mm lo hi
    split at h
    · rename_i cs t' hl
      split at h
      · rename_i xs hx
        cases h
        obtain ⟨rfl, hb, o1, o2, o3⟩ := hv.inv_sl
        obtain ⟨_, vs, fr, ho, hr, hf⟩ := (m.heap.rel _ _ hl).2
        obtain ⟨e1, e2, e3⟩ := rowAt_rel hr hx
        have hlen : ((xs.drop lo.toNat).take (hi.toNat - lo.toNat)).length = hi.toNat - lo.toNat := by simp; omega
        refine ⟨by rw [hlen]; rfl, fun n hn => ?_⟩
        rw [hlen] at hn
        by_cases hn0 : n = 0
        · subst hn0
          simp [Builtin.firstCells, loadCells, loadCellsFrom]
        · have hne : mm ≠ lo.toNat := by omega
          simp only [Builtin.firstCells, if_neg hne, Nat.mul_one]
          have := run_loadCells_list (P := P) (w := w) ⟨ρ b, base + lo.toNat, none⟩ ((((xs.drop lo.toNat).take (hi.toNat - lo.toNat)).take n).map (Value.int k)) (by
            intro j u hj
            have hadd : (Addr.add ⟨ρ b, base + lo.toNat, none⟩ j) = ⟨ρ b, base + lo.toNat + j, none⟩ := by
              unfold Addr.add; split <;> simp_all
            rw [hadd]
            refine (cell_of ho).trans ?_
            have hjn : j < n := by
              have := (List.getElem?_eq_some_iff.1 hj).1
              simp at this; omega
            have h2 : ((vs.drop base).take mm)[lo.toNat + j]? = (xs.map (Value.int k))[lo.toNat + j]? := by rw [e1]
            rw [List.getElem?_take, if_pos (by omega), List.getElem?_drop] at h2
            rw [show base + lo.toNat + j = base + (lo.toNat + j) by omega, h2, ← hj]
            simp only [List.getElem?_map, List.getElem?_take, List.getElem?_drop]
            rw [if_pos hjn, if_pos (by omega)])
          simp only [List.length_map, List.length_take, hlen, Nat.min_eq_left hn] at this
          exact this
      · cases h
    · cases h
  · rename_i s
    split at h
    · cases h
      have := hv.inv_c
      subst this
      have hlen : (bytesI s).length = s.size := by simp [bytesI]
      refine ⟨by rw [hlen]; rfl, fun n hn => ?_⟩
      simp only [Builtin.firstCells, Sem.run_pure]
      congr 1
      apply Array.ext'
      rw [hlen] at hn
      have : (s.extract 0 n).data.toList = s.data.toList.take n := by
        simp [ByteArray.data_extract]
      simp only [Array.toList_map, this, bytesI, ← List.map_take, List.map_map]
      rfl
    · cases h
  · cases h

theorem run_clear {t e : TypeId} {k : IntKind} {z : Int} {ty : TypeId} (hu : P.underlying t = some (.slice e)) (hz : ∀ w, (zeroValue e).run P w = .ok (.int k z) w) (x : Addr) (n c : Nat) (w w' : World)
    (h : (storeCells x ((List.replicate n z).map (Value.int k))).run P w = .ok () w') (tys : Array TypeId) (ht : tys[0]? = some t) :
    (Builtin.clear_ tys ty #[.slice (some x) n c]).run P w = .ok (.tuple #[]) w' := by
  have hzc : (Builtin.zeroCells (Value.int k z).cells n).toList = (List.replicate n z).map (Value.int k) := by
    simp only [Builtin.zeroCells, Value.cells, List.size_toArray, List.length_cons, List.length_nil, Nat.zero_add, Nat.mul_one, Array.toList_map, Array.toList_range]
    apply List.ext_getElem?
    intro i
    simp only [List.getElem?_map, List.getElem?_replicate]
    by_cases hi' : i < n
    · rw [List.getElem?_range hi']; simp [hi', Nat.mod_one]
    · rw [List.getElem?_eq_none (by simpa using hi')]; simp [hi']
  unfold Builtin.clear_
  cases n with
  | zero =>
    simp only [List.replicate_zero, List.map_nil, storeCells, Sem.run_pure] at h
    cases h
    simp [ht, run_underlying hu]
  | succ n =>
    simp only [ht, List.getElem?_toArray, List.getElem?_cons_zero, Sem.run_bind, run_underlying hu, Result.andThen_ok, hz, hzc, h, Sem.run_pure]

theorem set_spl (xs : List Int) (i : Nat) (v : Int) (h : i < xs.length) : xs.set i v = spl xs i [v] := by
  unfold spl
  rw [List.set_eq_take_append_cons_drop, if_pos h]
  simp

theorem part_list (us : List Value) (off n wd j : Nat) (hj : j < n) : (((us.drop off).take (n * wd)).drop (j * wd)).take wd = (us.drop (off + j * wd)).take wd := by
  rw [List.drop_take, List.take_take, List.drop_drop]
  congr 1
  have : (j + 1) * wd ≤ n * wd := Nat.mul_le_mul_right _ hj
  rw [Nat.add_mul] at this
  omega

theorem src_cells {tx e' : TypeId} (hk : P.underlying tx = some (.slice e')) {g off n cap wd : Nat} {us : List Value} {te : TypeId} {fr : Nat × Nat} (hg : w.heap[g]? = some (.cells us.toArray te fr)) (hl : off + n * wd ≤ us.length)
    (h1 : ∀ u ∈ (us.drop off).take (n * wd), u.oneCell' = true) : Src P wd tx (.slice (some ⟨g, off, none⟩) n cap) n ((us.drop off).take (n * wd)) w := by
  refine Src.ofSlice w hk _ _ _ _ (by simp; omega) (fun j u hj => ?_) h1
  rw [add_lit, cell_of hg]
  rw [List.getElem?_take] at hj
  split at hj
  · simpa using hj
  · cases hj

theorem src_zero {tx e' : TypeId} (hk : P.underlying tx = some (.slice e')) (ad : Option Addr) (cap wd : Nat) : Src P wd tx (.slice ad 0 cap) 0 [] w := by
  cases ad with
  | none => exact Src.ofNil w hk cap
  | some x => exact Src.ofSlice w hk x 0 cap [] (by simp) (fun j u hj => by simp at hj) (fun u hu => by cases hu)

theorem appSrc_sound {heap : List (Nat × SB)} {next : Nat} (hm : HMod w0 own heap next ρ w) {KK : Nat → (Nat → List SV) → Prop} {e tx : TypeId} {wd : Nat} (hsz : tySize P e = some wd) {y : SV} {yv : Value} (hy : Rel next ρ y yv)
    (h : appSrc P heap e tx wd y KK) : ∃ n g news, KK n g ∧ Src P wd tx yv n news w ∧ ∀ j, j < n → RelL 0 ρ (g j) ((news.drop (j * wd)).take wd) := by
  unfold appSrc at h
  split at h
  · rename_i hu
    split at h
    · rename_i str hk
      have hv := hy.inv_c
      subst hv
      have hw : wd = 1 := by
        unfold elemKind at hk
        split at hk
        · rename_i h2; rw [hsz] at h2; cases h2; rfl
        · cases hk
      subst hw
      refine ⟨_, _, byteCells str, h, Src.ofString w hu str, fun j hj => ?_⟩
      have hlen := byteCells_length str
      have : ((byteCells str).drop (j * 1)).take 1 = [.int .u8 (bAt str j)] := by
        rw [Nat.mul_one]
        have hj' : j < (byteCells str).length := by omega
        rw [List.drop_eq_getElem_cons hj', List.take_succ_cons, List.take_zero]
        congr 1
        simp only [byteCells, List.getElem_map, bAt, Int.toNat_natCast]
        have h2 : j < str.data.size := hj
        rw [Array.getElem?_eq_getElem h2]
        simp
      rw [this]
      exact .cons _ _ _ _ rfl (.c _) .nil
    · exact h.elim
  · rename_i e' hu
    split at h
    · have hv := hy.inv_c
      subst hv
      exact ⟨_, _, [], h, src_zero hu _ _ _, fun j hj => absurd hj (Nat.not_lt_zero _)⟩
    · obtain ⟨ad, rfl⟩ := hy.inv_zs
      exact ⟨_, _, [], h, src_zero hu _ _ _, fun j hj => absurd hj (Nat.not_lt_zero _)⟩
    · rename_i w' n f
      unfold chk at h
      split at h
      · rename_i hw
        obtain rfl := Nat.eq_of_beq_eq_true hw
        rcases hy.inv_rs with ⟨ad, cap, rfl, rfl⟩ | ⟨g, off, cap, us, te, fr, hpos, hmc, rfl, hR, hle, hel, h1c⟩
        · exact ⟨_, _, [], h, src_zero hu _ _ _, fun j hj => absurd hj (Nat.not_lt_zero _)⟩
        · refine ⟨_, _, _, h, src_cells hu (hm.ro _ _ hR) hle h1c, fun j hj => ?_⟩
          rw [part_list _ _ _ _ _ hj]
          exact hel j hj
      · exact h.elim
    · rename_i b w' lo hi mx
      split at h
      · rename_i te u mm f hl
        unfold chk at h
        split at h
        · rename_i hc
          simp only [Bool.and_eq_true] at hc
          obtain rfl := Nat.eq_of_beq_eq_true hc.1
          obtain rfl := Nat.eq_of_beq_eq_true hc.2
          obtain ⟨hhi, h⟩ := h
          rw [subN_eq, shiftF_eq] at h
          obtain ⟨hb, hlo, hg⟩ := hy.inv_gs
          rcases hg with ⟨hno, rfl, _, rfl⟩ | ⟨hno, c1, c2, off, rfl, hoff⟩
          · refine ⟨_, _, [], h, ?_, fun j hj => ?_⟩
            · rw [Nat.zero_sub]; exact src_zero hu _ _ _
            · rw [Nat.zero_sub] at hj; exact absurd hj (Nat.not_lt_zero _)
          · obtain ⟨us, ho, q1, q2, q3, q4, q5⟩ := BRel.arr_some (hm.rel _ _ hl).2 hno
            by_cases hz : hi - lo = 0
            · refine ⟨_, _, [], h, ?_, fun j hj => ?_⟩
              · rw [hz]; exact src_zero hu _ _ _
              · omega
            · have hoff := hoff (.inr (by omega))
              subst hoff
              refine ⟨_, _, _, h, src_cells hu ho ?_ (fun u hu => q4 u (List.mem_of_mem_drop (List.mem_of_mem_take hu))), fun j hj => ?_⟩
              · have : lo + (hi - lo) ≤ ρ.cap b := by omega
                have := Nat.mul_le_mul_right wd this
                rw [Nat.add_mul] at this
                omega
              · rw [part_list _ _ _ _ _ hj]
                have := q5 (lo + j) (by omega)
                rw [Nat.add_mul] at this
                exact this
        · exact h.elim
      · exact h.elim
    · exact h.elim
  · exact h.elim

theorem append_sound (m : Mod w0 own ρ0 σ ρ a w) {t tx e : TypeId} {i : TypeInfo} (hu : P.underlying t = some (.slice e)) (hi : P.info? e = some i) {x y : SV} {xv yv : Value} (hx : Rel σ.next ρ x xv) (hy : Rel σ.next ρ y yv) {d : Option Nat} (ty : TypeId)
    (h : appDst σ.heap e i.size x fun hi f old => appSrc P σ.heap e tx i.size y fun n g =>
      chk (Nat.blt 0 i.size && Nat.blt 0 i.bytes && zeroOk i) ((addZ hi n * i.bytes ≤ 140737488355328) ∧ junkB σ old fun σ' => newSB σ' (.arr e i.size (addZ hi n) (catF hi f g)) fun σ'' b => putK σ'' d (.gs b i.size 0 (addZ hi n) none) K)) :
    ∃ v w', (Builtin.append_ #[t, tx] ty #[xv, yv]).run P w = .ok v w' ∧ Sat w0 own ρ0 K (a.put d v) w' := by
  have hsz : tySize P e = some i.size := by simp [tySize, hi]
  -- the source, and what is asked
  have src : ∀ (hi' : Nat) (f : Nat → List SV) (old : Option Nat), (appSrc P σ.heap e tx i.size y fun n g =>
      chk (Nat.blt 0 i.size && Nat.blt 0 i.bytes && zeroOk i) ((addZ hi' n * i.bytes ≤ 140737488355328) ∧ junkB σ old fun σ' => newSB σ' (.arr e i.size (addZ hi' n) (catF hi' f g)) fun σ'' b => putK σ'' d (.gs b i.size 0 (addZ hi' n) none) K)) →
      ∃ (n : Nat) (g : Nat → List SV) (news : List Value) (z : Value), Src P i.size tx yv n news w ∧ (∀ j, j < n → RelL 0 ρ (g j) ((news.drop (j * i.size)).take i.size)) ∧ 0 < i.size ∧ 0 < i.bytes ∧ i.zero = some z ∧ z.cells.size = i.size ∧ (∀ u ∈ z.cells.toList, u.oneCell' = true) ∧ (hi' + n) * i.bytes ≤ 140737488355328 ∧
        (junkB σ old fun σ' => newSB σ' (.arr e i.size (hi' + n) (fun j => if j < hi' then f j else g (j - hi'))) fun σ'' b => putK σ'' d (.gs b i.size 0 (hi' + n) none) K) := by
    intro hi' f old h
    obtain ⟨n, g, news, hk, hs, hg⟩ := appSrc_sound m.heap hsz hy h
    unfold chk at hk
    split at hk
    · rename_i hc
      simp only [Bool.and_eq_true, Nat.blt_eq] at hc
      obtain ⟨⟨c1, c2⟩, c3⟩ := hc
      unfold zeroOk at c3
      split at c3
      · rename_i z hz
        simp only [Bool.and_eq_true, List.all_eq_true] at c3
        rw [addZ_eq, catF_eq] at hk
        exact ⟨n, g, news, z, hs, hg, c1, c2, hz, Nat.eq_of_beq_eq_true c3.1, c3.2, hk.1, hk.2⟩
      · cases c3
    · exact hk.elim
  -- a new row
  have grown : ∀ (hi' n : Nat) (f g : Nat → List SV) (old : Option Nat) (olds news : List Value) (z : Value) (cap : Nat) (w1 : World), (∀ b, old = some b → b < σ.next) → olds.length = hi' * i.size → news.length = n * i.size →
      (∀ j, j < hi' → RelL 0 ρ (f j) ((olds.drop (j * i.size)).take i.size)) → (∀ j, j < n → RelL 0 ρ (g j) ((news.drop (j * i.size)).take i.size)) → (∀ u ∈ olds, u.oneCell' = true) → (∀ u ∈ news, u.oneCell' = true) →
      z.cells.size = i.size → (∀ u ∈ z.cells.toList, u.oneCell' = true) → 0 < i.size → hi' + n ≤ cap → cap ≤ maxLen → HMod w0 own σ.heap σ.next ρ w1 →
      (junkB σ old fun σ' => newSB σ' (.arr e i.size (hi' + n) (fun j => if j < hi' then f j else g (j - hi'))) fun σ'' b => putK σ'' d (.gs b i.size 0 (hi' + n) none) K) →
      Sat w0 own ρ0 K (a.put d (.slice (some ⟨w1.heap.size, 0, none⟩) (hi' + n) cap)) (w1.alloc (.cells ((olds ++ news).toArray ++ Builtin.zeroCells z.cells (cap - (hi' + n))) e)) := by
    intro hi' n f g old olds news z cap w1 hold hol hnl hf hg ho1 hn1 hz1 hz2 hpos hcap hmax hm1 hk
    have hzl : (Builtin.zeroCells z.cells (cap - (hi' + n))).toList.length = (cap - (hi' + n)) * i.size := by simp [Builtin.zeroCells, hz1]
    have hz3 : ∀ u ∈ (Builtin.zeroCells z.cells (cap - (hi' + n))).toList, u.oneCell' = true := by
      intro u hu
      simp only [Builtin.zeroCells, Array.toList_map, List.mem_map] at hu
      obtain ⟨q, _, rfl⟩ := hu
      have hq : q % z.cells.size < z.cells.size := Nat.mod_lt _ (by omega)
      refine hz2 _ ?_
      rw [getElem!_pos z.cells _ hq]
      simp
    have hB : ∀ next' (ρ' : Env), ρ'.R = ρ.R → BRel (next' + 1) (push ρ' next' w1.heap.size false cap) next' (.arr e i.size (hi' + n) (fun j => if j < hi' then f j else g (j - hi')))
        (some (.cells ((olds ++ news).toArray ++ Builtin.zeroCells z.cells (cap - (hi' + n))) e)) := by
      intro next' ρ' hR
      refine .inr ⟨push_no _ _ _ _ _, olds ++ news ++ (Builtin.zeroCells z.cells (cap - (hi' + n))).toList, ?_, ?_, ?_, ?_, ?_, ?_⟩
      · congr 2; apply Array.ext'; simp
      · rw [push_cap, List.length_append, List.length_append, hol, hnl, hzl, ← Nat.add_mul, ← Nat.add_mul]
        exact Nat.le_of_eq (by congr 1; omega)
      · rw [push_cap]; exact hcap
      · rw [push_cap]; exact hmax
      · intro u hu
        rcases List.mem_append.1 hu with hu | hu
        · rcases List.mem_append.1 hu with hu | hu
          · exact ho1 u hu
          · exact hn1 u hu
        · exact hz3 u hu
      · intro j hj
        have h1 : (j + 1) * i.size ≤ (hi' + n) * i.size := Nat.mul_le_mul_right _ hj
        rw [Nat.add_mul, Nat.add_mul, Nat.one_mul] at h1
        have h2 : ((olds ++ news ++ (Builtin.zeroCells z.cells (cap - (hi' + n))).toList).drop (j * i.size)).take i.size = ((olds ++ news).drop (j * i.size)).take i.size := by
          rw [List.drop_append_of_le_length (by simp; omega), List.take_append_of_le_length (by simp; omega)]
        rw [h2]
        have hRR : ∀ g o, ρ.R g = some o → (push ρ' next' w1.heap.size false cap).R g = some o := by intro g o h; rw [push_R, hR]; exact h
        show RelL 0 _ (if j < hi' then f j else g (j - hi')) _
        by_cases hlt : j < hi'
        · rw [if_pos hlt]
          have h3 : (j + 1) * i.size ≤ hi' * i.size := Nat.mul_le_mul_right _ hlt
          rw [Nat.add_mul, Nat.one_mul] at h3
          rw [List.drop_append_of_le_length (by omega), List.take_append_of_le_length (by simp; omega)]
          exact (hf j hlt).R0 hRR 0
        · rw [if_neg hlt]
          have h3 : j * i.size = hi' * i.size + (j - hi') * i.size := by rw [← Nat.add_mul]; congr 1; omega
          rw [h3, ← List.drop_drop, ← hol, List.drop_left]
          exact (hg (j - hi') (by omega)).R0 hRR 0
    cases old with
    | none =>
      simp only [junkB, newSB_eq] at hk
      have h1 := hm1.allocSB (sb := .arr e i.size (hi' + n) (fun j => if j < hi' then f j else g (j - hi'))) cap rfl (hB σ.next ρ rfl)
      refine (m.heapTo (Nat.le_succ _) (push_ext _ _ _ _ _) h1).put (.gs _ _ _ _ _ _ (Nat.lt_succ_self _) ⟨Nat.zero_le _, .inr ⟨push_no _ _ _ _ _, ?_, ?_, 0, ?_, fun _ => by simp⟩⟩) hk
      · rw [Option.getD_none, push_cap]; exact hcap
      · rw [Option.getD_none]; exact Nat.le_refl _
      · rw [Option.getD_none, push_cap, push_at]; rfl
    | some b =>
      obtain ⟨tm, sz, hp, nx, bs⟩ := σ
      simp only [junkB, newSB_eq] at hk
      have h0 := hm1.junk (hold b rfl)
      have h1 := h0.allocSB (sb := .arr e i.size (hi' + n) (fun j => if j < hi' then f j else g (j - hi'))) cap rfl (hB nx ρ rfl)
      refine (m.heapTo (Nat.le_succ _) (push_ext _ _ _ _ _) h1).put (.gs _ _ _ _ _ _ (Nat.lt_succ_self _) ⟨Nat.zero_le _, .inr ⟨push_no _ _ _ _ _, ?_, ?_, 0, ?_, fun _ => by simp⟩⟩) hk
      · rw [Option.getD_none, push_cap]; exact hcap
      · rw [Option.getD_none]; exact Nat.le_refl _
      · rw [Option.getD_none, push_cap, push_at]; rfl
  -- nothing put to nothing
  have nothing : ∀ (ad : Option Addr) (f g : Nat → List SV) (old : Option Nat), (∀ b, old = some b → b < σ.next) →
      (junkB σ old fun σ' => newSB σ' (.arr e i.size (0 + 0) (fun j => if j < 0 then f j else g (j - 0))) fun σ'' b => putK σ'' d (.gs b i.size 0 (0 + 0) none) K) → Sat w0 own ρ0 K (a.put d (.slice ad 0 0)) w := by
    intro ad f g old hold hk
    cases old with
    | none =>
      simp only [junkB, newSB_eq] at hk
      exact (m.heapTo (Nat.le_succ _) (push_ext _ _ _ _ _) (m.heap.phantom e i.size _)).put (.gs _ _ _ _ _ _ (Nat.lt_succ_self _) ⟨Nat.le_refl _, .inl ⟨push_no _ _ _ _ _, rfl, ad, rfl⟩⟩) hk
    | some b =>
      obtain ⟨tm, sz, hp, nx, bs⟩ := σ
      simp only [junkB, newSB_eq] at hk
      exact (m.heapTo (Nat.le_succ _) (push_ext _ _ _ _ _) ((m.heap.junk (hold b rfl)).phantom e i.size _)).put (.gs _ _ _ _ _ _ (Nat.lt_succ_self _) ⟨Nat.le_refl _, .inl ⟨push_no _ _ _ _ _, rfl, ad, rfl⟩⟩) hk
  -- onto nil
  have onNil : ∀ (ad : Option Addr) (f : Nat → List SV) (old : Option Nat), (∀ b, old = some b → b < σ.next) → xv = .slice ad 0 0 → (appSrc P σ.heap e tx i.size y fun n g =>
      chk (Nat.blt 0 i.size && Nat.blt 0 i.bytes && zeroOk i) ((addZ 0 n * i.bytes ≤ 140737488355328) ∧ junkB σ old fun σ' => newSB σ' (.arr e i.size (addZ 0 n) (catF 0 f g)) fun σ'' b => putK σ'' d (.gs b i.size 0 (addZ 0 n) none) K)) →
      ∃ v w', (Builtin.append_ #[t, tx] ty #[xv, yv]).run P w = .ok v w' ∧ Sat w0 own ρ0 K (a.put d v) w' := by
    intro ad f old hold hxv h
    subst hxv
    obtain ⟨n, g, news, z, hs, hg, p1, p2, hz, hz1, hz2, hfit, hk⟩ := src 0 f old h
    by_cases hn : n = 0
    · subst hn
      have hnews : news = [] := List.eq_nil_of_length_eq_zero (by rw [hs.newsLen]; simp)
      rw [hnews] at hs
      exact ⟨_, _, run_append_nothing w t tx ty e i hu hi ad 0 0 (Nat.le_refl _) yv hs, nothing ad f g old hold hk⟩
    · have hfit' : n * i.bytes ≤ 140737488355328 := by simpa using hfit
      have hnm : n ≤ 140737488355328 := Nat.le_trans (Nat.le_mul_of_pos_right n p2) hfit'
      have hr := run_append_grow_src (P := P) w t tx ty e i z hu hi hz ad 0 0 [] (by cases ad with | none => exact run_firstCells_none w.drew _ _ _ _ | some x => exact run_firstCells_some w.drew _ 0 x 0 0 [] (by simp) (fun j u hj => by simp at hj)) yv n news hs (by omega) (by omega) (growslice_fits (by omega) (by simpa using hfit))
      refine ⟨_, _, hr, ?_⟩
      have hcap := grownCap_ge w (0 + n) 0 e
      refine grown 0 n f g old [] news z _ w.drew hold (by simp) hs.newsLen (fun j hj => absurd hj (Nat.not_lt_zero _)) hg (fun u hu => by cases hu) hs.one hz1 hz2 p1 hcap (grownCap_le_maxLen w _ _ _ ?_) m.heap.drew hk
      simp only [maxLen]; omega
  unfold appDst at h
  split at h
  · exact onNil _ _ none (fun b hb => by cases hb) hx.inv_c h
  · obtain ⟨ad, hx⟩ := hx.inv_zs
    exact onNil ad _ none (fun b hb => by cases hb) hx h
  · rename_i b w' hi' mx
    split at h
    · rename_i e' u mm f hl
      unfold chk at h
      split at h
      · rename_i hc
        simp only [Bool.and_eq_true] at hc
        have hw1 := Nat.eq_of_beq_eq_true hc.1.1
        have hw2 := Nat.eq_of_beq_eq_true hc.1.2
        have he := Nat.eq_of_beq_eq_true hc.2
        subst hw1 hw2 he
        obtain ⟨hhi, h⟩ := h
        obtain ⟨hb, _, hg⟩ := hx.inv_gs
        rcases hg with ⟨hno, rfl, ad, rfl⟩ | ⟨hno, c1, c2, off, rfl, hoff⟩
        · exact onNil ad f (some b) (fun _ hb' => by cases hb'; exact hb) rfl h
        · have hoff := hoff (.inl rfl)
          rw [Nat.zero_mul] at hoff
          subst hoff
          obtain ⟨us, ho, q1, q2, q3, q4, q5⟩ := BRel.arr_some (m.heap.rel _ _ hl).2 hno
          obtain ⟨n, g, news, z, hs, hgr, p1, p2, hz, hz1, hz2, hfit, hk⟩ := src hi' f (some b) h
          have hnm : hi' + n ≤ 140737488355328 := Nat.le_trans (Nat.le_mul_of_pos_right _ p2) hfit
          rw [Nat.sub_zero, Nat.sub_zero]
          generalize hM : mx.getD (ρ.cap b) = M at *
          have hMu : M * i.size ≤ us.length := Nat.le_trans (Nat.mul_le_mul_right _ c2) q1
          by_cases hroom : hi' + n ≤ M
          · -- there is room
            have hfitu : hi' * i.size + news.length ≤ us.length := by
              rw [hs.newsLen, ← Nat.add_mul]; exact Nat.le_trans (Nat.mul_le_mul_right _ hroom) hMu
            obtain ⟨w', r1, r2, r3, r4, r5, r6, r7⟩ := run_stores P (ρ b) e (0, 0) news (hi' * i.size) 0 us w ho (by omega) (fun j _ hh => by simp at hh) hs.one
            have hrun : (Builtin.append_ #[t, tx] ty #[.slice (some ⟨ρ b, 0, none⟩) hi' M, yv]).run P w = .ok (.slice (some ⟨ρ b, 0, none⟩) (hi' + n) M) w' := by
              have hadd : Addr.add ⟨ρ b, 0, none⟩ (hi' * i.size) = ⟨ρ b, hi' * i.size, none⟩ := by rw [add_lit, Nat.zero_add]
              rcases hs.kind with ⟨e', hk⟩ | hk <;> simp [Builtin.append_, run_underlying hu, run_underlying hk, sizeOf, typeInfo, hi, hs.len, hroom, hs.cells, hadd, r1]
            refine ⟨_, _, hrun, ?_⟩
            simp only [Nat.add_zero] at r7
            have hlen' : (us.take (hi' * i.size) ++ news ++ us.drop (hi' * i.size + news.length)).length = us.length := by simp; omega
            have hB1 : BRel (σ.next + 1) (push ρ σ.next (ρ b) false M) σ.next (.arr e i.size (hi' + n) (fun j => if j < hi' then f j else g (j - hi'))) w'.heap[ρ b]? := by
              refine .inr ⟨push_no _ _ _ _ _, _, r7, ?_, ?_, ?_, ?_, ?_⟩
              · rw [push_cap, hlen']; exact hMu
              · rw [push_cap]; exact hroom
              · rw [push_cap]; exact Nat.le_trans c2 q3
              · intro v hv
                rcases List.mem_append.1 hv with hv | hv
                · rcases List.mem_append.1 hv with hv | hv
                  · exact q4 v (List.mem_of_mem_take hv)
                  · exact hs.one v hv
                · exact q4 v (List.mem_of_mem_drop hv)
              · intro j hj
                have h1 : (j + 1) * i.size ≤ (hi' + n) * i.size := Nat.mul_le_mul_right _ hj
                rw [Nat.add_mul, Nat.add_mul, Nat.one_mul] at h1
                have hnl := hs.newsLen
                have htk : (us.take (hi' * i.size)).length = hi' * i.size := by simp; omega
                have h2 : ((us.take (hi' * i.size) ++ news ++ us.drop (hi' * i.size + news.length)).drop (j * i.size)).take i.size = ((us.take (hi' * i.size) ++ news).drop (j * i.size)).take i.size := by
                  rw [List.drop_append_of_le_length (by simp; omega), List.take_append_of_le_length (by simp; omega)]
                rw [h2]
                show RelL 0 _ (if j < hi' then f j else g (j - hi')) _
                by_cases hlt : j < hi'
                · rw [if_pos hlt]
                  have h3 : (j + 1) * i.size ≤ hi' * i.size := Nat.mul_le_mul_right _ hlt
                  rw [Nat.add_mul, Nat.one_mul] at h3
                  rw [List.drop_append_of_le_length (by omega), List.take_append_of_le_length (by simp; omega)]
                  have h4 := part_list us 0 hi' i.size j hlt
                  rw [List.drop_zero, Nat.zero_add] at h4
                  rw [h4]
                  exact (q5 j (by omega)).R0 (ρ := ρ) (ρ' := push ρ σ.next (ρ b) false M) (fun _ _ h => h) 0
                · rw [if_neg hlt]
                  have h3 : j * i.size = (us.take (hi' * i.size)).length + (j - hi') * i.size := by rw [htk, ← Nat.add_mul]; congr 1; omega
                  rw [h3, ← List.drop_drop, List.drop_left]
                  exact (hgr (j - hi') (by omega)).R0 (ρ := ρ) (ρ' := push ρ σ.next (ρ b) false M) (fun _ _ h => h) 0
            have hB0 : BRel σ.next ρ b (.arr e i.size 0 f) w'.heap[ρ b]? := .inr ⟨hno, _, r7, by rw [hlen']; exact q1, Nat.zero_le _, q3, fun v hv => by
                rcases List.mem_append.1 hv with hv | hv
                · rcases List.mem_append.1 hv with hv | hv
                  · exact q4 v (List.mem_of_mem_take hv)
                  · exact hs.one v hv
                · exact q4 v (List.mem_of_mem_drop hv), fun j hj => absurd hj (Nat.not_lt_zero _)⟩
            have h1 := m.heap.writeSB hl rfl hno r2 r3 r4 (by omega) (fun g _ => r6 g) hB0
            have h2 := h1.rename M look_cons_same rfl hno hB1
            obtain ⟨tm, sz, hp, nx, bs⟩ := σ
            simp only [junkB, newSB_eq] at hk
            have h3 : HMod w0 own ((nx, SB.arr e i.size (hi' + n) (fun j => if j < hi' then f j else g (j - hi'))) :: (b, .junk) :: hp) (nx + 1) (push ρ nx (ρ b) false M) w' := by
              have key : ∀ k, look ((nx, SB.arr e i.size (hi' + n) (fun j => if j < hi' then f j else g (j - hi'))) :: (b, .junk) :: (b, .arr e i.size 0 f) :: hp) k =
                  look ((nx, SB.arr e i.size (hi' + n) (fun j => if j < hi' then f j else g (j - hi'))) :: (b, .junk) :: hp) k := by
                intro k
                by_cases h1 : nx = k
                · subst h1; rw [look_cons_same, look_cons_same]
                · rw [look_cons_ne h1, look_cons_ne h1]
                  by_cases h2 : b = k
                  · subst h2; rw [look_cons_same, look_cons_same]
                  · rw [look_cons_ne h2, look_cons_ne h2, look_cons_ne h2]
              exact ⟨fun i sb hl => h2.rel i sb ((key i).trans hl), fun i j sb sb' hl hl' => h2.inj i j sb sb' ((key i).trans hl) ((key j).trans hl'), fun i sb hl => h2.mine i sb ((key i).trans hl), h2.os, h2.tape, h2.output, h2.size, h2.block, h2.glob, h2.gsz, h2.gown, h2.ro⟩
            refine (m.heapTo (Nat.le_succ _) (push_ext _ _ _ _ _) h3).put (.gs _ _ _ _ _ _ (Nat.lt_succ_self _) ⟨Nat.zero_le _, .inr ⟨push_no _ _ _ _ _, ?_, ?_, 0, ?_, fun _ => by simp⟩⟩) hk
            · rw [Option.getD_none, push_cap]; exact hroom
            · rw [Option.getD_none]; exact Nat.le_refl _
            · rw [Option.getD_none, push_cap, push_at]; rfl
          · -- there is none
            have hou : (us.take (hi' * i.size)).length = hi' * i.size := by
              have := Nat.mul_le_mul_right i.size c1
              simp; omega
            have hold : (Builtin.firstCells i.size hi' (.slice (some ⟨ρ b, 0, none⟩) hi' M)).run P w.drew = .ok (us.take (hi' * i.size)).toArray w.drew := by
              refine run_firstCells_some w.drew i.size hi' ⟨ρ b, 0, none⟩ hi' M _ hou (fun j u hj => ?_)
              rw [add_lit, Nat.zero_add]
              have : w.drew.cell? ⟨ρ b, j, none⟩ = us[j]? := cell_of ho
              rw [this]
              rw [List.getElem?_take] at hj
              split at hj
              · exact hj
              · cases hj
            have hr := run_append_grow_src (P := P) w t tx ty e i z hu hi hz (some ⟨ρ b, 0, none⟩) hi' M _ hold yv n news hs (by omega) (by omega) (growslice_fits (by omega) hfit)
            refine ⟨_, _, hr, ?_⟩
            have hcap := grownCap_ge w (hi' + n) M e
            refine grown hi' n f g (some b) _ news z _ w.drew (fun _ hb' => by cases hb'; exact hb) hou hs.newsLen (fun j hj => ?_) hgr (fun u hu => q4 u (List.mem_of_mem_take hu)) hs.one hz1 hz2 p1 hcap (grownCap_le_maxLen w _ _ _ ?_) m.heap.drew hk
            · have h4 := part_list us 0 hi' i.size j hj
              rw [List.drop_zero, Nat.zero_add] at h4
              rw [h4]
              exact q5 j (by omega)
            · simp only [maxLen]; omega
      · exact h.elim
    · exact h.elim
  · exact h.elim

theorem run_next_str {g : Nat} {s : ByteArray} {pos : Nat} (h : w.heap[g]? = some (.stringIter s pos)) (ty : TypeId) :
    (Instr.next (.pointer (some ⟨g, 0, none⟩)) true ty).run P w = if pos < s.size then .ok (.tuple #[.bool true, goInt pos, .int .i32 (Utf8.decode s pos).1]) { w with heap := w.heap.setIfInBounds g (.stringIter s (pos + (Utf8.decode s pos).2)) }
      else .ok (.tuple #[.bool false]) w := by
  unfold Instr.next
  by_cases hp : pos < s.size <;> simp [getObj, setObj, Sem.run, h, hp]

/-- the elements of a slice literal laid one by one -/
theorem setParts_sound {n : Nat} (wd : Nat) : ∀ (ps : List (Nat × SV)) (qs : List (Nat × Value)) (L L' : List (List SV)) (vs : List Value), setParts wd L ps = some L' → vs.length = L.length * wd →
    (∀ j, j < L.length → RelL 0 ρ (L.getD j []) ((vs.drop (j * wd)).take wd)) → (∀ u ∈ vs, u.oneCell' = true) → ps.length = qs.length →
    (∀ (j : Nat) (p : Nat × SV) (q : Nat × Value), ps[j]? = some p → qs[j]? = some q → p.1 = q.1 ∧ Rel n ρ p.2 q.2) →
    ∃ us, Instr.fill (fun i => some (i * wd, wd)) vs.toArray qs = some (List.toArray us) ∧ L'.length = L.length ∧ us.length = L.length * wd ∧ (∀ j, j < L.length → RelL 0 ρ (L'.getD j []) ((us.drop (j * wd)).take wd)) ∧ ∀ u ∈ us, u.oneCell' = true := by
  intro ps
  induction ps with
  | nil =>
    intro qs L L' vs h hl hr h1 hq _
    cases qs with
    | nil => cases h; exact ⟨vs, rfl, rfl, hl, hr, h1⟩
    | cons => simp at hq
  | cons p ps ih =>
    intro qs L L' vs h hl hr h1 hq hpq
    cases qs with
    | nil => simp at hq
    | cons q qs =>
      obtain ⟨i, x⟩ := p
      obtain ⟨j, v⟩ := q
      obtain ⟨h0, hx⟩ := hpq 0 (i, x) (j, v) rfl rfl
      simp only at h0 hx
      subst h0
      simp only [setParts] at h
      split at h
      · rename_i new hc
        split at h
        · rename_i hk
          simp only [Bool.and_eq_true, Nat.blt_eq] at hk
          obtain ⟨⟨⟨k1, k2⟩, k3⟩, k4⟩ := hk
          have k1 := Nat.eq_of_beq_eq_true k1
          have hnew := SV.cells_rel hx hc
          have hlen := hnew.len
          rw [k1] at hlen
          have hiw : (i + 1) * wd ≤ L.length * wd := Nat.mul_le_mul_right _ k4
          rw [Nat.add_mul, Nat.one_mul] at hiw
          have hv1 : (vs.take (i * wd) ++ v.cells.toList ++ vs.drop (i * wd + wd)).length = L.length * wd := by simp at hlen; simp; omega
          have htk : (vs.take (i * wd)).length = i * wd := by simp; omega
          have hA : ∀ j, j < (L.set i new).length → RelL 0 ρ ((L.set i new).getD j []) (((vs.take (i * wd) ++ v.cells.toList ++ vs.drop (i * wd + wd)).drop (j * wd)).take wd) := by
            intro j hj
            rw [List.length_set] at hj
            by_cases hji : j = i
            · subst hji
              have : (L.set j new).getD j [] = new := by simp [hj]
              rw [this, List.append_assoc]
              have e : ((vs.take (j * wd) ++ (v.cells.toList ++ vs.drop (j * wd + wd))).drop (j * wd)).take wd = v.cells.toList := by
                have : ∀ l : List Value, (vs.take (j * wd) ++ l).drop (j * wd) = l := by intro l; conv => lhs; arg 1; rw [← htk]
                                                                                         exact List.drop_left
                rw [this, ← hlen, List.take_left]
              rw [e]
              exact hnew.less k3
            · have : (L.set i new).getD j [] = L.getD j [] := by simp [List.getD, List.getElem?_set, Ne.symm hji]
              rw [this]
              have e : ((vs.take (i * wd) ++ v.cells.toList ++ vs.drop (i * wd + wd)).drop (j * wd)).take wd = (vs.drop (j * wd)).take wd := by
                rcases Nat.lt_or_gt_of_ne hji with hlt | hgt
                · have : (j + 1) * wd ≤ i * wd := Nat.mul_le_mul_right _ hlt
                  rw [Nat.add_mul, Nat.one_mul] at this
                  rw [List.append_assoc, List.drop_append_of_le_length (by omega), List.take_append_of_le_length (by simp; omega), List.drop_take, List.take_take]
                  congr 1; omega
                · have : (i + 1) * wd ≤ j * wd := Nat.mul_le_mul_right _ hgt
                  rw [Nat.add_mul, Nat.one_mul] at this
                  have hl2 : (vs.take (i * wd) ++ v.cells.toList).length = i * wd + wd := by simp at hlen; simp; omega
                  rw [List.drop_append, hl2, List.drop_of_length_le (by omega), List.nil_append, List.drop_drop]
                  congr 2; omega
              rw [e]
              exact hr j hj
          have hB : ∀ u ∈ vs.take (i * wd) ++ v.cells.toList ++ vs.drop (i * wd + wd), u.oneCell' = true := by
            intro u hu
            rcases List.mem_append.1 hu with hu | hu
            · rcases List.mem_append.1 hu with hu | hu
              · exact h1 u (List.mem_of_mem_take hu)
              · exact oneC_rel hnew k2 u hu
            · exact h1 u (List.mem_of_mem_drop hu)
          obtain ⟨us, e1, e2, e3, e4, e5⟩ := ih qs (L.set i new) L' (vs.take (i * wd) ++ v.cells.toList ++ vs.drop (i * wd + wd)) h (by rw [hv1, List.length_set]) hA hB (by simpa using hq)
            (fun j p q hp hq' => hpq (j + 1) p q (by simpa using hp) (by simpa using hq'))
          rw [List.length_set] at e2 e3 e4
          refine ⟨us, ?_, e2, e3, e4, e5⟩
          simp only [Instr.fill]
          have f1 : v.cells.size = wd := by simpa using hlen
          have f2 : ¬ (i * wd + v.cells.size > vs.toArray.size) := by simp; omega
          simp only [f1, ne_eq, not_true_eq_false, decide_false, Bool.false_or, decide_eq_true_eq] at f2 ⊢
          rw [if_neg f2, ← e1]
          congr 1
          apply Array.ext'
          rw [← Array.foldl_toList, Array.toList_zipIdx]
          rw [show (fun (x : Array Value) (y : Value × Nat) => match y with | (c, j) => x.setIfInBounds (i * wd + j) c) = fun cs x => cs.setIfInBounds (i * wd + x.2) x.1 from rfl]
          rw [fold_set _ 0 (i * wd) vs.toArray (by simp; omega)]
          simp [f1]
        · cases h
      · cases h

theorem loud_sound (m : Mod w0 own ρ0 σ ρ a w) {o : Oper} (h : loud Γ σ o K) (Q : Exit → Act → World → Prop) : OpOk P w0 own ρ0 Γ K o a w Q := by
  obtain ⟨dst, op, type, pos, after, guard⟩ := o
  unfold OpOk Oper.wp
  cases op <;> simp only [loud] at h <;> (try exact h.elim)
  case box t x =>
    split at h
    · rename_i cs hc
      have hr := SV.cells_rel (m.ev x) hc
      have : (execOp a.eval ⟨dst, .box t x, type, pos, after, guard⟩).run P w = .ok (.value (.pointer (some ⟨w.heap.size, 0, none⟩))) (w.alloc (.cells (a.eval x).cells t)) := by
        simp [execOp, run_box]
      rw [this, Oper.upon_value]
      refine ⟨?_, fun _ => alloc_below _ _⟩
      have := m.allocPut (t := t) hr (d := dst) (v := .ptr σ.next 0) (x := .pointer (some ⟨w.heap.size, 0, none⟩)) (by
        have := Rel.ptr (n := σ.next + 1) (ρ := push ρ σ.next w.heap.size false 0) σ.next 0 (Nat.lt_succ_self _)
        rwa [push_at] at this) (by rw [newBlock_eq] at h; exact h)
      simpa using this
    · exact h.elim
  case alloc t =>
    split at h
    · rename_i z hz
      split at h
      · rename_i cs hc
        obtain ⟨v, hv, hzr⟩ := tyZero_rel hz (n := σ.next) (ρ := ρ)
        have hr := SV.cells_rel hzr hc
        have : (execOp a.eval ⟨dst, .alloc t, type, pos, after, guard⟩).run P w = .ok (.value (.pointer (some ⟨w.heap.size, 0, none⟩))) (w.alloc (.cells v.cells t)) := by
          simp [execOp, Instr.alloc, hv, newVar, newRow]
        rw [this, Oper.upon_value]
        refine ⟨?_, fun _ => alloc_below _ _⟩
        have := m.allocPut (t := t) hr (d := dst) (v := .ptr σ.next 0) (x := .pointer (some ⟨w.heap.size, 0, none⟩)) (by
          have := Rel.ptr (n := σ.next + 1) (ρ := push ρ σ.next w.heap.size false 0) σ.next 0 (Nat.lt_succ_self _)
          rwa [push_at] at this) (by rw [newBlock_eq] at h; exact h)
        simpa using this
      · exact h.elim
    · exact h.elim
  case store t x y =>
    split at h
    · rename_i b off new n h1 h2 h3
      split at h
      · rename_i cs t' hw hl
        simp only [Bool.and_eq_true] at hw
        have hwid := Nat.eq_of_beq_eq_true hw.1
        split at h
        · rename_i cs' hs
          have hx := m.ev x
          rw [h1] at hx
          obtain ⟨hx, hb⟩ := hx.inv_ptr
          have hnew := SV.cells_rel (m.ev y) h2
          obtain ⟨_, vs, fr, ho, hr, hf⟩ := (m.heap.rel _ _ hl).2
          obtain ⟨s1, s2⟩ := hr.setC hnew hs
          obtain ⟨w', r1, r2, r3, r4, r5, r6, r7⟩ := run_stores P (ρ b) t' fr (a.eval y).cells.toList off 0 vs w ho (by simpa using s2) hf (oneC_rel hnew hw.2)
          have hsz : (a.eval y).cells.size = n := by
            have := hnew.len
            rw [hwid] at this; simpa using this
          have hrun : (execOp a.eval ⟨dst, .store t x y, type, pos, after, guard⟩).run P w = .ok .skip w' := by
            simp [execOp, Instr.storeAt, hx, Instr.sureAddr, storeVar, run_sizeOf' h3, hsz, r1]
          rw [hrun, Oper.upon_skip]
          refine ⟨?_, fun hh => by simp [harmless, silentOp] at hh⟩
          rw [withBlock_eq] at h
          refine Mod.put (σ := { σ with heap := (b, .cells cs' t') :: σ.heap }) (ρ := ρ) ⟨m.defers, m.sz, m.tmp, ?_, m.base, m.ext, m.rnew⟩ (.any _) h
          refine m.heap.write hl r2 r3 r4 r5 r6 ⟨_, fr, r7, by simpa using s1, ?_⟩
          intro i hi
          refine hf i ?_
          simp at hi s2
          omega
        · exact h.elim
      · exact h.elim
    · rename_i b base mm i k v h1 h2 h3
      split at h
      · rename_i cs t' k' hl hk
        split at h
        · rename_i xs hkk hx
          obtain rfl := kindEq_eq hkk
          split at h
          · rename_i cs' hs
            have hxr := m.ev x
            rw [h1] at hxr
            obtain ⟨hxr, hb, o1, o2⟩ := hxr.inv_ep
            have hnew := SV.cells_rel (m.ev y) h2
            obtain ⟨y1, hy1, hy2⟩ := hnew.inv_one rfl
            have hy2 := hy2.inv_c
            have hlen := (rowAt_rel (m.heap.rel _ _ hl).2.2.choose_spec.choose_spec.2.1 hx).2.2
            rw [set_spl xs i.toNat v (by omega)] at hs
            obtain ⟨w', r1, r2⟩ := m.rowWrite (P := P) hl hx hs (by simp; omega) (ρ b) rfl (base + i.toNat) (.inr rfl)
            have hsz : (a.eval y).cells.size = 1 := by
              have := congrArg List.length hy1; simpa using this
            have hrun : (execOp a.eval ⟨dst, .store t x y, type, pos, after, guard⟩).run P w = .ok .skip w' := by
              have e : (a.eval y).cells.toList = [v].map (Value.int k) := by rw [hy1, hy2]; rfl
              simp only [execOp, Instr.storeAt, hxr, Instr.sureAddr, storeVar, Sem.run_bind, Sem.run_pure, Result.andThen_ok, run_sizeOf' h3, hsz, ne_eq, not_true_eq_false, if_false, e, r1]
            rw [hrun, Oper.upon_skip]
            refine ⟨?_, fun hh => by simp [harmless, silentOp] at hh⟩
            rw [withBlock_eq] at h
            exact Mod.put (σ := { σ with heap := (b, .cells cs' t') :: σ.heap }) (ρ := ρ) ⟨m.defers, m.sz, m.tmp, r2, m.base, m.ext, m.rnew⟩ (.any _) h
          · exact h.elim
        · exact h.elim
      · exact h.elim
    · rename_i b wd i off new n h1 h2 h3
      split at h
      · rename_i t' w' mm f hl
        unfold chk at h
        split at h
        · rename_i hc
          simp only [Bool.and_eq_true] at hc
          obtain ⟨⟨⟨⟨⟨c0, c1⟩, c2⟩, c3⟩, c4⟩, c5⟩ := hc
          obtain rfl := Nat.eq_of_beq_eq_true c0
          obtain rfl := Nat.eq_of_beq_eq_true c1
          obtain rfl := Nat.eq_of_beq_eq_true c2
          have c3 := Nat.eq_of_beq_eq_true c3
          obtain ⟨hlt, h⟩ := h
          have hx := m.ev x
          rw [h1] at hx
          obtain ⟨hx, hb, hno, h0⟩ := hx.inv_ap
          have hnew := SV.cells_rel (m.ev y) h2
          obtain ⟨us, ho, q1, q2, q3, q4, q5⟩ := BRel.arr_some (m.heap.rel _ _ hl).2 hno
          have hsz : (a.eval y).cells.toList.length = n := by
            have := hnew.len
            rw [c3] at this; simpa using this
          have hb1 : (i.toNat + 1) * n ≤ ρ.cap b * n := Nat.mul_le_mul_right _ (by omega)
          rw [Nat.add_mul, Nat.one_mul] at hb1
          obtain ⟨w', r1, r2, r3, r4, r5, r6, r7⟩ := run_stores P (ρ b) t' (0, 0) (a.eval y).cells.toList (i.toNat * n) 0 us w ho (by omega) (fun j _ hh => by simp at hh) (oneC_rel hnew c4)
          have hsz' : (a.eval y).cells.size = n := by simpa using hsz
          have hrun : (execOp a.eval ⟨dst, .store t x y, type, pos, after, guard⟩).run P w = .ok .skip w' := by
            simp [execOp, Instr.storeAt, hx, Instr.sureAddr, storeVar, run_sizeOf' h3, hsz', r1]
          rw [hrun, Oper.upon_skip]
          refine ⟨?_, fun hh => by simp [harmless, silentOp] at hh⟩
          rw [setSB_eq] at h
          refine Mod.put (σ := { σ with heap := (b, .arr t' n mm (setF f i.toNat new)) :: σ.heap }) (ρ := ρ) ⟨m.defers, m.sz, m.tmp, ?_, m.base, m.ext, m.rnew⟩ (.any _) h
          refine m.heap.writeSB hl rfl hno r2 r3 r4 (by omega) (fun g _ => r6 g) ?_
          simp only [Nat.add_zero] at r7
          generalize (a.eval y).cells.toList = vs at *
          have hlen' : (us.take (i.toNat * n) ++ vs ++ us.drop (i.toNat * n + vs.length)).length = us.length := by simp; omega
          refine .inr ⟨hno, _, r7, by rw [hlen']; exact q1, q2, q3, fun v hv => ?_, fun j hj => ?_⟩
          · rcases List.mem_append.1 hv with hv | hv
            · rcases List.mem_append.1 hv with hv | hv
              · exact q4 v (List.mem_of_mem_take hv)
              · exact oneC_rel hnew c4 v hv
            · exact q4 v (List.mem_of_mem_drop hv)
          · have htk : (us.take (i.toNat * n)).length = i.toNat * n := by simp; omega
            rw [setF_eq]
            have hjb : (j + 1) * n ≤ ρ.cap b * n := Nat.mul_le_mul_right _ (by omega)
            rw [Nat.add_mul, Nat.one_mul] at hjb
            rcases Nat.lt_trichotomy j i.toNat with hk | hk | hk
            · rw [if_neg (by omega)]
              have h3 : (j + 1) * n ≤ i.toNat * n := Nat.mul_le_mul_right _ hk
              rw [Nat.add_mul, Nat.one_mul] at h3
              rw [List.append_assoc, List.drop_append_of_le_length (by omega), List.take_append_of_le_length (by simp; omega)]
              have h4 := part_list us 0 i.toNat n j hk
              rw [List.drop_zero, Nat.zero_add] at h4
              rw [h4]
              exact q5 j hj
            · subst hk
              rw [if_pos rfl]
              have h4 : ((us.take (i.toNat * n) ++ vs ++ us.drop (i.toNat * n + vs.length)).drop (i.toNat * n)).take n = vs := by
                rw [List.append_assoc]
                conv => lhs; arg 2; arg 1; rw [← htk]
                rw [List.drop_left, ← hsz, List.take_left]
              rw [h4]
              exact hnew.less c5
            · rw [if_neg (by omega)]
              have h3 : (i.toNat + 1) * n ≤ j * n := Nat.mul_le_mul_right _ hk
              rw [Nat.add_mul, Nat.one_mul] at h3
              have h4 : (us.take (i.toNat * n) ++ vs ++ us.drop (i.toNat * n + vs.length)).drop (j * n) = us.drop (j * n) := by
                rw [List.drop_append, List.drop_eq_nil_of_le (by simp; omega), List.nil_append, List.drop_drop]
                congr 1
                simp only [List.length_append, htk]
                omega
              rw [h4]
              exact q5 j hj
        · exact h.elim
      · exact h.elim
    · exact h.elim
  case range t x =>
    split at h
    · rename_i str hu hs
      have hx := m.ev x
      rw [hs] at hx
      have hx := hx.inv_c
      have hrun : (execOp a.eval ⟨dst, .range t x, type, pos, after, guard⟩).run P w = .ok (.value (.pointer (some ⟨w.heap.size, 0, none⟩))) (w.alloc (.stringIter str 0)) := by
        simp [execOp, Instr.range, hx, run_underlying hu]
      rw [hrun, Oper.upon_value]
      refine ⟨?_, fun _ => alloc_below _ _⟩
      rw [newSB_eq] at h
      have h1 := m.heap.allocSB (sb := .siter str 0) (ob := .stringIter str 0) 0 rfl ⟨push_no _ _ _ _ _, rfl⟩
      refine (m.heapTo (Nat.le_succ _) (push_ext _ _ _ _ _) h1).put ?_ h
      have := Rel.ptr (n := σ.next + 1) (ρ := push ρ σ.next w.heap.size false 0) σ.next 0 (Nat.lt_succ_self _)
      rwa [push_at] at this
    · exact h.elim
  case next x str =>
    cases str with
    | false => exact h.elim
    | true =>
      simp only [] at h
      split at h
      · rename_i b heq
        split at h
        · rename_i str p0 hl
          have hx := m.ev x
          rw [heq] at hx
          obtain ⟨hx, hb⟩ := hx.inv_ptr
          obtain ⟨hno, ho⟩ := (m.heap.rel _ _ hl).2
          have hrun := fun ty => run_next_str (P := P) (w := w) (g := ρ b) (s := str) (pos := p0) ho ty
          split at h
          · rename_i hpos
            have hpos : p0 < str.size := by simpa [Nat.blt_eq] using hpos
            have hr : (execOp a.eval ⟨dst, .next x true, type, pos, after, guard⟩).run P w = .ok (.value (.tuple #[.bool true, goInt p0, .int .i32 (Utf8.decode str p0).1])) { w with heap := w.heap.setIfInBounds (ρ b) (.stringIter str (p0 + (Utf8.decode str p0).2)) } := by
              simp [execOp, hx, hrun, hpos]
            rw [hr, Oper.upon_value]
            refine ⟨?_, fun hh => by simp [harmless, silentOp] at hh⟩
            rw [setSB_eq] at h
            have hlt : ρ b < w.heap.size := (Array.getElem?_eq_some_iff.1 ho).1
            have h1 := m.heap.writeSB (sb := .siter str (p0 + (Utf8.decode str p0).2)) (w' := { w with heap := w.heap.setIfInBounds (ρ b) (.stringIter str (p0 + (Utf8.decode str p0).2)) }) hl rfl hno rfl rfl rfl (by simp)
              (fun g _ hg => by show (w.heap.setIfInBounds (ρ b) _)[g]? = _; rw [Array.getElem?_setIfInBounds_ne hg.symm]) ⟨hno, by show (w.heap.setIfInBounds (ρ b) _)[ρ b]? = _; simp [hlt]⟩
            exact (m.heapTo (Nat.le_refl _) (Ext.refl _ _) h1).put (.tup _ _ (.cons _ _ _ _ rfl (.c _) (.cons _ _ _ _ rfl (.c _) (.cons _ _ _ _ rfl (.c _) .nil)))) h
          · rename_i hpos
            have hpos : ¬ p0 < str.size := fun hh => by rw [← Nat.blt_eq] at hh; rw [hh] at hpos; cases hpos
            have hr : (execOp a.eval ⟨dst, .next x true, type, pos, after, guard⟩).run P w = .ok (.value (.tuple #[.bool false])) w := by
              simp [execOp, hx, hrun, hpos]
            rw [hr, Oper.upon_value]
            exact ⟨m.put (.tup _ _ (.cons _ _ _ _ rfl (.c _) .nil)) h, fun _ => Below.refl _ _⟩
        · exact h.elim
      · exact h.elim
  case buildSlice t len parts =>
    split at h
    · rename_i hz
      unfold litZero at hz
      split at hz
      · rename_i e hu
        simp only [Bool.and_eq_true, List.isEmpty_iff, Option.isSome_iff_exists] at hz
        obtain ⟨⟨h0, hp⟩, n, hn⟩ := hz
        obtain rfl := Nat.eq_of_beq_eq_true h0
        have hp' : parts = #[] := by apply Array.ext'; simpa using hp
        have hrun : (execOp a.eval ⟨dst, .buildSlice t 0 parts, type, pos, after, guard⟩).run P w = .ok (.value (.slice (some ⟨w.heap.size, 0, none⟩) 0 0)) (w.alloc (.cells #[] e)) := by
          subst hp'
          simp [execOp, Instr.buildSlice, run_underlying hu, run_sizeOf' hn, Instr.fill, newRow]
          congr 2
          exact Array.eq_empty_of_size_eq_zero (by simp)
        rw [hrun, Oper.upon_value]
        have hb := alloc_below w (.cells #[] e)
        exact ⟨(m.heapTo (Nat.le_refl _) (Ext.refl _ _) (m.heap.below hb)).put (.zs _) h, fun _ => hb⟩
      · cases hz
    · split at h
      · rename_i e hu
        split at h
        · rename_i wd L hL
          unfold litParts at hL
          split at hL
          · rename_i i z hi hz
            split at hL
            · rename_i zc hzc
              split at hL
              · rename_i hc
                simp only [Bool.and_eq_true, Nat.blt_eq, Nat.ble_eq] at hc
                obtain ⟨⟨⟨⟨⟨⟨c1, c2⟩, c3⟩, c4⟩, c5⟩, c6⟩, c7⟩ := hc
                have c1 := Nat.eq_of_beq_eq_true c1
                split at hL
                · rename_i L0 hp
                  cases hL
                  obtain ⟨v, hv, hzrel⟩ := tyZero_rel hz (n := σ.next) (ρ := ρ)
                  have hzr := SV.cells_rel hzrel hzc
                  have hzl : v.cells.size = i.size := by have := hzr.len; rw [c1] at this; simpa using this
                  have hcl : ∀ n, ((Array.range (n * i.size)).map (fun j => (v.cells)[j % v.cells.size]!)).toList.length = n * i.size := by intro n; simp
                  have hpart : ∀ j, j < len → (((Array.range (len * i.size)).map (fun j => (v.cells)[j % v.cells.size]!)).toList.drop (j * i.size)).take i.size = v.cells.toList := by
                    intro j hj
                    have hj1 : (j + 1) * i.size ≤ len * i.size := Nat.mul_le_mul_right _ hj
                    rw [Nat.add_mul, Nat.one_mul] at hj1
                    apply List.ext_getElem?
                    intro k
                    simp only [Array.toList_map, Array.toList_range, List.getElem?_take, List.getElem?_drop, List.getElem?_map]
                    by_cases hk : k < i.size
                    · rw [if_pos hk, List.getElem?_range (by omega)]
                      have : (j * i.size + k) % v.cells.size = k := by rw [hzl, Nat.mul_comm, Nat.mul_add_mod, Nat.mod_eq_of_lt hk]
                      simp only [Option.map_some, this]
                      rw [getElem!_pos v.cells k (by omega)]
                      simp
                    · rw [if_neg hk]
                      have : ¬ k < v.cells.size := by omega
                      simp [this]
                  have hA : ∀ j, j < (List.replicate len zc).length → RelL 0 ρ ((List.replicate len zc).getD j []) ((((Array.range (len * i.size)).map (fun j => (v.cells)[j % v.cells.size]!)).toList.drop (j * i.size)).take i.size) := by
                    intro j hj
                    rw [List.length_replicate] at hj
                    have : (List.replicate len zc).getD j [] = zc := by simp [List.getD, hj]
                    rw [this, hpart j hj]
                    exact hzr.less c4
                  have hB : ∀ u ∈ ((Array.range (len * i.size)).map (fun j => (v.cells)[j % v.cells.size]!)).toList, u.oneCell' = true := by
                    intro u hu
                    have := oneC_rel hzr c3
                    simp only [Array.toList_map, List.mem_map] at hu
                    obtain ⟨q, _, rfl⟩ := hu
                    have hq : q % v.cells.size < v.cells.size := Nat.mod_lt _ (by omega)
                    refine this _ ?_
                    rw [getElem!_pos v.cells _ hq]
                    simp
                  obtain ⟨us, e1, e2, e3, e4, e5⟩ := setParts_sound (ρ := ρ) (n := σ.next) i.size _ (parts.toList.map fun (i, x) => (i, a.eval x)) (List.replicate len zc) L ((Array.range (len * i.size)).map (fun j => (v.cells)[j % v.cells.size]!)).toList hp
                    (by rw [hcl, List.length_replicate]) hA hB (by simp [evParts]) (evParts_spec m _)
                  rw [List.length_replicate] at e3 e4
                  have hrun : (execOp a.eval ⟨dst, .buildSlice t len parts, type, pos, after, guard⟩).run P w = .ok (.value (.slice (some ⟨w.heap.size, 0, none⟩) len len)) (w.alloc (.cells us.toArray e)) := by
                    have hz0 : len * i.size ≠ 0 := Nat.mul_ne_zero (by omega) (by omega)
                    have hb : len * i.size ≤ 1000 * 1000 := Nat.mul_le_mul c5 c6
                    have hsz : tySize P e = some i.size := by simp [tySize, hi]
                    simp only [execOp, Instr.buildSlice, Sem.run_bind, run_underlying hu, Result.andThen_ok, run_sizeOf' hsz]
                    rw [if_neg (by omega), if_neg hz0]
                    simp only [Sem.run_pure, Sem.run_bind, hv, Result.andThen_ok]
                    simp only [Array.toArray_toList] at e1
                    have e0 : (parts.map fun (x : Nat × Operand) => (x.fst, a.eval x.snd)).toList = parts.toList.map fun (x : Nat × Operand) => (x.fst, a.eval x.snd) := by simp
                    have e1' : Instr.fill (fun i_1 => some (i_1 * i.size, i.size)) ((Array.range (len * i.size)).map fun x => v.cells[x % v.cells.size]!) (parts.toList.map fun (x : Nat × Operand) => (x.fst, a.eval x.snd)) = some us.toArray := e1
                    rw [e0, e1']
                    simp [newRow]
                  rw [hrun, Oper.upon_value]
                  refine ⟨?_, fun _ => alloc_below _ _⟩
                  rw [newSB_eq] at h
                  have h1 := m.heap.allocSB (sb := .arr e i.size len (fun j => L.getD j [])) (ob := .cells us.toArray e) len rfl
                    (.inr ⟨push_no _ _ _ _ _, us, rfl, by rw [push_cap, e3]; exact Nat.le_refl _, by rw [push_cap]; exact Nat.le_refl _, by rw [push_cap]; simp only [maxLen]; omega, e5, fun j hj => (e4 j hj).R0 (ρ := ρ) (ρ' := push ρ σ.next w.heap.size false len) (fun _ _ h => h) 0⟩)
                  refine (m.heapTo (Nat.le_succ _) (push_ext _ _ _ _ _) h1).put (.gs _ _ _ _ _ _ (Nat.lt_succ_self _) ⟨Nat.zero_le _, .inr ⟨push_no _ _ _ _ _, ?_, ?_, 0, ?_, fun _ => by simp⟩⟩) h
                  · rw [Option.getD_none, push_cap]; exact Nat.le_refl _
                  · rw [Option.getD_none]; exact Nat.le_refl _
                  · rw [Option.getD_none, push_cap, push_at]; rfl
                · cases hL
              · cases hL
            · cases hL
          · cases hL
        split at h
        · rename_i z h1 h2
          split at h
          · rename_i z1 hz1
            split at h
            · exact h.elim
            rename_i hzr
            split at h
            · rename_i cs hf
              split at h
              · rename_i hl1 hl2
                have hl1 : 0 < len := by simpa [Nat.blt_eq] using hl1
                have hl2 : len ≤ 1000 := by simpa using hl2
                obtain ⟨v, hv, hzrel⟩ := tyZero_rel h2 (n := σ.next) (ρ := ρ)
                have hzc := SV.cells_rel hzrel hz1
                obtain ⟨v1, hv1, hr1⟩ := hzc.inv_one hzr
                obtain ⟨us, hus, hfill⟩ := fillC_sound _ _ (parts.toList.map fun (i, x) => (i, a.eval x)) _ _ _ hf (RelL.replicate hr1 len) (by simp [evParts]) (evParts_spec m _)
                have hc1 : v.cells = #[v1] := by apply Array.ext'; rw [hv1]
                have hcells : (Array.range (len * 1)).map (fun j => (v.cells)[j % v.cells.size]!) = (List.replicate len v1).toArray := by
                  apply Array.ext'
                  simp only [hc1, Nat.mul_one, Array.toList_map, Array.toList_range]
                  apply List.ext_getElem?
                  intro i
                  simp only [List.getElem?_map, List.getElem?_replicate]
                  by_cases hi : i < len
                  · rw [List.getElem?_range hi]; simp [hi, Nat.mod_one]
                  · rw [List.getElem?_eq_none (by simpa using hi)]; simp [hi]
                have hrun : (execOp a.eval ⟨dst, .buildSlice t len parts, type, pos, after, guard⟩).run P w = .ok (.value (.slice (some ⟨w.heap.size, 0, none⟩) len len)) (w.alloc (.cells us.toArray e)) := by
                  have hz0 : len ≠ 0 := by omega
                  simp only [execOp, Instr.buildSlice, Sem.run_bind, run_underlying hu, Result.andThen_ok, run_sizeOf' h1, Nat.mul_one]
                  rw [if_neg (by omega), if_neg hz0]
                  simp only [Sem.run_pure, Sem.run_bind, hv, Result.andThen_ok]
                  rw [Nat.mul_one] at hcells
                  rw [hcells]
                  simp at hfill
                  simp [hfill, newRow]
                rw [hrun, Oper.upon_value]
                refine ⟨?_, fun _ => alloc_below _ _⟩
                refine m.allocPut hus ?_ (by rw [newBlock_eq] at h; exact h)
                have := Rel.slc (n := σ.next + 1) (ρ := push ρ σ.next w.heap.size false 0) σ.next 0 len len (Nat.lt_succ_self _)
                rwa [push_at] at this
              · exact h.elim
            · exact h.elim
          · exact h.elim
        · exact h.elim
      · exact h.elim
  case call c =>
    obtain ⟨callee, args, tys⟩ := c
    cases callee with
    | invoke => exact h.elim
    | builtin bi =>
      cases bi <;> simp only [] at h <;> (try exact h.elim)
      case append =>
        split at h
        · rename_i t tx x y ht ha
          split at h
          · rename_i e hu
            split at h
            · rename_i i hi
              have hargs := m.evs args.toList
              have hav : (args.map a.eval).toList = args.toList.map a.eval := by simp
              rw [ha] at hargs
              generalize hgen : args.toList.map a.eval = avs at hargs hav
              have hxr : x.isRow = false := by
                have : x ∈ evs σ args.toList := by rw [ha]; simp
                simp only [Sy.evs, List.mem_map] at this
                obtain ⟨z, _, rfl⟩ := this
                exact (m.ev z).notRow
              have hyr : y.isRow = false := by
                have : y ∈ evs σ args.toList := by rw [ha]; simp
                simp only [Sy.evs, List.mem_map] at this
                obtain ⟨z, _, rfl⟩ := this
                exact (m.ev z).notRow
              obtain ⟨xv, yv, rfl, hx, hy⟩ := hargs.inv_two hxr hyr
              have h1 : args.map a.eval = #[xv, yv] := by apply Array.ext'; rw [hav]
              have h2 : tys = #[t, tx] := by apply Array.ext'; rw [ht]
              obtain ⟨v, w', hrun, hs⟩ := append_sound m hu hi hx hy type h
              have hrun' : (execOp a.eval ⟨dst, .call ⟨.builtin .append, args, tys⟩, type, pos, after, guard⟩).run P w = .ok (.value v) w' := by
                simp [execOp, resolve, invoke, builtin, h1, h2, hrun]
              rw [hrun', Oper.upon_value]
              exact ⟨hs, fun hh => by simp [harmless, silentOp] at hh⟩
            · exact h.elim
          · exact h.elim
        · exact h.elim
      case copy =>
        split at h
        · rename_i t b base mm lo hi src ht ha
          split at h
          · rename_i e hu
            split at h
            · rename_i cs t' k hl hk
              split at h
              · rename_i xs zs hx hz
                split at h
                · rename_i cs' hs
                  have hargs := m.evs args.toList
                  have hav : (args.map a.eval).toList = args.toList.map a.eval := by simp
                  rw [ha] at hargs
                  generalize hgen : args.toList.map a.eval = avs at hargs hav
                  obtain ⟨vd, vs1, rfl, hd, hsr⟩ := hargs.inv_two rfl (by cases src <;> first | rfl | (simp [srcInts] at hz))
                  obtain ⟨hvd, hb, o1, o2, o3⟩ := hd.inv_sl
                  subst hvd
                  obtain ⟨q1, q2⟩ := srcInts_run (P := P) m hz hsr
                  have hsz : tySize P e = some 1 := by
                    unfold elemKind at hk
                    split at hk
                    · assumption
                    · cases hk
                  obtain ⟨w', r1, r2⟩ := m.rowWrite (P := P) hl hx hs (by simp; omega) (ρ b) rfl (if mm = lo.toNat then base else base + lo.toNat)
                    (by by_cases hml : mm = lo.toNat
                        · left; apply List.eq_nil_of_length_eq_zero; simp; omega
                        · right; rw [if_neg hml])
                  have h1 : args.map a.eval = #[.slice (some ⟨ρ b, if mm = lo.toNat then base else base + lo.toNat, none⟩) (hi.toNat - lo.toNat) (mm - lo.toNat), vs1] := by
                    apply Array.ext'; rw [hav]
                  have h2 : tys[0]? = some t := by
                    rw [List.head?_eq_getElem?] at ht; simpa using ht
                  have hmin : zs.take (hi.toNat - lo.toNat) = zs.take (Nat.min zs.length (hi.toNat - lo.toNat)) := by
                    rcases Nat.le_total zs.length (hi.toNat - lo.toNat) with hq | hq
                    · rw [show Nat.min zs.length (hi.toNat - lo.toNat) = zs.length from Nat.min_eq_left hq, List.take_of_length_le hq, List.take_length]
                    · rw [show Nat.min zs.length (hi.toNat - lo.toNat) = hi.toNat - lo.toNat from Nat.min_eq_right hq]
                  have hle : Nat.min zs.length (hi.toNat - lo.toNat) ≤ zs.length := Nat.min_le_left _ _
                  have q3 := q2 _ hle
                  rw [hmin] at r1
                  have hrun : (execOp a.eval ⟨dst, .call ⟨.builtin .copy, args, tys⟩, type, pos, after, guard⟩).run P w = .ok (.value (.int .i64 (Nat.min zs.length (hi.toNat - lo.toNat)))) w' := by
                    simp only [execOp, resolve, Sem.run_bind, Sem.run_pure, Result.andThen_ok, invoke, builtin, Builtin.copy_, h1, h2]
                    simp [run_underlying hu, q1, run_sizeOf' hsz, goInt]
                    simp at q3 r1
                    simp [q3, r1]
                  rw [hrun, Oper.upon_value]
                  refine ⟨?_, fun hh => by simp [harmless, silentOp] at hh⟩
                  rw [withBlock_eq] at h
                  exact Mod.put (σ := { σ with heap := (b, .cells cs' t') :: σ.heap }) (ρ := ρ) ⟨m.defers, m.sz, m.tmp, r2, m.base, m.ext, m.rnew⟩ (.c _) h
                · exact h.elim
              · exact h.elim
            · exact h.elim
          · exact h.elim
        · exact h.elim
      case clear =>
        split at h
        · rename_i t b base mm lo hi ht ha
          split at h
          · rename_i e hu
            split at h
            · rename_i cs t' k hl hk
              split at h
              · rename_i xs kz z hx htz
                split at h
                · rename_i cs' hkz hs
                  obtain rfl := kindEq_eq hkz
                  have hargs := m.evs args.toList
                  have hav : (args.map a.eval).toList = args.toList.map a.eval := by simp
                  rw [ha] at hargs
                  generalize hgen : args.toList.map a.eval = avs at hargs hav
                  obtain ⟨vd, rfl, hd⟩ := hargs.inv_one rfl
                  obtain ⟨hvd, hb, o1, o2, o3⟩ := hd.inv_sl
                  subst hvd
                  have hsz : tySize P e = some 1 ∧ P.underlying e = some (.int kz) := by
                    unfold elemKind at hk
                    split at hk
                    · rename_i hu2 _; cases hk; exact ⟨by assumption, hu2⟩
                    · cases hk
                  obtain ⟨w', r1, r2⟩ := m.rowWrite (P := P) hl hx hs (by simp; omega) (ρ b) rfl (if mm = lo.toNat then base else base + lo.toNat)
                    (by by_cases hml : mm = lo.toNat
                        · left; apply List.eq_nil_of_length_eq_zero; simp; omega
                        · right; rw [if_neg hml])
                  obtain ⟨zv, hzv, hzr⟩ := tyZero_rel htz (n := σ.next) (ρ := ρ)
                  have hzv' := hzr.inv_c
                  subst hzv'
                  have h1 : args.map a.eval = #[.slice (some ⟨ρ b, if mm = lo.toNat then base else base + lo.toNat, none⟩) (hi.toNat - lo.toNat) (mm - lo.toNat)] := by
                    apply Array.ext'; rw [hav]
                  have h2 : tys[0]? = some t := by
                    rw [List.head?_eq_getElem?] at ht; simpa using ht
                  have hrun : (execOp a.eval ⟨dst, .call ⟨.builtin .clear, args, tys⟩, type, pos, after, guard⟩).run P w = .ok (.value (.tuple #[])) w' := by
                    simp only [execOp, resolve, Sem.run_bind, Sem.run_pure, Result.andThen_ok, invoke, builtin, Builtin.clear_, h1, h2]
                    have := run_clear (ty := type) hu hzv _ _ (mm - lo.toNat) w w' r1 tys h2
                    simp only [Builtin.clear_, h2] at this
                    rw [this]; rfl
                  rw [hrun, Oper.upon_value]
                  refine ⟨?_, fun hh => by simp [harmless, silentOp] at hh⟩
                  rw [withBlock_eq] at h
                  exact Mod.put (σ := { σ with heap := (b, .cells cs' t') :: σ.heap }) (ρ := ρ) ⟨m.defers, m.sz, m.tmp, r2, m.base, m.ext, m.rnew⟩ (.any _) h
                · exact h.elim
              · exact h.elim
            · exact h.elim
          · exact h.elim
        · exact h.elim
    | value f =>
    simp only [] at h
    split at h
    · rename_i g first caps hfv
      have hv := m.ev f
      rw [hfv] at hv
      obtain ⟨xs, ys, hv, hxs, hys⟩ := hv.inv_fn
      have hargs := (hxs.append (m.evs args.toList)).append hys
      obtain ⟨hent, hcalls⟩ := callFn_sound m hargs (d := dst) h
      have hrun : (execOp a.eval ⟨dst, .call ⟨.value f, args, tys⟩, type, pos, after, guard⟩).run P w = .ok (.enter g (xs ++ args.toList.map a.eval ++ ys).toArray) w := by
        simp only [execOp, resolve, hv, Deferred.ofValue, Sem.run_bind, Sem.run_pure, Result.andThen_ok, invoke, hent]
        congr 2
        apply Array.ext'; simp
      rw [hrun, Oper.upon_enter]
      refine hcalls.mono ?_
      rintro e w' ⟨v, rfl, hs, hb⟩
      refine ⟨hs, fun hh => hb ?_⟩
      cases f <;> simp [harmless, silentOp] at hh
      simp only [St.ev] at hfv
      cases hfv
      exact hh
    · exact h.elim

theorem eqGuard_const {op : BinOp} {t : TypeId} {x : Operand} {a v : Value} (h2 : ∀ cs, a ≠ .agg cs) (w : World) : (eqGuard op t x (.const v) a v).run P w = .ok () w := by
  unfold eqGuard
  split
  · simp only [Bool.not_true, Bool.false_eq_true, if_false]
    split
    · simp
    · exact absurd rfl (h2 _)
    · rfl
  · simp only [Bool.not_true, Bool.false_eq_true, if_false]
    split
    · simp
    · exact absurd rfl (h2 _)
    · rfl
  · simp

set_option maxHeartbeats 1000000 in
/-- a comparison with nil -/
theorem nilEq_sound (m : Mod w0 own ρ0 σ ρ a w) {o : Oper} {na : NA} {b : Bool} (h : nilEq P σ o.op = some (na, b)) : ∃ r : Bool, (∀ w', (execOp a.eval o).run P w' = .ok (.value (.bool r)) w') ∧ ∀ K : Bool → Prop, nilK na b K → K r := by
  obtain ⟨dst, op, type, pos, after, guard⟩ := o
  cases op <;> simp only [nilEq] at h <;> (try (cases h; done))
  rename_i op t x y ty
  have hx := m.ev x
  -- the answer of '=='
  have core : ∀ na, nilSide P t (σ.ev x) y = some na → ∃ (r : Bool) (v : Value), y = .const v ∧ (∀ cs, a.eval x ≠ .agg cs) ∧ (∀ w', (Op.equal t (a.eval x) v).run P w' = .ok r w') ∧
      (binOp .eql t (a.eval x) v = (do pure (.bool (← Op.equal t (a.eval x) v)))) ∧ (binOp .neq t (a.eval x) v = (do pure (.bool (!(← Op.equal t (a.eval x) v))))) ∧
      ((na = .yes ∧ r = true) ∨ (na = .no ∧ r = false) ∨ ∃ p, na = .may p ∧ (r = true → p)) := by
    intro na hn
    unfold nilSide at hn
    split at hn <;> (try (cases hn; done))
    all_goals rename_i hu heq; rw [heq] at hx; cases hn
    case h_1 => have hx := hx.inv_c; rw [hx]; exact ⟨true, _, rfl, by simp, fun w' => by show (Op.equalIn (9999 + 1) t _ _).run P w' = _; unfold Op.equalIn; simp [underlying, hu], by simp only [binOp], by simp only [binOp], .inl ⟨rfl, rfl⟩⟩
    case h_2 n _ =>
      rcases hx.inv_rs with ⟨ad, cap, rfl, hv⟩ | ⟨g, off, cap, us, te, fr, hpos, hmc, hv, _⟩
      · rw [hv]; exact ⟨ad.isNone, _, rfl, by simp, fun w' => by show (Op.equalIn (9999 + 1) t _ _).run P w' = _; unfold Op.equalIn; cases ad <;> simp [underlying, hu], by simp only [binOp], by simp only [binOp], .inr (.inr ⟨_, rfl, fun _ => rfl⟩)⟩
      · rw [hv]; exact ⟨false, _, rfl, by simp, fun w' => by show (Op.equalIn (9999 + 1) t _ _).run P w' = _; unfold Op.equalIn; simp [underlying, hu], by simp only [binOp], by simp only [binOp], .inr (.inr ⟨_, rfl, fun h => by cases h⟩)⟩
    case h_3 =>
      obtain ⟨ad, hv⟩ := hx.inv_zs
      rw [hv]; exact ⟨ad.isNone, _, rfl, by simp, fun w' => by show (Op.equalIn (9999 + 1) t _ _).run P w' = _; unfold Op.equalIn; cases ad <;> simp [underlying, hu], by simp only [binOp], by simp only [binOp], .inr (.inr ⟨_, rfl, fun _ => trivial⟩)⟩
    case h_4 =>
      obtain ⟨hb, hlo, hg⟩ := hx.inv_gs
      rcases hg with ⟨_, h0, ad, hv⟩ | ⟨_, _, _, off, hv, _⟩
      · rw [hv]; exact ⟨ad.isNone, _, rfl, by simp, fun w' => by show (Op.equalIn (9999 + 1) t _ _).run P w' = _; unfold Op.equalIn; cases ad <;> simp [underlying, hu], by simp only [binOp], by simp only [binOp], .inr (.inr ⟨_, rfl, fun _ => h0⟩)⟩
      · rw [hv]; exact ⟨false, _, rfl, by simp, fun w' => by show (Op.equalIn (9999 + 1) t _ _).run P w' = _; unfold Op.equalIn; simp [underlying, hu], by simp only [binOp], by simp only [binOp], .inr (.inr ⟨_, rfl, fun h => by cases h⟩)⟩
    case h_5 => have hx := hx.inv_c; rw [hx]; exact ⟨true, _, rfl, by simp, fun w' => by show (Op.equalIn (9999 + 1) t _ _).run P w' = _; unfold Op.equalIn; simp [underlying, hu], by simp only [binOp], by simp only [binOp], .inl ⟨rfl, rfl⟩⟩
    case h_6 => obtain ⟨hv, _⟩ := hx.inv_ptr; rw [hv]; exact ⟨false, _, rfl, by simp, fun w' => by show (Op.equalIn (9999 + 1) t _ _).run P w' = _; unfold Op.equalIn; simp [underlying, hu], by simp only [binOp], by simp only [binOp], .inr (.inl ⟨rfl, rfl⟩)⟩
    case h_7 => obtain ⟨hv, _⟩ := hx.inv_ap; rw [hv]; exact ⟨false, _, rfl, by simp, fun w' => by show (Op.equalIn (9999 + 1) t _ _).run P w' = _; unfold Op.equalIn; simp [underlying, hu], by simp only [binOp], by simp only [binOp], .inr (.inl ⟨rfl, rfl⟩)⟩
    case h_8 => obtain ⟨g, off, us, vs, te, fr, hv, _⟩ := hx.inv_rp; rw [hv]; exact ⟨false, _, rfl, by simp, fun w' => by show (Op.equalIn (9999 + 1) t _ _).run P w' = _; unfold Op.equalIn; simp [underlying, hu], by simp only [binOp], by simp only [binOp], .inr (.inl ⟨rfl, rfl⟩)⟩
    case h_9 => obtain ⟨hv, _⟩ := hx.inv_ep; rw [hv]; exact ⟨false, _, rfl, by simp, fun w' => by show (Op.equalIn (9999 + 1) t _ _).run P w' = _; unfold Op.equalIn; simp [underlying, hu], by simp only [binOp], by simp only [binOp], .inr (.inl ⟨rfl, rfl⟩)⟩
    case h_10 => have hx := hx.inv_c; rw [hx]; exact ⟨true, _, rfl, by simp, fun w' => by show (Op.equalIn (9999 + 1) t _ _).run P w' = _; unfold Op.equalIn; simp [underlying, hu], by simp only [binOp], by simp only [binOp], .inl ⟨rfl, rfl⟩⟩
    case h_11 => obtain ⟨hv, _⟩ := hx.inv_mp; rw [hv]; exact ⟨false, _, rfl, by simp, fun w' => by show (Op.equalIn (9999 + 1) t _ _).run P w' = _; unfold Op.equalIn; simp [underlying, hu], by simp only [binOp], by simp only [binOp], .inr (.inl ⟨rfl, rfl⟩)⟩
    case h_12 => have hx := hx.inv_c; rw [hx]; exact ⟨true, _, rfl, by simp, fun w' => by show (Op.equalIn (9999 + 1) t _ _).run P w' = _; unfold Op.equalIn; simp [underlying, hu], by simp only [binOp], by simp only [binOp], .inl ⟨rfl, rfl⟩⟩
    case h_13 => obtain ⟨xs, ys, hv, _⟩ := hx.inv_fn; rw [hv]; exact ⟨false, _, rfl, by simp, fun w' => by show (Op.equalIn (9999 + 1) t _ _).run P w' = _; unfold Op.equalIn; simp [underlying, hu], by simp only [binOp], by simp only [binOp], .inr (.inl ⟨rfl, rfl⟩)⟩
    case h_14 => have hx := hx.inv_c; rw [hx]; exact ⟨true, _, rfl, by simp, fun w' => by show (Op.equalIn (9999 + 1) t _ _).run P w' = _; unfold Op.equalIn; simp [underlying, hu], by simp only [binOp], by simp only [binOp], .inl ⟨rfl, rfl⟩⟩
    case h_15 => obtain ⟨u, hv, _⟩ := hx.inv_ifc; rw [hv]; exact ⟨false, _, rfl, by simp, fun w' => by show (Op.equalIn (9999 + 1) t _ _).run P w' = _; unfold Op.equalIn; simp [underlying, hu], by simp only [binOp], by simp only [binOp], .inr (.inl ⟨rfl, rfl⟩)⟩
  have fin : ∀ (q r : Bool) (K : Bool → Prop), ((na = .yes ∧ r = true) ∨ (na = .no ∧ r = false) ∨ ∃ p, na = .may p ∧ (r = true → p)) → nilK na q K → K (if r = true then q else !q) := by
    intro q r K hc hk
    rcases hc with ⟨rfl, rfl⟩ | ⟨rfl, rfl⟩ | ⟨p, rfl, hp⟩
    · simpa [nilK] using hk
    · simpa [nilK] using hk
    · cases r
      · simpa using hk.2
      · simpa using hk.1 (hp rfl)
  split at h
  · split at h
    · rename_i na' hn
      cases h
      obtain ⟨r, v, rfl, h1, h2, h3, h4, h5⟩ := core _ hn
      refine ⟨r, fun w' => ?_, fun K hk => ?_⟩
      · have e : a.eval (.const v) = v := rfl
        simp only [execOp, e, Sem.run_bind, eqGuard_const h1, Result.andThen_ok, h3, h2, Sem.run_pure]
      · have := fin true r K h5 hk
        cases r <;> simpa using this
    · cases h
  · split at h
    · rename_i na' hn
      cases h
      obtain ⟨r, v, rfl, h1, h2, h3, h4, h5⟩ := core _ hn
      refine ⟨!r, fun w' => ?_, fun K hk => ?_⟩
      · have e : a.eval (.const v) = v := rfl
        simp only [execOp, e, Sem.run_bind, eqGuard_const h1, Result.andThen_ok, h4, h2, Sem.run_pure]
      · have := fin false r K h5 hk
        cases r <;> simpa using this
    · cases h
  · cases h

theorem evOp_sound (m : Mod w0 own ρ0 σ ρ a w) {o : Oper} (h : evOp Γ σ o K) (Q : Exit → Act → World → Prop) : OpOk P w0 own ρ0 Γ K o a w Q := by
  unfold evOp at h
  split at h
  · rename_i s hs
    have key : (∀ p, s.obl = some p → p) ∧ putK σ o.dst s.val K := by
      split at h
      · rename_i hn; exact ⟨fun p hp => (by rw [hn] at hp; cases hp), h⟩
      · rename_i p hp; exact ⟨fun q hq => (by rw [hp] at hq; cases hq; exact h.1), h.2⟩
    obtain ⟨x, hx, hrun⟩ := sil_sound m hs key.1
    unfold OpOk Oper.wp
    rw [hrun w (fun _ _ => rfl) (fun _ => m.heap.ro), Oper.upon_value]
    exact ⟨m.put hx key.2, fun _ => Below.refl _ _⟩
  · split at h
    · rename_i na b hn
      obtain ⟨r, hrun, hk⟩ := nilEq_sound m hn
      unfold OpOk Oper.wp
      rw [hrun w, Oper.upon_value]
      exact ⟨m.put (.c _) (hk _ h), fun _ => Below.refl _ _⟩
    · exact loud_sound m h Q

end
end Go.Proofs.Ytjiamfajgllelaa.Sy
