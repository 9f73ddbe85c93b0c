/-
  Sx6: each silent operation answers what 'sil' says.
-/
import Derived.Test.YtjiamfajgllelaaSyE
namespace Go.Proofs.Ytjiamfajgllelaa.Sy
open Go

section
variable {P : Program} {w0 : World} {own : Nat → Prop} {ρ0 : Nat × Env} {σ : St} {ρ : Env} {a : Act} {w : World}

/-- operations that read memory -/
def readsOp : Op → Bool
  | .load .. | .index .. | .convert .. => true
  | _ => false

/-- what a silent operation does -/
def SilOk (P : Program) (σ : St) (ρ : Env) (a : Act) (w : World) (o : Oper) (s : Sil) : Prop :=
  ∃ x, Rel σ.next ρ s.val x ∧ ∀ w', (∀ b, s.reads = some b → w'.heap[ρ b]? = w.heap[ρ b]?) → (readsOp o.op = true → ∀ g ob, ρ.R g = some ob → w'.heap[g]? = some ob) → (execOp a.eval o).run P w' = .ok (.value x) w'

theorem SilOk.const {o : Oper} {s : Sil} {x : Value} (hr : Rel σ.next ρ s.val x) (h : ∀ w', (execOp a.eval o).run P w' = .ok (.value x) w') : SilOk P σ ρ a w o s :=
  ⟨x, hr, fun w' _ _ => h w'⟩

theorem fieldAt_run {t : TypeId} {f : Nat} {off : Nat} {ft : TypeId} {n : Nat} (h : fieldOf P t f = some (off, ft, n)) (hn : n ≠ 0) (g o : Nat) (w : World) :
    (Instr.fieldAt t (.pointer (some ⟨g, o, none⟩)) f).run P w = .ok (.pointer (some ⟨g, o + off, none⟩)) w := by
  unfold fieldOf at h
  split at h
  · rename_i fs hu
    split at h
    · rename_i x hx
      split at h
      · rename_i m hm
        cases h
        have : (fieldPlace ⟨g, o, none⟩ x).run P w = .ok ⟨g, o + x.offset, none⟩ w := by
          simp [fieldPlace, run_sizeOf' hm, hn, Addr.add]
        simp [Instr.fieldAt, run_underlying hu, hx, Instr.sureAddr, this]
      · cases h
    · cases h
  · cases h

theorem mapM_sizes : ∀ (l : List Field) (out : List (Nat × Nat)), sizesOf P l = some out → ∀ w,
    (l.mapM (fun f => (do pure (f.offset, ← sizeOf f.type) : Sem (Nat × Nat)))).run P w = .ok out w := by
  intro l
  induction l with
  | nil => intro out h w; cases h; simp
  | cons f l ih =>
    intro out h w
    simp only [sizesOf] at h
    cases hm : tySize P f.type with
    | none => simp [hm] at h
    | some m =>
      cases hr : sizesOf P l with
      | none => simp [hm, hr] at h
      | some r =>
        simp only [hm, hr] at h
        cases h
        have := ih _ hr w
        rw [List.mapM_cons, Sem.run_bind]
        simp only [Sem.run_bind, run_sizeOf' hm, Result.andThen_ok, Sem.run_pure, this]

theorem evParts_spec (m : Mod w0 own ρ0 σ ρ a w) (ps : List (Nat × Operand)) (j : Nat) (p : Nat × SV) (q : Nat × Value)
    (hp : (evParts σ ps)[j]? = some p) (hq : (ps.map fun (i, x) => (i, a.eval x))[j]? = some q) : p.1 = q.1 ∧ Rel σ.next ρ p.2 q.2 := by
  simp only [evParts, List.getElem?_map, Option.map_eq_some_iff] at hp hq
  obtain ⟨x, hx, rfl⟩ := hp
  obtain ⟨y, hy, rfl⟩ := hq
  rw [hx] at hy
  cases hy
  exact ⟨rfl, m.ev _⟩

theorem constParts_spec (ev : Operand → Value) (hev : ∀ v, ev (.const v) = v) : ∀ (ps : List (Nat × Operand)) (qs : List (Nat × Value)), constParts ps = some qs →
    (ps.map fun (i, x) => (i, ev x)) = qs ∧ ∀ q ∈ qs, ∃ k x, q.2 = .int k x := by
  intro ps
  induction ps with
  | nil => intro qs h; cases h; simp
  | cons p ps ih =>
    intro qs h
    unfold constParts at h
    split at h
    · rename_i h1; cases h1
    · rename_i i v r h1
      cases h1
      split at h
      · rename_i k x q hq
        cases h
        obtain ⟨h2, h3⟩ := ih _ hq
        refine ⟨by simp [hev, ← h2], ?_⟩
        intro q' hq'
        rcases List.mem_cons.1 hq' with rfl | h4
        · exact ⟨_, _, rfl⟩
        · exact h3 _ h4
      · cases h
    · cases h
theorem fillV_sound : ∀ (qs : List (Nat × Value)) (zs us : List Value), fillV zs qs = some us → (∀ q ∈ qs, ∃ k x, q.2 = .int k x) →
    Instr.fill (fun i => some (i, 1)) zs.toArray qs = some us.toArray := by
  intro qs
  induction qs with
  | nil => intro zs us h _; cases h; rfl
  | cons q qs ih =>
    intro zs us h hq
    obtain ⟨i, v⟩ := q
    obtain ⟨k, x, hv⟩ := hq (i, v) (List.mem_cons_self ..)
    simp only at hv
    subst hv
    unfold fillV at h
    split at h
    · rename_i hi
      have hi : i < zs.length := by simpa [Nat.blt_eq] using hi
      have := ih _ _ h fun q' h' => hq q' (List.mem_cons_of_mem _ h')
      have hsz : (Value.int k x).cells = #[Value.int k x] := rfl
      have hle : i + 1 ≤ zs.length := hi
      have e : (Value.int k x).cells.zipIdx.foldl (fun cs (c, j) => cs.setIfInBounds (i + j) c) zs.toArray = (zs.set i (Value.int k x)).toArray := by rw [hsz]; simp
      have e2 : ((Value.int k x).cells.size ≠ 1 || i + (Value.int k x).cells.size > zs.toArray.size) = false := by rw [hsz]; simp; omega
      simp only [Instr.fill]
      rw [e2, e]
      exact this
    · cases h

theorem BRel.arr_some {n : Nat} {ρ : Env} {i : Nat} {t : TypeId} {wd mm : Nat} {f : Nat → List SV} {o : Option Obj} (h : BRel n ρ i (.arr t wd mm f) o) (hno : ρ.no i = false) :
    ∃ us : List Value, o = some (.cells us.toArray t (0, 0)) ∧ ρ.cap i * wd ≤ us.length ∧ mm ≤ ρ.cap i ∧ ρ.cap i ≤ maxLen ∧ (∀ u ∈ us, u.oneCell' = true) ∧ ∀ j, j < mm → RelL 0 ρ (f j) ((us.drop (j * wd)).take wd) := by
  rcases h with ⟨h, _⟩ | ⟨_, h⟩
  · rw [hno] at h; cases h
  · exact h

theorem GsV.isSlice {ρ : Env} {b wd lo hi : Nat} {mx : Option Nat} {v : Value} (h : GsV ρ b wd lo hi mx v) : ∃ _ : Nat, ∃ a c, v = .slice a (hi - lo) c := by
  rcases h.2 with ⟨_, rfl, _, rfl⟩ | ⟨_, _, _, off, rfl, _⟩
  · exact ⟨0, _, _, by rw [Nat.zero_sub]⟩
  · exact ⟨0, _, _, rfl⟩
theorem Rel.rs_slice {n : Nat} {ρ : Env} {wd mm : Nat} {f : Nat → List SV} {v : Value} (h : Rel n ρ (.rs wd mm f) v) : ∃ a c, v = .slice a mm c := by
  rcases h.inv_rs with ⟨_, _, rfl, rfl⟩ | ⟨_, _, _, _, _, _, _, _, rfl, _⟩ <;> exact ⟨_, _, rfl⟩

/-- a variable among known cells, in a block that is longer -/
theorem run_loadVar_at {t : TypeId} {cs : List SV} {off : Nat} {v : SV} (h : readAt P t cs off = some v) {n : Nat} {ρ : Env} {vs : List Value} (hr : RelL n ρ cs vs) :
    ∃ x, Rel n ρ v x ∧ ∀ (w : World) (g o : Nat) (us : List Value) (t' : TypeId) (fr : Nat × Nat), w.heap[g]? = some (.cells us.toArray t' fr) → vs <+: us.drop o → (loadVar t ⟨g, o + off, none⟩).run P w = .ok x w := by
  unfold readAt at h
  cases ha : tyAgg P t with
  | none => simp [ha] at h
  | some b =>
    cases b with
    | false =>
      simp only [ha] at h
      obtain ⟨x, hx, hrel⟩ := hr.cellAt h
      refine ⟨x, hrel, fun w g o us t' fr hg hp => ?_⟩
      have hc : w.cell? ⟨g, o + off, none⟩ = some x := by
        rw [cell_of hg]
        obtain ⟨z, hz⟩ := hp
        have : (us.drop o)[off]? = some x := by rw [← hz, List.getElem?_append_left (List.getElem?_eq_some_iff.1 hx).1]; exact hx
        rwa [List.getElem?_drop] at this
      simp [loadVar, run_isAgg ha, hc]
    | true =>
      simp only [ha] at h
      cases hs : tySize P t with
      | none => simp [hs] at h
      | some m =>
        simp only [hs] at h
        cases hd : dropC cs off with
        | none => simp [hd] at h
        | some r =>
          simp only [hd] at h
          cases ht : takeC r m with
          | none => simp [ht] at h
          | some q =>
            simp only [ht] at h
            cases h
            obtain ⟨h1, h2⟩ := hr.dropC hd
            obtain ⟨h3, h4⟩ := h1.takeC ht
            refine ⟨.agg ((vs.drop off).take m).toArray, .agg _ _ h3, fun w g o us t' fr hg hp => ?_⟩
            have hl : (loadCells ⟨g, o + off, none⟩ m).run P w = .ok ((vs.drop off).take m).toArray w := by
              have := run_loadCells_list (P := P) (w := w) ⟨g, o + off, none⟩ ((vs.drop off).take m) (by
                intro j u hj
                have hj' : vs[off + j]? = some u := by
                  rw [List.getElem?_take] at hj
                  split at hj
                  · simpa using hj
                  · cases hj
                have e : (Addr.add ⟨g, o + off, none⟩ j) = ⟨g, o + off + j, none⟩ := by
                  unfold Addr.add; split <;> simp_all
                rw [e, cell_of hg]
                obtain ⟨z, hz⟩ := hp
                have : (us.drop o)[off + j]? = some u := by rw [← hz, List.getElem?_append_left (List.getElem?_eq_some_iff.1 hj').1]; exact hj'
                rwa [List.getElem?_drop, ← Nat.add_assoc] at this)
              rw [List.length_take, Nat.min_eq_left h4] at this
              simpa using this
            simp [loadVar, run_isAgg ha, run_sizeOf' hs, hl]

theorem fieldOf_spec {t : TypeId} {f : Nat} {off : Nat} {ft : TypeId} {n : Nat} (h : fieldOf P t f = some (off, ft, n)) :
    ∃ fs fd, P.underlying t = some (.struct fs) ∧ fs[f]? = some fd ∧ fd.offset = off ∧ fd.type = ft := by
  unfold fieldOf at h
  split at h
  · rename_i fs hu
    split at h
    · rename_i x hx
      split at h
      · cases h; exact ⟨fs, x, hu, hx, rfl, rfl⟩
      · cases h
    · cases h
  · cases h

/-- a part of a value by value -/
theorem run_part_known {t : TypeId} {cs : List SV} {off : Nat} {v : SV} (h : readAt P t cs off = some v) {n : Nat} {ρ : Env} {vs : List Value} (hr : RelL n ρ cs vs) :
    ∃ x, Rel n ρ v x ∧ ∀ (w : World), (part t vs.toArray off).run P w = .ok x w := by
  unfold readAt at h
  cases ha : tyAgg P t with
  | none => simp [ha] at h
  | some b =>
    cases b with
    | false =>
      simp only [ha] at h
      obtain ⟨x, hx, hrel⟩ := hr.cellAt h
      refine ⟨x, hrel, fun w => ?_⟩
      have : vs.toArray[off]? = some x := by simpa using hx
      simp [part, run_isAgg ha, hx]
    | true =>
      simp only [ha] at h
      cases hs : tySize P t with
      | none => simp [hs] at h
      | some m =>
        simp only [hs] at h
        cases hd : dropC cs off with
        | none => simp [hd] at h
        | some r =>
          simp only [hd] at h
          cases ht : takeC r m with
          | none => simp [ht] at h
          | some q =>
            simp only [ht] at h
            cases h
            obtain ⟨h1, h2⟩ := hr.dropC hd
            obtain ⟨h3, h4⟩ := h1.takeC ht
            refine ⟨.agg ((vs.drop off).take m).toArray, .agg _ _ h3, fun w => ?_⟩
            simp [part, run_isAgg ha, run_sizeOf' hs]

theorem bnd_run (m : Mod w0 own ρ0 σ ρ a w) {d : Int} {x : Operand} {z : Int} (h : bnd σ d (some x) = some z) (y : Nat) (o1 : 0 ≤ z) (o2 : z ≤ y) (code : BoundsCode) (w' : World) : (Instr.sliceBound (a.eval x) y code).run P w' = .ok z.toNat w' := by
  simp only [bnd] at h
  split at h
  · rename_i k c hc
    cases h
    have := m.ev x
    rw [hc] at this
    have := this.inv_c
    simp [Instr.sliceBound, this, asIntOf, o1, o2]
  · cases h

theorem bnd_none {d z : Int} (h : bnd σ d none = some z) : z = d := by cases h; rfl

/-- the bounds of a part of a slice -/
theorem run_bnds (m : Mod w0 own ρ0 σ ρ a w) {lo hi mx : Option Operand} {l h : Int} {k : Option Int} {len cap : Nat} (hb : bnds σ (len : Int) lo hi mx = some (l, h, k)) (o1 : 0 ≤ l) (o2 : l ≤ h) (o3 : h ≤ k.getD cap) (o4 : k.getD cap ≤ cap) (w' : World) :
    (Instr.sliceBounds true len cap (lo.map a.eval) (hi.map a.eval) (mx.map a.eval)).run P w' = .ok (l.toNat, h.toNat, (k.getD cap).toNat) w' := by
  unfold bnds at hb
  split at hb
  · split at hb
    · rename_i l1 h1 hl hh
      cases hb
      simp only [Option.getD_none] at o3 o4
      cases lo with
      | none =>
        have hl' := bnd_none hl
        subst hl'
        cases hi with
        | none => have hh' := bnd_none hh; subst hh'; simp [Instr.sliceBounds]
        | some x => simp [Instr.sliceBounds, bnd_run (P := P) m hh cap (by omega) o3]
      | some y =>
        cases hi with
        | none =>
          have hh' := bnd_none hh
          subst hh'
          simp [Instr.sliceBounds, bnd_run (P := P) m hl len o1 o2]
        | some x => simp [Instr.sliceBounds, bnd_run (P := P) m hh cap (by omega) o3, bnd_run (P := P) m hl h.toNat o1 (by omega)]
    · cases hb
  · split at hb
    · split at hb
      · rename_i l1 h1 k1 hl hh hk
        cases hb
        simp only [Option.getD_some] at o3 o4
        cases lo with
        | none =>
          have hl' := bnd_none hl
          subst hl'
          simp [Instr.sliceBounds, bnd_run (P := P) m hk cap (by omega) o4, bnd_run (P := P) m hh k1.toNat (by omega) (by omega)]
        | some y => simp [Instr.sliceBounds, bnd_run (P := P) m hk cap (by omega) o4, bnd_run (P := P) m hh k1.toNat (by omega) (by omega), bnd_run (P := P) m hl h.toNat o1 (by omega)]
      · cases hb
    · cases hb

theorem run_slicing (m : Mod w0 own ρ0 σ ρ a w) {t e : TypeId} {wd : Nat} (hu : P.underlying t = some (.slice e)) (hsz : tySize P e = some wd) {x : Operand} {lo hi mx : Option Operand} {l h : Int} {k : Option Int} {len cap : Nat} {ad : Option Addr}
    (hx : a.eval x = .slice ad len cap) (hb : bnds σ (len : Int) lo hi mx = some (l, h, k)) (o1 : 0 ≤ l) (o2 : l ≤ h) (o3 : h ≤ k.getD cap) (o4 : k.getD cap ≤ cap) (w' : World) :
    (Instr.sliceAt t (a.eval x) (lo.map a.eval) (hi.map a.eval) (mx.map a.eval)).run P w' =
      .ok (.slice (if (k.getD cap).toNat = l.toNat then ad else ad.map (·.add (l.toNat * wd))) (h.toNat - l.toNat) ((k.getD cap).toNat - l.toNat)) w' := by
  have := run_bnds (P := P) m hb o1 o2 o3 o4 w'
  simp only [Instr.sliceAt, Instr.slice, Sem.run_bind, run_underlying hu, Result.andThen_ok, hx, this, run_sizeOf' hsz]
  rfl

theorem add_lit (g o j : Nat) : Addr.add ⟨g, o, none⟩ j = ⟨g, o + j, none⟩ := by unfold Addr.add; split <;> simp_all

theorem sub_mem {us : List Value} {off l k n wd : Nat} {u : Value} (h : u ∈ (us.drop (off + l * wd)).take (k * wd)) (hn : l + k ≤ n) : u ∈ (us.drop off).take (n * wd) := by
  obtain ⟨i, hi⟩ := List.getElem?_of_mem h
  rw [List.getElem?_take] at hi
  split at hi
  · rename_i hlt
    rw [List.getElem?_drop] at hi
    have : (l + k) * wd ≤ n * wd := Nat.mul_le_mul_right wd hn
    rw [Nat.add_mul] at this
    refine List.mem_of_getElem? (i := l * wd + i) ?_
    rw [List.getElem?_take, if_pos (by omega), List.getElem?_drop, ← Nat.add_assoc]
    exact hi
  · cases hi

theorem slicing1_sound (m : Mod w0 own ρ0 σ ρ a w) {t e : TypeId} {wd : Nat} (hu : P.underlying t = some (.slice e)) (hsz : tySize P e = some wd) {x : Operand} {lo hi mx : Option Operand} {s : Sil}
    (h : slicing1 σ wd (σ.ev x) lo hi mx = some s) (hob : ∀ p, s.obl = some p → p) :
    ∃ y, Rel σ.next ρ s.val y ∧ ∀ w', (Instr.sliceAt t (a.eval x) (lo.map a.eval) (hi.map a.eval) (mx.map a.eval)).run P w' = .ok y w' := by
  have hx := m.ev x
  unfold slicing1 at h
  split at h
  · rename_i wd' n f heq
    rw [heq] at hx
    split at h
    · rename_i l h' hwd hb
      obtain rfl := Nat.eq_of_beq_eq_true hwd
      cases h
      obtain ⟨o1, o2, o3⟩ := hob _ rfl
      rcases hx.inv_rs with ⟨ad, cap, rfl, hv⟩ | ⟨g, off, cap, us, te, fr, hpos, hmc, hv, hR, hle, hel, h1c⟩
      · refine ⟨_, ?_, fun w' => run_slicing m hu hsz hv hb o1 o2 (by simp only [Option.getD_none]; omega) (by simp) w'⟩
        rw [shiftF_eq, show (h' - l).toNat = 0 by omega, show h'.toNat - l.toNat = 0 by omega]
        exact .rs0 _ _ _ _
      · refine ⟨_, ?_, fun w' => run_slicing m hu hsz hv hb o1 o2 (by simp only [Option.getD_none]; omega) (by simp) w'⟩
        rw [shiftF_eq, show (h' - l).toNat = h'.toNat - l.toNat by omega]
        simp only [Option.getD_none, Int.toNat_natCast]
        by_cases hz : h'.toNat - l.toNat = 0
        · rw [hz]; exact .rs0 _ _ _ _
        · rw [if_neg (by omega), Option.map_some, add_lit]
          refine .rs _ _ _ g (off + l.toNat * wd) _ us te fr (by omega) (by omega) hR ?_ ?_ (fun u hu => h1c u (sub_mem hu (by omega)))
          · have : (h'.toNat - l.toNat) + l.toNat ≤ n := by omega
            have := Nat.mul_le_mul_right wd this
            rw [Nat.add_mul] at this
            omega
          · intro i hi
            have := hel (l.toNat + i) (by omega)
            rw [Nat.add_mul, ← Nat.add_assoc] at this
            exact this
    · cases h
  · rename_i b wd' a' c mm heq
    rw [heq] at hx
    obtain ⟨hb, hac, hg⟩ := hx.inv_gs
    have fin : ∀ (l h' : Int) (k : Option Int) (mm' : Option Nat), wd = wd' → bnds σ ((subN c a' : Nat) : Int) lo hi mx = some (l, h', k) → 0 ≤ l → l ≤ h' → h' ≤ ((c - a' : Nat) : Int) →
        ((k = none ∧ mm' = mm) ∨ ∃ k', k = some k' ∧ mm' = some (addN a' k') ∧ h' ≤ k' ∧ k' ≤ ((c - a' : Nat) : Int)) →
        ∃ y, Rel σ.next ρ (.gs b wd (addN a' l) (addN a' h') mm') y ∧ ∀ w', (Instr.sliceAt t (a.eval x) (lo.map a.eval) (hi.map a.eval) (mx.map a.eval)).run P w' = .ok y w' := by
      intro l h' k mm' hwd hbn o1 o2 o3 hk
      subst hwd
      rw [subN_eq] at hbn
      rw [addN_eq, addN_eq]
      rcases hg with ⟨hno, rfl, ad, hv⟩ | ⟨hno, c1, c2, off, hv, hoff⟩
      · have e0 : a' = 0 := by omega
        subst e0
        have e1 : l = 0 := by omega
        have e2 : h' = 0 := by omega
        subst e1 e2
        have hkc : k.getD ((0 : Nat) : Int) = 0 := by
          rcases hk with ⟨rfl, _⟩ | ⟨k', rfl, _, q1, q2⟩
          · rfl
          · simp only [Option.getD_some]; omega
        refine ⟨_, .gs _ _ _ _ _ _ hb ⟨by simp, .inl ⟨hno, by simp, ad, ?_⟩⟩, fun w' => run_slicing m hu hsz hv hbn o1 o2 (by rw [hkc]; omega) (by rw [hkc]; omega) w'⟩
        rw [hkc]; rfl
      · have hcap : k.getD ((mm.getD (ρ.cap b) - a' : Nat) : Int) ≤ ((mm.getD (ρ.cap b) - a' : Nat) : Int) ∧ h' ≤ k.getD ((mm.getD (ρ.cap b) - a' : Nat) : Int) ∧ mm'.getD (ρ.cap b) = a' + (k.getD ((mm.getD (ρ.cap b) - a' : Nat) : Int)).toNat := by
          rcases hk with ⟨rfl, rfl⟩ | ⟨k', rfl, rfl, q1, q2⟩
          · simp only [Option.getD_none, Int.toNat_natCast]; omega
          · simp only [Option.getD_some, addN_eq]; exact ⟨by omega, q1, trivial⟩
        obtain ⟨k1, k2, k3⟩ := hcap
        refine ⟨_, .gs _ _ _ _ _ _ hb ⟨by omega, .inr ⟨hno, by omega, by omega, ?_⟩⟩, fun w' => run_slicing m hu hsz hv hbn o1 o2 k2 k1 w'⟩
        rw [k3]
        generalize hKM : (k.getD ((mm.getD (ρ.cap b) - a' : Nat) : Int)).toNat = M at *
        by_cases hM : M = l.toNat
        · rw [if_pos hM]
          refine ⟨off, by congr 1 <;> omega, fun hh => ?_⟩
          have e0 : a' = 0 ∧ l.toNat = 0 := by omega
          rw [hoff (.inl e0.1), e0.1, e0.2]
        · rw [if_neg hM, Option.map_some, add_lit]
          refine ⟨off + l.toNat * wd, by congr 1 <;> omega, fun hh => ?_⟩
          rw [hoff (by by_cases ha : a' = 0; exact .inl ha; right; omega), Nat.add_mul]
    split at h
    · rename_i l h' hwd hbn
      cases h
      obtain ⟨o1, o2, o3⟩ := hob _ rfl
      rw [subN_eq] at o3
      obtain rfl := Nat.eq_of_beq_eq_true hwd
      exact fin l h' none mm rfl hbn o1 o2 o3 (.inl ⟨rfl, rfl⟩)
    · rename_i l h' k hwd hbn
      cases h
      obtain ⟨o1, o2, o3, o4⟩ := hob _ rfl
      rw [subN_eq] at o4
      obtain rfl := Nat.eq_of_beq_eq_true hwd
      exact fin l h' (some k) _ rfl hbn o1 o2 (by omega) (.inr ⟨k, rfl, rfl, o3, o4⟩)
    · cases h
  · rename_i heq
    rw [heq] at hx
    have hx := hx.inv_c
    split at h
    · rename_i l h' hb
      cases h
      obtain ⟨rfl, rfl⟩ := hob _ rfl
      exact ⟨_, .c _, fun w' => run_slicing m hu hsz hx hb (by omega) (by omega) (by simp) (by simp) w'⟩
    · rename_i l h' k hb
      cases h
      obtain ⟨rfl, rfl, rfl⟩ := hob _ rfl
      exact ⟨_, .c _, fun w' => run_slicing m hu hsz hx hb (by omega) (by omega) (by simp) (by simp) w'⟩
    · cases h
  · rename_i heq
    rw [heq] at hx
    obtain ⟨ad, hx⟩ := hx.inv_zs
    split at h
    · rename_i l h' hb
      cases h
      obtain ⟨rfl, rfl⟩ := hob _ rfl
      exact ⟨_, .zs _, fun w' => run_slicing m hu hsz hx hb (by omega) (by omega) (by simp) (by simp) w'⟩
    · rename_i l h' k hb
      cases h
      obtain ⟨rfl, rfl, rfl⟩ := hob _ rfl
      exact ⟨_, .zs _, fun w' => run_slicing m hu hsz hx hb (by omega) (by omega) (by simp) (by simp) w'⟩
    · cases h
  · cases h

theorem slicing_sound (m : Mod w0 own ρ0 σ ρ a w) {t e : TypeId} {wd : Nat} (hu : P.underlying t = some (.slice e)) (hsz : tySize P e = some wd) {x : Operand} {lo hi mx : Option Operand} {s : Sil}
    (h : slicing σ wd (σ.ev x) lo hi mx = some s) (hob : ∀ p, s.obl = some p → p) :
    ∃ y, Rel σ.next ρ s.val y ∧ ∀ w', (Instr.sliceAt t (a.eval x) (lo.map a.eval) (hi.map a.eval) (mx.map a.eval)).run P w' = .ok y w' := by
  have hx := m.ev x
  have noneCase : ∀ (ad : Option Addr) (len cap : Nat), noneOf lo hi mx = true → a.eval x = .slice ad len cap → ∃ y, Rel σ.next ρ .zs y ∧ ∀ w', (Instr.sliceAt t (a.eval x) (lo.map a.eval) (hi.map a.eval) (mx.map a.eval)).run P w' = .ok y w' := by
    intro ad len cap hn hv
    have null : ∀ o, isNull o = true → ∃ k, o = .const (.int k 0) := by
      intro o ho
      unfold isNull at ho
      split at ho
      · exact ⟨_, rfl⟩
      · cases ho
    unfold noneOf at hn
    split at hn
    · simp only [Bool.and_eq_true] at hn
      obtain ⟨k1, rfl⟩ := null _ hn.1
      obtain ⟨k2, rfl⟩ := null _ hn.2
      refine ⟨_, .zs _, fun w' => run_slicing m hu hsz (l := 0) (h := 0) (k := some 0) hv rfl (by omega) (by omega) (by simp) (by simp) w'⟩
    · simp only [Bool.and_eq_true] at hn
      obtain ⟨k0, rfl⟩ := null _ hn.1.1
      obtain ⟨k1, rfl⟩ := null _ hn.1.2
      obtain ⟨k2, rfl⟩ := null _ hn.2
      refine ⟨_, .zs _, fun w' => run_slicing m hu hsz (l := 0) (h := 0) (k := some 0) hv rfl (by omega) (by omega) (by simp) (by simp) w'⟩
    · cases hn
  unfold slicing at h
  split at h
  · rename_i hn
    split at h
    · rename_i heq
      rw [heq] at hx
      cases h
      obtain ⟨ad, c, hv⟩ := hx.rs_slice
      exact noneCase _ _ _ hn hv
    · rename_i heq
      rw [heq] at hx
      cases h
      obtain ⟨_, ad, c, hv⟩ := hx.inv_gs.2.isSlice
      exact noneCase _ _ _ hn hv
    · rename_i heq
      rw [heq] at hx
      cases h
      obtain ⟨ad, hv⟩ := hx.inv_zs
      exact noneCase _ _ _ hn hv
    · exact slicing1_sound m hu hsz h hob
  · exact slicing1_sound m hu hsz h hob

theorem sil_sound (m : Mod w0 own ρ0 σ ρ a w) {o : Oper} {s : Sil} (h : sil P σ o.op = some s) (hob : ∀ p, s.obl = some p → p) : SilOk P σ ρ a w o s := by
  obtain ⟨dst, op, type, pos, after, guard⟩ := o
  cases op <;> simp only [sil, sv] at h <;> (try cases h)
  case move x => exact .const (m.ev x) fun w' => by simp [execOp]
  case assign x => exact .const (m.ev x) fun w' => by simp [execOp]
  case pick c x y =>
    have hc := m.ev c
    split at h
    · rename_i t heq
      rw [heq] at hc
      have hc := hc.inv_c
      cases t <;> simp only [] at h <;> cases h
      · exact .const (m.ev y) fun w' => by simp [execOp, hc, asBool]
      · exact .const (m.ev x) fun w' => by simp [execOp, hc, asBool]
    · cases h
  case build t parts =>
    split at h
    · rename_i z fs hz hu
      split at h
      · rename_i places hp
        split at h
        · rename_i cs hf
          cases h
          obtain ⟨v, hv, hr⟩ := tyZero_rel hz (n := σ.next) (ρ := ρ)
          obtain ⟨vs, rfl, hl⟩ := hr.inv_agg
          obtain ⟨us, hus, hfill⟩ := fillC_sound _ _ (parts.toList.map fun (i, x) => (i, a.eval x)) _ _ _ hf hl (by simp [evParts]) (evParts_spec m _)
          refine .const (.agg _ _ hus) fun w' => ?_
          have hmap : (fs.mapM (fun f => (do pure (f.offset, ← sizeOf f.type) : Sem (Nat × Nat)))).run P w' = .ok places.toArray w' := by
            rw [Array.mapM_eq_mapM_toList]
            simp only [Sem.run_map]
            have := mapM_sizes _ _ hp w'
            rw [this]; rfl
          simp only at hfill
          simp only [execOp, Instr.build, Sem.run_bind, hv, Result.andThen_ok, run_underlying hu, hmap, Value.cells]
          rw [show (fun x => places.toArray[x]?) = fun i => places[i]? from by funext i; simp]
          simp [hfill]
        · cases h
      · cases h
    · rename_i z n e hz hu
      split at h
      · rename_i zs qs hs hzl hq
        split at h
        · rename_i us hf
          cases h
          obtain ⟨h1, h2⟩ := constParts_spec a.eval (fun _ => rfl) _ _ hq
          have hfill := fillV_sound _ _ _ hf h2
          have hv : ∀ w, (zeroValue t).run P w = .ok (.agg zs.toArray) w := by
            intro w
            unfold zeroL at hzl
            split at hzl
            · rename_i i hi
              split at hzl
              · rename_i cs hz
                cases hzl
                simpa using run_zeroValue' hi hz w
              · cases hzl
            · cases hzl
          refine .const (open0_rel (.agg us.toArray)) fun w' => ?_
          simp only [execOp, Instr.build, Sem.run_bind, hv, Result.andThen_ok, run_underlying hu, run_sizeOf' hs, Value.cells, Nat.mul_one]
          simp [h1, hfill]
        · cases h
      · cases h
    · cases h
  case load t x =>
    have hx := m.ev x
    split at h
    · rename_i b off heq
      rw [heq] at hx
      obtain ⟨hx, hb⟩ := hx.inv_ptr
      split at h
      · rename_i cs t' hl
        split at h
        · rename_i v hv
          cases h
          obtain ⟨_, vs, fr, ho, hr, _⟩ := (m.heap.rel _ _ hl).2
          obtain ⟨y, hy, hrun⟩ := run_loadVar_known hv hr
          refine ⟨y, hy, fun w' hw _ => ?_⟩
          have hw := hw b rfl
          simp [execOp, Instr.loadAt, hx, Instr.sureAddr, hrun w' (ρ b) t' fr (hw.trans ho)]
        · cases h
      · cases h
    · rename_i b base mm i heq
      rw [heq] at hx
      obtain ⟨hx, hb, h0, h1⟩ := hx.inv_ep
      split at h
      · rename_i cs t' k hl hk
        split at h
        · rename_i xs hxs
          cases h
          obtain ⟨_, vs, fr, ho, hr, _⟩ := (m.heap.rel _ _ hl).2
          obtain ⟨e1, e2, e3⟩ := rowAt_rel hr hxs
          have hi : i.toNat < mm := by omega
          have hcell : vs[base + i.toNat]? = some (.int k (xs.getD i.toNat 0)) := by
            have h2 : ((vs.drop base).take mm)[i.toNat]? = (xs.map (Value.int k))[i.toNat]? := by rw [e1]
            rw [List.getElem?_take, if_pos hi, List.getElem?_drop] at h2
            rw [h2, List.getElem?_map, List.getElem?_eq_getElem (by omega)]
            simp [List.getD, List.getElem?_eq_getElem (show i.toNat < xs.length by omega)]
          refine ⟨.int k (xs.getD i.toNat 0), .c _, fun w' hw _ => ?_⟩
          have hw := hw b rfl
          have hc : w'.cell? ⟨ρ b, base + i.toNat, none⟩ = some (.int k (xs.getD i.toNat 0)) := (cell_of (hw.trans ho)).trans hcell
          have hag : tyAgg P t = some false := by
            unfold elemKind at hk
            split at hk
            · rename_i hu _
              simp [tyAgg, hu]
            · cases hk
          simp [execOp, Instr.loadAt, hx, Instr.sureAddr, loadVar, run_isAgg hag, hc]
        · cases h
      · cases h
    · rename_i b wd i off heq
      rw [heq] at hx
      obtain ⟨hx, hb, hno, h0⟩ := hx.inv_ap
      split at h
      · rename_i te wd' mm f hl
        split at h
        · rename_i v hwd hv
          obtain rfl := Nat.eq_of_beq_eq_true hwd
          cases h
          have hlt := hob _ rfl
          obtain ⟨us, ho, hlen, hle, _, _, hel⟩ := BRel.arr_some (m.heap.rel _ _ hl).2 hno
          have hel := hel i.toNat (by omega)
          obtain ⟨y, hy, hrun⟩ := run_loadVar_at hv hel
          refine ⟨y, hy.R0 (fun _ _ h => h) _, fun w' hw _ => ?_⟩
          have hw := hw b rfl
          have := hrun w' (ρ b) (i.toNat * wd) us te (0, 0) (hw.trans ho) (List.take_prefix _ _)
          simp [execOp, Instr.loadAt, hx, Instr.sureAddr, this]
        · cases h
      · cases h
    · rename_i cs heq
      rw [heq] at hx
      obtain ⟨g, off, us, vs, te, fr, hx, hR, hpre, hrel⟩ := hx.inv_rp
      split at h
      · rename_i v hv
        cases h
        obtain ⟨y, hy, hrun⟩ := run_loadVar_at hv hrel
        refine ⟨y, hy.R0 (fun _ _ h => h) _, fun w' _ hro => ?_⟩
        have := hrun w' g off us te fr (hro rfl _ _ hR) hpre
        rw [Nat.add_zero] at this
        simp [execOp, Instr.loadAt, hx, Instr.sureAddr, this]
      · cases h
    · cases h
  case binOp op t x y ty =>
    have key : ∀ s', bin P t op (σ.ev x) (σ.ev y) = some s' → (∀ p, s'.obl = some p → p) → s.val = s'.val → SilOk P σ ρ a w ⟨dst, .binOp op t x y ty, type, pos, after, guard⟩ s := by
      intro s' h hob e
      obtain ⟨z, hz, hr⟩ := bin_sound h hob x y (m.ev x) (m.ev y)
      rw [← e] at hz
      refine .const hz fun w' => ?_
      have := hr w'
      simp only [execOp, Sem.run_bind] at this ⊢
      rw [this]; rfl
    have hsh : ∀ (op : BinOp) (F : IntKind → Int → Int → Int), (∀ k k' a b, 0 ≤ b → binOp op t (.int k a) (.int k' b) = pure (.int k (F k a b))) →
        (match σ.ev x, σ.ev y with
          | .c (.int k a), .c (.int _ b) => plainly y (some ⟨some (0 ≤ b), .c (.int k (F k a b)), none⟩)
          | _, _ => none) = some s → SilOk P σ ρ a w ⟨dst, .binOp op t x y ty, type, pos, after, guard⟩ s := by
      intro op F hF h
      split at h
      · rename_i k a1 k' b1 h1 h2
        have hx := m.ev x
        have hy := m.ev y
        rw [h1] at hx
        rw [h2] at hy
        have hx := hx.inv_c
        have hy := hy.inv_c
        have key : s.val = .c (.int k (F k a1 b1)) ∧ 0 ≤ b1 := by
          unfold plainly at h
          split at h
          · rename_i kc nc
            split at h
            · cases h
              simp only [St.ev] at h2
              cases h2
              exact ⟨rfl, Int.natCast_nonneg _⟩
            · cases h; exact ⟨rfl, hob _ rfl⟩
          · cases h; exact ⟨rfl, hob _ rfl⟩
        refine .const (x := .int k (F k a1 b1)) (by rw [key.1]; exact .c _) fun w' => ?_
        simp [execOp, hx, hy, eqGuard_plain, hF _ _ _ _ key.2]
      · cases h
    split at h
    · exact hsh .shl ishl (fun k k' a b hb => by simp [binOp, Op.shift, ishl]; omega) h
    · exact hsh .shr ishr (fun k k' a b hb => by simp [binOp, Op.shift, ishr]; omega) h
    · obtain ⟨s', h1, h2, h3, _⟩ := plainly_spec (.inl rfl) h hob
      exact key s' h1 h2 h3
    · obtain ⟨s', h1, h2, h3, _⟩ := plainly_spec (.inr rfl) h hob
      exact key s' h1 h2 h3
    · exact key s h hob rfl
  case unOp op t x =>
    have hx := m.ev x
    split at h
    · rename_i b heq
      rw [heq] at hx
      have hx := hx.inv_c
      cases h
      exact .const (.c _) fun w' => by simp [execOp, hx, Op.unary]
    · rename_i k b heq
      rw [heq] at hx
      have hx := hx.inv_c
      cases h
      exact .const (.c _) fun w' => by simp [execOp, hx, Op.unary, Op.intArith]
    · rename_i k b heq
      rw [heq] at hx
      have hx := hx.inv_c
      cases h
      exact .const (.c _) fun w' => by simp [execOp, hx, Op.unary, Op.intBits, ibits]
    · cases h
  case convert src dst' x =>
    have hx := m.ev x
    split at h
    · rename_i d k k' b h1 h2 heq
      rw [heq] at hx
      have hx := hx.inv_c
      cases h
      refine .const (.c _) fun w' => ?_
      simp only [execOp, convert, Sem.run_bind, run_underlying h1, run_underlying h2, Result.andThen_ok, hx]
      rfl
    · rename_i k b h1 h2 heq
      rw [heq] at hx
      have hx := hx.inv_c
      cases h
      refine .const (.c _) fun w' => ?_
      simp only [execOp, convert, Sem.run_bind, run_underlying h1, run_underlying h2, Result.andThen_ok, hx]
      rfl
    · cases h
  case nilCheck x =>
    have hx := m.ev x
    split at h
    · rename_i b off heq
      rw [heq] at hx
      obtain ⟨hx', hb⟩ := hx.inv_ptr
      cases h
      exact .const hx fun w' => by simp [execOp, hx']
    · rename_i b base mm i heq
      rw [heq] at hx
      obtain ⟨hx', _⟩ := hx.inv_ep
      cases h
      exact .const hx fun w' => by simp [execOp, hx']
    · rename_i b wd i off heq
      rw [heq] at hx
      obtain ⟨hx', _⟩ := hx.inv_ap
      cases h
      exact .const hx fun w' => by simp [execOp, hx']
    · rename_i cs heq
      rw [heq] at hx
      obtain ⟨g, off, us, vs, te, fr, hx', _⟩ := hx.inv_rp
      cases h
      exact .const hx fun w' => by simp [execOp, hx']
    · cases h
  case index t x i =>
    have hx := m.ev x
    have hi := m.ev i
    split at h
    · rename_i str k j h1 h2 h3
      rw [h2] at hx
      rw [h3] at hi
      have hx := hx.inv_c
      have hi := hi.inv_c
      cases h
      obtain ⟨o1, o2⟩ := hob _ rfl
      refine .const (x := .int .u8 (bAt str j)) (.c _) fun w' => ?_
      have hlt : j.toNat < str.size := by omega
      have : (if 0 ≤ j then str[j.toNat]? else none) = some str[j.toNat] := by
        rw [if_pos o1, getElem?_pos]
      have hb : bAt str j = (str[j.toNat].toNat : Int) := by
        unfold bAt
        have : str.data[j.toNat]? = some str[j.toNat] := by
          rw [Array.getElem?_eq_getElem (by simpa using hlt)]; rfl
        rw [this]; rfl
      simp only [execOp, Instr.index, hx, hi, asIntOf, Sem.run_bind, Sem.run_pure, Result.andThen_ok, run_underlying h1]
      rw [this, hb]
      rfl
    · cases h
  case slice t x lo hi mx =>
    have hx := m.ev x
    split at h
    · rename_i e hu
      split at h
      · rename_i wd hsz
        obtain ⟨y, hy, hrun⟩ := slicing_sound m hu hsz h hob
        exact .const hy fun w' => by simp [execOp, hrun w']
      · cases h
    · rename_i n e hu
      split at h
      · rename_i b off kk h1 h3
        rw [h1] at hx
        obtain ⟨hx, hb⟩ := hx.inv_ptr
        have hsz : tySize P e = some 1 := by
          unfold elemKind at h3
          split at h3
          · assumption
          · cases h3
        have fin : ∀ (lo' hi' : Int), 0 ≤ lo' → lo' ≤ hi' → hi' ≤ n → s.val = .sl b off n lo' hi' →
            (∀ w', (Instr.sliceBounds false n n (lo.map a.eval) (hi.map a.eval) none).run P w' = .ok (lo'.toNat, hi'.toNat, n) w') →
            SilOk P σ ρ a w ⟨dst, .slice t x lo hi none, type, pos, after, guard⟩ s := by
          intro lo' hi' o1 o2 o3 hs hrun
          refine .const (by rw [hs]; exact .sl b off n lo' hi' hb o1 o2 o3) fun w' => ?_
          have h4 : Addr.add ⟨ρ b, off, none⟩ (lo'.toNat * 1) = ⟨ρ b, off + lo'.toNat, none⟩ := by
            unfold Addr.add; split <;> simp_all
          simp only [execOp, Instr.sliceAt, hx, Sem.run_bind, Sem.run_pure, Result.andThen_ok, run_underlying hu, Instr.sureAddr, run_sizeOf' hsz, Option.map_none, hrun, h4]
          split <;> simp_all
        have one : ∀ (z : Operand) (k : IntKind) (c : Int) (y : Nat) (code : BoundsCode) (w' : World), σ.ev z = .c (.int k c) → 0 ≤ c → c ≤ y → (Instr.sliceBound (a.eval z) y code).run P w' = .ok c.toNat w' := by
          intro z k c y code w' hz o1 o2
          have := m.ev z
          rw [hz] at this
          have := this.inv_c
          simp [Instr.sliceBound, this, asIntOf, o1, o2]
        split at h
        · cases h
          exact fin 0 n (by omega) (by omega) (by omega) rfl fun w' => by simp [Instr.sliceBounds]
        · rename_i l
          split at h
          · rename_i k c hc
            cases h
            obtain ⟨o1, o2⟩ := hob _ rfl
            exact fin c n o1 o2 (by omega) rfl fun w' => by simp [Instr.sliceBounds, one l k c n _ _ hc o1 o2]
          · cases h
        · rename_i l
          split at h
          · rename_i k c hc
            cases h
            obtain ⟨o1, o2⟩ := hob _ rfl
            exact fin 0 c (by omega) o1 o2 rfl fun w' => by simp [Instr.sliceBounds, one l k c n _ _ hc o1 o2]
          · cases h
        · rename_i l h'
          split at h
          · rename_i k c k2 c2 hc hc2
            cases h
            obtain ⟨o1, o2, o3⟩ := hob _ rfl
            exact fin c c2 o1 o2 o3 rfl fun w' => by simp [Instr.sliceBounds, one l k c c2.toNat _ _ hc o1 (by omega), one h' k2 c2 n _ _ hc2 (by omega) o3]
          · cases h
      · cases h
    · rename_i hu
      split at h
      · rename_i str h1
        rw [h1] at hx
        have hx := hx.inv_c
        have fin : ∀ (lo' hi' : Nat), s.val = .c (.string (str.extract lo' hi')) →
            (∀ w', (Instr.sliceBounds false str.size str.size (lo.map a.eval) (hi.map a.eval) none).run P w' = .ok (lo', hi', str.size) w') →
            SilOk P σ ρ a w ⟨dst, .slice t x lo hi none, type, pos, after, guard⟩ s := by
          intro lo' hi' hs hrun
          refine .const (by rw [hs]; exact .c _) fun w' => ?_
          simp only [execOp, Instr.sliceAt, hx, Sem.run_bind, Sem.run_pure, Result.andThen_ok, run_underlying hu, Option.map_none, Instr.slice]
          simp [hrun]
        have one : ∀ (z : Operand) (k : IntKind) (c : Int) (y : Nat) (code : BoundsCode) (w' : World), σ.ev z = .c (.int k c) → 0 ≤ c → c ≤ y → (Instr.sliceBound (a.eval z) y code).run P w' = .ok c.toNat w' := by
          intro z k c y code w' hz o1 o2
          have := m.ev z
          rw [hz] at this
          have := this.inv_c
          simp [Instr.sliceBound, this, asIntOf, o1, o2]
        split at h
        · cases h
          exact fin 0 str.size rfl fun w' => by simp [Instr.sliceBounds]
        · rename_i l
          split at h
          · rename_i k c hc
            cases h
            obtain ⟨o1, o2⟩ := hob _ rfl
            exact fin c.toNat str.size rfl fun w' => by simp [Instr.sliceBounds, one l k c str.size _ _ hc o1 o2]
          · cases h
        · rename_i l
          split at h
          · rename_i k c hc
            cases h
            obtain ⟨o1, o2⟩ := hob _ rfl
            exact fin 0 c.toNat rfl fun w' => by simp [Instr.sliceBounds, one l k c str.size _ _ hc o1 o2]
          · cases h
        · rename_i l h'
          split at h
          · rename_i k c k2 c2 hc hc2
            cases h
            obtain ⟨o1, o2, o3⟩ := hob _ rfl
            exact fin c.toNat c2.toNat rfl fun w' => by simp [Instr.sliceBounds, one l k c c2.toNat _ _ hc o1 (by omega), one h' k2 c2 str.size _ _ hc2 (by omega) o3]
          · cases h
      · cases h
    · cases h
  case makeFunc fn first caps =>
    exact .const (.fn _ _ _ _ _ (m.evs _) (m.evs _)) fun w' => by
      simp [execOp, Instr.makeFunc, ← Array.toList_map]
  case fieldAddr t x f =>
    have hx := m.ev x
    split at h
    · rename_i b off o ft n h1 h2
      rw [h1] at hx
      obtain ⟨hx, hb⟩ := hx.inv_ptr
      split at h
      · cases h
      · rename_i hn
        cases h
        have hn : n ≠ 0 := fun e => hn (by rw [e]; rfl)
        exact .const (.ptr _ _ hb) fun w' => by simp [execOp, hx, fieldAt_run h2 hn]
    · rename_i b wd i off o ft n h1 h2
      rw [h1] at hx
      obtain ⟨hx, hb, hno, h0⟩ := hx.inv_ap
      split at h
      · cases h
      · rename_i hn
        cases h
        have hn : n ≠ 0 := fun e => hn (by rw [e]; rfl)
        refine .const (.ap _ _ _ _ hb hno h0) fun w' => by simp [execOp, hx, fieldAt_run h2 hn, Nat.add_assoc]
    · rename_i cs o ft n h1 h2
      rw [h1] at hx
      obtain ⟨g, off, us, vs, te, fr, hx, hR, hpre, hrel⟩ := hx.inv_rp
      split at h
      · cases h
      · rename_i hn
        have hn : n ≠ 0 := fun e => hn (by rw [e]; rfl)
        split at h
        · rename_i r hr
          cases h
          obtain ⟨q1, q2⟩ := hrel.dropC hr
          refine .const (.rp _ g (off + o) us (vs.drop o) te fr hR ?_ q1) fun w' => by simp [execOp, hx, fieldAt_run h2 hn]
          obtain ⟨z, hz⟩ := hpre
          refine ⟨z, ?_⟩
          rw [← List.drop_drop, ← hz, List.drop_append_of_le_length q2]
        · cases h
    · cases h
  case field t x f =>
    have hx := m.ev x
    split at h
    · rename_i cs o ft n h1 h2
      rw [h1] at hx
      obtain ⟨vs, hx, hl⟩ := hx.inv_agg
      split at h
      · rename_i v hv
        cases h
        obtain ⟨y, hy, hrun⟩ := run_part_known hv hl
        refine .const hy fun w' => ?_
        obtain ⟨fs, fd, e1, e2, e3, e4⟩ := fieldOf_spec h2
        simp [execOp, Instr.field, run_underlying e1, e2, hx, asAgg, e3, e4, hrun w']
      · cases h
    · cases h
  case extract x i =>
    have hx := m.ev x
    split at h
    · rename_i vs heq
      rw [heq] at hx
      obtain ⟨us, hx, hl⟩ := hx.inv_tup
      split at h
      · rename_i v hv
        cases h
        obtain ⟨y, hy, hr⟩ := hl.cellAt hv
        exact .const hr fun w' => by simp [execOp, Instr.extract, hx, hy]
      · cases h
    · cases h
  case call c =>
    obtain ⟨callee, args, tys⟩ := c
    cases callee <;> simp only [] at h <;> (try cases h)
    rename_i b
    have hargs := m.evs args.toList
    have hav : (args.map a.eval).toList = args.toList.map a.eval := by simp
    cases b <;> simp only [] at h <;> (try cases h)
    case len =>
      split at h
      · rename_i t b' o n c ht he
        split at h
        · rename_i e hu
          cases h
          rw [he] at hargs
          obtain ⟨v, hv, hr⟩ := hargs.inv_one rfl
          obtain ⟨hv', hb⟩ := hr.inv_slc
          have h1 : args.map a.eval = #[v] := by apply Array.ext'; rw [hav, hv]
          have h2 : tys = #[t] := by apply Array.ext'; rw [ht]
          exact .const (.c _) fun w' => by
            simp [execOp, resolve, invoke, builtin, Builtin.len_, h1, h2, hv', run_underlying hu, goInt]
        · cases h
      · rename_i t b' base mm lo hi ht he
        split at h
        · rename_i e hu
          cases h
          rw [he] at hargs
          obtain ⟨v, hv, hr⟩ := hargs.inv_one rfl
          obtain ⟨hv', hb, o1, o2, o3⟩ := hr.inv_sl
          have h1 : args.map a.eval = #[v] := by apply Array.ext'; rw [hav, hv]
          have h2 : tys = #[t] := by apply Array.ext'; rw [ht]
          refine .const (x := .int .i64 (hi - lo)) (.c _) fun w' => ?_
          have : ((hi.toNat - lo.toNat : Nat) : Int) = hi - lo := by omega
          simp [execOp, resolve, invoke, builtin, Builtin.len_, h1, h2, hv', run_underlying hu, goInt]
          omega
        · cases h
      · rename_i t str ht he
        split at h
        · rename_i hu
          cases h
          rw [he] at hargs
          obtain ⟨v, hv, hr⟩ := hargs.inv_one rfl
          have hv' := hr.inv_c
          have h1 : args.map a.eval = #[v] := by apply Array.ext'; rw [hav, hv]
          have h2 : tys = #[t] := by apply Array.ext'; rw [ht]
          exact .const (.c _) fun w' => by
            simp [execOp, resolve, invoke, builtin, Builtin.len_, h1, h2, hv', run_underlying hu, goInt]
        · cases h
      · rename_i t ht he
        split at h
        · rename_i e hu
          cases h
          rw [he] at hargs
          obtain ⟨v, hv, hr⟩ := hargs.inv_one rfl
          have hv' := hr.inv_c
          have h1 : args.map a.eval = #[v] := by apply Array.ext'; rw [hav, hv]
          have h2 : tys = #[t] := by apply Array.ext'; rw [ht]
          exact .const (.c _) fun w' => by
            simp [execOp, resolve, invoke, builtin, Builtin.len_, h1, h2, hv', run_underlying hu, goInt]
        · cases h
      · rename_i t b' wd lo hi mx ht he
        split at h
        · rename_i e hu
          cases h
          rw [he] at hargs
          obtain ⟨v, hv, hr⟩ := hargs.inv_one rfl
          obtain ⟨c, hv'⟩ := hr.inv_gs.2.isSlice
          obtain ⟨ad, c, rfl⟩ := hv'
          have h1 : args.map a.eval = #[.slice ad (hi - lo) c] := by apply Array.ext'; rw [hav, hv]
          have h2 : tys = #[t] := by apply Array.ext'; rw [ht]
          refine .const (x := .int .i64 ((hi - lo : Nat) : Int)) (by rw [subN_eq]; exact .c _) fun w' => ?_
          simp [execOp, resolve, invoke, builtin, Builtin.len_, h1, h2, run_underlying hu, goInt]
        · cases h
      · rename_i t wd n f ht he
        split at h
        · rename_i e hu
          cases h
          rw [he] at hargs
          obtain ⟨v, hv, hr⟩ := hargs.inv_one rfl
          obtain ⟨ad, c, rfl⟩ := hr.rs_slice
          have h1 : args.map a.eval = #[.slice ad n c] := by apply Array.ext'; rw [hav, hv]
          have h2 : tys = #[t] := by apply Array.ext'; rw [ht]
          refine .const (x := .int .i64 n) (.c _) fun w' => ?_
          simp [execOp, resolve, invoke, builtin, Builtin.len_, h1, h2, run_underlying hu, goInt]
        · cases h
      · rename_i t ht he
        split at h
        · rename_i e hu
          cases h
          rw [he] at hargs
          obtain ⟨v, hv, hr⟩ := hargs.inv_one rfl
          obtain ⟨ad, rfl⟩ := hr.inv_zs
          have h1 : args.map a.eval = #[.slice ad 0 0] := by apply Array.ext'; rw [hav, hv]
          have h2 : tys = #[t] := by apply Array.ext'; rw [ht]
          refine .const (x := .int .i64 0) (.c _) fun w' => ?_
          simp [execOp, resolve, invoke, builtin, Builtin.len_, h1, h2, run_underlying hu, goInt]
        · cases h
      · cases h
    case max =>
      split at h
      · rename_i v hv
        cases h
        obtain ⟨y, hy, x, rest, hl, hrun⟩ := mm_sound (P := P) mx Builtin.max2 (fun k x y => rfl) hv hargs
        exact .const hy fun w' => by
          simp [execOp, resolve, invoke, builtin, Builtin.max_, hl, hrun]
      · cases h
    case min =>
      split at h
      · rename_i v hv
        cases h
        obtain ⟨y, hy, x, rest, hl, hrun⟩ := mm_sound (P := P) mn Builtin.min2 (fun k x y => rfl) hv hargs
        exact .const hy fun w' => by
          simp [execOp, resolve, invoke, builtin, Builtin.min_, hl, hrun]
      · cases h
  case indexAddr t x i =>
    split at h
    · rename_i e hu
      split at h
      · rename_i b off n c k j mm h1 h2 h3
        split at h
        · rename_i hj
          have hj : j < n := by simpa [Nat.blt_eq] using hj
          cases h
          have hx := m.ev x
          have hi := m.ev i
          rw [h1] at hx
          rw [h2] at hi
          obtain ⟨hx, hb⟩ := hx.inv_slc
          have hi := hi.inv_c
          refine .const (.ptr _ _ hb) fun w' => ?_
          have h0 : (0 : Int) ≤ Int.ofNat j ∧ Int.ofNat j < (n : Int) := ⟨by simp, by simpa using hj⟩
          have h4 : Addr.add ⟨ρ b, off, none⟩ (j * mm) = ⟨ρ b, off + j * mm, none⟩ := by
            unfold Addr.add; split <;> simp_all
          simp only [execOp, Instr.indexAt, hx, hi, asIntOf, Sem.run_bind, Sem.run_pure, Result.andThen_ok, run_underlying hu, run_sizeOf' h3, if_pos h0]
          rw [show Int.toNat (Int.ofNat j) = j from rfl, h4]
        · cases h
      · rename_i b wd lo hi mx k j mm h1 h2 h3
        split at h
        · rename_i hwd
          obtain rfl := Nat.eq_of_beq_eq_true hwd
          cases h
          obtain ⟨o1, o2⟩ := hob _ rfl
          rw [subN_eq] at o2
          have hx := m.ev x
          have hi := m.ev i
          rw [h1] at hx
          rw [h2] at hi
          obtain ⟨hb, hlh, hg⟩ := hx.inv_gs
          have hi := hi.inv_c
          rcases hg with ⟨_, hz, _⟩ | ⟨hno, c1, c2, off, hv, hoff⟩
          · exfalso; subst hz; omega
          have hoff := hoff (.inr (by omega))
          subst hoff
          refine .const (x := .pointer (some ⟨ρ b, (addI lo j).toNat * wd + 0, none⟩)) (.ap _ _ _ _ hb hno (by rw [addI_eq]; omega)) fun w' => ?_
          have h4 : Addr.add ⟨ρ b, lo * wd, none⟩ (j.toNat * wd) = ⟨ρ b, (addI lo j).toNat * wd + 0, none⟩ := by
            have : (addI lo j).toNat * wd + 0 = lo * wd + j.toNat * wd := by
              rw [addI_eq, ← Nat.add_mul, Nat.add_zero]; congr 1; omega
            rw [this]
            unfold Addr.add; split <;> simp_all
          simp only [execOp, Instr.indexAt, hv, hi, asIntOf, Sem.run_bind, Sem.run_pure, Result.andThen_ok, run_underlying hu, run_sizeOf' h3, if_pos (And.intro o1 o2), h4]
        · cases h
      · rename_i wd n f k j mm h1 h2 h3
        split at h
        · rename_i hwd
          obtain rfl := Nat.eq_of_beq_eq_true hwd
          cases h
          obtain ⟨o1, o2⟩ := hob _ rfl
          have hx := m.ev x
          have hi := m.ev i
          rw [h1] at hx
          rw [h2] at hi
          have hi := hi.inv_c
          rcases hx.inv_rs with ⟨_, _, hz, _⟩ | ⟨g, off, cap, us, te, fr, hpos, hmc, hv, hR, hle, hel, _⟩
          · exfalso; subst hz; omega
          refine .const (.rp _ g (off + j.toNat * wd) us _ te fr hR (List.take_prefix _ _) (hel j.toNat (by omega))) fun w' => ?_
          have h4 : Addr.add ⟨g, off, none⟩ (j.toNat * wd) = ⟨g, off + j.toNat * wd, none⟩ := by
            unfold Addr.add; split <;> simp_all
          simp only [execOp, Instr.indexAt, hv, hi, asIntOf, Sem.run_bind, Sem.run_pure, Result.andThen_ok, run_underlying hu, run_sizeOf' h3, if_pos (And.intro o1 o2), h4]
        · cases h
      · cases h
    · rename_i n e hu
      split at h
      · rename_i b off k j kk h1 h2 h3
        cases h
        obtain ⟨o1, o2⟩ := hob _ rfl
        have hx := m.ev x
        have hi := m.ev i
        rw [h1] at hx
        rw [h2] at hi
        obtain ⟨hx, hb⟩ := hx.inv_ptr
        have hi := hi.inv_c
        have hsz : tySize P e = some 1 := by
          unfold elemKind at h3
          split at h3
          · assumption
          · cases h3
        refine .const (.ep b off n j hb o1 o2) fun w' => ?_
        have h4 : Addr.add ⟨ρ b, off, none⟩ (j.toNat * 1) = ⟨ρ b, off + j.toNat, none⟩ := by
          unfold Addr.add; split <;> simp_all
        simp only [execOp, Instr.indexAt, hx, hi, asIntOf, Sem.run_bind, Sem.run_pure, Result.andThen_ok, run_underlying hu, Instr.sureAddr, run_sizeOf' hsz, if_pos (And.intro o1 o2), h4]
      · cases h
    · cases h

end
end Go.Proofs.Ytjiamfajgllelaa.Sy
