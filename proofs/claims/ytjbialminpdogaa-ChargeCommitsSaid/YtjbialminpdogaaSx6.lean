/-
  Sx6: each silent operation answers what 'sil' says.
-/
import Derived.Test.YtjbialminpdogaaSx5
namespace Go.Proofs.Ytjbialminpdogaa.Sx
open Go

section
variable {P : Program} {w0 : World} {own : Nat → Prop} {ρ0 : Nat × (Nat → Nat)} {σ : St} {ρ : Nat → Nat} {a : Act} {w : World}

/-- what a silent operation does -/
def SilOk (P : Program) (σ : St) (ρ : Nat → Nat) (a : Act) (w : World) (o : Oper) (s : Sil) : Prop :=
  ∃ x, Rel σ.next ρ s.val x ∧ ∀ w', (∀ b, s.reads = some b → w'.heap[ρ b]? = w.heap[ρ b]?) → (execOp a.eval o).run P w' = .ok (.value x) w'

theorem SilOk.const {o : Oper} {s : Sil} {x : Value} (hr : Rel σ.next ρ s.val x) (h : ∀ w', (execOp a.eval o).run P w' = .ok (.value x) w') : SilOk P σ ρ a w o s :=
  ⟨x, hr, fun w' _ => h w'⟩

theorem fieldAt_run {t : TypeId} {f : Nat} {off : Nat} {ft : TypeId} {n : Nat} (h : fieldOf P t f = some (off, ft, n)) (hn : n ≠ 0) (g o : Nat) (w : World) :
    (Instr.fieldAt t (.pointer (some ⟨g, o, none⟩)) f).run P w = .ok (.pointer (some ⟨g, o + off, none⟩)) w := by
  unfold fieldOf at h
  split at h
  · rename_i fs hu
    split at h
    · rename_i x hx
      split at h
      · rename_i m hm
        cases h
        have : (fieldPlace ⟨g, o, none⟩ x).run P w = .ok ⟨g, o + x.offset, none⟩ w := by
          simp [fieldPlace, run_sizeOf' hm, hn, Addr.add]
        simp [Instr.fieldAt, run_underlying hu, hx, Instr.sureAddr, this]
      · cases h
    · cases h
  · cases h

theorem mapM_sizes : ∀ (l : List Field) (out : List (Nat × Nat)), sizesOf P l = some out → ∀ w,
    (l.mapM (fun f => (do pure (f.offset, ← sizeOf f.type) : Sem (Nat × Nat)))).run P w = .ok out w := by
  intro l
  induction l with
  | nil => intro out h w; cases h; simp
  | cons f l ih =>
    intro out h w
    simp only [sizesOf] at h
    cases hm : tySize P f.type with
    | none => simp [hm] at h
    | some m =>
      cases hr : sizesOf P l with
      | none => simp [hm, hr] at h
      | some r =>
        simp only [hm, hr] at h
        cases h
        have := ih _ hr w
        rw [List.mapM_cons, Sem.run_bind]
        simp only [Sem.run_bind, run_sizeOf' hm, Result.andThen_ok, Sem.run_pure, this]

theorem evParts_spec (m : Mod w0 own ρ0 σ ρ a w) (ps : List (Nat × Operand)) (j : Nat) (p : Nat × SV) (q : Nat × Value)
    (hp : (evParts σ ps)[j]? = some p) (hq : (ps.map fun (i, x) => (i, a.eval x))[j]? = some q) : p.1 = q.1 ∧ Rel σ.next ρ p.2 q.2 := by
  simp only [evParts, List.getElem?_map, Option.map_eq_some_iff] at hp hq
  obtain ⟨x, hx, rfl⟩ := hp
  obtain ⟨y, hy, rfl⟩ := hq
  rw [hx] at hy
  cases hy
  exact ⟨rfl, m.ev _⟩

theorem sil_sound (m : Mod w0 own ρ0 σ ρ a w) {o : Oper} {s : Sil} (h : sil P σ o.op = some s) (hob : ∀ p, s.obl = some p → p) : SilOk P σ ρ a w o s := by
  obtain ⟨dst, op, type, pos, after, guard⟩ := o
  cases op <;> simp only [sil, sv] at h <;> (try cases h)
  case move x => exact .const (m.ev x) fun w' => by simp [execOp]
  case assign x => exact .const (m.ev x) fun w' => by simp [execOp]
  case pick c x y =>
    have hc := m.ev c
    split at h
    · rename_i t heq
      rw [heq] at hc
      have hc := hc.inv_c
      cases t <;> simp only [] at h <;> cases h
      · exact .const (m.ev y) fun w' => by simp [execOp, hc, asBool]
      · exact .const (m.ev x) fun w' => by simp [execOp, hc, asBool]
    · cases h
  case build t parts =>
    split at h
    · rename_i z fs hz hu
      split at h
      · rename_i places hp
        split at h
        · rename_i cs hf
          cases h
          obtain ⟨v, hv, hr⟩ := tyZero_rel hz (n := σ.next) (ρ := ρ)
          obtain ⟨vs, rfl, hl⟩ := hr.inv_agg
          obtain ⟨us, hus, hfill⟩ := fillC_sound _ _ (parts.toList.map fun (i, x) => (i, a.eval x)) _ _ _ hf hl (by simp [evParts]) (evParts_spec m _)
          refine .const (.agg _ _ hus) fun w' => ?_
          have hmap : (fs.mapM (fun f => (do pure (f.offset, ← sizeOf f.type) : Sem (Nat × Nat)))).run P w' = .ok places.toArray w' := by
            rw [Array.mapM_eq_mapM_toList]
            simp only [Sem.run_map]
            have := mapM_sizes _ _ hp w'
            rw [this]; rfl
          simp only at hfill
          simp only [execOp, Instr.build, Sem.run_bind, hv, Result.andThen_ok, run_underlying hu, hmap, Value.cells]
          rw [show (fun x => places.toArray[x]?) = fun i => places[i]? from by funext i; simp]
          simp [hfill]
        · cases h
      · cases h
    · cases h
  case load t x =>
    have hx := m.ev x
    split at h
    · rename_i b off heq
      rw [heq] at hx
      obtain ⟨hx, hb⟩ := hx.inv_ptr
      split at h
      · rename_i cs t' hl
        split at h
        · rename_i v hv
          cases h
          obtain ⟨vs, fr, ho, hr, _⟩ := (m.heap.rel _ _ hl).2
          obtain ⟨y, hy, hrun⟩ := run_loadVar_known hv hr
          refine ⟨y, hy, fun w' hw => ?_⟩
          have hw := hw b rfl
          simp [execOp, Instr.loadAt, hx, Instr.sureAddr, hrun w' (ρ b) t' fr (hw.trans ho)]
        · cases h
      · cases h
    · cases h
  case binOp op t x y ty =>
    have key : ∀ s', bin P t op (σ.ev x) (σ.ev y) = some s' → (∀ p, s'.obl = some p → p) → s.val = s'.val → SilOk P σ ρ a w ⟨dst, .binOp op t x y ty, type, pos, after, guard⟩ s := by
      intro s' h hob e
      obtain ⟨z, hz, hr⟩ := bin_sound h hob x y (m.ev x) (m.ev y)
      rw [← e] at hz
      refine .const hz fun w' => ?_
      have := hr w'
      simp only [execOp, Sem.run_bind] at this ⊢
      rw [this]; rfl
    split at h
    · obtain ⟨s', h1, h2, h3, _⟩ := plainly_spec (.inl rfl) h hob
      exact key s' h1 h2 h3
    · obtain ⟨s', h1, h2, h3, _⟩ := plainly_spec (.inr rfl) h hob
      exact key s' h1 h2 h3
    · exact key s h hob rfl
  case unOp op t x =>
    have hx := m.ev x
    cases op <;> simp only [] at h <;> (try cases h)
    split at h
    · rename_i b heq
      rw [heq] at hx
      have hx := hx.inv_c
      cases h
      exact .const (.c _) fun w' => by simp [execOp, hx, Op.unary]
    · cases h
  case makeFunc fn first caps =>
    exact .const (.fn _ _ _ _ _ (m.evs _) (m.evs _)) fun w' => by
      simp [execOp, Instr.makeFunc, ← Array.toList_map]
  case fieldAddr t x f =>
    have hx := m.ev x
    split at h
    · rename_i b off o ft n h1 h2
      rw [h1] at hx
      obtain ⟨hx, hb⟩ := hx.inv_ptr
      split at h
      · cases h
      · rename_i hn
        cases h
        have hn : n ≠ 0 := fun e => hn (by rw [e]; rfl)
        exact .const (.ptr _ _ hb) fun w' => by simp [execOp, hx, fieldAt_run h2 hn]
    · cases h
  case extract x i =>
    have hx := m.ev x
    split at h
    · rename_i vs heq
      rw [heq] at hx
      obtain ⟨us, hx, hl⟩ := hx.inv_tup
      split at h
      · rename_i v hv
        cases h
        obtain ⟨y, hy, hr⟩ := hl.cellAt hv
        exact .const hr fun w' => by simp [execOp, Instr.extract, hx, hy]
      · cases h
    · cases h
  case call c =>
    obtain ⟨callee, args, tys⟩ := c
    cases callee <;> simp only [] at h <;> (try cases h)
    rename_i b
    have hargs := m.evs args.toList
    have hav : (args.map a.eval).toList = args.toList.map a.eval := by simp
    cases b <;> simp only [] at h <;> (try cases h)
    case len =>
      split at h
      · rename_i t b' o n c ht he
        split at h
        · rename_i e hu
          cases h
          rw [he] at hargs
          obtain ⟨v, hv, hr⟩ := hargs.inv_one rfl
          obtain ⟨hv', hb⟩ := hr.inv_slc
          have h1 : args.map a.eval = #[v] := by apply Array.ext'; rw [hav, hv]
          have h2 : tys = #[t] := by apply Array.ext'; rw [ht]
          exact .const (.c _) fun w' => by
            simp [execOp, resolve, invoke, builtin, Builtin.len_, h1, h2, hv', run_underlying hu, goInt]
        · cases h
      · cases h
    case max =>
      split at h
      · rename_i v hv
        cases h
        obtain ⟨y, hy, x, rest, hl, hrun⟩ := mm_sound (P := P) mx Builtin.max2 (fun k x y => rfl) hv hargs
        exact .const hy fun w' => by
          simp [execOp, resolve, invoke, builtin, Builtin.max_, hl, hrun]
      · cases h
    case min =>
      split at h
      · rename_i v hv
        cases h
        obtain ⟨y, hy, x, rest, hl, hrun⟩ := mm_sound (P := P) mn Builtin.min2 (fun k x y => rfl) hv hargs
        exact .const hy fun w' => by
          simp [execOp, resolve, invoke, builtin, Builtin.min_, hl, hrun]
      · cases h
  case indexAddr t x i =>
    split at h
    · rename_i e hu
      split at h
      · rename_i b off n c k j mm h1 h2 h3
        split at h
        · rename_i hj
          have hj : j < n := by simpa [Nat.blt_eq] using hj
          cases h
          have hx := m.ev x
          have hi := m.ev i
          rw [h1] at hx
          rw [h2] at hi
          obtain ⟨hx, hb⟩ := hx.inv_slc
          have hi := hi.inv_c
          refine .const (.ptr _ _ hb) fun w' => ?_
          have h0 : (0 : Int) ≤ Int.ofNat j ∧ Int.ofNat j < (n : Int) := ⟨by simp, by simpa using hj⟩
          have h4 : Addr.add ⟨ρ b, off, none⟩ (j * mm) = ⟨ρ b, off + j * mm, none⟩ := by
            unfold Addr.add; split <;> simp_all
          simp only [execOp, Instr.indexAt, hx, hi, asIntOf, Sem.run_bind, Sem.run_pure, Result.andThen_ok, run_underlying hu, run_sizeOf' h3, if_pos h0]
          rw [show Int.toNat (Int.ofNat j) = j from rfl, h4]
        · cases h
      · cases h
    · cases h

end
end Go.Proofs.Ytjbialminpdogaa.Sx
