/-
  Sx6: each silent operation answers what 'sil' says.
-/
import Derived.Test.YtlobbcodnkfbiaaDoorSxE
namespace Go.Proofs.YtlobbcodnkfbiaaDoor.Sx
open Go

section
variable {P : Program} {w0 : World} {own : Nat → Prop} {ρ0 : Nat × (Nat → Nat)} {σ : St} {ρ : Nat → Nat} {a : Act} {w : World}

/-- what a silent operation does -/
def SilOk (P : Program) (σ : St) (ρ : Nat → Nat) (a : Act) (w : World) (o : Oper) (s : Sil) : Prop :=
  ∃ x, Rel σ.next ρ s.val x ∧ ∀ w', (∀ b, s.reads = some b → w'.heap[ρ b]? = w.heap[ρ b]?) → (execOp a.eval o).run P w' = .ok (.value x) w'

theorem SilOk.const {o : Oper} {s : Sil} {x : Value} (hr : Rel σ.next ρ s.val x) (h : ∀ w', (execOp a.eval o).run P w' = .ok (.value x) w') : SilOk P σ ρ a w o s :=
  ⟨x, hr, fun w' _ => h w'⟩

theorem fieldAt_run {t : TypeId} {f : Nat} {off : Nat} {ft : TypeId} {n : Nat} (h : fieldOf P t f = some (off, ft, n)) (hn : n ≠ 0) (g o : Nat) (w : World) :
    (Instr.fieldAt t (.pointer (some ⟨g, o, none⟩)) f).run P w = .ok (.pointer (some ⟨g, o + off, none⟩)) w := by
  unfold fieldOf at h
  split at h
  · rename_i fs hu
    split at h
    · rename_i x hx
      split at h
      · rename_i m hm
        cases h
        have : (fieldPlace ⟨g, o, none⟩ x).run P w = .ok ⟨g, o + x.offset, none⟩ w := by
          simp [fieldPlace, run_sizeOf' hm, hn, Addr.add]
        simp [Instr.fieldAt, run_underlying hu, hx, Instr.sureAddr, this]
      · cases h
    · cases h
  · cases h

theorem mapM_sizes : ∀ (l : List Field) (out : List (Nat × Nat)), sizesOf P l = some out → ∀ w,
    (l.mapM (fun f => (do pure (f.offset, ← sizeOf f.type) : Sem (Nat × Nat)))).run P w = .ok out w := by
  intro l
  induction l with
  | nil => intro out h w; cases h; simp
  | cons f l ih =>
    intro out h w
    simp only [sizesOf] at h
    cases hm : tySize P f.type with
    | none => simp [hm] at h
    | some m =>
      cases hr : sizesOf P l with
      | none => simp [hm, hr] at h
      | some r =>
        simp only [hm, hr] at h
        cases h
        have := ih _ hr w
        rw [List.mapM_cons, Sem.run_bind]
        simp only [Sem.run_bind, run_sizeOf' hm, Result.andThen_ok, Sem.run_pure, this]

theorem evParts_spec (m : Mod w0 own ρ0 σ ρ a w) (ps : List (Nat × Operand)) (j : Nat) (p : Nat × SV) (q : Nat × Value)
    (hp : (evParts σ ps)[j]? = some p) (hq : (ps.map fun (i, x) => (i, a.eval x))[j]? = some q) : p.1 = q.1 ∧ Rel σ.next ρ p.2 q.2 := by
  simp only [evParts, List.getElem?_map, Option.map_eq_some_iff] at hp hq
  obtain ⟨x, hx, rfl⟩ := hp
  obtain ⟨y, hy, rfl⟩ := hq
  rw [hx] at hy
  cases hy
  exact ⟨rfl, m.ev _⟩

theorem constParts_spec (ev : Operand → Value) (hev : ∀ v, ev (.const v) = v) : ∀ (ps : List (Nat × Operand)) (qs : List (Nat × Value)), constParts ps = some qs →
    (ps.map fun (i, x) => (i, ev x)) = qs ∧ ∀ q ∈ qs, ∃ k x, q.2 = .int k x := by
  intro ps
  induction ps with
  | nil => intro qs h; cases h; simp
  | cons p ps ih =>
    intro qs h
    unfold constParts at h
    split at h
    · rename_i h1; cases h1
    · rename_i i v r h1
      cases h1
      split at h
      · rename_i k x q hq
        cases h
        obtain ⟨h2, h3⟩ := ih _ hq
        refine ⟨by simp [hev, ← h2], ?_⟩
        intro q' hq'
        rcases List.mem_cons.1 hq' with rfl | h4
        · exact ⟨_, _, rfl⟩
        · exact h3 _ h4
      · cases h
    · cases h
theorem fillV_sound : ∀ (qs : List (Nat × Value)) (zs us : List Value), fillV zs qs = some us → (∀ q ∈ qs, ∃ k x, q.2 = .int k x) →
    Instr.fill (fun i => some (i, 1)) zs.toArray qs = some us.toArray := by
  intro qs
  induction qs with
  | nil => intro zs us h _; cases h; rfl
  | cons q qs ih =>
    intro zs us h hq
    obtain ⟨i, v⟩ := q
    obtain ⟨k, x, hv⟩ := hq (i, v) (List.mem_cons_self ..)
    simp only at hv
    subst hv
    unfold fillV at h
    split at h
    · rename_i hi
      have hi : i < zs.length := by simpa [Nat.blt_eq] using hi
      have := ih _ _ h fun q' h' => hq q' (List.mem_cons_of_mem _ h')
      have hsz : (Value.int k x).cells = #[Value.int k x] := rfl
      have hle : i + 1 ≤ zs.length := hi
      have e : (Value.int k x).cells.zipIdx.foldl (fun cs (c, j) => cs.setIfInBounds (i + j) c) zs.toArray = (zs.set i (Value.int k x)).toArray := by rw [hsz]; simp
      have e2 : ((Value.int k x).cells.size ≠ 1 || i + (Value.int k x).cells.size > zs.toArray.size) = false := by rw [hsz]; simp; omega
      simp only [Instr.fill]
      rw [e2, e]
      exact this
    · cases h

theorem sil_sound (m : Mod w0 own ρ0 σ ρ a w) {o : Oper} {s : Sil} (h : sil P σ o.op = some s) (hob : ∀ p, s.obl = some p → p) : SilOk P σ ρ a w o s := by
  obtain ⟨dst, op, type, pos, after, guard⟩ := o
  cases op <;> simp only [sil, sv] at h <;> (try cases h)
  case move x => exact .const (m.ev x) fun w' => by simp [execOp]
  case assign x => exact .const (m.ev x) fun w' => by simp [execOp]
  case pick c x y =>
    have hc := m.ev c
    split at h
    · rename_i t heq
      rw [heq] at hc
      have hc := hc.inv_c
      cases t <;> simp only [] at h <;> cases h
      · exact .const (m.ev y) fun w' => by simp [execOp, hc, asBool]
      · exact .const (m.ev x) fun w' => by simp [execOp, hc, asBool]
    · cases h
  case build t parts =>
    split at h
    · rename_i z fs hz hu
      split at h
      · rename_i places hp
        split at h
        · rename_i cs hf
          cases h
          obtain ⟨v, hv, hr⟩ := tyZero_rel hz (n := σ.next) (ρ := ρ)
          obtain ⟨vs, rfl, hl⟩ := hr.inv_agg
          obtain ⟨us, hus, hfill⟩ := fillC_sound _ _ (parts.toList.map fun (i, x) => (i, a.eval x)) _ _ _ hf hl (by simp [evParts]) (evParts_spec m _)
          refine .const (.agg _ _ hus) fun w' => ?_
          have hmap : (fs.mapM (fun f => (do pure (f.offset, ← sizeOf f.type) : Sem (Nat × Nat)))).run P w' = .ok places.toArray w' := by
            rw [Array.mapM_eq_mapM_toList]
            simp only [Sem.run_map]
            have := mapM_sizes _ _ hp w'
            rw [this]; rfl
          simp only at hfill
          simp only [execOp, Instr.build, Sem.run_bind, hv, Result.andThen_ok, run_underlying hu, hmap, Value.cells]
          rw [show (fun x => places.toArray[x]?) = fun i => places[i]? from by funext i; simp]
          simp [hfill]
        · cases h
      · cases h
    · rename_i z n e hz hu
      split at h
      · rename_i zs qs hs hzl hq
        split at h
        · rename_i us hf
          cases h
          obtain ⟨h1, h2⟩ := constParts_spec a.eval (fun _ => rfl) _ _ hq
          have hfill := fillV_sound _ _ _ hf h2
          have hv : ∀ w, (zeroValue t).run P w = .ok (.agg zs.toArray) w := by
            intro w
            unfold zeroL at hzl
            split at hzl
            · rename_i i hi
              split at hzl
              · rename_i cs hz
                cases hzl
                simpa using run_zeroValue' hi hz w
              · cases hzl
            · cases hzl
          refine .const (open0_rel (.agg us.toArray)) fun w' => ?_
          simp only [execOp, Instr.build, Sem.run_bind, hv, Result.andThen_ok, run_underlying hu, run_sizeOf' hs, Value.cells, Nat.mul_one]
          simp [h1, hfill]
        · cases h
      · cases h
    · cases h
  case load t x =>
    have hx := m.ev x
    split at h
    · rename_i b off heq
      rw [heq] at hx
      obtain ⟨hx, hb⟩ := hx.inv_ptr
      split at h
      · rename_i cs t' hl
        split at h
        · rename_i v hv
          cases h
          obtain ⟨vs, fr, ho, hr, _⟩ := (m.heap.rel _ _ hl).2
          obtain ⟨y, hy, hrun⟩ := run_loadVar_known hv hr
          refine ⟨y, hy, fun w' hw => ?_⟩
          have hw := hw b rfl
          simp [execOp, Instr.loadAt, hx, Instr.sureAddr, hrun w' (ρ b) t' fr (hw.trans ho)]
        · cases h
      · cases h
    · rename_i b base mm i heq
      rw [heq] at hx
      obtain ⟨hx, hb, h0, h1⟩ := hx.inv_ep
      split at h
      · rename_i cs t' k hl hk
        split at h
        · rename_i xs hxs
          cases h
          obtain ⟨vs, fr, ho, hr, _⟩ := (m.heap.rel _ _ hl).2
          obtain ⟨e1, e2, e3⟩ := rowAt_rel hr hxs
          have hi : i.toNat < mm := by omega
          have hcell : vs[base + i.toNat]? = some (.int k (xs.getD i.toNat 0)) := by
            have h2 : ((vs.drop base).take mm)[i.toNat]? = (xs.map (Value.int k))[i.toNat]? := by rw [e1]
            rw [List.getElem?_take, if_pos hi, List.getElem?_drop] at h2
            rw [h2, List.getElem?_map, List.getElem?_eq_getElem (by omega)]
            simp [List.getD, List.getElem?_eq_getElem (show i.toNat < xs.length by omega)]
          refine ⟨.int k (xs.getD i.toNat 0), .c _, fun w' hw => ?_⟩
          have hw := hw b rfl
          have hc : w'.cell? ⟨ρ b, base + i.toNat, none⟩ = some (.int k (xs.getD i.toNat 0)) := (cell_of (hw.trans ho)).trans hcell
          have hag : tyAgg P t = some false := by
            unfold elemKind at hk
            split at hk
            · rename_i hu _
              simp [tyAgg, hu]
            · cases hk
          simp [execOp, Instr.loadAt, hx, Instr.sureAddr, loadVar, run_isAgg hag, hc]
        · cases h
      · cases h
    · cases h
  case binOp op t x y ty =>
    have key : ∀ s', bin P t op (σ.ev x) (σ.ev y) = some s' → (∀ p, s'.obl = some p → p) → s.val = s'.val → SilOk P σ ρ a w ⟨dst, .binOp op t x y ty, type, pos, after, guard⟩ s := by
      intro s' h hob e
      obtain ⟨z, hz, hr⟩ := bin_sound h hob x y (m.ev x) (m.ev y)
      rw [← e] at hz
      refine .const hz fun w' => ?_
      have := hr w'
      simp only [execOp, Sem.run_bind] at this ⊢
      rw [this]; rfl
    have hsh : ∀ (op : BinOp) (F : IntKind → Int → Int → Int), (∀ k k' a b, 0 ≤ b → binOp op t (.int k a) (.int k' b) = pure (.int k (F k a b))) →
        (match σ.ev x, σ.ev y with
          | .c (.int k a), .c (.int _ b) => plainly y (some ⟨some (0 ≤ b), .c (.int k (F k a b)), none⟩)
          | _, _ => none) = some s → SilOk P σ ρ a w ⟨dst, .binOp op t x y ty, type, pos, after, guard⟩ s := by
      intro op F hF h
      split at h
      · rename_i k a1 k' b1 h1 h2
        have hx := m.ev x
        have hy := m.ev y
        rw [h1] at hx
        rw [h2] at hy
        have hx := hx.inv_c
        have hy := hy.inv_c
        have key : s.val = .c (.int k (F k a1 b1)) ∧ 0 ≤ b1 := by
          unfold plainly at h
          split at h
          · rename_i kc nc
            split at h
            · cases h
              simp only [St.ev] at h2
              cases h2
              exact ⟨rfl, Int.natCast_nonneg _⟩
            · cases h; exact ⟨rfl, hob _ rfl⟩
          · cases h; exact ⟨rfl, hob _ rfl⟩
        refine .const (x := .int k (F k a1 b1)) (by rw [key.1]; exact .c _) fun w' => ?_
        simp [execOp, hx, hy, eqGuard_plain, hF _ _ _ _ key.2]
      · cases h
    split at h
    · exact hsh .shl ishl (fun k k' a b hb => by simp [binOp, Op.shift, ishl]; omega) h
    · exact hsh .shr ishr (fun k k' a b hb => by simp [binOp, Op.shift, ishr]; omega) h
    · obtain ⟨s', h1, h2, h3, _⟩ := plainly_spec (.inl rfl) h hob
      exact key s' h1 h2 h3
    · obtain ⟨s', h1, h2, h3, _⟩ := plainly_spec (.inr rfl) h hob
      exact key s' h1 h2 h3
    · exact key s h hob rfl
  case unOp op t x =>
    have hx := m.ev x
    split at h
    · rename_i b heq
      rw [heq] at hx
      have hx := hx.inv_c
      cases h
      exact .const (.c _) fun w' => by simp [execOp, hx, Op.unary]
    · rename_i k b heq
      rw [heq] at hx
      have hx := hx.inv_c
      cases h
      exact .const (.c _) fun w' => by simp [execOp, hx, Op.unary, Op.intArith]
    · rename_i k b heq
      rw [heq] at hx
      have hx := hx.inv_c
      cases h
      exact .const (.c _) fun w' => by simp [execOp, hx, Op.unary, Op.intBits, ibits]
    · cases h
  case convert src dst' x =>
    have hx := m.ev x
    split at h
    · rename_i d k k' b h1 h2 heq
      rw [heq] at hx
      have hx := hx.inv_c
      cases h
      refine .const (.c _) fun w' => ?_
      simp only [execOp, convert, Sem.run_bind, run_underlying h1, run_underlying h2, Result.andThen_ok, hx]
      rfl
    · cases h
  case nilCheck x =>
    have hx := m.ev x
    split at h
    · rename_i b off heq
      rw [heq] at hx
      obtain ⟨hx', hb⟩ := hx.inv_ptr
      cases h
      exact .const hx fun w' => by simp [execOp, hx']
    · rename_i b base mm i heq
      rw [heq] at hx
      obtain ⟨hx', _⟩ := hx.inv_ep
      cases h
      exact .const hx fun w' => by simp [execOp, hx']
    · cases h
  case index t x i =>
    have hx := m.ev x
    have hi := m.ev i
    split at h
    · rename_i str k j h1 h2 h3
      rw [h2] at hx
      rw [h3] at hi
      have hx := hx.inv_c
      have hi := hi.inv_c
      cases h
      obtain ⟨o1, o2⟩ := hob _ rfl
      refine .const (x := .int .u8 (bAt str j)) (.c _) fun w' => ?_
      have hlt : j.toNat < str.size := by omega
      have : (if 0 ≤ j then str[j.toNat]? else none) = some str[j.toNat] := by
        rw [if_pos o1, getElem?_pos]
      have hb : bAt str j = (str[j.toNat].toNat : Int) := by
        unfold bAt
        have : str.data[j.toNat]? = some str[j.toNat] := by
          rw [Array.getElem?_eq_getElem (by simpa using hlt)]; rfl
        rw [this]; rfl
      simp only [execOp, Instr.index, hx, hi, asIntOf, Sem.run_bind, Sem.run_pure, Result.andThen_ok, run_underlying h1]
      rw [this, hb]
      rfl
    · cases h
  case slice t x lo hi mx =>
    have hx := m.ev x
    split at h
    · rename_i n e hu
      split at h
      · rename_i b off kk h1 h3
        rw [h1] at hx
        obtain ⟨hx, hb⟩ := hx.inv_ptr
        have hsz : tySize P e = some 1 := by
          unfold elemKind at h3
          split at h3
          · assumption
          · cases h3
        have fin : ∀ (lo' hi' : Int), 0 ≤ lo' → lo' ≤ hi' → hi' ≤ n → s.val = .sl b off n lo' hi' →
            (∀ w', (Instr.sliceBounds false n n (lo.map a.eval) (hi.map a.eval) none).run P w' = .ok (lo'.toNat, hi'.toNat, n) w') →
            SilOk P σ ρ a w ⟨dst, .slice t x lo hi none, type, pos, after, guard⟩ s := by
          intro lo' hi' o1 o2 o3 hs hrun
          refine .const (by rw [hs]; exact .sl b off n lo' hi' hb o1 o2 o3) fun w' => ?_
          have h4 : Addr.add ⟨ρ b, off, none⟩ (lo'.toNat * 1) = ⟨ρ b, off + lo'.toNat, none⟩ := by
            unfold Addr.add; split <;> simp_all
          simp only [execOp, Instr.sliceAt, hx, Sem.run_bind, Sem.run_pure, Result.andThen_ok, run_underlying hu, Instr.sureAddr, run_sizeOf' hsz, Option.map_none, hrun, h4]
          split <;> simp_all
        have one : ∀ (z : Operand) (k : IntKind) (c : Int) (y : Nat) (code : BoundsCode) (w' : World), σ.ev z = .c (.int k c) → 0 ≤ c → c ≤ y → (Instr.sliceBound (a.eval z) y code).run P w' = .ok c.toNat w' := by
          intro z k c y code w' hz o1 o2
          have := m.ev z
          rw [hz] at this
          have := this.inv_c
          simp [Instr.sliceBound, this, asIntOf, o1, o2]
        split at h
        · cases h
          exact fin 0 n (by omega) (by omega) (by omega) rfl fun w' => by simp [Instr.sliceBounds]
        · rename_i l
          split at h
          · rename_i k c hc
            cases h
            obtain ⟨o1, o2⟩ := hob _ rfl
            exact fin c n o1 o2 (by omega) rfl fun w' => by simp [Instr.sliceBounds, one l k c n _ _ hc o1 o2]
          · cases h
        · rename_i l
          split at h
          · rename_i k c hc
            cases h
            obtain ⟨o1, o2⟩ := hob _ rfl
            exact fin 0 c (by omega) o1 o2 rfl fun w' => by simp [Instr.sliceBounds, one l k c n _ _ hc o1 o2]
          · cases h
        · rename_i l h'
          split at h
          · rename_i k c k2 c2 hc hc2
            cases h
            obtain ⟨o1, o2, o3⟩ := hob _ rfl
            exact fin c c2 o1 o2 o3 rfl fun w' => by simp [Instr.sliceBounds, one l k c c2.toNat _ _ hc o1 (by omega), one h' k2 c2 n _ _ hc2 (by omega) o3]
          · cases h
      · cases h
    · rename_i hu
      split at h
      · rename_i str h1
        rw [h1] at hx
        have hx := hx.inv_c
        have fin : ∀ (lo' hi' : Nat), s.val = .c (.string (str.extract lo' hi')) →
            (∀ w', (Instr.sliceBounds false str.size str.size (lo.map a.eval) (hi.map a.eval) none).run P w' = .ok (lo', hi', str.size) w') →
            SilOk P σ ρ a w ⟨dst, .slice t x lo hi none, type, pos, after, guard⟩ s := by
          intro lo' hi' hs hrun
          refine .const (by rw [hs]; exact .c _) fun w' => ?_
          simp only [execOp, Instr.sliceAt, hx, Sem.run_bind, Sem.run_pure, Result.andThen_ok, run_underlying hu, Option.map_none, Instr.slice]
          simp [hrun]
        have one : ∀ (z : Operand) (k : IntKind) (c : Int) (y : Nat) (code : BoundsCode) (w' : World), σ.ev z = .c (.int k c) → 0 ≤ c → c ≤ y → (Instr.sliceBound (a.eval z) y code).run P w' = .ok c.toNat w' := by
          intro z k c y code w' hz o1 o2
          have := m.ev z
          rw [hz] at this
          have := this.inv_c
          simp [Instr.sliceBound, this, asIntOf, o1, o2]
        split at h
        · cases h
          exact fin 0 str.size rfl fun w' => by simp [Instr.sliceBounds]
        · rename_i l
          split at h
          · rename_i k c hc
            cases h
            obtain ⟨o1, o2⟩ := hob _ rfl
            exact fin c.toNat str.size rfl fun w' => by simp [Instr.sliceBounds, one l k c str.size _ _ hc o1 o2]
          · cases h
        · rename_i l
          split at h
          · rename_i k c hc
            cases h
            obtain ⟨o1, o2⟩ := hob _ rfl
            exact fin 0 c.toNat rfl fun w' => by simp [Instr.sliceBounds, one l k c str.size _ _ hc o1 o2]
          · cases h
        · rename_i l h'
          split at h
          · rename_i k c k2 c2 hc hc2
            cases h
            obtain ⟨o1, o2, o3⟩ := hob _ rfl
            exact fin c.toNat c2.toNat rfl fun w' => by simp [Instr.sliceBounds, one l k c c2.toNat _ _ hc o1 (by omega), one h' k2 c2 str.size _ _ hc2 (by omega) o3]
          · cases h
      · cases h
    · cases h
  case makeFunc fn first caps =>
    exact .const (.fn _ _ _ _ _ (m.evs _) (m.evs _)) fun w' => by
      simp [execOp, Instr.makeFunc, ← Array.toList_map]
  case fieldAddr t x f =>
    have hx := m.ev x
    split at h
    · rename_i b off o ft n h1 h2
      rw [h1] at hx
      obtain ⟨hx, hb⟩ := hx.inv_ptr
      split at h
      · cases h
      · rename_i hn
        cases h
        have hn : n ≠ 0 := fun e => hn (by rw [e]; rfl)
        exact .const (.ptr _ _ hb) fun w' => by simp [execOp, hx, fieldAt_run h2 hn]
    · cases h
  case extract x i =>
    have hx := m.ev x
    split at h
    · rename_i vs heq
      rw [heq] at hx
      obtain ⟨us, hx, hl⟩ := hx.inv_tup
      split at h
      · rename_i v hv
        cases h
        obtain ⟨y, hy, hr⟩ := hl.cellAt hv
        exact .const hr fun w' => by simp [execOp, Instr.extract, hx, hy]
      · cases h
    · cases h
  case call c =>
    obtain ⟨callee, args, tys⟩ := c
    cases callee <;> simp only [] at h <;> (try cases h)
    rename_i b
    have hargs := m.evs args.toList
    have hav : (args.map a.eval).toList = args.toList.map a.eval := by simp
    cases b <;> simp only [] at h <;> (try cases h)
    case len =>
      split at h
      · rename_i t b' o n c ht he
        split at h
        · rename_i e hu
          cases h
          rw [he] at hargs
          obtain ⟨v, hv, hr⟩ := hargs.inv_one rfl
          obtain ⟨hv', hb⟩ := hr.inv_slc
          have h1 : args.map a.eval = #[v] := by apply Array.ext'; rw [hav, hv]
          have h2 : tys = #[t] := by apply Array.ext'; rw [ht]
          exact .const (.c _) fun w' => by
            simp [execOp, resolve, invoke, builtin, Builtin.len_, h1, h2, hv', run_underlying hu, goInt]
        · cases h
      · rename_i t b' base mm lo hi ht he
        split at h
        · rename_i e hu
          cases h
          rw [he] at hargs
          obtain ⟨v, hv, hr⟩ := hargs.inv_one rfl
          obtain ⟨hv', hb, o1, o2, o3⟩ := hr.inv_sl
          have h1 : args.map a.eval = #[v] := by apply Array.ext'; rw [hav, hv]
          have h2 : tys = #[t] := by apply Array.ext'; rw [ht]
          refine .const (x := .int .i64 (hi - lo)) (.c _) fun w' => ?_
          have : ((hi.toNat - lo.toNat : Nat) : Int) = hi - lo := by omega
          simp [execOp, resolve, invoke, builtin, Builtin.len_, h1, h2, hv', run_underlying hu, goInt]
          omega
        · cases h
      · rename_i t str ht he
        split at h
        · rename_i hu
          cases h
          rw [he] at hargs
          obtain ⟨v, hv, hr⟩ := hargs.inv_one rfl
          have hv' := hr.inv_c
          have h1 : args.map a.eval = #[v] := by apply Array.ext'; rw [hav, hv]
          have h2 : tys = #[t] := by apply Array.ext'; rw [ht]
          exact .const (.c _) fun w' => by
            simp [execOp, resolve, invoke, builtin, Builtin.len_, h1, h2, hv', run_underlying hu, goInt]
        · cases h
      · cases h
    case max =>
      split at h
      · rename_i v hv
        cases h
        obtain ⟨y, hy, x, rest, hl, hrun⟩ := mm_sound (P := P) mx Builtin.max2 (fun k x y => rfl) hv hargs
        exact .const hy fun w' => by
          simp [execOp, resolve, invoke, builtin, Builtin.max_, hl, hrun]
      · cases h
    case min =>
      split at h
      · rename_i v hv
        cases h
        obtain ⟨y, hy, x, rest, hl, hrun⟩ := mm_sound (P := P) mn Builtin.min2 (fun k x y => rfl) hv hargs
        exact .const hy fun w' => by
          simp [execOp, resolve, invoke, builtin, Builtin.min_, hl, hrun]
      · cases h
  case indexAddr t x i =>
    split at h
    · rename_i e hu
      split at h
      · rename_i b off n c k j mm h1 h2 h3
        split at h
        · rename_i hj
          have hj : j < n := by simpa [Nat.blt_eq] using hj
          cases h
          have hx := m.ev x
          have hi := m.ev i
          rw [h1] at hx
          rw [h2] at hi
          obtain ⟨hx, hb⟩ := hx.inv_slc
          have hi := hi.inv_c
          refine .const (.ptr _ _ hb) fun w' => ?_
          have h0 : (0 : Int) ≤ Int.ofNat j ∧ Int.ofNat j < (n : Int) := ⟨by simp, by simpa using hj⟩
          have h4 : Addr.add ⟨ρ b, off, none⟩ (j * mm) = ⟨ρ b, off + j * mm, none⟩ := by
            unfold Addr.add; split <;> simp_all
          simp only [execOp, Instr.indexAt, hx, hi, asIntOf, Sem.run_bind, Sem.run_pure, Result.andThen_ok, run_underlying hu, run_sizeOf' h3, if_pos h0]
          rw [show Int.toNat (Int.ofNat j) = j from rfl, h4]
        · cases h
      · cases h
    · rename_i n e hu
      split at h
      · rename_i b off k j kk h1 h2 h3
        cases h
        obtain ⟨o1, o2⟩ := hob _ rfl
        have hx := m.ev x
        have hi := m.ev i
        rw [h1] at hx
        rw [h2] at hi
        obtain ⟨hx, hb⟩ := hx.inv_ptr
        have hi := hi.inv_c
        have hsz : tySize P e = some 1 := by
          unfold elemKind at h3
          split at h3
          · assumption
          · cases h3
        refine .const (.ep b off n j hb o1 o2) fun w' => ?_
        have h4 : Addr.add ⟨ρ b, off, none⟩ (j.toNat * 1) = ⟨ρ b, off + j.toNat, none⟩ := by
          unfold Addr.add; split <;> simp_all
        simp only [execOp, Instr.indexAt, hx, hi, asIntOf, Sem.run_bind, Sem.run_pure, Result.andThen_ok, run_underlying hu, Instr.sureAddr, run_sizeOf' hsz, if_pos (And.intro o1 o2), h4]
      · cases h
    · cases h

end
end Go.Proofs.YtlobbcodnkfbiaaDoor.Sx
