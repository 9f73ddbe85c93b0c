/-
  SxE: '==' on structs and arrays.
-/
import Derived.Test.YtjiamfajgllelaaSy5
import Derived.Laws.StructEq
import Derived.ChangeKeysEq
namespace Go.Proofs.Ytjiamfajgllelaa.Sy
open Go

section
variable {P : Program} {n : Nat} {ρ : Env}

/-- cells of a variable as its value -/
def asVal (P : Program) (t : TypeId) (us : List Value) : Value :=
  match tyAgg P t with
  | some true => .agg us.toArray
  | _ => us.headD undef

theorem run_part_mid {t : TypeId} {sz : Nat} (hs : tySize P t = some sz) (ha : (tyAgg P t).isSome = true) (pre us post : List Value) (hu : us.length = sz) (h1 : tyAgg P t = some true ∨ sz = 1) (w : World) :
    (part t (pre ++ us ++ post).toArray pre.length).run P w = .ok (asVal P t us) w := by
  unfold part asVal
  obtain ⟨b, hb⟩ := Option.isSome_iff_exists.1 ha
  cases b with
  | true =>
    simp only [Sem.run_bind, run_isAgg hb, Result.andThen_ok, hb, if_true, run_sizeOf' hs, Sem.run_pure]
    congr 2
    apply Array.ext'
    simp [← hu]
  | false =>
    have hsz : sz = 1 := by rcases h1 with h | h; rw [hb] at h; cases h; exact h
    subst hsz
    match us, hu with
    | [u], _ =>
      simp only [Sem.run_bind, run_isAgg hb, Result.andThen_ok, hb, Bool.false_eq_true, if_false]
      have : (pre ++ [u] ++ post).toArray[pre.length]? = some u := by simp
      rw [this]
      rfl

/-- what 'eqT' says -/
def EqOk (P : Program) (n : Nat) (ρ : Env) (d : Nat) (t : TypeId) (cs ds : List SV) (b : Bool) (r r' : List SV) : Prop :=
  ∀ us vs, RelL n ρ cs us → RelL n ρ ds vs → ∃ sz u1 u2 v1 v2, tySize P t = some sz ∧ (tyAgg P t).isSome = true ∧ (tyAgg P t = some true ∨ sz = 1) ∧ us = u1 ++ u2 ∧ vs = v1 ++ v2 ∧ u1.length = sz ∧ v1.length = sz ∧
    RelL n ρ r u2 ∧ RelL n ρ r' v2 ∧ ∀ D, d ≤ D → ∀ w, (Op.equalIn D t (asVal P t u1) (asVal P t v1)).run P w = .ok b w

theorem eqItems_ints {e : TypeId} {k : IntKind} (he : P.underlying e = some (.int k)) (hc : tySize P e = some 1) (D : Nat) (xs ys : List Int) (m : Nat) (hx : xs.length = m) (hy : ys.length = m) (w : World) :
    (Op.eqItems (D + 1) e (P.cellsOf e) (xs.map (Value.int k)).toArray (ys.map (Value.int k)).toArray (List.range m)).run P w = .ok (xs == ys) w := by
  have hcell : P.cellsOf e = 1 := by
    unfold tySize at hc; unfold Program.cellsOf; rw [hc]; rfl
  have hag : tyAgg P e = some false := by simp [tyAgg, he]
  have key : ∀ (l : List Nat), (∀ i ∈ l, i < m) →
      (Op.eqItems (D + 1) e (P.cellsOf e) (xs.map (Value.int k)).toArray (ys.map (Value.int k)).toArray l).run P w = .ok (l.all fun i => xs.getD i 0 == ys.getD i 0) w := by
    intro l
    induction l with
    | nil => intro _; simp [Op.eqItems]
    | cons i l ih =>
      intro hl
      have hi := hl i (List.mem_cons_self ..)
      have px : ∀ zs : List Int, zs.length = m → (part e (zs.map (Value.int k)).toArray (i * P.cellsOf e)).run P w = .ok (.int k (zs.getD i 0)) w := by
        intro zs hz
        simp [part, run_isAgg hag, hcell, List.getD, List.getElem?_eq_getElem (show i < zs.length by omega)]
      simp only [Op.eqItems, Sem.run_bind, px xs hx, px ys hy, Result.andThen_ok, run_equalIn_int w D e k k _ _ he, List.all_cons]
      cases hb : (xs.getD i 0 == ys.getD i 0)
      · simp
      · simp only [Bool.not_true, Bool.false_eq_true, if_false, Bool.true_and]
        exact ih fun j hj => hl j (List.mem_cons_of_mem _ hj)
  rw [key _ (fun i hi => by simpa using hi)]
  congr 1
  rw [Bool.eq_iff_iff, List.all_eq_true]
  simp only [List.mem_range, beq_iff_eq]
  constructor
  · intro h
    apply List.ext_getElem (by omega)
    intro i h1 h2
    have := h i (by omega)
    simpa [List.getD, List.getElem?_eq_getElem h1, List.getElem?_eq_getElem h2] using this
  · rintro rfl i _; rfl

theorem eqFs_sound {d : Nat} (ih : ∀ t cs ds b r r', eqT P d t cs ds = some (b, r, r') → EqOk P n ρ d t cs ds b r r') (D : Nat) (hD : d ≤ D) :
    ∀ (fs : List Field) (o : Nat) (cs ds : List SV) (b : Bool) (r r' : List SV), eqFs P (eqT P d) fs o cs ds = some (b, r, r') → ∀ us vs, RelL n ρ cs us → RelL n ρ ds vs →
    ∃ u1 u2 v1 v2, us = u1 ++ u2 ∧ vs = v1 ++ v2 ∧ u1.length = v1.length ∧ RelL n ρ r u2 ∧ RelL n ρ r' v2 ∧
      ∀ pre pre' post post' w, pre.length = o → pre'.length = o → (Op.eqFields D (pre ++ u1 ++ post).toArray (pre' ++ v1 ++ post').toArray fs).run P w = .ok b w := by
  intro fs
  induction fs with
  | nil =>
    intro o cs ds b r r' h us vs hu hv
    cases h
    exact ⟨[], us, [], vs, rfl, rfl, rfl, hu, hv, fun _ _ _ _ w _ _ => rfl⟩
  | cons f fs ihf =>
    intro o cs ds b r r' h us vs hu hv
    simp only [eqFs] at h
    split at h
    · rename_i sz b1 q q' hc hs hr
      simp only [Bool.and_eq_true] at hc
      have ho := Nat.eq_of_beq_eq_true hc.1
      have hname : f.name ≠ "_" := by simpa using hc.2
      obtain ⟨sz', u1, u2, v1, v2, g1, g2, g3, rfl, rfl, g4, g5, g6, g7, g8⟩ := ih _ _ _ _ _ _ hr us vs hu hv
      have heq : sz' = sz := by rw [hs] at g1; cases g1; rfl
      subst heq
      have step : ∀ (X Y : List Value) (pre pre' : List Value) w, pre.length = o → pre'.length = o → (Op.eqFields D (pre ++ u1 ++ X).toArray (pre' ++ v1 ++ Y).toArray (f :: fs)).run P w =
          if b1 = true then (Op.eqFields D (pre ++ u1 ++ X).toArray (pre' ++ v1 ++ Y).toArray fs).run P w else .ok false w := by
        intro X Y pre pre' w h1 h2
        have p1 := run_part_mid hs g2 pre u1 X g4 g3 w
        have p2 := run_part_mid hs g2 pre' v1 Y g5 g3 w
        rw [h1] at p1
        rw [h2] at p2
        simp only [Op.eqFields, hname, ne_eq, not_false_eq_true, if_true, ho, Sem.run_bind, p1, p2, Result.andThen_ok, g8 D hD w]
        cases b1 <;> simp
      split at h
      · cases h
        refine ⟨u1, u2, v1, v2, rfl, rfl, by omega, g6, g7, fun pre pre' post post' w h1 h2 => ?_⟩
        rw [step post post' pre pre' w h1 h2]
        cases b <;> simp [Op.eqFields]
      · rename_i fs' hne
        split at h
        · rename_i b2 r1 r1' hr2
          cases h
          obtain ⟨a1, a2, c1, c2, e1, e2, e3, e4, e5, e6⟩ := ihf _ _ _ _ _ _ hr2 u2 v2 g6 g7
          subst e1 e2
          refine ⟨u1 ++ a1, a2, v1 ++ c1, c2, by simp, by simp, by simp; omega, e4, e5, fun pre pre' post post' w h1 h2 => ?_⟩
          have := step (a1 ++ post) (c1 ++ post') pre pre' w h1 h2
          have k := e6 (pre ++ u1) (pre' ++ v1) post post' w (by simp; omega) (by simp; omega)
          simp only [List.append_assoc] at this k ⊢
          rw [this]
          cases b1
          · simp
          · simpa using k
        · cases h
    · cases h

theorem eqT_of1 {d : Nat} {t : TypeId} {cs ds : List SV} {b : Bool} {r r' : List SV} (h : eqT P d t cs ds = some (b, r, r')) :
    eqT1 P d t cs ds = some (b, r, r') ∧ ∃ m, tySize P t = some m ∧ m + widthC r = widthC cs ∧ m + widthC r' = widthC ds := by
  unfold eqT at h
  split at h
  · rename_i b1 q q' m h1 h2
    split at h
    · rename_i hc
      cases h
      simp only [Bool.and_eq_true] at hc
      exact ⟨h1, m, h2, Nat.eq_of_beq_eq_true hc.1, Nat.eq_of_beq_eq_true hc.2⟩
    · cases h
  · cases h

theorem eqT_sound : ∀ (d : Nat) (t : TypeId) (cs ds : List SV) (b : Bool) (r r' : List SV), eqT P d t cs ds = some (b, r, r') → EqOk P n ρ d t cs ds b r r' := by
  intro d
  induction d with
  | zero => intro t cs ds b r r' h; have := (eqT_of1 h).1; simp [eqT1] at this
  | succ d ih =>
    intro t cs ds b r r' h0 us vs hu hv
    obtain ⟨h, m, hm, hw1, hw2⟩ := eqT_of1 h0
    have hlu := hu.len
    have hlv := hv.len
    simp only [eqT1] at h
    have cons : ∀ (c1 : SV) (rest : List SV) (us : List Value), c1.isRow = false → RelL n ρ (c1 :: rest) us → ∃ x u2, us = x :: u2 ∧ Rel n ρ c1 x ∧ RelL n ρ rest u2 := by
      intro c1 rest us k h
      cases h with
      | row => simp [SV.isRow] at k
      | cons _ _ v0 vs0 _ h1 h2 => exact ⟨v0, vs0, rfl, h1, h2⟩
    -- one cell
    have leaf : ∀ (x y : Value) (rest rest' : List SV) (u2 v2 : List Value), tyAgg P t = some false → us = x :: u2 → vs = y :: v2 → r = rest → r' = rest' → RelL n ρ rest u2 → RelL n ρ rest' v2 →
        (∀ D w, (Op.equalIn (D + 1) t x y).run P w = .ok b w) →
        ∃ sz u1 u2 v1 v2, tySize P t = some sz ∧ (tyAgg P t).isSome = true ∧ (tyAgg P t = some true ∨ sz = 1) ∧ us = u1 ++ u2 ∧ vs = v1 ++ v2 ∧ u1.length = sz ∧ v1.length = sz ∧
          RelL n ρ r u2 ∧ RelL n ρ r' v2 ∧ ∀ D, d + 1 ≤ D → ∀ w, (Op.equalIn D t (asVal P t u1) (asVal P t v1)).run P w = .ok b w := by
      intro x y rest rest' u2 v2 hag e1 e2 e3 e4 g1 g2 hrun
      subst e1 e2 e3 e4
      have := g1.len
      simp at hlu
      have hm1 : m = 1 := by omega
      subst hm1
      refine ⟨1, [x], u2, [y], v2, hm, by rw [hag]; rfl, .inr rfl, rfl, rfl, rfl, rfl, g1, g2, fun D hD w => ?_⟩
      obtain ⟨D', rfl⟩ : ∃ D', D = D' + 1 := ⟨D - 1, by omega⟩
      simp only [asVal, hag, List.headD_cons]
      exact hrun D' w
    split at h
    · rename_i hty
      split at h
      · cases h
        obtain ⟨x, u2, e1, g1, g2⟩ := cons _ _ _ rfl hu
        obtain ⟨y, v2, e2, g3, g4⟩ := cons _ _ _ rfl hv
        have g1 := g1.inv_c
        have g3 := g3.inv_c
        exact leaf x y _ _ u2 v2 (by simp [tyAgg, hty]) e1 e2 rfl rfl g2 g4 fun D w => by rw [g1, g3]; exact run_equalIn_bool' w D t _ _ hty
      · cases h
    · rename_i kk hty
      split at h
      · split at h
        · rename_i hk
          obtain rfl := kindEq_eq hk
          cases h
          obtain ⟨x, u2, e1, g1, g2⟩ := cons _ _ _ rfl hu
          obtain ⟨y, v2, e2, g3, g4⟩ := cons _ _ _ rfl hv
          have g1 := g1.inv_c
          have g3 := g3.inv_c
          exact leaf x y _ _ u2 v2 (by simp [tyAgg, hty]) e1 e2 rfl rfl g2 g4 fun D w => by rw [g1, g3]; exact run_equalIn_int w D t _ _ _ _ hty
        · cases h
      · cases h
    · rename_i hty
      split at h
      · cases h
        obtain ⟨x, u2, e1, g1, g2⟩ := cons _ _ _ rfl hu
        obtain ⟨y, v2, e2, g3, g4⟩ := cons _ _ _ rfl hv
        have g1 := g1.inv_c
        have g3 := g3.inv_c
        exact leaf x y _ _ u2 v2 (by simp [tyAgg, hty]) e1 e2 rfl rfl g2 g4 fun D w => by rw [g1, g3]; exact run_equalIn_string w D t _ _ hty
      · cases h
    · rename_i mm e hty
      split at h
      · rename_i dd k hk
        split at h
        · rename_i l r1 l' r1' t1 t2 t3 t4
          split at h
          · rename_i xs ys i1 i2
            cases h
            obtain ⟨a1, a2⟩ := hu.takeC t1
            obtain ⟨a3, _⟩ := hu.dropC t2
            obtain ⟨b1, b2⟩ := hv.takeC t3
            obtain ⟨b3, _⟩ := hv.dropC t4
            have c1 := intsK_rel a1 i1
            have c2 := intsK_rel b1 i2
            have hel : P.underlying e = some (.int k) ∧ tySize P e = some 1 := by
              unfold elemKind at hk
              split at hk
              · rename_i q1 q2; cases hk; exact ⟨q1, q2⟩
              · cases hk
            have hl1 : xs.length = mm := by have := congrArg List.length c1; simp at this; omega
            have hl2 : ys.length = mm := by have := congrArg List.length c2; simp at this; omega
            have hag : tyAgg P t = some true := by simp [tyAgg, hty]
            have := a3.len
            simp at this
            have hmm : m = mm := by omega
            subst hmm
            refine ⟨m, us.take m, us.drop m, vs.take m, vs.drop m, hm, by rw [hag]; rfl, .inl hag, by simp, by simp, by simp; omega, by simp; omega, a3, b3, fun D hD w => ?_⟩
            obtain ⟨D', rfl⟩ : ∃ D', D = D' + 1 := ⟨D - 1, by omega⟩
            obtain ⟨i, hi⟩ : ∃ i, P.info? e = some i := by
              have := hel.2; unfold tySize at this
              cases hi : P.info? e with
              | none => simp [hi] at this
              | some i => exact ⟨i, rfl⟩
            simp only [asVal, hag]
            rw [run_equalIn_array w D' _ _ hty hi, c1, c2]
            obtain ⟨D2, rfl⟩ : ∃ D2, D' = D2 + 1 := ⟨D' - 1, by omega⟩
            exact eqItems_ints hel.1 hel.2 D2 xs ys m hl1 hl2 w
          · cases h
        · cases h
      · cases h
    · rename_i fs hty
      split at h
      · rename_i hst
        change eqFs P (eqT P d) fs.toList 0 cs ds = _ at h
        have hag : tyAgg P t = some true := by simp [tyAgg, hty]
        have key := eqFs_sound ih
        obtain ⟨u1, u2, v1, v2, rfl, rfl, e3, e4, e5, _⟩ := key d (Nat.le_refl _) _ _ _ _ _ _ _ h us vs hu hv
        have l1 := e4.len
        have l2 := e5.len
        simp at hlu hlv
        refine ⟨m, u1, u2, v1, v2, hm, by rw [hag]; rfl, .inl hag, rfl, rfl, by omega, by omega, e4, e5, fun D hD w => ?_⟩
        obtain ⟨D', rfl⟩ : ∃ D', D = D' + 1 := ⟨D - 1, by omega⟩
        have hfs : P.fieldsOf t = fs := by simp [Program.fieldsOf, hty]
        simp only [asVal, hag]
        rw [run_equalIn_struct w D' t _ _ (by rw [hfs]; exact hty) hst, hfs]
        obtain ⟨a1, a2, b1, b2, f1, f2, f3, f4, f5, f6⟩ := key D' (by omega) _ _ _ _ _ _ _ h _ _ hu hv
        have l3 := f4.len
        have l4 := f5.len
        have g1 : u1 = a1 := by
          have hl : u1.length = a1.length := by
            have := congrArg List.length f1; simp at this; omega
          exact (List.append_inj f1 hl).1
        have g2 : v1 = b1 := by
          have hl : v1.length = b1.length := by
            have := congrArg List.length f2; simp at this; omega
          exact (List.append_inj f2 hl).1
        subst g1 g2
        have := f6 [] [] [] [] w rfl rfl
        simpa using this
      · cases h
    · cases h

theorem bin_sound {op : BinOp} {x y : SV} {s : Sil} {t : TypeId} (h : bin P t op x y = some s) (hob : ∀ p, s.obl = some p → p) (xo yo : Operand) {n : Nat} {ρ : Env} {u v : Value}
    (hx : Rel n ρ x u) (hy : Rel n ρ y v) : ∃ z, Rel n ρ s.val z ∧ ∀ w, (do eqGuard op t xo yo u v; binOp op t u v : Sem Value).run P w = .ok z w := by
  unfold bin at h
  split at h
  · cases h
  · cases h
  · rename_i h1 h2
    split at h
    · rename_i k a k' b
      cases hx; cases hy
      split at h
      · rename_i hk
        obtain rfl := kindEq_eq hk
        obtain ⟨z, hz, hr⟩ := ibin_sound (P := P) h hob t n ρ
        exact ⟨z, hz, fun w => by simp [eqGuard_plain, hr]⟩
      · cases h
    · rename_i a b
      cases hx; cases hy
      split at h
      · rename_i hu
        cases h
        exact ⟨_, .c _, fun w => by simp [eqGuard_plain, binOp, run_equal_bool hu]⟩
      · rename_i hu
        cases h
        exact ⟨_, .c _, fun w => by simp [eqGuard_plain, binOp, run_equal_bool hu]⟩
      · cases h
    · rename_i a b
      cases hx; cases hy
      split at h <;> (try simp only [sv] at h) <;> cases h <;> (try (have := hob _ rfl)) <;> refine ⟨_, .c _, fun w => ?_⟩ <;> simp [eqGuard_plain, binOp, Op.stringOp, IntKind.max, IntKind.signed, IntKind.bits]
      omega
    · rename_i cs ds
      obtain ⟨us, rfl, hus⟩ := hx.inv_agg
      obtain ⟨vs, rfl, hvs⟩ := hy.inv_agg
      split at h
      · rename_i hag hg
        have main : ∀ b, eqT P 20 t cs ds = some (b, [], []) → ∀ w, (Op.equalIn 10000 t (.agg us.toArray) (.agg vs.toArray)).run P w = .ok b w := by
          intro b he w
          obtain ⟨sz, u1, u2, v1, v2, _, g2, g3, rfl, rfl, _, _, g6, g7, g8⟩ := eqT_sound 20 _ _ _ _ _ _ he us vs hus hvs
          cases g6; cases g7
          have := g8 10000 (by omega) w
          simpa [asVal, hag] using this
        split at h
        · rename_i b he
          cases h
          exact ⟨_, .c _, fun w => by simp only [Sem.run_bind, run_eqGuard_agg w _ _ _ _ _ _ hg, Result.andThen_ok, run_eql_struct, main b he w]⟩
        · rename_i b he
          cases h
          exact ⟨_, .c _, fun w => by simp only [Sem.run_bind, run_eqGuard_agg w _ _ _ _ _ _ hg, Result.andThen_ok, run_neq_struct, main b he w]⟩
        · cases h
      · cases h
    · cases h

end
end Go.Proofs.Ytjiamfajgllelaa.Sy
