/-
  Sx4: small lemmas on what fits: lists of cells, blocks, states.
-/
import Derived.Test.YtjiamfajgllelaaSy3
namespace Go.Proofs.Ytjiamfajgllelaa.Sy
open Go

variable {n : Nat} {ρ : Env}

theorem widthC_append (a b : List SV) : widthC (a ++ b) = widthC a + widthC b := by
  induction a with
  | nil => simp [widthC]
  | cons x a ih => simp [widthC, ih, Nat.add_assoc]

theorem RelL.len {cs : List SV} {vs : List Value} (h : RelL n ρ cs vs) : vs.length = widthC cs := by
  induction cs generalizing vs with
  | nil => cases h; rfl
  | cons x cs ih =>
    cases h with
    | cons _ _ v vs hx h1 h2 => cases x <;> simp_all [widthC, SV.width, SV.isRow] <;> omega
    | row k m xs _ vs hl h2 => simp [widthC, SV.width, ih h2, hl]

theorem RelL.append {a b : List SV} {x y : List Value} (h : RelL n ρ a x) (k : RelL n ρ b y) : RelL n ρ (a ++ b) (x ++ y) := by
  induction a generalizing x with
  | nil => cases h; exact k
  | cons c a ih =>
    cases h with
    | cons _ _ v vs hx h1 h2 => exact .cons _ _ _ _ hx h1 (ih h2)
    | row k' m xs _ vs hl h2 => rw [List.append_assoc]; exact .row _ _ _ _ _ hl (ih h2)

theorem RelL.cellAt {cs : List SV} {vs : List Value} (h : RelL n ρ cs vs) {o : Nat} {x : SV} (hc : cellAt cs o = some x) : ∃ v, vs[o]? = some v ∧ Rel n ρ x v := by
  induction cs generalizing vs o with
  | nil => simp [Sy.cellAt] at hc
  | cons y cs ih =>
    cases h with
    | cons _ _ v vs hx h1 h2 =>
      cases o with
      | zero =>
        cases y <;> simp_all [Sy.cellAt, SV.isRow]
      | succ o =>
        have : Sy.cellAt cs o = some x := by cases y <;> simp_all [Sy.cellAt, SV.isRow]
        simpa using ih h2 this
    | row k m xs _ vs hl h2 =>
      simp only [Sy.cellAt] at hc
      by_cases hb : o < m
      · rw [if_pos (by simpa [Nat.blt_eq] using hb)] at hc
        cases hc
        refine ⟨.int k (xs.getD o 0), ?_, .c _⟩
        rw [List.getElem?_append_left (by simp; omega)]
        simp [List.getD, List.getElem?_eq_getElem (show o < xs.length by omega)]
      · rw [if_neg (by simpa [Nat.blt_eq] using hb)] at hc
        obtain ⟨v, hv, hr⟩ := ih h2 hc
        refine ⟨v, ?_, hr⟩
        rw [List.getElem?_append_right (by simp; omega)]
        simpa [hl] using hv

theorem RelL.dropC {cs : List SV} {vs : List Value} (h : RelL n ρ cs vs) {o : Nat} {r : List SV} (hc : dropC cs o = some r) : RelL n ρ r (vs.drop o) ∧ o ≤ vs.length := by
  induction cs generalizing vs o with
  | nil =>
    cases o with
    | zero => cases hc; exact ⟨h, Nat.zero_le _⟩
    | succ o => simp [Sy.dropC] at hc
  | cons y cs ih =>
    cases o with
    | zero =>
      have : r = y :: cs := by cases y <;> simp_all [Sy.dropC]
      subst this; exact ⟨h, Nat.zero_le _⟩
    | succ o =>
      cases h with
      | cons _ _ v vs hx h1 h2 =>
        have : Sy.dropC cs o = some r := by cases y <;> simp_all [Sy.dropC, SV.isRow]
        obtain ⟨a, b⟩ := ih h2 this
        exact ⟨by simpa using a, by simp; omega⟩
      | row k m xs _ vs hl h2 =>
        simp only [Sy.dropC] at hc
        by_cases hb : m ≤ o + 1
        · rw [if_pos (by simpa using hb)] at hc
          obtain ⟨a, b⟩ := ih h2 hc
          refine ⟨?_, by simp [hl]; omega⟩
          rw [List.drop_append, List.drop_of_length_le (by simp; omega)]
          simpa [hl] using a
        · rw [if_neg (by simpa using hb)] at hc
          cases hc

theorem RelL.takeC {cs : List SV} {vs : List Value} (h : RelL n ρ cs vs) {o : Nat} {r : List SV} (hc : takeC cs o = some r) : RelL n ρ r (vs.take o) ∧ o ≤ vs.length := by
  induction cs generalizing vs o r with
  | nil =>
    cases o with
    | zero => cases hc; exact ⟨by simpa using RelL.nil, Nat.zero_le _⟩
    | succ o => simp [Sy.takeC] at hc
  | cons y cs ih =>
    cases o with
    | zero =>
      have : r = [] := by cases y <;> simp_all [Sy.takeC]
      subst this; exact ⟨by simpa using RelL.nil, Nat.zero_le _⟩
    | succ o =>
      cases h with
      | cons _ _ v vs hx h1 h2 =>
        have : ∃ r', Sy.takeC cs o = some r' ∧ r = y :: r' := by
          cases y <;> simp only [Sy.takeC, SV.isRow] at hc hx <;> (try cases hx) <;> (split at hc <;> simp_all)
        obtain ⟨r', h3, rfl⟩ := this
        obtain ⟨a, b⟩ := ih h2 h3
        exact ⟨by simpa using RelL.cons _ _ _ _ hx h1 a, by simp; omega⟩
      | row k m xs _ vs hl h2 =>
        simp only [Sy.takeC] at hc
        by_cases hb : m ≤ o + 1
        · rw [if_pos (by simpa using hb)] at hc
          split at hc
          · rename_i r' h3
            cases hc
            obtain ⟨a, b⟩ := ih h2 h3
            refine ⟨?_, by simp [hl]; omega⟩
            rw [List.take_append, List.take_of_length_le (by simp; omega)]
            simpa [hl] using RelL.row k m xs _ _ hl a
          · cases hc
        · rw [if_neg (by simpa using hb)] at hc
          cases hc

theorem RelL.setC {cs : List SV} {vs : List Value} (h : RelL n ρ cs vs) {o : Nat} {new r : List SV} {us : List Value} (hn : RelL n ρ new us) (hc : setC cs o new = some r) :
    RelL n ρ r (vs.take o ++ us ++ vs.drop (o + us.length)) ∧ o + us.length ≤ vs.length := by
  unfold Sy.setC at hc
  split at hc
  · rename_i a b ha hb
    cases hc
    obtain ⟨a1, a2⟩ := h.takeC ha
    obtain ⟨b1, b2⟩ := h.dropC hb
    rw [← hn.len] at b1 b2
    exact ⟨by rw [List.append_assoc]; exact a1.append (hn.append b1), b2⟩
  · cases hc

/-- more blocks -/
theorem Ext.refl (n : Nat) (ρ : Env) : Ext n ρ ρ := ⟨fun _ _ => ⟨rfl, rfl, rfl⟩, fun _ _ h => h⟩
theorem Ext.trans {n n' : Nat} {a b c : Env} (h : Ext n a b) (k : Ext n' b c) (hn : n ≤ n') : Ext n a c :=
  ⟨fun i hi => ⟨(k.1 i (by omega)).1.trans (h.1 i hi).1, (k.1 i (by omega)).2.1.trans (h.1 i hi).2.1, (k.1 i (by omega)).2.2.trans (h.1 i hi).2.2⟩, fun g o hg => k.2 g o (h.2 g o hg)⟩
theorem Ext.less {n n' : Nat} {ρ ρ' : Env} (h : Ext n ρ ρ') (hn : n' ≤ n) : Ext n' ρ ρ' := ⟨fun i hi => h.1 i (by omega), h.2⟩

theorem GsV.ext {ρ ρ' : Env} {b w lo hi : Nat} {mx : Option Nat} {v : Value} (h : GsV ρ b w lo hi mx v) (e1 : ρ' b = ρ b) (e2 : ρ'.no b = ρ.no b) (e3 : ρ'.cap b = ρ.cap b) : GsV ρ' b w lo hi mx v := by
  unfold GsV at h ⊢
  rw [e1, e2, e3]
  exact h

mutual
theorem Rel.ext {n n' : Nat} {ρ ρ' : Env} (hn : n ≤ n') (he : Ext n ρ ρ') : ∀ {x : SV} {v : Value}, Rel n ρ x v → Rel n' ρ' x v
  | _, _, .any _ => .any _
  | _, _, .c _ => .c _
  | _, _, .ptr b o h => by rw [← (he.1 b h).1]; exact .ptr b o (by omega)
  | _, _, .slc b o l c h => by rw [← (he.1 b h).1]; exact .slc b o l c (by omega)
  | _, _, .ep b base m i h h1 h2 => by rw [← (he.1 b h).1]; exact .ep b base m i (by omega) h1 h2
  | _, _, .sl b base m lo hi h h1 h2 h3 => by rw [← (he.1 b h).1]; exact .sl b base m lo hi (by omega) h1 h2 h3
  | _, _, .fn f x y xs ys h k => .fn f x y xs ys (RelL.ext hn he h) (RelL.ext hn he k)
  | _, _, .agg cs vs h => .agg cs vs (RelL.ext hn he h)
  | _, _, .tup cs vs h => .tup cs vs (RelL.ext hn he h)
  | _, _, .gs b w lo hi mx v h k => .gs b w lo hi mx v (by omega) (k.ext (he.1 b h).1 (he.1 b h).2.1 (he.1 b h).2.2)
  | _, _, .ap b w i off h k h2 => by rw [← (he.1 b h).1]; exact .ap b w i off (by omega) ((he.1 b h).2.1.trans k) h2
  | _, _, .rs0 w f a cap => .rs0 w f a cap
  | _, _, .rs w m f g off cap us t fr h0 hc h1 h2 h3 h4 => .rs w m f g off cap us t fr h0 hc (he.2 _ _ h1) h2 (fun i hi => RelL.ext (Nat.le_refl 0) (he.less (Nat.zero_le _)) (h3 i hi)) h4
  | _, _, .rp cs g off us vs t fr h1 h2 h3 => .rp cs g off us vs t fr (he.2 _ _ h1) h2 (RelL.ext (Nat.le_refl 0) (he.less (Nat.zero_le _)) h3)
  | _, _, .ifc t x v h => .ifc t x v (Rel.ext hn he h)
  | _, _, .mp b h k => by rw [← (he.1 b h).1]; exact .mp b (by omega) ((he.1 b h).2.1.trans k)
  | _, _, .zs a => .zs a
theorem RelL.ext {n n' : Nat} {ρ ρ' : Env} (hn : n ≤ n') (he : Ext n ρ ρ') : ∀ {x : List SV} {v : List Value}, RelL n ρ x v → RelL n' ρ' x v
  | _, _, .nil => .nil
  | _, _, .cons x cs v vs h h1 h2 => .cons x cs v vs h (Rel.ext hn he h1) (RelL.ext hn he h2)
  | _, _, .row k m xs cs vs h h2 => .row k m xs cs vs h (RelL.ext hn he h2)
end

mutual
theorem Rel.less {n n' : Nat} {ρ : Env} : ∀ {x : SV} {v : Value}, Rel n ρ x v → within n' x = true → Rel n' ρ x v
  | _, _, .any _, _ => .any _
  | _, _, .c _, _ => .c _
  | _, _, .ptr b o _, w => .ptr b o (by simpa [within, Nat.blt_eq] using w)
  | _, _, .slc b o l c _, w => .slc b o l c (by simpa [within, Nat.blt_eq] using w)
  | _, _, .ep b base m i _ h1 h2, w => .ep b base m i (by simpa [within, Nat.blt_eq] using w) h1 h2
  | _, _, .sl b base m lo hi _ h1 h2 h3, w => .sl b base m lo hi (by simpa [within, Nat.blt_eq] using w) h1 h2 h3
  | _, _, .fn f x y xs ys h k, w => by
    simp only [within, Bool.and_eq_true] at w
    exact .fn f x y xs ys (RelL.less h w.1) (RelL.less k w.2)
  | _, _, .agg cs vs h, w => .agg cs vs (RelL.less h (by simpa [within] using w))
  | _, _, .tup cs vs h, w => .tup cs vs (RelL.less h (by simpa [within] using w))
  | _, _, .gs b wd lo hi mx v _ k, w => .gs b wd lo hi mx v (by simpa [within, Nat.blt_eq] using w) k
  | _, _, .ap b wd i off _ k h2, w => .ap b wd i off (by simpa [within, Nat.blt_eq] using w) k h2
  | _, _, .rs0 wd f a cap, _ => .rs0 wd f a cap
  | _, _, .rs wd m f g off cap us t fr h0 hc h1 h2 h3 h4, _ => .rs wd m f g off cap us t fr h0 hc h1 h2 h3 h4
  | _, _, .rp cs g off us vs t fr h1 h2 h3, _ => .rp cs g off us vs t fr h1 h2 h3
  | _, _, .ifc t x v h, w => .ifc t x v (Rel.less h (by simpa [within] using w))
  | _, _, .mp b _ k, w => .mp b (by simpa [within, Nat.blt_eq] using w) k
  | _, _, .zs a, _ => .zs a
theorem RelL.less {n n' : Nat} {ρ : Env} : ∀ {x : List SV} {v : List Value}, RelL n ρ x v → withinL n' x = true → RelL n' ρ x v
  | _, _, .nil, _ => .nil
  | _, _, .cons x cs v vs h h1 h2, w => by
    simp only [withinL, Bool.and_eq_true] at w
    exact .cons x cs v vs h (Rel.less h1 w.1) (RelL.less h2 w.2)
  | _, _, .row k m xs cs vs h h2, w => by
    simp only [withinL, Bool.and_eq_true] at w
    exact .row k m xs cs vs h (RelL.less h2 w.2)
end

/-- what names no block fits wherever there is more that is read alone -/
theorem Rel.R0 {ρ ρ' : Env} (he : ∀ g o, ρ.R g = some o → ρ'.R g = some o) {x : SV} {v : Value} (h : Rel 0 ρ x v) (n : Nat) : Rel n ρ' x v :=
  h.ext (Nat.zero_le _) ⟨fun i hi => absurd hi (Nat.not_lt_zero _), he⟩
theorem RelL.R0 {ρ ρ' : Env} (he : ∀ g o, ρ.R g = some o → ρ'.R g = some o) {x : List SV} {v : List Value} (h : RelL 0 ρ x v) (n : Nat) : RelL n ρ' x v :=
  h.ext (Nat.zero_le _) ⟨fun i hi => absurd hi (Nat.not_lt_zero _), he⟩

theorem Rel.notRow {x : SV} {v : Value} (h : Rel n ρ x v) : x.isRow = false := by cases h <;> rfl

theorem SV.cells_rel {x : SV} {v : Value} {cs : List SV} (h : Rel n ρ x v) (hc : x.cells = some cs) : RelL n ρ cs v.cells.toList := by
  have one : ∀ (x : SV) (v : Value), Rel n ρ x v → (∀ l, v ≠ .agg l) → RelL n ρ [x] v.cells.toList := by
    intro x v h hv
    have : v.cells = #[v] := by cases v <;> first | rfl | exact absurd rfl (hv _)
    rw [this]
    exact .cons _ _ _ _ h.notRow h .nil
  cases h with
  | any => cases hc
  | c v => cases v <;> simp [SV.cells] at hc <;> subst hc <;> exact .cons _ _ _ _ rfl (.c _) .nil
  | agg cs vs h => cases hc; simpa [Value.cells] using h
  | tup cs vs h => cases hc
  | gs b w lo hi mx v h k =>
    cases hc
    refine one _ _ (.gs b w lo hi mx v h k) ?_
    rcases k.2 with ⟨_, _, _, rfl⟩ | ⟨_, _, _, off, rfl, _⟩ <;> simp
  | ptr b o h => cases hc; exact one _ _ (.ptr b o h) (by simp)
  | slc b o l c h => cases hc; exact one _ _ (.slc b o l c h) (by simp)
  | ep b base m i h h1 h2 => cases hc; exact one _ _ (.ep b base m i h h1 h2) (by simp)
  | sl b base m lo hi h h1 h2 h3 => cases hc; exact one _ _ (.sl b base m lo hi h h1 h2 h3) (by simp)
  | fn f x y xs ys h k => cases hc; exact one _ _ (.fn f x y xs ys h k) (by simp)
  | ap b w i off h k h2 => cases hc; exact one _ _ (.ap b w i off h k h2) (by simp)
  | rs0 w f a cap => cases hc; exact one _ _ (.rs0 w f a cap) (by simp)
  | rs w m f g off cap us t fr h0 hmc h1 h2 h3 h4 => cases hc; exact one _ _ (.rs w m f g off cap us t fr h0 hmc h1 h2 h3 h4) (by simp)
  | rp cs g off us vs t fr h1 h2 h3 => cases hc; exact one _ _ (.rp cs g off us vs t fr h1 h2 h3) (by simp)
  | ifc t x v h => cases hc; exact one _ _ (.ifc t x v h) (by simp)
  | mp b h k => cases hc; exact one _ _ (.mp b h k) (by simp)
  | zs a => cases hc; exact one _ _ (.zs a) (by simp)

theorem oneC_rel {cs : List SV} {vs : List Value} (h : RelL n ρ cs vs) (hc : oneC cs = true) : ∀ v ∈ vs, v.oneCell' = true := by
  induction cs generalizing vs with
  | nil => cases h; simp
  | cons x cs ih =>
    cases h with
    | cons _ _ v vs hx h1 h2 =>
      have : v.oneCell' = true ∧ oneC cs = true := by
        cases h1 with
        | any => simp [oneC] at hc
        | c v => cases v <;> simp_all [oneC, Value.oneCell']
        | agg => simp [oneC] at hc
        | tup => simp [oneC] at hc
        | gs b w lo hi mx v h k =>
          refine ⟨?_, by simpa [oneC] using hc⟩
          rcases k.2 with ⟨_, _, _, rfl⟩ | ⟨_, _, _, off, rfl, _⟩ <;> rfl
        | _ => exact ⟨rfl, by simpa [oneC] using hc⟩
      intro u hu
      rcases List.mem_cons.1 hu with rfl | hu
      · exact this.1
      · exact ih h2 this.2 u hu
    | row k m xs _ vs hl h2 =>
      intro u hu
      rcases List.mem_append.1 hu with hu | hu
      · obtain ⟨i, _, rfl⟩ := List.mem_map.1 hu; rfl
      · exact ih h2 (by simpa [oneC] using hc) u hu

theorem Rel.inv_c {x v : Value} (h : Rel n ρ (.c x) v) : v = x := by cases h; rfl
theorem Rel.inv_ptr {b o : Nat} {v : Value} (h : Rel n ρ (.ptr b o) v) : v = .pointer (some ⟨ρ b, o, none⟩) ∧ b < n := by cases h; exact ⟨rfl, ‹_›⟩
theorem Rel.inv_slc {b o l c : Nat} {v : Value} (h : Rel n ρ (.slc b o l c) v) : v = .slice (some ⟨ρ b, o, none⟩) l c ∧ b < n := by cases h; exact ⟨rfl, ‹_›⟩
theorem Rel.inv_ep {b base m : Nat} {i : Int} {v : Value} (h : Rel n ρ (.ep b base m i) v) : v = .pointer (some ⟨ρ b, base + i.toNat, none⟩) ∧ b < n ∧ 0 ≤ i ∧ i < m := by cases h; exact ⟨rfl, ‹_›, ‹_›, ‹_›⟩
theorem Rel.inv_sl {b base m : Nat} {lo hi : Int} {v : Value} (h : Rel n ρ (.sl b base m lo hi) v) : v = .slice (some ⟨ρ b, if m = lo.toNat then base else base + lo.toNat, none⟩) (hi.toNat - lo.toNat) (m - lo.toNat) ∧ b < n ∧ 0 ≤ lo ∧ lo ≤ hi ∧ hi ≤ m := by cases h; exact ⟨rfl, ‹_›, ‹_›, ‹_›, ‹_›⟩
theorem Rel.inv_fn {f : Fn} {x y : List SV} {v : Value} (h : Rel n ρ (.fn f x y) v) : ∃ xs ys, v = .func f xs.toArray ys.toArray ∧ RelL n ρ x xs ∧ RelL n ρ y ys := by cases h; exact ⟨_, _, rfl, ‹_›, ‹_›⟩
theorem Rel.inv_agg {cs : List SV} {v : Value} (h : Rel n ρ (.agg cs) v) : ∃ vs, v = .agg vs.toArray ∧ RelL n ρ cs vs := by cases h; exact ⟨_, rfl, ‹_›⟩
theorem Rel.inv_tup {cs : List SV} {v : Value} (h : Rel n ρ (.tup cs) v) : ∃ vs, v = .tuple vs.toArray ∧ RelL n ρ cs vs := by cases h; exact ⟨_, rfl, ‹_›⟩
theorem Rel.inv_gs {b w lo hi : Nat} {mx : Option Nat} {v : Value} (h : Rel n ρ (.gs b w lo hi mx) v) : b < n ∧ GsV ρ b w lo hi mx v := by cases h; exact ⟨‹_›, ‹_›⟩
theorem Rel.inv_ap {b w : Nat} {i : Int} {off : Nat} {v : Value} (h : Rel n ρ (.ap b w i off) v) : v = .pointer (some ⟨ρ b, i.toNat * w + off, none⟩) ∧ b < n ∧ ρ.no b = false ∧ 0 ≤ i := by cases h; exact ⟨rfl, ‹_›, ‹_›, ‹_›⟩
theorem Rel.inv_rp {cs : List SV} {v : Value} (h : Rel n ρ (.rp cs) v) : ∃ g off us vs t fr, v = .pointer (some ⟨g, off, none⟩) ∧ ρ.R g = some (.cells (List.toArray us) t fr) ∧ vs <+: us.drop off ∧ RelL 0 ρ cs vs := by
  cases h; exact ⟨_, _, _, _, _, _, rfl, ‹_›, ‹_›, ‹_›⟩
theorem Rel.inv_rs {w m : Nat} {f : Nat → List SV} {v : Value} (h : Rel n ρ (.rs w m f) v) : (∃ a cap, m = 0 ∧ v = .slice a 0 cap) ∨
    ∃ g off cap us t fr, 0 < m ∧ m ≤ cap ∧ v = .slice (some ⟨g, off, none⟩) m cap ∧ ρ.R g = some (.cells (List.toArray us) t fr) ∧ off + m * w ≤ us.length ∧ (∀ i, i < m → RelL 0 ρ (f i) ((us.drop (off + i * w)).take w)) ∧ (∀ u ∈ (us.drop off).take (m * w), u.oneCell' = true) := by
  cases h with
  | rs0 => exact .inl ⟨_, _, rfl, rfl⟩
  | rs => exact .inr ⟨_, _, _, _, _, _, ‹_›, ‹_›, rfl, ‹_›, ‹_›, ‹_›, ‹_›⟩
theorem Rel.inv_ifc {t : TypeId} {x : SV} {v : Value} (h : Rel n ρ (.ifc t x) v) : ∃ u, v = .iface t u ∧ Rel n ρ x u := by cases h; exact ⟨_, rfl, ‹_›⟩
theorem Rel.inv_zs {v : Value} (h : Rel n ρ .zs v) : ∃ a, v = .slice a 0 0 := by cases h; exact ⟨_, rfl⟩
theorem Rel.inv_mp {b : Nat} {v : Value} (h : Rel n ρ (.mp b) v) : v = .map (some (ρ b)) ∧ b < n ∧ ρ.no b = false := by cases h; exact ⟨rfl, ‹_›, ‹_›⟩
theorem RelL.inv_one {x : SV} {vs : List Value} (h : RelL n ρ [x] vs) (hx : x.isRow = false) : ∃ v, vs = [v] ∧ Rel n ρ x v := by
  cases h with
  | cons _ _ v vs _ h1 h2 => cases h2; exact ⟨v, rfl, h1⟩
  | row => simp [SV.isRow] at hx

theorem RelL.inv_two {x y : SV} {vs : List Value} (h : RelL n ρ [x, y] vs) (hx : x.isRow = false) (hy : y.isRow = false) : ∃ u v, vs = [u, v] ∧ Rel n ρ x u ∧ Rel n ρ y v := by
  cases h with
  | cons _ _ v vs _ h1 h2 =>
    obtain ⟨u, rfl, h3⟩ := h2.inv_one hy
    exact ⟨v, u, rfl, h1, h3⟩
  | row => simp [SV.isRow] at hx

theorem kindEq_eq {j k : IntKind} (h : kindEq j k = true) : j = k := by cases j <;> cases k <;> simp_all [kindEq]

theorem intsK_rel {k : IntKind} {cs : List SV} {vs : List Value} (h : RelL n ρ cs vs) {xs : List Int} (hk : intsK k cs = some xs) : vs = xs.map (Value.int k) := by
  induction cs generalizing vs xs with
  | nil => cases h; cases hk; rfl
  | cons y cs ih =>
    cases h with
    | cons _ _ v vs hx h1 h2 =>
      cases h1 with
      | c v =>
        cases v <;> simp only [intsK] at hk <;> (try cases hk)
        split at hk
        · rename_i hj hr
          obtain rfl := kindEq_eq hj
          cases hk
          rw [ih h2 hr]; rfl
        · cases hk
      | _ => simp [intsK] at hk
    | row j m ys _ vs hl h2 =>
      unfold intsK at hk
      split at hk
      · rename_i hj
        obtain rfl := kindEq_eq hj
        cases h2
        cases hk
        simp
      · rename_i hj _
        obtain rfl := kindEq_eq hj
        split at hk
        · rename_i l hr
          cases hk
          rw [ih h2 hr]; simp
        · cases hk
      · cases hk

theorem rowAt_rel {k : IntKind} {cs : List SV} {vs : List Value} (h : RelL n ρ cs vs) {base m : Nat} {xs : List Int} (hk : rowAt k cs base m = some xs) :
    (vs.drop base).take m = xs.map (Value.int k) ∧ base + m ≤ vs.length ∧ xs.length = m := by
  unfold rowAt at hk
  split at hk
  · rename_i r hr
    split at hk
    · rename_i l hl
      obtain ⟨h1, h2⟩ := h.dropC hr
      obtain ⟨h3, h4⟩ := h1.takeC hl
      have h5 := intsK_rel h3 hk
      have h6 := congrArg List.length h5
      simp at h4 h6
      exact ⟨h5, by omega, by omega⟩
    · cases hk
  · cases hk

theorem look_cons_ne {α : Type} {i j : Nat} {x : α} {l : List (Nat × α)} (h : i ≠ j) : look ((i, x) :: l) j = look l j := by
  have : Nat.beq i j = false := by simpa [Nat.beq_eq_true_eq, Bool.eq_false_iff] using fun e => h (Nat.eq_of_beq_eq_true e)
  simp [look, this]
theorem look_cons_same {α : Type} {i : Nat} {x : α} {l : List (Nat × α)} : look ((i, x) :: l) i = some x := by simp [look]

end Go.Proofs.Ytjiamfajgllelaa.Sy
