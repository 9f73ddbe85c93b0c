/-
  PatchW: what a row of chapter 12 begins with: the table, arrays and patches that come in; what a row ends with.
-/
import Derived.Test.YtlobbcodnkfbiaaDoorPatch
import Derived.Test.YtlobbcodnkfbiaaDoorTie
import Derived.Test.YtlobbcodnkfbiaaDoorCards
import Derived.WalkKit
import Derived.ProofKit
import Derived.OpenShut
import Derived.LaidMore
import Derived.Lay
import Derived.SevenTiedAt
import Derived.Stop.Joined
namespace Go.Proofs.YtlobbcodnkfbiaaDoor
open Go Go.ChangeShapes Go.WideShapes Go.ChangeAt Go.RowKit Sx
set_option maxRecDepth 100000

theorem patch_own : ownKnob Tryd.prog.godebug = none := by kernel_rfl
theorem patch_laidOut : laidOutB Tryd.prog = true := by kernel_rfl
def laidT : List (String × DataW Unit) := [("math/bits.deBruijn32tab", Rows.laid_math_bits_deBruijn32tab)]
theorem table_GP {W : World} (h : laidMetH Tryd.prog [("math/bits.deBruijn32tab", Rows.laid_math_bits_deBruijn32tab)] W) : GP W := by
  intro r hr
  rw [MakeChecks.laidMetH_plain _ _ _ (by kernel_rfl)] at h
  obtain ⟨ps, ⟨g, t, cs, fuel, p, q, hg, ht, hv, hd, _, _⟩, _, _⟩ := h
  obtain rfl := Option.some.inj ((show Tryd.prog.globalNamed "math/bits.deBruijn32tab" = some 0 by kernel_rfl).symm.trans hg)
  obtain rfl := Option.some.inj ((show (Tryd.prog.globals[0]?).map (·.type) = some 24 by kernel_rfl).symm.trans ht)
  obtain ⟨xs, m, _, ex, _, hl, hel⟩ := DataW.trod_array Tryd.underlying24 hd
  have c5 : Tryd.prog.cellsOf 5 = 1 := by kernel_rfl
  have hE := hel r hr
  rw [c5, Nat.mul_one, List.getElem?_eq_getElem (by omega)] at hE
  obtain ⟨z, e1, e2, _⟩ := DataW.trod_int Tryd.underlying5 hE
  have hlen : Lib.deBruijn32tab.length = 32 := by kernel_rfl
  have e3 : (xs.map (·.1)) = Lib.deBruijn32tab.map fun (n : Nat) => .lit (.int .u8 (n : Int)) := (DataW.agg.inj (Prod.mk.inj ex).1).symm
  have e4 : (xs.map (·.1))[r]? = (Lib.deBruijn32tab.map fun (n : Nat) => (DataW.lit (.int .u8 (n : Int)) : DataW Unit))[r]? := by rw [e3]
  rw [List.getElem?_map, List.getElem?_map, List.getElem?_eq_getElem (by omega : r < xs.length), List.getElem?_eq_getElem (by omega : r < Lib.deBruijn32tab.length), e2] at e4
  have hz : z = ((Lib.deBruijn32tab.getD r 0 : Nat) : Int) := by
    simp only [Option.map_some, Option.some.injEq, DataW.lit.injEq, Lit.int.injEq, true_and] at e4
    rw [e4, List.getD, List.getElem?_eq_getElem (by omega : r < Lib.deBruijn32tab.length)]; rfl
  rw [World.var?_cell hg hv r, ← hz]
  have : cs.toList[r]? = some (.int .u8 z) := by
    have h0 : ((cs.toList.drop r).take 1)[0]? = some (.int .u8 z) := by rw [e1]; rfl
    simpa using h0
  simpa using this
theorem GP_ng {W : World} (h : GP W) : NG ≤ W.heap.size := by
  have h0 := h 0 (by decide)
  rcases Nat.eq_zero_or_pos W.heap.size with h1 | h1
  · simp [World.cell?, Array.getElem?_eq_none (by omega : W.heap.size ≤ 0)] at h0
  · exact h1

theorem okCell_u8 {W : World} {base : Nat} {v : Value} (h : Cell.okWide Tryd.prog W .any base 5 v) : ∃ x, v = .int .u8 x := by
  simp only [Cell.okWide, Tryd.underlying5] at h
  cases v <;> simp_all [Cell.ok, Tryd.underlying5]
theorem okCell_u32 {W : World} {base : Nat} {v : Value} (h : Cell.okWide Tryd.prog W .any base 23 v) : ∃ x, v = .int .u32 x ∧ M32 x := by
  simp only [Cell.okWide, Tryd.underlying23] at h
  cases v with
  | int k x =>
    simp [Cell.ok, Tryd.underlying23, IntKind.has] at h
    obtain ⟨h1, h2, h3⟩ := h
    subst h1
    simp [IntKind.min, IntKind.max, IntKind.bits, IntKind.signed] at h2 h3
    exact ⟨x, rfl, by omega, by omega⟩
  | _ => simp [Cell.ok, Tryd.underlying23] at h
theorem okCell_bool {W : World} {base : Nat} {v : Value} (h : Cell.okWide Tryd.prog W .any base 4 v) : ∃ x, v = .bool x := by
  simp only [Cell.okWide, Tryd.underlying4] at h
  cases v <;> simp_all [Cell.ok, Tryd.underlying4]
theorem bytes_of {l : List Value} (h : ∀ v ∈ l, ∃ x, v = Value.int .u8 x) : ∃ xs : List Int, l = xs.map (Value.int .u8) ∧ xs.length = l.length := by
  induction l with
  | nil => exact ⟨[], rfl, rfl⟩
  | cons v l ih =>
    obtain ⟨xs, h1, h2⟩ := ih fun v hv => h v (List.mem_cons_of_mem _ hv)
    obtain ⟨x, rfl⟩ := h v (List.mem_cons_self ..)
    exact ⟨x :: xs, by rw [h1]; rfl, by simp [h2]⟩

theorem open24 {W : World} {base : Nat} {v : Value} (h : Value.okWide Tryd.prog W .any base 24 v) : ∃ xs : List Int, xs.length = 32 ∧ v = .agg (xs.map (Value.int .u8)).toArray := by
  simp only [Value.okWide, Tryd.underlying24] at h
  obtain ⟨cs, rfl, hs, ts, ht, _, hc⟩ := h
  obtain rfl := Option.some.inj ((show Tryd.prog.cellTypes Tryd.prog.depth 24 = some (List.replicate 32 5) by kernel_rfl).symm.trans ht)
  rw [show Tryd.prog.cellsOf 24 = 32 by kernel_rfl] at hs
  obtain ⟨xs, h1, h2⟩ := bytes_of (l := cs.toList) fun v hv => by
    obtain ⟨i, hi, rfl⟩ := List.mem_iff_getElem.1 hv
    obtain ⟨u, hu, hok⟩ := hc i cs.toList[i] (by simp)
    have : u = 5 := by
      have := List.mem_of_getElem? hu
      exact (List.mem_replicate.1 this).2
    subst this
    exact okCell_u8 hok
  exact ⟨xs, by simpa [hs] using h2, by rw [← h1]⟩
theorem open26 {W : World} {base : Nat} {v : Value} (h : Value.okWide Tryd.prog W .any base 26 v) :
    ∃ f m, ∃ xs : List Int, M32 m ∧ xs.length = 32 ∧ v = .agg (Value.bool f :: Value.int .u32 m :: xs.map (Value.int .u8)).toArray := by
  simp only [Value.okWide, Tryd.underlying26] at h
  obtain ⟨cs, rfl, hs, ts, ht, _, hc⟩ := h
  obtain rfl := Option.some.inj ((show Tryd.prog.cellTypes Tryd.prog.depth 26 = some (4 :: 23 :: List.replicate 32 5) by kernel_rfl).symm.trans ht)
  rw [show Tryd.prog.cellsOf 26 = 34 by kernel_rfl] at hs
  obtain ⟨l⟩ := cs
  match l, hs with
  | a :: b :: l, hs =>
    have hl : l.length = 32 := by simpa using hs
    obtain ⟨u, hu, hok⟩ := hc 0 a (by simp)
    obtain rfl : u = 4 := by simpa using hu.symm
    obtain ⟨f, rfl⟩ := okCell_bool hok
    obtain ⟨u, hu, hok⟩ := hc 1 b (by simp)
    obtain rfl : u = 23 := by simpa using hu.symm
    obtain ⟨m, rfl, hm⟩ := okCell_u32 hok
    obtain ⟨xs, h1, h2⟩ := bytes_of (l := l) fun v hv => by
      obtain ⟨i, hi, rfl⟩ := List.mem_iff_getElem.1 hv
      obtain ⟨u, hu, hok⟩ := hc (i + 2) l[i] (by simp)
      have hmod : (i + 2) % (4 :: 23 :: List.replicate 32 5).length = i + 2 := Nat.mod_eq_of_lt (by simp; omega)
      rw [hmod] at hu
      have : u = 5 := by
        have h3 : (List.replicate 32 5)[i]? = some u := by simpa using hu
        have := List.mem_of_getElem? h3
        exact (List.mem_replicate.1 this).2
      subst this
      exact okCell_u8 hok
    exact ⟨f, m, xs, hm, by rw [h2, hl], by rw [h1]⟩

theorem rel24 {n : Nat} {ρ : Nat → Nat} {xs : List Int} (h : xs.length = 32) : Rel n ρ (.agg [.row .u8 32 xs]) (.agg (xs.map (Value.int .u8)).toArray) := by
  have := RelL.row (n := n) (ρ := ρ) .u8 32 xs [] [] h .nil
  rw [List.append_nil] at this
  exact .agg _ _ this
theorem rel26 {n : Nat} {ρ : Nat → Nat} {f : Bool} {m : Int} {xs : List Int} (h : xs.length = 32) :
    Rel n ρ (.agg [.c (.bool f), .c (.int .u32 m), .row .u8 32 xs]) (.agg (Value.bool f :: Value.int .u32 m :: xs.map (Value.int .u8)).toArray) := by
  have := RelL.row (n := n) (ρ := ρ) .u8 32 xs [] [] h .nil
  rw [List.append_nil] at this
  exact .agg _ _ (.cons _ _ _ _ rfl (.c _) (.cons _ _ _ _ rfl (.c _) this))

theorem stays24 {H : Type} {enc : TypeId × Value → H} {W W' : World} {v : Value} {d : DataW H} {ps : List MemPlace} {sp : Nat → Bool} (h : DataW.Trod enc Tryd.prog W 0 (fun _ => true) true 24 v d ps)
    (hb : Below W.heap.size W W') (hlt : ∀ x ∈ ps, x.block < W.heap.size) (hsp : ∀ x ∈ ps, sp x.block = true) : DataW.Trod enc Tryd.prog W' 0 sp true 24 v d ps :=
  WideElems.Trod_stays patch_laidOut (by kernel_rfl) (of_decide_eq_true (by kernel_rfl)) h (fun x hx => hb.same (hlt x hx)) hsp
theorem stays26 {H : Type} {enc : TypeId × Value → H} {W W' : World} {v : Value} {d : DataW H} {ps : List MemPlace} {sp : Nat → Bool} (h : DataW.Trod enc Tryd.prog W 0 (fun _ => true) true 26 v d ps)
    (hb : Below W.heap.size W W') (hlt : ∀ x ∈ ps, x.block < W.heap.size) (hsp : ∀ x ∈ ps, sp x.block = true) : DataW.Trod enc Tryd.prog W' 0 sp true 26 v d ps :=
  WideElems.Trod_stays patch_laidOut (by kernel_rfl) (of_decide_eq_true (by kernel_rfl)) h (fun x hx => hb.same (hlt x hx)) hsp
theorem stays3 {H : Type} {enc : TypeId × Value → H} {W W' : World} {v : Value} {d : DataW H} {ps : List MemPlace} {sp : Nat → Bool} (h : DataW.Trod enc Tryd.prog W 0 (fun _ => true) true 3 v d ps)
    (hb : Below W.heap.size W W') (hlt : ∀ x ∈ ps, x.block < W.heap.size) (hsp : ∀ x ∈ ps, sp x.block = true) : DataW.Trod enc Tryd.prog W' 0 sp true 3 v d ps :=
  WideElems.Trod_stays patch_laidOut (by kernel_rfl) (of_decide_eq_true (by kernel_rfl)) h (fun x hx => hb.same (hlt x hx)) hsp
theorem stays9 {H : Type} {enc : TypeId × Value → H} {W W' : World} {v : Value} {d : DataW H} {ps : List MemPlace} {sp : Nat → Bool} (h : DataW.Trod enc Tryd.prog W 0 (fun _ => true) true 9 v d ps)
    (hb : Below W.heap.size W W') (hlt : ∀ x ∈ ps, x.block < W.heap.size) (hsp : ∀ x ∈ ps, sp x.block = true) : DataW.Trod enc Tryd.prog W' 0 sp true 9 v d ps :=
  WideElems.Trod_stays patch_laidOut (by kernel_rfl) (of_decide_eq_true (by kernel_rfl)) h (fun x hx => hb.same (hlt x hx)) hsp
theorem open3 {W : World} {base : Nat} {v : Value} (h : Value.okWide Tryd.prog W .any base 3 v) : ∃ x, (-9223372036854775808 ≤ x ∧ x ≤ 9223372036854775807) ∧ v = .int .i64 x := by
  simp only [Value.okWide, Cell.okWide, Tryd.underlying3] at h
  cases v with
  | int k x =>
    simp [Cell.ok, Tryd.underlying3, IntKind.has] at h
    obtain ⟨h1, h2, h3⟩ := h
    subst h1
    simp only [IntKind.min, IntKind.bits, IntKind.signed] at h2 h3
    simp at h2 h3
    exact ⟨x, ⟨by omega, by omega⟩, rfl⟩
  | _ => simp [Cell.ok, Tryd.underlying3] at h
end Go.Proofs.YtlobbcodnkfbiaaDoor
