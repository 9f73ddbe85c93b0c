/-
  PathI: library functions that look for a byte in a name.
-/
import Derived.Test.YtjiamfajgllelaaPyA
import Derived.Lib.Bytealg
import Derived.Lib.Walk
import Derived.Lib.Strings
namespace Go.Proofs.Ytjiamfajgllelaa
open Go Go.RowKit Sy
set_option maxRecDepth 100000

set_option maxHeartbeats 1000000 in
theorem w_slIndexByte (s : ByteArray) (c : Int) (w : World) :
    Calls Try.prog 36 #[.string s, .int .u8 c] w fun e w' => e = .returned (.int .i64 (Lib.indexByte s.data.toList c.toNat.toUInt8)) ∧ w' = w := by
  go_enter Try.func36, Try.ntmps36
  go_wp2
  rw [run_callFunc_extern Try.func37 (by kernel_rfl) (by kernel_rfl) (by kernel_rfl) (e := Extern.BytealgIndexByte.indexByte) (by kernel_rfl), Lib.run_indexByteString]
  simp only [Result.andThen]
  rw [Oper.upon_value]
  go_wp2
  go_ret
  exact ⟨rfl, rfl⟩

def trIndexByte (args : List SV) (K : SV → Prop) : Prop :=
  match args with
  | [.c (.string s), .c (.int .u8 c)] => K (.c (.int .i64 (Lib.indexByte s.data.toList c.toNat.toUInt8)))
  | _ => False
theorem c_slIndexByte : Sound 36 trIndexByte := by
  refine snd1 fun args K h => ?_
  unfold trIndexByte at h
  split at h
  · rename_i s c
    refine ⟨[.string s, .int .u8 c], _, rfl, h, fun w _ => ?_⟩
    refine (w_slIndexByte s c w).mono ?_
    rintro e w' ⟨rfl, rfl⟩
    exact ⟨rfl, Below.refl _ _⟩
  · exact h.elim
noncomputable def Γi1 : Gam Try.prog := ⟨[ps 36 _ Try.func36 rfl (by kernel_rfl) c_slIndexByte], []⟩
theorem c_IndexByte : Sound 32 trIndexByte := by
  refine snd (Γ := Γi1) (O := O32) Try.func32 rfl (by kernel_rfl) fun args K h => ?_
  unfold trIndexByte at h
  split at h
  · rename_i s c
    exact ⟨rfl, H0, kcast (A := K (.c (.int .i64 (Lib.indexByte s.data.toList c.toNat.toUInt8)))) (by kernel_rfl) h⟩
  · exact h.elim

/-- a rune that may be (what Utf8.decode gives is one) -/
def trValid (args : List SV) (K : SV → Prop) : Prop :=
  match args with
  | [.c (.int .i32 c)] => Utf8.valid c = true ∧ K (.c (.bool true))
  | _ => False
theorem c_ValidRune : Sound 33 trValid := by
  refine snd (Γ := Γ0) (O := O33) Try.func33 rfl (by kernel_rfl) fun args K h => ?_
  unfold trValid at h
  split at h
  · rename_i c
    refine ⟨rfl, H0, kcast (A := brk (decide (0 ≤ c))
  (brk (decide (c < 55296))
    (K (SV.c (Value.bool true)))
    (brk (decide (57343 < c))
      (brk (decide (c ≤ 1114111))
        (K (SV.c (Value.bool true)))
        (K (SV.c (Value.bool false))))
      (K (SV.c (Value.bool false)))))
  (brk (decide (57343 < c))
    (brk (decide (c ≤ 1114111))
      (K (SV.c (Value.bool true)))
      (K (SV.c (Value.bool false))))
    (K (SV.c (Value.bool false))))) (by kernel_rfl) ?_⟩
    have hv := h.1
    simp only [Utf8.valid, Bool.or_eq_true, Bool.and_eq_true, decide_eq_true_eq] at hv
    rcases hv with ⟨h1, h2⟩ | ⟨h1, h2⟩
    · rw [decide_eq_true h1, decide_eq_true h2]; exact h.2
    · rw [decide_eq_true (show (0 : Int) ≤ c by omega), decide_eq_false (show ¬ c < 55296 by omega), decide_eq_true (show (57343 : Int) < c by omega), decide_eq_true h2]; exact h.2
  · exact h.elim

noncomputable def Γi2 : Gam Try.prog := ⟨[ps 32 _ Try.func32 rfl (by kernel_rfl) c_IndexByte, ps 33 _ Try.func33 rfl (by kernel_rfl) c_ValidRune], []⟩

/-- IndexRune("\x00/", c) -/
def irune (c : Int) : Int := if c = 0 then 0 else if c = 47 then 1 else -1
def trIndexRune (args : List SV) (K : SV → Prop) : Prop :=
  match args with
  | [.c (.string s), .c (.int .i32 c)] => s = ⟨#[0, 47]⟩ ∧ (0 ≤ c ∧ c ≤ 1114111) ∧ (Utf8.valid c = true) ∧ K (.c (.int .i64 (irune c)))
  | _ => False

theorem indexByte_two (b : UInt8) : Lib.indexByte [0, 47] b = irune b.toNat := by
  unfold irune
  simp only [Lib.indexByte]
  by_cases h0 : b = 0
  · subst h0; rfl
  · by_cases h1 : b = 47
    · subst h1; rfl
    · have e0 : ¬ ((b.toNat : Int) = 0) := fun e => h0 (by apply UInt8.toNat_inj.1; simpa using Int.ofNat_inj.1 e)
      have e1 : ¬ ((b.toNat : Int) = 47) := fun e => h1 (by apply UInt8.toNat_inj.1; simpa using Int.ofNat_inj.1 e)
      have f0 : ¬ ((0 : UInt8) == b) = true := by simpa using fun e => h0 e.symm
      have f1 : ¬ ((47 : UInt8) == b) = true := by simpa using fun e => h1 e.symm
      have e0' : ¬ b.toNat = 0 := fun e => e0 (by omega)
      have e1' : ¬ b.toNat = 47 := fun e => e1 (by omega)
      simp [e0, e0', e1, e1', f0, f1]

theorem encode_size (c : Int) (h : 128 ≤ c) (hv : Utf8.valid c = true) : 2 ≤ (Utf8.encode c).size ∧ (Utf8.encode c).size ≤ 4 ∧ ((Utf8.encode c).size = 2 → 128 ≤ bAt (Utf8.encode c) 1) := by
  unfold Utf8.encode
  simp only [hv, if_true]
  rw [if_neg (by omega)]
  split
  · refine ⟨by show 2 ≤ 2; omega, by show 2 ≤ 4; omega, fun _ => ?_⟩
    have : bAt ⟨#[UInt8.ofNat (192 + c.toNat / 64), UInt8.ofNat (128 + c.toNat % 64)]⟩ 1 = ((UInt8.ofNat (128 + c.toNat % 64)).toNat : Int) := rfl
    rw [this]
    have h2 : c.toNat % 64 < 64 := Nat.mod_lt _ (by omega)
    simp only [UInt8.toNat_ofNat']
    omega
  · split
    · exact ⟨by show 2 ≤ 3; omega, by show 3 ≤ 4; omega, fun e => absurd e (by show ¬ (3 = 2); omega)⟩
    · exact ⟨by show 2 ≤ 4; omega, by show 4 ≤ 4; omega, fun e => absurd e (by show ¬ (4 = 2); omega)⟩

theorem c_IndexRune : Sound 28 trIndexRune := by
  refine snd (Γ := Γi2) (O := O28) Try.func28 rfl (by kernel_rfl) fun args K h => ?_
  unfold trIndexRune at h
  split at h
  · rename_i s c
    obtain ⟨rfl, ⟨h0, h1⟩, hv, hk⟩ := h
    refine ⟨rfl, fun _ => .rounds 3, ?_⟩
    conv => whnf
    split
    · conv => whnf
      split
      · rename_i hlt
        have hlt : c < 128 := by simpa using hlt
        conv => whnf
        have e : Lib.indexByte [0, 47] (IntKind.u8.wrap c).toNat.toUInt8 = irune c := by
          have : IntKind.u8.wrap c = c := by simp [IntKind.wrap, IntKind.bits, IntKind.signed]; omega
          rw [this, indexByte_two]
          congr 1
          simp; omega
        show K (.c (.int .i64 (Lib.indexByte [0, 47] (IntKind.u8.wrap c).toNat.toUInt8)))
        rw [e]
        exact hk
      · rename_i hlt
        have hlt : 128 ≤ c := by simpa using hlt
        have hm1 : irune c = -1 := by unfold irune; rw [if_neg (by omega), if_neg (by omega)]
        rw [hm1] at hk
        conv => whnf
        split
        · conv => whnf
          exact hk
        · conv => whnf
          refine ⟨hv, ?_⟩
          obtain ⟨z1, z2, z3⟩ := encode_size c hlt hv
          have hw : IntKind.i64.wrap (((Utf8.encode c).size : Int) - 1) = ((Utf8.encode c).size : Int) - 1 := by
            simp [IntKind.wrap, IntKind.bits, IntKind.signed]; omega
          conv => whnf
          split
          · rename_i hb
            have hb : ((Utf8.encode c).size : Int) - 1 < 2 := by rw [hw] at hb; exact of_decide_eq_true hb
            have hn : (Utf8.encode c).size = 2 := by omega
            have hl : IntKind.i64.wrap (((Utf8.encode c).size : Int) - 1) = 1 := by rw [hw, hn]; rfl
            conv => whnf
            refine ⟨⟨by rw [hl]; omega, by rw [hl]; show (1 : Int) < 2; omega⟩, ⟨by rw [hl]; omega, by rw [hl, hn]; omega⟩, ?_⟩
            conv => whnf
            split
            · conv => whnf
              refine ⟨⟨by rw [hl]; show (0 : Int) ≤ 2; omega, by rw [hl]; show (2 : Int) ≤ 2; omega⟩, ⟨by rw [hl]; omega, by rw [hl, hn]; omega⟩, ?_⟩
              conv => whnf
              split
              · conv => whnf
                exact hk
              · rename_i hx
                exfalso
                rw [hl] at hx
                revert hx
                show decide ((-1 : Int) < 0) = false → False
                decide
            · rename_i hx
              exfalso
              rw [hl] at hx
              have h47 : bAt ⟨#[0, 47]⟩ 1 = 47 := rfl
              have := z3 hn
              simp [h47] at hx
              omega
          · conv => whnf
            exact hk
    · rename_i hn
      exact absurd h0 (by simpa using hn)
  · exact h.elim

noncomputable def Γi3 : Gam Try.prog := ⟨[ps 28 _ Try.func28 rfl (by kernel_rfl) c_IndexRune], []⟩

def trShort (args : List SV) (K : SV → Prop) : Prop :=
  match args with
  | [.c (.int .i64 n)] => K (.c (.bool (decide (8 < n))))
  | _ => False
theorem c_short : Sound 29 trShort := by
  refine snd (Γ := Γ0) (O := O29) Try.func29 rfl (by kernel_rfl) fun args K h => ?_
  unfold trShort at h
  split at h
  · rename_i n
    exact ⟨rfl, H0, kcast (A := K (.c (.bool (decide (8 < n))))) (by kernel_rfl) h⟩
  · exact h.elim
end Go.Proofs.Ytjiamfajgllelaa
