/-
  The digits of a text, plain: of its bytes, and of its runes.
-/
import Derived.RowKit
import Derived.Lib.MapLaws
set_option linter.unusedVariables false
set_option linter.unusedSimpArgs false
set_option linter.unusedSectionVars false
namespace Hst
open Go Go.Lib

def isDig (x : Int) : Bool := decide (48 ≤ x) && decide (x ≤ 57)
def digOf (x : Int) : List Int := if isDig x then [x - 48] else []
def digB (l : List UInt8) : List Int := l.flatMap fun b => digOf (b.toNat : Int)
theorem digB_append (l m : List UInt8) : digB (l ++ m) = digB l ++ digB m := by simp [digB]
theorem digOf_great {x : Int} (h : 58 ≤ x) : digOf x = [] := by
  unfold digOf isDig
  rw [if_neg (by simp; omega)]
theorem digB_great {l : List UInt8} (h : ∀ b ∈ l, 128 ≤ b.toNat) : digB l = [] := by
  unfold digB
  rw [List.flatMap_eq_nil_iff]
  intro b hb
  exact digOf_great (by have := h b hb; omega)
/-- The digits of the bytes of one rune. -/
theorem digB_rune (l : List UInt8) (hne : l ≠ []) : digB (l.take (decodeL l).2) = digOf ((decodeL l).1 : Nat) := by
  have hl : 0 < l.length := List.length_pos_iff.2 hne
  rw [decodeL_N]
  have k0 := (l.getD 0 0).toNat_lt
  have k1 := (l.getD 1 0).toNat_lt
  have k2 := (l.getD 2 0).toNat_lt
  have k3 := (l.getD 3 0).toNat_lt
  rcases decodeN_shape l.length (l.getD 0 0).toNat (l.getD 1 0).toNat (l.getD 2 0).toNat (l.getD 3 0).toNat with ⟨c, e⟩ | ⟨c1, c2, c3, cv, e⟩ | ⟨c1, c2, c3, c4, cv, cs, e⟩ | ⟨c1, c2, c3, c4, c5, cv, cw, e⟩ | e
  · rw [e]
    dsimp only
    rw [takeA l hl]
    simp [digB]
  · rw [e]
    dsimp only
    rw [takeB l c2, digOf_great (by omega), digB_great]
    intro b hb
    simp only [List.mem_cons, List.not_mem_nil, or_false] at hb
    rcases hb with rfl | rfl <;> omega
  · rw [e]
    dsimp only
    rw [takeC l c2, digOf_great (by omega), digB_great]
    intro b hb
    simp only [List.mem_cons, List.not_mem_nil, or_false] at hb
    rcases hb with rfl | rfl | rfl <;> omega
  · rw [e]
    dsimp only
    rw [takeD l c2, digOf_great (by omega), digB_great]
    intro b hb
    simp only [List.mem_cons, List.not_mem_nil, or_false] at hb
    rcases hb with rfl | rfl | rfl | rfl <;> omega
  · by_cases h128 : (l.getD 0 0).toNat < 128
    · exfalso
      rcases decodeN_shape l.length (l.getD 0 0).toNat (l.getD 1 0).toNat (l.getD 2 0).toNat (l.getD 3 0).toNat with ⟨c, e'⟩ | ⟨c1, c2, c3, cv, e'⟩ | ⟨c1, c2, c3, c4, cv, cs, e'⟩ | ⟨c1, c2, c3, c4, c5, cv, cw, e'⟩ | e'
      · rw [e] at e'
        simp only [Prod.mk.injEq] at e'
        omega
      · omega
      · omega
      · omega
      · have : decodeN l.length (l.getD 0 0).toNat (l.getD 1 0).toNat (l.getD 2 0).toNat (l.getD 3 0).toNat = ((l.getD 0 0).toNat, 1) := by
          unfold decodeN
          exact if_pos h128
        rw [e'] at this
        simp only [Prod.mk.injEq] at this
        omega
    · rw [e]
      dsimp only
      rw [takeA l hl, digOf_great (by omega), digB_great]
      intro b hb
      simp only [List.mem_cons, List.not_mem_nil, or_false] at hb
      rcases hb with rfl
      omega
theorem u8_int {x : Int} (h0 : 0 ≤ x) (h1 : x < 256) : ((x.toNat.toUInt8).toNat : Int) = x := by
  have : (x.toNat.toUInt8).toNat = x.toNat := by
    simp
    omega
  omega
/-- The digits of a rune's text. -/
theorem digB_encode (r : Int) : digB (encodeRune r) = digOf r := by
  by_cases h : 0 ≤ r ∧ r ≤ 127
  · unfold encodeRune
    rw [encodeRuneZ_one h.1 h.2]
    simp only [List.map_cons, List.map_nil, digB, List.flatMap_cons, List.flatMap_nil, List.append_nil]
    rw [u8_int h.1 (by omega)]
  · have hr : digOf r = [] := by
      unfold digOf isDig
      rw [if_neg (by simp; omega)]
    rw [hr, digB_great]
    intro b hb
    unfold encodeRune at hb
    obtain ⟨x, hx, rfl⟩ := List.mem_map.1 hb
    have hbd := encodeRuneZ_byte r x hx
    have h128 : 128 ≤ x := by
      unfold encodeRuneZ at hx
      rw [if_neg h] at hx
      repeat' split at hx
      all_goals
        simp only [List.mem_cons, List.not_mem_nil, or_false] at hx
        omega
    have := u8_int hbd.1 hbd.2
    omega
theorem byte_eq {a : Nat} {x : Int} (h : (a : Int) = x) : UInt8.ofNat a = x.toNat.toUInt8 := by
  subst h
  simp
theorem encode_list (r : Int) : (Utf8.encode r).data.toList = encodeRune r := by
  have key : (0 ≤ r ∧ r ≤ 127) ∨ (128 ≤ r ∧ r ≤ 2047) ∨ ((2048 ≤ r ∧ r < 55296) ∨ (57343 < r ∧ r ≤ 65535)) ∨ (65536 ≤ r ∧ r ≤ 1114111) ∨ (r < 0 ∨ (55296 ≤ r ∧ r ≤ 57343) ∨ 1114111 < r) := by omega
  rcases key with h | h | h | h | h
  · have hv : Utf8.valid r = true := by unfold Utf8.valid; simp; omega
    have c1 : r.toNat < 128 := by omega
    unfold Utf8.encode encodeRune
    rw [encodeRuneZ_one h.1 h.2]
    simp only [hv, if_true, c1, List.map_cons, List.map_nil]
  · have hv : Utf8.valid r = true := by unfold Utf8.valid; simp; omega
    have c1 : ¬ r.toNat < 128 := by omega
    have c2 : r.toNat < 2048 := by omega
    unfold Utf8.encode encodeRune
    rw [encodeRuneZ_two h.1 h.2]
    simp only [hv, if_true, c1, if_false, c2, List.map_cons, List.map_nil]
    rw [byte_eq (x := 192 + r / 64) (by omega), byte_eq (x := 128 + r % 64) (by omega)]
  · have hv : Utf8.valid r = true := by unfold Utf8.valid; simp; omega
    have c1 : ¬ r.toNat < 128 := by omega
    have c2 : ¬ r.toNat < 2048 := by omega
    have c3 : r.toNat < 65536 := by omega
    unfold Utf8.encode encodeRune
    rw [encodeRuneZ_three h]
    simp only [hv, if_true, c1, if_false, c2, c3, List.map_cons, List.map_nil]
    rw [byte_eq (x := 224 + r / 4096) (by omega), byte_eq (x := 128 + r / 64 % 64) (by omega), byte_eq (x := 128 + r % 64) (by omega)]
  · have hv : Utf8.valid r = true := by unfold Utf8.valid; simp; omega
    have c1 : ¬ r.toNat < 128 := by omega
    have c2 : ¬ r.toNat < 2048 := by omega
    have c3 : ¬ r.toNat < 65536 := by omega
    unfold Utf8.encode encodeRune
    rw [encodeRuneZ_four h.1 h.2]
    simp only [hv, if_true, c1, if_false, c2, c3, List.map_cons, List.map_nil]
    rw [byte_eq (x := 240 + r / 262144) (by omega), byte_eq (x := 128 + r / 4096 % 64) (by omega), byte_eq (x := 128 + r / 64 % 64) (by omega), byte_eq (x := 128 + r % 64) (by omega)]
  · have hv : Utf8.valid r = false := by unfold Utf8.valid; simp; omega
    unfold Utf8.encode encodeRune
    rw [encodeRuneZ_bad h]
    simp only [hv, Bool.false_eq_true, if_false]
    decide
end Hst
