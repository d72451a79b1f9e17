/-
  Contracts of the masks' functions (of one word).
-/
import Derived.Test.YtfjepdcnikgjeaaGreatDoorGlob3
import Derived.WalkSmall
set_option linter.unusedVariables false
set_option linter.unusedSimpArgs false
set_option linter.unusedSectionVars false
namespace Go.Proofs.YtfjepdcnikgjeaaGreatDoor
open Go Go.RowKit Hst Go.Proofs

theorem ret_bool {a b : Bool} (h : a = b) : Ending.returned (.bool a) = Ending.returned (.bool b) := by rw [h]
theorem bit_test (x i : Nat) (hx : x < 18446744073709551616) : (bits .and .u64 ((x : Int) / 2 ^ i) 1 == 1) = x.testBit i := by
  have e : (x : Int) / 2 ^ i = ((x / 2 ^ i : Nat) : Int) := by rw [Int.natCast_ediv, Int.natCast_pow]; rfl
  rw [e, and_one_u64 _ (Int.natCast_nonneg _) (by have := Nat.div_le_self x (2 ^ i); generalize x / 2 ^ i = q at *; omega), Nat.testBit_eq_decide_div_mod_eq]
  rw [Bool.eq_iff_iff]
  simp
  omega

theorem xor_bit (x i : Nat) (hx : x < 18446744073709551616) (hi : i < 64) : bits .xor .u64 (x : Int) (IntKind.u64.wrap (2 ^ i)) = ((x ^^^ 2 ^ i : Nat) : Int) := by
  have hp : 2 ^ i < 18446744073709551616 := Nat.lt_of_lt_of_le (Nat.pow_lt_pow_right (by decide) hi) (by decide)
  have e : ((2 : Int) ^ i) = ((2 ^ i : Nat) : Int) := by rw [Int.natCast_pow]; rfl
  have e2 : IntKind.u64.wrap ((2 : Int) ^ i) = ((2 ^ i : Nat) : Int) := by rw [e]; generalize 2 ^ i = q at *; rw [IntKind.wrap_u64]; omega
  rw [e2]
  exact bits_xor_u64_nat x (2 ^ i) hx hp

theorem lt_word (x n : Nat) (hn : n ≤ 64) (hx : x < 2 ^ n) : x < 18446744073709551616 := Nat.lt_of_lt_of_le hx (Nat.pow_le_pow_right (by decide) hn)

set_option maxRecDepth 100000 in
set_option maxHeartbeats 800000 in
theorem has_any (mk mw n i x : Nat) (w : World) (hn : n ≤ 64) (hi : i < n) (hx : x < 2 ^ n) (c0 : w.cell? ⟨mk, 0, none⟩ = some (.int .i64 n)) (c1 : w.cell? ⟨mk, 1, none⟩ = some (.slice (some ⟨mw, 0, none⟩) 1 1)) (cw : w.cell? ⟨mw, 0, none⟩ = some (.int .u64 x)) :
    Calls Tryz.prog 230 #[.pointer (some ⟨mk, 0, none⟩), .int .i64 i] w fun e w' => e = .returned (.bool (x.testBit i)) ∧ w' = w := by
  have e1 : (i : Int) / 64 = 0 := by omega
  have e2 : (i : Int) % 64 = i := by omega
  have e3 : (i : Int).tdiv 64 = 0 := by rw [Int.tdiv_eq_ediv_of_nonneg (by omega)]; exact e1
  have e4 : (i : Int).tmod 64 = i := by rw [Int.tmod_eq_emod_of_nonneg (by omega)]; exact e2
  have h64 : (i : Int) < 64 := by omega
  go_enter Tryz.func230, Tryz.ntmps230
  go_wp2
  go_ret
  exact ⟨ret_bool (bit_test x i (lt_word x n hn hx)), rfl⟩

set_option maxRecDepth 100000 in
set_option maxHeartbeats 1600000 in
theorem turn_yes (mk mw n i x : Nat) (was : Bool) (w : World) (hn : n ≤ 64) (hi : i < n) (hx : x < 2 ^ n) (hne : mk ≠ mw) (c0 : w.cell? ⟨mk, 0, none⟩ = some (.int .i64 n)) (c1 : w.cell? ⟨mk, 1, none⟩ = some (.slice (some ⟨mw, 0, none⟩) 1 1)) (cw : w.cell? ⟨mw, 0, none⟩ = some (.int .u64 x))
    (hf : w.frozen? ⟨mw, 0, none⟩ = false) (hb : x.testBit i = was) :
    Calls Tryz.prog 191 #[.pointer (some ⟨mk, 0, none⟩), .int .i64 i, .bool was] w fun e w' => e = .returned (.bool true) ∧ w' = (w.setCell ⟨mw, 0, none⟩ (.int .u64 ((x ^^^ 2 ^ i : Nat) : Int))).drew := by
  have e1 : (i : Int) / 64 = 0 := by omega
  have e2 : (i : Int) % 64 = i := by omega
  have e3 : (i : Int).tdiv 64 = 0 := by rw [Int.tdiv_eq_ediv_of_nonneg (by omega)]; exact e1
  have e4 : (i : Int).tmod 64 = i := by rw [Int.tmod_eq_emod_of_nonneg (by omega)]; exact e2
  have h64 : (i : Int) < 64 := by omega
  have w1 : IntKind.i64.wrap 0 = 0 := IntWalk.i64_in 0 (by omega)
  have hhas := has_any mk mw n i x w hn hi hx c0 c1 cw
  rw [hb] at hhas
  have hbn : (was != was) = false := by cases was <;> rfl
  go_enter Tryz.func191, Tryz.ntmps191
  go_wp2_with (go_at_call 230; refine hhas.mono ?_; rintro e w' ⟨rfl, rfl⟩)
  go_still_tail 13, (by kernel_rfl)
  change wpList _ _ _ _ _ w'.drew
  go_wp2
  go_ret
  exact ⟨rfl, by rw [xor_bit x i (lt_word x n hn hx) (by omega)]⟩
end Go.Proofs.YtfjepdcnikgjeaaGreatDoor
