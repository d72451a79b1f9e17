/-
  Orders: how many there are, and the digits of a number (plain); rows of numbers.
-/
import Derived.Test.YtfjepdcnikgjeaaGreatDoorLives
import Derived.BigQuiet
set_option linter.unusedVariables false
set_option linter.unusedSimpArgs false
set_option linter.unusedSectionVars false
namespace Go.Proofs.YtfjepdcnikgjeaaGreatDoor
open Go Go.RowKit Hst Go.Proofs

def cntLoop (m : Int) : Nat → Int → Int
  | 0, acc => acc
  | j + 1, acc => if acc * m > 1048576 then 0 else cntLoop m j (acc * m)
def cntE (m n : Int) : Int := if m < 0 ∨ n < 0 ∨ (m = 0 ∧ n > 0) then 0 else if m = 1 then 1 else cntLoop m (min n 1048576).toNat 1

theorem cntLoop_pow (m : Int) (hm : 2 ≤ m) : ∀ (j : Nat) (acc : Int), 1 ≤ acc → acc ≤ 1048576 → cntLoop m j acc = 0 ∨ (cntLoop m j acc = acc * m ^ j ∧ 1 ≤ cntLoop m j acc ∧ cntLoop m j acc ≤ 1048576)
  | 0, acc, h1, h2 => .inr ⟨by simp [cntLoop], by simpa [cntLoop] using h1, by simpa [cntLoop] using h2⟩
  | j + 1, acc, h1, h2 => by
    unfold cntLoop
    by_cases h : acc * m > 1048576
    · rw [if_pos h]; exact .inl rfl
    · rw [if_neg h]
      have hp : 1 ≤ acc * m := Int.le_trans (by omega : (1 : Int) ≤ 1 * 2) (Int.mul_le_mul h1 hm (by omega) (by omega))
      rcases cntLoop_pow m hm j (acc * m) hp (by omega) with e | ⟨e, e2, e3⟩
      · exact .inl e
      · exact .inr ⟨by rw [e, Int.pow_succ, Int.mul_assoc, Int.mul_comm m]; , e2, e3⟩

/-- How many orders there are, as a power. -/
theorem cntE_pow (m n : Int) (hn : n ≤ 1048576) : cntE m n = 0 ∨ ∃ M N : Nat, m = M ∧ n = N ∧ cntE m n = ((M ^ N : Nat) : Int) ∧ 0 < M ^ N ∧ M ^ N ≤ 1048576 ∧ (0 < N → 0 < M) := by
  unfold cntE
  by_cases h : m < 0 ∨ n < 0 ∨ (m = 0 ∧ n > 0)
  · rw [if_pos h]; exact .inl rfl
  · rw [if_neg h]
    by_cases h1 : m = 1
    · rw [if_pos h1]
      exact .inr ⟨1, n.toNat, by omega, by omega, by simp, by simp, by simp, fun _ => by decide⟩
    · rw [if_neg h1]
      by_cases h0 : m = 0
      · subst h0
        have : n = 0 := by omega
        subst this
        exact .inr ⟨0, 0, rfl, rfl, by rfl, by decide, by decide, fun h => by omega⟩
      · rcases cntLoop_pow m (by omega) (min n 1048576).toNat 1 (by omega) (by omega) with e | ⟨e, e2, e3⟩
        · exact .inl e
        · have hmin : (min n 1048576).toNat = n.toNat := by omega
          rw [hmin] at e e2 e3 ⊢
          have hp : ((m.toNat ^ n.toNat : Nat) : Int) = m ^ n.toNat := by rw [Int.natCast_pow, Int.toNat_of_nonneg (by omega)]
          rw [Int.one_mul] at e
          refine .inr ⟨m.toNat, n.toNat, by omega, by omega, by rw [e, hp], ?_, ?_, fun _ => by omega⟩
          · have : (0 : Int) < ((m.toNat ^ n.toNat : Nat) : Int) := by rw [hp, ← e]; omega
            omega
          · have : ((m.toNat ^ n.toNat : Nat) : Int) ≤ 1048576 := by rw [hp, ← e]; omega
            omega

/-- The digit of a number that stands at a power. -/
def dig (m t k : Nat) : Nat := k / m ^ t % m
/-- A number's digits, the greatest first. -/
def digs (m n k : Nat) : List Int := (List.range n).map fun x => ((dig m (n - 1 - x) k : Nat) : Int)
theorem digs_len (m n k : Nat) : (digs m n k).length = n := by simp [digs]
theorem digs_at (m n k x : Nat) (h : x < n) : (digs m n k)[x]? = some ((dig m (n - 1 - x) k : Nat) : Int) := by simp [digs, h]

theorem dig_lt (m t k : Nat) (h : 0 < m) : dig m t k < m := Nat.mod_lt _ h
theorem dvd_dig {m t s k : Nat} (h : m ^ t ∣ k) (hs : s < t) (hm : 0 < m) : dig m s k = 0 := by
  obtain ⟨c, rfl⟩ := h
  unfold dig
  have e : m ^ t * c = m ^ s * (m * (m ^ (t - s - 1) * c)) := by
    have : m ^ t = m ^ s * (m * m ^ (t - s - 1)) := by
      rw [← Nat.pow_succ', ← Nat.pow_add]; congr 1; omega
    rw [this]; ac_rfl
  rw [e, Nat.mul_div_cancel_left _ (Nat.pow_pos hm), Nat.mul_mod_right]
/-- One more: below a carry all digits are null, at its end the digit grows, above it they stay. -/
theorem carry_end {m t k : Nat} (hm : 0 < m) (h : m ^ t ∣ k + 1) (hd : dig m t k + 1 < m) : dig m t (k + 1) = dig m t k + 1 ∧ ∀ s, t < s → dig m s (k + 1) = dig m s k := by
  obtain ⟨c, hc⟩ := h
  have hP : 0 < m ^ t := Nat.pow_pos hm
  have hc0 : 0 < c := by
    rcases Nat.eq_zero_or_pos c with h | h
    · subst h; simp at hc
    · exact h
  have hk : k = m ^ t * (c - 1) + (m ^ t - 1) := by
    have : m ^ t * c = m ^ t * (c - 1) + m ^ t := by rw [← Nat.mul_succ]; congr 1; omega
    omega
  have d0 : k / m ^ t = c - 1 := by
    rw [hk, Nat.mul_add_div hP, Nat.div_eq_of_lt (by omega), Nat.add_zero]
  have d1 : (k + 1) / m ^ t = c := by rw [hc, Nat.mul_div_cancel_left _ hP]
  unfold dig at hd ⊢
  rw [d0] at hd ⊢
  rw [d1]
  have hcm : c % m = (c - 1) % m + 1 := by
    have : c = (c - 1) + 1 := by omega
    rw [this, Nat.add_sub_cancel, Nat.add_mod]
    rw [Nat.mod_eq_of_lt (a := (c - 1) % m + 1 % m) (by
      rcases Nat.lt_or_ge 1 m with h | h
      · rw [Nat.mod_eq_of_lt h]; exact hd
      · obtain rfl : m = 1 := by omega
        omega)]
    rw [Nat.mod_eq_of_lt (a := 1) (by omega)]
  refine ⟨hcm, fun s hs => ?_⟩
  have e : m ^ s = m ^ t * (m * m ^ (s - t - 1)) := by rw [← Nat.pow_succ', ← Nat.pow_add]; congr 1; omega
  have hdv : c / m = (c - 1) / m := by
    have h1 := Nat.div_add_mod c m
    have h2 := Nat.div_add_mod (c - 1) m
    have : m * (c / m) = m * ((c - 1) / m) := by omega
    exact Nat.eq_of_mul_eq_mul_left hm this
  rw [e, ← Nat.div_div_eq_div_mul, ← Nat.div_div_eq_div_mul, ← Nat.div_div_eq_div_mul, ← Nat.div_div_eq_div_mul, d0, d1, hdv]
theorem carry_on {m t k : Nat} (hm : 0 < m) (h : m ^ t ∣ k + 1) (hd : dig m t k + 1 = m) : m ^ (t + 1) ∣ k + 1 := by
  obtain ⟨c, hc⟩ := h
  have hP : 0 < m ^ t := Nat.pow_pos hm
  have hc0 : 0 < c := by
    rcases Nat.eq_zero_or_pos c with h | h
    · subst h; simp at hc
    · exact h
  have hk : k = m ^ t * (c - 1) + (m ^ t - 1) := by
    have : m ^ t * c = m ^ t * (c - 1) + m ^ t := by rw [← Nat.mul_succ]; congr 1; omega
    omega
  have d0 : k / m ^ t = c - 1 := by
    rw [hk, Nat.mul_add_div hP, Nat.div_eq_of_lt (by omega), Nat.add_zero]
  unfold dig at hd
  rw [d0] at hd
  have h2 := Nat.div_add_mod (c - 1) m
  refine ⟨(c - 1) / m + 1, ?_⟩
  rw [hc, Nat.pow_succ, Nat.mul_assoc, Nat.mul_add]
  congr 1
  omega
end Go.Proofs.YtfjepdcnikgjeaaGreatDoor
