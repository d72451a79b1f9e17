/-
  Orders: how many there are, and the digits of a number (plain); rows of numbers.
  How many orders there are: walked, and the document's.
  The document's number of orders.
  The i-th order, walked; two rows of numbers, held side by side.
  Two rows of numbers, held side by side.
  The order behind one, walked.
  ExploreOrders, walked.
-/
import Derived.Test.YtpclgelilnhjpaaGreatDoorLives
import Derived.BigQuiet
import Derived.Test.YtpclgelilnhjpaaGreatDoorGlobs
import Derived.Test.YtpclgelilnhjpaaGreatDoorFounds
set_option linter.unusedVariables false
set_option linter.unusedSimpArgs false
set_option linter.unusedSectionVars false
namespace Go.Proofs.YtpclgelilnhjpaaGreatDoor
open Go Go.RowKit Hst Go.Proofs

def cntLoop (m : Int) : Nat → Int → Int
  | 0, acc => acc
  | j + 1, acc => if acc * m > 1048576 then 0 else cntLoop m j (acc * m)
def cntE (m n : Int) : Int := if m < 0 ∨ n < 0 ∨ (m = 0 ∧ n > 0) then 0 else if m = 1 then 1 else cntLoop m (min n 1048576).toNat 1

theorem cntLoop_pow (m : Int) (hm : 2 ≤ m) : ∀ (j : Nat) (acc : Int), 1 ≤ acc → acc ≤ 1048576 → cntLoop m j acc = 0 ∨ (cntLoop m j acc = acc * m ^ j ∧ 1 ≤ cntLoop m j acc ∧ cntLoop m j acc ≤ 1048576)
  | 0, acc, h1, h2 => .inr ⟨by simp [cntLoop], by simpa [cntLoop] using h1, by simpa [cntLoop] using h2⟩
  | j + 1, acc, h1, h2 => by
    unfold cntLoop
    by_cases h : acc * m > 1048576
    · rw [if_pos h]; exact .inl rfl
    · rw [if_neg h]
      have hp : 1 ≤ acc * m := Int.le_trans (by omega : (1 : Int) ≤ 1 * 2) (Int.mul_le_mul h1 hm (by omega) (by omega))
      rcases cntLoop_pow m hm j (acc * m) hp (by omega) with e | ⟨e, e2, e3⟩
      · exact .inl e
      · exact .inr ⟨by rw [e, Int.pow_succ, Int.mul_assoc, Int.mul_comm m]; , e2, e3⟩

/-- How many orders there are, as a power. -/
theorem cntE_pow (m n : Int) (hn : n ≤ 1048576) : cntE m n = 0 ∨ ∃ M N : Nat, m = M ∧ n = N ∧ cntE m n = ((M ^ N : Nat) : Int) ∧ 0 < M ^ N ∧ M ^ N ≤ 1048576 ∧ (0 < N → 0 < M) := by
  unfold cntE
  by_cases h : m < 0 ∨ n < 0 ∨ (m = 0 ∧ n > 0)
  · rw [if_pos h]; exact .inl rfl
  · rw [if_neg h]
    by_cases h1 : m = 1
    · rw [if_pos h1]
      exact .inr ⟨1, n.toNat, by omega, by omega, by simp, by simp, by simp, fun _ => by decide⟩
    · rw [if_neg h1]
      by_cases h0 : m = 0
      · subst h0
        have : n = 0 := by omega
        subst this
        exact .inr ⟨0, 0, rfl, rfl, by rfl, by decide, by decide, fun h => by omega⟩
      · rcases cntLoop_pow m (by omega) (min n 1048576).toNat 1 (by omega) (by omega) with e | ⟨e, e2, e3⟩
        · exact .inl e
        · have hmin : (min n 1048576).toNat = n.toNat := by omega
          rw [hmin] at e e2 e3 ⊢
          have hp : ((m.toNat ^ n.toNat : Nat) : Int) = m ^ n.toNat := by rw [Int.natCast_pow, Int.toNat_of_nonneg (by omega)]
          rw [Int.one_mul] at e
          refine .inr ⟨m.toNat, n.toNat, by omega, by omega, by rw [e, hp], ?_, ?_, fun _ => by omega⟩
          · have : (0 : Int) < ((m.toNat ^ n.toNat : Nat) : Int) := by rw [hp, ← e]; omega
            omega
          · have : ((m.toNat ^ n.toNat : Nat) : Int) ≤ 1048576 := by rw [hp, ← e]; omega
            omega

/-- The digit of a number that stands at a power. -/
def dig (m t k : Nat) : Nat := k / m ^ t % m
/-- A number's digits, the greatest first. -/
def digs (m n k : Nat) : List Int := (List.range n).map fun x => ((dig m (n - 1 - x) k : Nat) : Int)
theorem digs_len (m n k : Nat) : (digs m n k).length = n := by simp [digs]
theorem digs_at (m n k x : Nat) (h : x < n) : (digs m n k)[x]? = some ((dig m (n - 1 - x) k : Nat) : Int) := by simp [digs, h]

theorem dig_lt (m t k : Nat) (h : 0 < m) : dig m t k < m := Nat.mod_lt _ h
theorem dvd_dig {m t s k : Nat} (h : m ^ t ∣ k) (hs : s < t) (hm : 0 < m) : dig m s k = 0 := by
  obtain ⟨c, rfl⟩ := h
  unfold dig
  have e : m ^ t * c = m ^ s * (m * (m ^ (t - s - 1) * c)) := by
    have : m ^ t = m ^ s * (m * m ^ (t - s - 1)) := by
      rw [← Nat.pow_succ', ← Nat.pow_add]; congr 1; omega
    rw [this]; ac_rfl
  rw [e, Nat.mul_div_cancel_left _ (Nat.pow_pos hm), Nat.mul_mod_right]
/-- One more: below a carry all digits are null, at its end the digit grows, above it they stay. -/
theorem carry_end {m t k : Nat} (hm : 0 < m) (h : m ^ t ∣ k + 1) (hd : dig m t k + 1 < m) : dig m t (k + 1) = dig m t k + 1 ∧ ∀ s, t < s → dig m s (k + 1) = dig m s k := by
  obtain ⟨c, hc⟩ := h
  have hP : 0 < m ^ t := Nat.pow_pos hm
  have hc0 : 0 < c := by
    rcases Nat.eq_zero_or_pos c with h | h
    · subst h; simp at hc
    · exact h
  have hk : k = m ^ t * (c - 1) + (m ^ t - 1) := by
    have : m ^ t * c = m ^ t * (c - 1) + m ^ t := by rw [← Nat.mul_succ]; congr 1; omega
    omega
  have d0 : k / m ^ t = c - 1 := by
    rw [hk, Nat.mul_add_div hP, Nat.div_eq_of_lt (by omega), Nat.add_zero]
  have d1 : (k + 1) / m ^ t = c := by rw [hc, Nat.mul_div_cancel_left _ hP]
  unfold dig at hd ⊢
  rw [d0] at hd ⊢
  rw [d1]
  have hcm : c % m = (c - 1) % m + 1 := by
    have : c = (c - 1) + 1 := by omega
    rw [this, Nat.add_sub_cancel, Nat.add_mod]
    rw [Nat.mod_eq_of_lt (a := (c - 1) % m + 1 % m) (by
      rcases Nat.lt_or_ge 1 m with h | h
      · rw [Nat.mod_eq_of_lt h]; exact hd
      · obtain rfl : m = 1 := by omega
        omega)]
    rw [Nat.mod_eq_of_lt (a := 1) (by omega)]
  refine ⟨hcm, fun s hs => ?_⟩
  have e : m ^ s = m ^ t * (m * m ^ (s - t - 1)) := by rw [← Nat.pow_succ', ← Nat.pow_add]; congr 1; omega
  have hdv : c / m = (c - 1) / m := by
    have h1 := Nat.div_add_mod c m
    have h2 := Nat.div_add_mod (c - 1) m
    have : m * (c / m) = m * ((c - 1) / m) := by omega
    exact Nat.eq_of_mul_eq_mul_left hm this
  rw [e, ← Nat.div_div_eq_div_mul, ← Nat.div_div_eq_div_mul, ← Nat.div_div_eq_div_mul, ← Nat.div_div_eq_div_mul, d0, d1, hdv]
theorem carry_on {m t k : Nat} (hm : 0 < m) (h : m ^ t ∣ k + 1) (hd : dig m t k + 1 = m) : m ^ (t + 1) ∣ k + 1 := by
  obtain ⟨c, hc⟩ := h
  have hP : 0 < m ^ t := Nat.pow_pos hm
  have hc0 : 0 < c := by
    rcases Nat.eq_zero_or_pos c with h | h
    · subst h; simp at hc
    · exact h
  have hk : k = m ^ t * (c - 1) + (m ^ t - 1) := by
    have : m ^ t * c = m ^ t * (c - 1) + m ^ t := by rw [← Nat.mul_succ]; congr 1; omega
    omega
  have d0 : k / m ^ t = c - 1 := by
    rw [hk, Nat.mul_add_div hP, Nat.div_eq_of_lt (by omega), Nat.add_zero]
  unfold dig at hd
  rw [d0] at hd
  have h2 := Nat.div_add_mod (c - 1) m
  refine ⟨(c - 1) / m + 1, ?_⟩
  rw [hc, Nat.pow_succ, Nat.mul_assoc, Nat.mul_add]
  congr 1
  omega
end Go.Proofs.YtpclgelilnhjpaaGreatDoor

namespace Go.Proofs.YtpclgelilnhjpaaGreatDoor
open Go Go.RowKit Hst Go.Proofs

theorem mul_small {a m : Int} (h1 : 1 ≤ a) (h2 : a ≤ 1048576) (h3 : 0 ≤ m) (h4 : m ≤ 1099511627776) : IntKind.i64.wrap (a * m) = a * m := by
  have := Int.mul_nonneg (a := a) (b := m) (by omega) h3
  have := Int.mul_le_mul h2 h4 h3 (by omega)
  exact IntWalk.i64_in _ (by omega)

set_option maxHeartbeats 1600000 in
set_option maxRecDepth 100000 in
theorem ecount_any (m n : Int) (hm : m ≤ 1099511627776) (w : World) : Calls Tryz.prog 14 #[.int .i64 m, .int .i64 n] w fun e w' => e = .returned (.int .i64 (cntE m n)) ∧ w' = w := by
  by_cases h : m < 0 ∨ n < 0 ∨ (m = 0 ∧ n > 0)
  · have e : cntE m n = 0 := by unfold cntE; rw [if_pos h]
    rw [e]
    clear e
    go_enter Tryz.func14, Tryz.ntmps14
    go_wp2
    all_goals first
      | (go_returns; exact ⟨rfl, rfl⟩)
      | (exfalso; simp at *; omega)
  · by_cases h1 : m = 1
    · have e : cntE m n = 1 := by unfold cntE; rw [if_neg h, if_pos h1]
      rw [e]
      subst h1
      have hn : ¬ n < 0 := by omega
      clear e h
      go_enter Tryz.func14, Tryz.ntmps14
      go_wp2
      all_goals (go_returns; exact ⟨rfl, rfl⟩)
    · by_cases hm00 : m = 0
      · subst hm00
        obtain rfl : n = 0 := by omega
        rw [show cntE 0 0 = 1 by decide]
        clear h h1 hm
        go_enter Tryz.func14, Tryz.ntmps14
        go_wp2
        go_loopw [5, 25] (fun a i wr => wr = w ∧ a = .int .i64 1 ∧ i = .int .i64 0) (fun _ _ _ => 0)
        case atStart => exact ⟨rfl, rfl, rfl⟩
        case round =>
          obtain ⟨rfl, rfl, rfl⟩ := hrel
          go_wp2
          go_returns
          exact ⟨rfl, rfl⟩
      have e : cntE m n = cntLoop m (min n 1048576).toNat 1 := by unfold cntE; rw [if_neg h, if_neg h1]
      obtain ⟨tot, htot⟩ : ∃ tot, tot = cntE m n := ⟨_, rfl⟩
      rw [← htot]
      rw [← htot] at e
      obtain ⟨N, hN⟩ : ∃ N : Nat, min n 1048576 = (N : Int) := ⟨(min n 1048576).toNat, by omega⟩
      rw [hN, Int.toNat_natCast] at e
      have hm0 : 0 ≤ m := by omega
      have hmp : 2 ≤ m := by omega
      have hNb : N ≤ 1048576 := by omega
      have t1 : ¬ m < 0 := by omega
      have t2 : ¬ n < 0 := by omega
      have t3 : (m == 0) = false := by rw [beq_eq_false_iff_ne]; exact hm00
      have HE := Lib.hid e
      clear e htot h hm00
      go_enter Tryz.func14, Tryz.ntmps14
      go_wp2
      all_goals first
        | (exfalso; simp at *; omega)
        | (go_loopw [5, 25] (fun a i wr => wr = w ∧ ∃ (j : Nat) (acc : Int), j ≤ N ∧ i = .int .i64 j ∧ a = .int .i64 acc ∧ 1 ≤ acc ∧ acc ≤ 1048576 ∧ tot = cntLoop m (N - j) acc) (fun _ i _ => N - (intOf i).toNat)
           case atStart => exact ⟨rfl, 0, 1, Nat.zero_le _, rfl, rfl, by decide, by decide, HE.out⟩
           case round =>
             obtain ⟨rfl, j, acc, hj, rfl, rfl, ha1, ha2, hrel⟩ := hrel
             have hw := mul_small ha1 ha2 hm0 hm
             by_cases hlt : j < N
             · have hstep : cntLoop m (N - j) acc = if acc * m > 1048576 then 0 else cntLoop m (N - (j + 1)) (acc * m) := by
                 rw [show N - j = (N - (j + 1)) + 1 by omega]; rfl
               rw [hstep] at hrel
               have hpos : 1 ≤ acc * m := Int.le_trans (by omega : (1 : Int) ≤ 1 * 2) (Int.mul_le_mul ha1 hmp (by omega) (by omega))
               obtain ⟨q, hq⟩ : ∃ q, q = acc * m := ⟨_, rfl⟩
               rw [← hq] at hw hrel hpos
               have hwq : IntKind.i64.wrap (acc * m) = q := by rw [← hq] at *; exact hw
               clear hw hstep
               have HR := Lib.hid hrel
               have HQ := Lib.hid hq
               clear hrel hq
               by_cases hbig : q > 1048576
               · have hr := HR.out
                 rw [if_pos hbig] at hr
                 have HR2 := Lib.hid hr
                 have hbig : 1048576 < q := hbig
                 clear hr
                 go_wp2
                 go_returns
                 exact ⟨by rw [HR2.out]; rfl, rfl⟩
               · have hr := HR.out
                 rw [if_neg hbig] at hr
                 have HR2 := Lib.hid hr
                 have hbig : q ≤ 1048576 := by omega
                 clear hr
                 go_wp2
                 go_roundw
                 case rel => exact ⟨trivial, j + 1, q, by omega, by go_num, rfl, hpos, by omega, HR2.out⟩
                 case measure => simp [intOf]; omega
             · obtain rfl : j = N := by omega
               rw [Nat.sub_self] at hrel
               have hr : tot = acc := hrel
               subst hr
               clear hrel
               go_wp2
               go_returns
               exact ⟨rfl, rfl⟩)
end Go.Proofs.YtpclgelilnhjpaaGreatDoor
namespace Go.Proofs.YtpclgelilnhjpaaGreatDoor
open Go Go.RowKit Hst Go.Proofs

theorem ownsRow_set1 {w : World} {base e n cap g i : Nat} {xs : List Value} (h : w.ownsRow base e 1 (.slice (some ⟨g, 0, none⟩) n cap) n xs) (_hi : i < n) (u : Value) :
    (w.setCell ⟨g, i, none⟩ u).ownsRow base e 1 (.slice (some ⟨g, 0, none⟩) n cap) n (xs.set i u) := by
  obtain ⟨hl, h⟩ := h
  rcases h with ⟨h0, _⟩ | ⟨g', cap', cur, hv, hb, hg, hc, hm, hs, ht⟩
  · cases h0
  · simp only [Value.slice.injEq, Option.some.injEq, Addr.mk.injEq, and_true, true_and] at hv
    obtain ⟨rfl, rfl⟩ := hv
    refine ⟨by simpa using hl, .inr ⟨g, cap, cur.setIfInBounds i u, rfl, hb, heap_setCell_same w g i cur e u hg, hc, hm, by simpa using hs, ?_⟩⟩
    rw [← ht]
    simp [List.take_set]
theorem ownsRow_fr {w : World} {base e size n cap g : Nat} {xs : List Value} (h : w.ownsRow base e size (.slice (some ⟨g, 0, none⟩) n cap) n xs) : ∀ o, w.frozen? ⟨g, o, none⟩ = false := by
  rcases h.2 with ⟨h0, _⟩ | ⟨g', cap', cur, hv, _, hg, _⟩
  · cases h0
  · simp only [Value.slice.injEq, Option.some.injEq, Addr.mk.injEq, and_true, true_and] at hv
    obtain ⟨rfl, rfl⟩ := hv
    exact fun o => Lib.frozen_of_heap hg o
theorem ownsRow_lt {w : World} {base e size n cap g : Nat} {xs : List Value} (h : w.ownsRow base e size (.slice (some ⟨g, 0, none⟩) n cap) n xs) : base ≤ g ∧ g < w.heap.size ∧ n ≤ cap ∧ cap ≤ maxLen := by
  rcases h.2 with ⟨h0, _⟩ | ⟨g', cap', cur, hv, hb, hg, hc, hm, _⟩
  · cases h0
  · simp only [Value.slice.injEq, Option.some.injEq, Addr.mk.injEq, and_true, true_and] at hv
    obtain ⟨rfl, rfl⟩ := hv
    exact ⟨hb, box_lt hg, hc, hm⟩
theorem made_rep (n : Nat) : madeCells #[.int .i64 0] n = Array.replicate n (.int .i64 0) := by
  apply Array.ext
  · simp [madeCells]
  · intro i h1 h2
    simp [madeCells, Nat.mod_one]
theorem makeR (n : Nat) (hn : n ≤ 1048576) (w : World) : (Instr.makeSlice 63 (.int .i64 n) (.int .i64 n)).run Tryz.prog w = .ok (.slice (some ⟨w.heap.size, 0, none⟩) n n) (w.alloc (.cells (Array.replicate n (.int .i64 0)) 3)) := by
  obtain ⟨i0, hi, hz0, hz1, hz2⟩ := info_parts Tryz.infoInt
  have h := run_make (P := Tryz.prog) w 63 3 i0 (.int .i64 0) Tryz.underlying63 hi hz0 .i64 .i64 n n (by omega) (Int.le_refl _) (by rw [hz2]; omega) (by omega)
  simp only [Int.toNat_natCast, hz1, Nat.mul_one] at h
  rw [← made_rep]
  exact h
theorem row_new (w : World) (base n : Nat) (hb : base ≤ w.heap.size) (hn : n ≤ maxLen) : (w.alloc (.cells (Array.replicate n (.int .i64 0)) 3)).ownsRow base 3 1 (.slice (some ⟨w.heap.size, 0, none⟩) n n) n (List.replicate n (.int .i64 0)) :=
  ⟨by simp, .inr ⟨w.heap.size, n, Array.replicate n (.int .i64 0), rfl, hb, heap_alloc_new w _, Nat.le_refl _, hn, by simp, by simp⟩⟩

/-- A row on its way: the places from the end are filled. -/
def part (m n k j : Nat) : List Value := (List.range n).map fun x => if n - 1 - x < j then .int .i64 ((dig m (n - 1 - x) k : Nat) : Int) else .int .i64 0
theorem part_zero (m n k : Nat) : part m n k 0 = List.replicate n (.int .i64 0) := by simp [part, List.map_const']
theorem part_all (m n k : Nat) : part m n k n = ints (digs m n k) := by
  unfold part digs ints
  rw [List.map_map]
  apply List.map_congr_left
  intro x hx
  have : x < n := by simpa using hx
  rw [if_pos (by omega)]; rfl
theorem part_len (m n k j : Nat) : (part m n k j).length = n := by simp [part]
theorem part_succ (m n k j : Nat) (hj : j < n) : (part m n k j).set (n - 1 - j) (.int .i64 ((dig m j k : Nat) : Int)) = part m n k (j + 1) := by
  apply List.ext_getElem?
  intro x
  rw [List.getElem?_set, part_len]
  by_cases hx : x < n
  · by_cases e : n - 1 - j = x
    · rw [if_pos e, if_pos (by omega)]
      unfold part
      rw [List.getElem?_map, List.getElem?_range (by omega)]
      have : n - 1 - x = j := by omega
      simp [this]
    · rw [if_neg e]
      unfold part
      rw [List.getElem?_map, List.getElem?_map, List.getElem?_range hx]
      simp only [Option.map_some, Option.some.injEq]
      by_cases h : n - 1 - x < j
      · rw [if_pos h, if_pos (by omega)]
      · rw [if_neg h, if_neg (by omega)]
  · rw [if_neg (by omega), List.getElem?_eq_none (by rw [part_len]; omega), List.getElem?_eq_none (by rw [part_len]; omega)]

theorem div_pow_succ (k m j : Nat) : k / m ^ j / m = k / m ^ (j + 1) := by rw [Nat.div_div_eq_div_mul, Nat.pow_succ]

set_option maxHeartbeats 1600000 in
set_option maxRecDepth 100000 in
/-- No order. -/
theorem order_none (m n i : Int) (hm : m ≤ 1099511627776) (h : i < 0 ∨ i ≥ cntE m n) (w : World) :
    Calls Tryz.prog 37 #[.int .i64 m, .int .i64 n, .int .i64 i] w fun e w' => e = .returned (.slice none 0 0) ∧ w' = w := by
  have hc := fun w => ecount_any m n hm w
  generalize cntE m n = c at *
  have HC := Lib.hid hc
  clear hc hm
  by_cases h0 : i < 0
  · clear h
    go_enter Tryz.func37, Tryz.ntmps37
    go_wp2
    go_returns
    exact ⟨rfl, rfl⟩
  · have h1 : c ≤ i := by omega
    have h2 : 0 ≤ i := by omega
    clear h h0
    go_enter Tryz.func37, Tryz.ntmps37
    go_wp2_with fail
    refine (HC.out w).mono ?_
    rintro e w1 ⟨rfl, hw⟩
    have hw := hw.symm
    subst hw
    go_wp2
    go_returns
    exact ⟨rfl, rfl⟩

set_option maxHeartbeats 3200000 in
set_option maxRecDepth 100000 in
theorem order_any (M N k : Nat) (hM : M ≤ 1099511627776) (hN : N ≤ 1048576) (hp : 0 < N → 0 < M) (hc : cntE M N = ((M ^ N : Nat) : Int)) (hk : k < M ^ N) (w : World) (base : Nat) (hb : base ≤ w.heap.size) (hkb : k < 1048576) :
    Calls Tryz.prog 37 #[.int .i64 M, .int .i64 N, .int .i64 k] w fun e w' => ∃ v, e = .returned v ∧ w'.ownsRow base 3 1 v N (ints (digs M N k)) ∧ Below w.heap.size w w' := by
  have hcn := fun w => ecount_any M N (by omega) w
  rw [hc] at hcn
  generalize M ^ N = c at *
  have HC := Lib.hid hcn
  have h2 : (k : Int) < c := by omega
  have HP := Lib.hid hp
  clear hcn hc hp
  have hB := Lib.hid (below_alloc w (.cells (Array.replicate N (.int .i64 0)) 3))
  have hmk := makeR N hN w
  have hR := Lib.hid (row_new w base N hb (by unfold maxLen; omega))
  go_enter Tryz.func37, Tryz.ntmps37
  go_wp2_with fail
  refine (HC.out w).mono ?_
  rintro e w1 ⟨rfl, hw⟩
  have hw := hw.symm
  subst hw
  go_wp2
  go_loopw [2, 26] (fun i j wr => ∃ (t : Nat), t ≤ N ∧ j = .int .i64 t ∧ i = .int .i64 ((k / M ^ t : Nat) : Int) ∧ wr.ownsRow base 3 1 (.slice (some ⟨w.heap.size, 0, none⟩) N N) N (part M N k t) ∧ Below w.heap.size w wr) (fun _ j _ => N - (intOf j).toNat)
  case atStart => exact ⟨0, Nat.zero_le _, rfl, by rw [Nat.pow_zero, Nat.div_one], by rw [part_zero]; exact hR.out, hB.out⟩
  case round =>
    obtain ⟨t, ht, rfl, rfl, hrow, hbl⟩ := hrel
    by_cases hlt : t < N
    · have hM0 : 0 < M := HP.out (by omega)
      have hfr := ownsRow_fr hrow
      obtain ⟨hb1, hb2, _, hb4⟩ := ownsRow_lt hrow
      have hx := (hrow.cellAt (N - 1 - t) (by omega))
      rw [List.getElem?_eq_getElem (by rw [part_len]; omega)] at hx
      have hq : k / M ^ t ≤ k := Nat.div_le_self _ _
      obtain ⟨q, hqq⟩ : ∃ q, q = k / M ^ t := ⟨_, rfl⟩
      have hd1 : (q : Int).tmod M = ((dig M t k : Nat) : Int) := by unfold dig; rw [← hqq]; rfl
      have hd2 : (q : Int).tdiv M = ((k / M ^ (t + 1) : Nat) : Int) := by rw [← div_pow_succ, ← hqq]; rfl
      have hlt2 := dig_lt M t k hM0
      have hq3 : k / M ^ (t + 1) ≤ k := Nat.div_le_self _ _
      have hrow2 := ownsRow_set1 hrow (i := N - 1 - t) (by omega) (.int .i64 ((dig M t k : Nat) : Int))
      rw [part_succ M N k t hlt] at hrow2
      have hbl2 : Below w.heap.size w (wr.setCell ⟨w.heap.size, N - 1 - t, none⟩ (.int .i64 ((dig M t k : Nat) : Int))) := hbl.setCell (by simp) _
      rw [← hqq] at hq ⊢
      have hidx : (N : Int) - 1 - (t : Int) = ((N - 1 - t : Nat) : Int) := by omega
      generalize dig M t k = d at *
      generalize hq2 : k / M ^ (t + 1) = q2 at *
      have HQ2 := Lib.hid hq2
      clear hq2
      have HR2 := Lib.hid hrow2
      have HB2 := Lib.hid hbl2
      have HQ := Lib.hid hqq
      clear hrow2 hbl2 hqq hrow hbl
      go_wp2
      go_roundw
      case rel => exact ⟨t + 1, by omega, by go_num, by rw [HQ2.out], HR2.out, HB2.out⟩
      case measure => simp [intOf]; omega
    · obtain rfl : t = N := by omega
      rw [part_all] at hrow
      have HR2 := Lib.hid hrow
      have HB2 := Lib.hid hbl
      clear hrow hbl
      go_wp2
      go_returns
      exact ⟨_, rfl, HR2.out, HB2.out⟩
end Go.Proofs.YtpclgelilnhjpaaGreatDoor

namespace Go.Proofs.YtpclgelilnhjpaaGreatDoor
open Go Go.RowKit Hst Go.Proofs

theorem ownsRow_below {w w' : World} {base e size n : Nat} {v : Value} {xs : List Value} (h : w.ownsRow base e size v n xs) (hb : Below w.heap.size w w') : w'.ownsRow base e size v n xs := by
  obtain ⟨hl, h⟩ := h
  refine ⟨hl, ?_⟩
  rcases h with h | ⟨g, cap, cur, hv, hb1, hg, hc⟩
  · exact .inl h
  · exact .inr ⟨g, cap, cur, hv, hb1, (hb.block g (box_lt hg)).trans hg, hc⟩
theorem Below_drewN {B : Nat} {w w' : World} (h : Below B w w') (n : Nat) : Below B w (w'.drewN n) := ⟨h.os, h.tape, h.output, h.size, h.block⟩
theorem ints_len (l : List Int) : (ints l).length = l.length := by simp [ints]
theorem ints_at (l : List Int) (j : Nat) (h : j < l.length) : (ints l)[j]? = some (.int .i64 l[j]) := by simp [ints, h]

set_option maxHeartbeats 1600000 in
set_option maxRecDepth 100000 in
theorem same_any (l1 l2 : List Int) (v1 v2 : Value) (b1 b2 : Nat) (w : World) (h1 : w.ownsRow b1 3 1 v1 l1.length (ints l1)) (h2 : w.ownsRow b2 3 1 v2 l2.length (ints l2)) (hbig : l1.length ≤ 4294967296) :
    Calls Tryz.prog 36 #[v1, v2] w fun e w' => e = .returned (.bool (l1 == l2)) ∧ Below w.heap.size w w' := by
  obtain ⟨a1, c1, rfl⟩ := ownsRow_slice h1
  obtain ⟨a2, c2, rfl⟩ := ownsRow_slice h2
  by_cases hlen : l1.length = l2.length
  · have HL := Lib.hid hlen
    have H1 := Lib.hid h1
    have H2 := Lib.hid h2
    obtain ⟨n, hn⟩ : ∃ n, n = l1.length := ⟨_, rfl⟩
    rw [← hlen, ← hn]
    rw [← hn] at hbig
    have HN := Lib.hid hn
    have HB0 := Lib.hid (Below.refl w.heap.size w)
    clear hlen h1 h2 hn
    go_enter Tryz.func36, Tryz.ntmps36
    go_wp2
    go_loopw [13] (fun j wr => ∃ t : Nat, t ≤ n ∧ j = .int .i64 t ∧ (∀ x, x < t → l1[x]? = l2[x]?) ∧ Below w.heap.size w wr) (fun j _ => n - (intOf j).toNat)
    case atStart => exact ⟨0, Nat.zero_le _, rfl, fun x hx => by omega, HB0.out⟩
    case round =>
      obtain ⟨t, ht, rfl, hpre, hbl⟩ := hrel
      by_cases hlt : t < n
      · have hN := HN.out
        have hL := HL.out
        have r1 := ownsRow_below H1.out hbl
        have r2 := ownsRow_below H2.out hbl
        obtain ⟨g1, k1, e1, _, _, hc1⟩ := ownsRow_some r1 (by omega)
        obtain ⟨g2, k2, e2, _, _, hc2⟩ := ownsRow_some r2 (by omega)
        simp only [Value.slice.injEq] at e1 e2
        obtain ⟨rfl, _, rfl⟩ := e1
        obtain ⟨rfl, _, rfl⟩ := e2
        have x1 := (r1.cellAt t (by omega)).trans (ints_at l1 t (by omega))
        have x2 := (r2.cellAt t (by omega)).trans (ints_at l2 t (by omega))
        have hg1 : l1[t]? = some l1[t] := List.getElem?_eq_getElem (by omega)
        have hg2 : l2[t]? = some l2[t] := List.getElem?_eq_getElem (by omega)
        generalize l1[t] = y1 at *
        generalize l2[t] = y2 at *
        have G1 := Lib.hid hg1
        have G2 := Lib.hid hg2
        have HP := Lib.hid hpre
        have HB := Lib.hid hbl
        clear r1 r2 hg1 hg2 hpre hbl hN hL
        by_cases hy : y1 = y2
        · subst hy
          go_wp2
          go_quiet (fail)
          go_wp2
          go_roundw
          case rel => exact ⟨t + 1, by omega, by go_num, fun x hx => by
            rcases Nat.lt_or_ge x t with h | h
            · exact HP.out x h
            · obtain rfl : x = t := by omega
              exact G1.out.trans G2.out.symm, Below_drewN HB.out _⟩
          case measure => simp [intOf]; omega
        · have hy2 : (y1 == y2) = false := by rw [beq_eq_false_iff_ne]; exact hy
          have HY := Lib.hid hy
          clear hy
          go_wp2
          go_quiet (fail)
          go_wp2
          go_returns
          refine ⟨congrArg (fun b => Ending.returned (.bool b)) ?_, Below_drewN HB.out _⟩
          symm
          rw [beq_eq_false_iff_ne]
          intro e
          have := G2.out
          rw [← e, G1.out] at this
          exact HY.out (Option.some.inj this)
      · obtain rfl : t = n := by omega
        have e : l1 = l2 := by
          have hN := HN.out
          have hL := HL.out
          apply List.ext_getElem?
          intro x
          rcases Nat.lt_or_ge x t with h | h
          · exact hpre x h
          · rw [List.getElem?_eq_none (by omega), List.getElem?_eq_none (by omega)]
        have HB := Lib.hid hbl
        clear hpre hbl
        go_wp2
        go_returns
        exact ⟨by rw [e]; simp, HB.out⟩
  · have e : (l1 == l2) = false := by rw [beq_eq_false_iff_ne]; intro e; rw [e] at hlen; exact hlen rfl
    rw [e]
    have hne : ((l1.length : Int) == (l2.length : Int)) = false := by rw [beq_eq_false_iff_ne]; omega
    generalize l1.length = n1 at *
    generalize l2.length = n2 at *
    clear h1 h2 e hlen hbig
    go_enter Tryz.func36, Tryz.ntmps36
    go_wp2
    go_returns
    exact ⟨rfl, Below.refl _ _⟩
end Go.Proofs.YtpclgelilnhjpaaGreatDoor
namespace Go.Proofs.YtpclgelilnhjpaaGreatDoor
open Go Go.RowKit Hst Go.Proofs

theorem digs_zero (m n : Nat) : digs m n 0 = List.replicate n 0 := by
  unfold digs dig
  apply List.ext_getElem?
  intro x
  simp only [List.getElem?_map, Nat.zero_div, Nat.zero_mod]
  by_cases h : x < n
  · simp [h]
  · simp [h]

set_option maxHeartbeats 1600000 in
set_option maxRecDepth 100000 in
theorem lives28_any (N : Nat) (w : World) (T : Tabs N w) : Calls Tryz.prog 13 #[] w fun e w' => e = .returned (.bool true) ∧ Below w.heap.size w w' := by
  have hl := lives_any N w T
  have ho := fun w => order_any 2 3 5 (by decide) (by decide) (by decide) (by decide) (by decide) w w.heap.size (Nat.le_refl _) (by decide)
  rw [show digs 2 3 5 = [1, 0, 1] by decide] at ho
  have HL := Lib.hid hl
  have HO := Lib.hid ho
  clear hl ho T
  go_enter Tryz.func13, Tryz.ntmps13
  go_wp2_with fail
  refine HL.out.mono ?_
  rintro e w1 ⟨rfl, b1⟩
  have B1 := Lib.hid b1
  clear b1
  go_wp2_with fail
  refine (HO.out w1).mono ?_
  rintro e w2 ⟨v, rfl, hr, b2⟩
  have B2 := Lib.hid (B1.out.trans (b2.mono B1.out.size))
  have hv : (w2.alloc (.cells #[.int .i64 1, .int .i64 0, .int .i64 1] 3)).ownsRow 0 3 1 (.slice (some ⟨w2.heap.size, 0, none⟩) 3 3) [(1 : Int), 0, 1].length (ints [1, 0, 1]) :=
    ⟨by simp [ints], .inr ⟨w2.heap.size, 3, #[.int .i64 1, .int .i64 0, .int .i64 1], rfl, Nat.zero_le _, heap_alloc_new w2 _, by simp, by decide, by simp, by simp [ints]⟩⟩
  have hs := same_any [1, 0, 1] [1, 0, 1] v (.slice (some ⟨w2.heap.size, 0, none⟩) 3 3) w1.heap.size 0 (w2.alloc (.cells #[.int .i64 1, .int .i64 0, .int .i64 1] 3)) (ownsRow_below hr (below_alloc w2 _)) hv (by decide)
  have HS := Lib.hid hs
  clear hs hv hr b2 B1
  go_wp2_with fail
  refine HS.out.mono ?_
  rintro e w3 ⟨rfl, b3⟩
  have B3 := Lib.hid (B2.out.trans (((Below.refl _ w2).alloc (Nat.le_refl _) _).trans (b3.mono (by simp)) |>.mono B2.out.size))
  clear b3
  go_wp2
  go_returns
  exact ⟨rfl, B3.out⟩
end Go.Proofs.YtpclgelilnhjpaaGreatDoor

namespace Go.Proofs.YtpclgelilnhjpaaGreatDoor
open Go Go.RowKit Hst Go.Proofs
set_option maxHeartbeats 1600000 in
set_option maxRecDepth 100000 in
theorem new_bad (p m g : Int) (h : rightI p m g = false) (w : World) :
    Calls Tryz.prog 11 #[.agg #[.int .i64 p, .int .i64 m, .int .i64 g]] w fun e w' => e = .returned (.tuple #[.pointer none, .int .i64 1]) ∧ Below w.heap.size w w' := by
  have hc := fun w => right_c p m g w
  rw [h] at hc
  have HC := Lib.hid hc
  clear hc h
  go_enter Tryz.func11, Tryz.ntmps11
  go_wp2_with fail
  refine (HC.out _).mono ?_
  rintro e w1 ⟨rfl, hw1⟩
  have hB1 : Below w.heap.size w w1 := by rw [hw1]; exact ((Below.refl _ w).alloc (Nat.le_refl _) _).alloc (by simp) _
  have HB1 := Lib.hid hB1
  clear hw1 hB1
  go_wp2
  go_returns
  exact ⟨rfl, HB1.out⟩

theorem right_dims {p m g : Int} (h : rightI p m g = true) : ∃ P M G : Nat, p = P ∧ m = M ∧ g = G ∧ dims P M G := by
  unfold rightI at h
  simp at h
  exact ⟨p.toNat, m.toNat, g.toNat, by omega, by omega, by omega, by unfold dims; omega⟩

end Go.Proofs.YtpclgelilnhjpaaGreatDoor
namespace Go.Proofs.YtpclgelilnhjpaaGreatDoor
open Go Go.RowKit Hst Go.Proofs

set_option maxHeartbeats 1600000 in
set_option maxRecDepth 100000 in
theorem ecount_big (m n : Int) (hm : 1048576 < m) (hmi : m ≤ 9223372036854775807) (w : World) : Calls Tryz.prog 14 #[.int .i64 m, .int .i64 n] w fun e w' => (∃ c, e = .returned (.int .i64 c)) ∧ w' = w := by
  have t1 : ¬ m < 0 := by omega
  have t3 : (m == 0) = false := by rw [beq_eq_false_iff_ne]; omega
  have t4 : (m == 1) = false := by rw [beq_eq_false_iff_ne]; omega
  have hw : IntKind.i64.wrap (1 * m) = m := by rw [Int.one_mul]; exact IntWalk.i64_in _ (by omega)
  have hw2 : IntKind.i64.wrap m = m := IntWalk.i64_in _ (by omega)
  by_cases hn : n < 0
  · go_enter Tryz.func14, Tryz.ntmps14
    go_wp2
    all_goals first
      | (go_returns; exact ⟨⟨_, rfl⟩, rfl⟩)
  · obtain ⟨N, hN⟩ : ∃ N : Nat, min n 1048576 = (N : Int) := ⟨(min n 1048576).toNat, by omega⟩
    have hNb : N ≤ 1048576 := by omega
    go_enter Tryz.func14, Tryz.ntmps14
    go_wp2
    all_goals first
      | (exfalso; simp at *; omega)
      | (go_loopw [5, 25] (fun a i wr => wr = w ∧ a = .int .i64 1 ∧ i = .int .i64 0) (fun _ _ _ => 0)
         case atStart => exact ⟨rfl, rfl, rfl⟩
         case round =>
           obtain ⟨rfl, rfl, rfl⟩ := hrel
           by_cases hp : 0 < N
           · have hpi : (0 : Int) < N := by omega
             go_wp2
             go_returns
             exact ⟨⟨_, rfl⟩, rfl⟩
           · obtain rfl : N = 0 := by omega
             go_wp2
             go_returns
             exact ⟨⟨_, rfl⟩, rfl⟩)
end Go.Proofs.YtpclgelilnhjpaaGreatDoor
