/-
  Contracts of what makes the parts of a world.
-/
import Derived.Test.YtfjepdcnikgjeaaGreatDoorIdle
set_option linter.unusedVariables false
set_option linter.unusedSimpArgs false
set_option linter.unusedSectionVars false
namespace Go.Proofs.YtfjepdcnikgjeaaGreatDoor
open Go Go.RowKit Hst Go.Proofs

theorem cell_new (w : World) (cs : Array Value) (t : TypeId) (o : Nat) : (w.alloc (.cells cs t)).cell? ⟨w.heap.size, o, none⟩ = cs[o]? := World.cell?_alloc_new w cs t o
theorem fr_new (w : World) (cs : Array Value) (t : TypeId) (o : Nat) : (w.alloc (.cells cs t)).frozen? ⟨w.heap.size, o, none⟩ = false := World.frozen?_alloc_new w cs t o
theorem below_alloc (w : World) (o : Obj) : Below w.heap.size w (w.alloc o) := (Below.refl _ w).alloc (Nat.le_refl _) o
theorem below_trans {a b c : World} (h : Below a.heap.size a b) (k : Below b.heap.size b c) : Below a.heap.size a c := h.trans (k.mono h.size)

theorem Tryz.infoU64 : (Tryz.prog.info? 97).map (fun i => (i.zero, i.size, i.bytes)) = some (some (.int .u64 0), 1, 8) := by kernel_rfl

theorem Tryz.infoHeap : (Tryz.prog.info? 358).map (fun i => (i.zero, i.size, i.bytes)) = some (some (.agg #[.slice none 0 0]), 1, 24) := by kernel_rfl

theorem gnew_any (n : Nat) (hn : 1 ≤ n ∧ n ≤ 64) (w : World) :
    Calls Tryz.prog 101 #[.int .i64 n] w fun e w' => ∃ b, e = .returned (.pointer (some ⟨b, 0, none⟩)) ∧ GlobAt (fun x => w.heap.size ≤ x) b w' n [] ∧ Below w.heap.size w w' := by
  have e1 : max (1 : Int) (n : Int) = n := by omega
  have e2 : min (n : Int) 64 = n := by omega
  go_enter Tryz.func101, Tryz.ntmps101
  go_wp2
  go_ret
  exact ⟨_, rfl, ⟨Nat.le_refl _, ⟨.slice none 0 0, cell_new _ _ _ _, World.ownsRow_nil _ _ _ _, (fun x hx => by cases hx), by simp [Value.ownBlock]⟩, cell_new _ _ _ _, fun o => fr_new _ _ _ _⟩, below_alloc _ _⟩

theorem rnew_any (w : World) :
    Calls Tryz.prog 105 #[] w fun e w' => ∃ b, e = .returned (.pointer (some ⟨b, 0, none⟩)) ∧ w.heap.size ≤ b ∧ RingAt b w' Ring.new ∧ Below w.heap.size w w' := by
  go_enter Tryz.func105, Tryz.ntmps105
  go_wp2
  go_ret
  refine ⟨_, rfl, Nat.le_refl _, ⟨0, ?_⟩, below_alloc _ _⟩
  have hz : Tryz.zeroCells247 = Array.replicate 258 (.int .i64 0) ++ #[.bool false, .int .i64 0, .int .i64 0] := by kernel_rfl
  rw [hz]
  have hc : ∀ o, o < 258 → (w.alloc (.cells ((Array.replicate 258 (Value.int .i64 0) ++ #[Value.bool false, Value.int .i64 0, Value.int .i64 0]).setIfInBounds 259 (.int .i64 (-1))) 247)).cell? ⟨w.heap.size, o, none⟩ = some (.int .i64 0) := fun o ho => by
    rw [cell_new, Array.getElem?_setIfInBounds_ne (by omega), Array.getElem?_append_left (by simpa using ho)]
    simp [ho]
  refine ⟨by decide, by simp [Ring.new], fun k hk => ⟨0, ?_⟩, fun k hk => by simp [Ring.new] at hk, ?_, ?_, ?_, ?_, ?_, fun o => fr_new _ _ _ _, by simp [Ring.new]⟩
  · exact hc k (by omega)
  · rw [hc 256 (by decide)]; rfl
  · rw [hc 257 (by decide)]; rfl
  · rw [cell_new]; simp [Ring.new]
  · rw [cell_new]; simp [Ring.new]
  · rw [cell_new]; simp [Ring.new]

theorem cnew_any (n : Nat) (hn : n ≤ 65536) (w : World) :
    Calls Tryz.prog 104 #[.int .i64 n] w fun e w' => ∃ b r, e = .returned (.pointer (some ⟨b, 0, none⟩)) ∧ w.heap.size ≤ b ∧ w.heap.size ≤ r ∧ b ≠ r ∧
      w'.cell? ⟨b, 0, none⟩ = some (.slice (some ⟨r, 0, none⟩) n n) ∧ w'.cell? ⟨b, 1, none⟩ = some (.int .i64 0) ∧ (∀ a, a < n → w'.cell? ⟨r, a, none⟩ = some (.int .u64 0)) ∧ (∀ o, w'.frozen? ⟨b, o, none⟩ = false) ∧ (∀ o, w'.frozen? ⟨r, o, none⟩ = false) ∧ Below w.heap.size w w' := by
  have e1 : max (0 : Int) (n : Int) = n := by omega
  have e2 : min (n : Int) 65536 = n := by omega
  obtain ⟨i0, hi, hz0, hz1, hz2⟩ := info_parts Tryz.infoU64
  have hmk := run_make (P := Tryz.prog) w 160 97 i0 (.int .u64 0) Tryz.underlying160 hi hz0 .i64 .i64 n n (by omega) (Int.le_refl _) (by rw [hz2]; omega) (by omega)
  simp only [Int.toNat_natCast, hz1, Nat.mul_one] at hmk
  go_enter Tryz.func104, Tryz.ntmps104
  go_wp2
  go_ret
  refine ⟨_, w.heap.size, rfl, by omega, Nat.le_refl _, by omega, ?_, ?_, ?_, ?_, ?_, ((below_alloc _ _).trans ((below_alloc _ _).mono (by simp)))⟩
  · rw [World.cell?_alloc_at _ _ _ _ (by simp)]; rfl
  · rw [World.cell?_alloc_at _ _ _ _ (by simp)]; rfl
  · intro a ha
    rw [World.cell?_alloc_past _ _ _ (by simp), World.cell?_alloc_at _ _ _ _ rfl]
    simp [madeCells, ha, Nat.mod_one]
  · intro o; exact World.frozen?_alloc_at _ _ _ _ (by simp)
  · intro o; rw [World.frozen?_alloc_old _ _ _ (by simp)]; exact fr_new _ _ _ _

theorem mnew_any (n : Nat) (hn : 1 ≤ n ∧ n ≤ 64) (w : World) :
    Calls Tryz.prog 146 #[.int .i64 n] w fun e w' => ∃ b r, e = .returned (.pointer (some ⟨b, 0, none⟩)) ∧ w.heap.size ≤ b ∧ w.heap.size ≤ r ∧ b ≠ r ∧
      w'.cell? ⟨b, 0, none⟩ = some (.int .i64 n) ∧ w'.cell? ⟨b, 1, none⟩ = some (.slice (some ⟨r, 0, none⟩) 1 1) ∧ w'.cell? ⟨r, 0, none⟩ = some (.int .u64 0) ∧ (∀ o, w'.frozen? ⟨b, o, none⟩ = false) ∧ (∀ o, w'.frozen? ⟨r, o, none⟩ = false) ∧ Below w.heap.size w w' := by
  have e1 : max (0 : Int) (n : Int) = n := by omega
  have e2 : min (n : Int) 4096 = n := by omega
  have e3 : ((n : Int) + 64 - 1) / 64 = 1 := by omega
  have e4 : ((n : Int) + 63) / 64 = 1 := by omega
  obtain ⟨i0, hi, hz0, hz1, hz2⟩ := info_parts Tryz.infoU64
  have hmk := run_make (P := Tryz.prog) w 160 97 i0 (.int .u64 0) Tryz.underlying160 hi hz0 .i64 .i64 1 1 (by omega) (Int.le_refl _) (by rw [hz2]; omega) (by omega)
  simp only [Int.toNat_one, hz1, Nat.mul_one] at hmk
  go_enter Tryz.func146, Tryz.ntmps146
  go_wp2
  go_ret
  refine ⟨_, w.heap.size, rfl, by omega, Nat.le_refl _, by omega, ?_, ?_, ?_, ?_, ?_, ((below_alloc _ _).trans ((below_alloc _ _).mono (by simp)))⟩
  · rw [World.cell?_alloc_at _ _ _ _ (by simp)]; rfl
  · rw [World.cell?_alloc_at _ _ _ _ (by simp)]; rfl
  · rw [World.cell?_alloc_past _ _ _ (by simp), World.cell?_alloc_at _ _ _ _ rfl]
    simp [madeCells]
  · intro o; exact World.frozen?_alloc_at _ _ _ _ (by simp)
  · intro o; rw [World.frozen?_alloc_old _ _ _ (by simp)]; exact fr_new _ _ _ _

theorem inew_any (n m : Nat) (hn : 1 ≤ n ∧ n ≤ 64) (hm : 1 ≤ m ∧ m ≤ 128) (w : World) :
    Calls Tryz.prog 103 #[.int .i64 n, .int .i64 m] w fun e w' => ∃ b, e = .returned (.pointer (some ⟨b, 0, none⟩)) ∧ IdleAt (fun x => w.heap.size ≤ x) b w' n m { p := 0, pending := [], m := [], poller := -1 } ∧ Below w.heap.size w w' := by
  have e1 : max (1 : Int) (n : Int) = n := by omega
  have e2 : min (n : Int) 64 = n := by omega
  have e3 : max (1 : Int) (m : Int) = m := by omega
  have e4 : min (m : Int) 128 = m := by omega
  go_enter Tryz.func103, Tryz.ntmps103
  go_wp2_with fail
  refine (mnew_any n hn w).mono ?_
  rintro e w1 ⟨mk, mw, rfl, h1, h2, h3, k0, k1, kw, f1, f2, hb⟩
  have l1 := World.block_lt_of_cell? w1 _ k0
  have l2 := World.block_lt_of_cell? w1 _ kw
  simp only at l1 l2
  go_wp2
  go_ret
  refine ⟨_, rfl, ⟨mk, mw, ⟨hb.size, h1, h2⟩, ⟨by omega, by omega, h3⟩, cell_new _ _ _ _, ⟨.slice none 0 0, .slice none 0 0, cell_new _ _ _ _, cell_new _ _ _ _, World.ownsRow_nil _ _ _ _, World.ownsRow_nil _ _ _ _, (fun x hx => by cases hx), (fun x hx => by cases hx), (fun x hx => by cases hx), (fun x hx => by cases hx)⟩, cell_new _ _ _ _, cell_new _ _ _ _, ?_, ?_, ?_, ⟨fun o => fr_new _ _ _ _, ?_, ?_⟩, Nat.two_pow_pos n, hn.2⟩, hb.trans ((below_alloc _ _).mono hb.size)⟩
  · rw [World.cell?_alloc_past _ _ _ l1]; exact k0
  · rw [World.cell?_alloc_past _ _ _ l1]; exact k1
  · rw [World.cell?_alloc_past _ _ _ l2]; exact kw
  · intro o; rw [World.frozen?_alloc_old _ _ _ (by simp; omega)]; exact f1 o
  · intro o; rw [World.frozen?_alloc_old _ _ _ (by simp; omega)]; exact f2 o

theorem snew_any (n : Nat) (hn : 1 ≤ n ∧ n ≤ 64) (w : World) :
    Calls Tryz.prog 102 #[.int .i64 n] w fun e w' => ∃ b, e = .returned (.pointer (some ⟨b, 0, none⟩)) ∧ SrcAt (fun x => w.heap.size ≤ x) b w' Src.new ∧ Below w.heap.size w w' := by
  have e1 : max (1 : Int) (n : Int) = n := by omega
  have e2 : min (n : Int) 64 = n := by omega
  have hmm := @run_makeMap Tryz.prog
  obtain ⟨i0, hi, hz0, hz1, hz2⟩ := info_parts Tryz.infoHeap
  have hmk := run_make (P := Tryz.prog) w 296 358 i0 (.agg #[.slice none 0 0]) Tryz.underlying296 hi hz0 .i64 .i64 n n (by omega) (Int.le_refl _) (by rw [hz2]; omega) (by omega)
  simp only [Int.toNat_natCast, hz1, Nat.mul_one] at hmk
  go_enter Tryz.func102, Tryz.ntmps102
  go_wp2
  go_ret
  exact ⟨_, rfl, ⟨by omega, by simp⟩, by repeat (first | exact Below.refl _ _ | refine Below.alloc ?_ (by simp <;> omega) _)⟩
end Go.Proofs.YtfjepdcnikgjeaaGreatDoor
