/-
  Contracts of the queue's functions, and of the batch's in it.
-/
import Derived.Test.YtfjepdcnikgjeaaGreatDoorRing3
namespace Go.Proofs.YtfjepdcnikgjeaaGreatDoor
open Go Go.RowKit Hst Go.Proofs

/-- The row's first ones, cloned. -/
theorem clone_first (v : Value) (k base : Nat) (l : List Int) (w : World) (hown : w.ownsRow base 3 1 v l.length (ints l)) (hk : k ≤ l.length) (hn : l.length * 8 ≤ 140737488355328) :
    ∀ c, Calls Tryz.prog 155 #[match v with | .slice a _ _ => .slice a k c | x => x] w fun e w' =>
      ∃ v', e = .returned v' ∧ w'.ownsRow w.heap.size 3 1 v' k (ints (l.take k)) ∧ Below w.heap.size w w' := by
  intro c
  rcases hown.2 with ⟨rfl, h0⟩ | ⟨g, cap, cur, rfl, hb, hg, hc, hm, hs, ht⟩
  · refine (Tryz.slices_Clone_int_nil _ _ _).mono ?_
    rintro e w' ⟨rfl, rfl⟩
    obtain rfl : k = 0 := by omega
    exact ⟨_, rfl, by simpa [ints] using World.ownsRow_nil _ _ _ _, Below.refl _ _⟩
  · have hcell : ∀ j, j < l.length → w.cell? ⟨g, 0 + j, none⟩ = some (.int .i64 (l.getD j 0)) := fun j hj => by
      rw [Nat.zero_add, hown.cellAt j (by simpa using hj)]; simp [ints, List.getD_eq_getElem?_getD, List.getElem?_eq_getElem hj]
    refine (Tryz.slices_Clone_int g 0 k c l w hk (by omega) hcell).mono ?_
    rintro e w' ⟨v', rfl, hown', _, hb'⟩
    exact ⟨v', rfl, hown', hb'⟩

set_option maxRecDepth 100000 in
set_option maxHeartbeats 1600000 in
theorem takeMost_any (S : Nat → Prop) (b : Nat) (n : Int) (m : Nat) (l : List Int) (w : World) (hS : S b) (h : RowAt S b 0 w l) (hf : ∀ o, w.frozen? ⟨b, o, none⟩ = false) (hbig : l.length ≤ 4294967296)
    (hm : min (max 0 n) (l.length : Int) = (m : Int)) :
    Calls Tryz.prog 241 #[.pointer (some ⟨b, 0, none⟩), .int .i64 n] w fun e w' =>
      ∃ v, e = .returned v ∧ w'.ownsRow w.heap.size 3 1 v m (ints (l.take m)) ∧ RowAt S b 0 w' (l.drop m) ∧ Mod S w w' ∧
        (∀ o, o ≠ 0 → w'.cell? ⟨b, o, none⟩ = w.cell? ⟨b, o, none⟩) ∧ (∀ o, w'.frozen? ⟨b, o, none⟩ = false) := by
  obtain ⟨v, c0, hown, hin, hne⟩ := h
  have hbl := World.block_lt_of_cell? w _ c0
  have hml : m ≤ l.length := by omega
  have hclone := clone_first v m 0 l w hown hml (by omega)
  rcases hown.2 with ⟨rfl, h0⟩ | ⟨g, cap, cur, rfl, hb, hg, hc, hm2, hs, ht⟩
  · have hl : l = [] := List.eq_nil_of_length_eq_zero h0
    subst hl
    obtain rfl : m = 0 := by simp at hml; omega
    have Hm := Lib.hid hm
    clear hm
    have hm' := Hm.out
    simp only [List.length_nil] at hm'
    have Hm2 := Lib.hid hm'
    clear hm'
    have hm3 : min (max 0 n) (0 : Int) = 0 := Hm2.out
    go_enter Tryz.func241, Tryz.ntmps241
    go_wp2_with fail
    refine (Tryz.slices_Clone_int_nil _ _ _).mono ?_
    rintro e w' ⟨rfl, rfl⟩
    go_wp2_with fail
    refine (Tryz.slices_Delete_int_empty _ _ _).mono ?_
    rintro e w' ⟨rfl, rfl⟩
    go_wp2
    go_ret
    refine ⟨_, rfl, by simpa [ints] using World.ownsRow_nil _ _ _ _, ⟨.slice none 0 0, World.cell?_setCell_same _ _ _ c0, by simpa [ints] using World.ownsRow_nil _ _ _ _, (fun x hx => by cases hx), by simp [Value.ownBlock]⟩, (Mod.refl _ _).setCell (.inl hS) _, fun o ho => by rw [cell_set c0, if_neg ho], fun o => by rw [World.frozen?_setCell]; exact hf o⟩
  · have hgl := (Array.getElem?_eq_some_iff.1 hg).1
    have hSg : S g := hin g rfl
    have hgb : g ≠ b := fun e => hne (by simp [Value.ownBlock, e])
    have Hm := Lib.hid hm
    go_enter Tryz.func241, Tryz.ntmps241
    go_wp2_with fail
    refine (hclone cap).mono ?_
    rintro e w1 ⟨v1, rfl, hown1, hb1⟩
    have c01 : w1.cell? ⟨b, 0, none⟩ = some (.slice (some ⟨g, 0, none⟩) l.length cap) := (hb1.cell (p := ⟨b, 0, none⟩) hbl).trans c0
    have f01 : ∀ o, w1.frozen? ⟨b, o, none⟩ = false := fun o => (hb1.frozen (p := ⟨b, o, none⟩) hbl).trans (hf o)
    have hownl : w1.ownsRow 0 3 1 (.slice (some ⟨g, 0, none⟩) l.length cap) l.length (ints l) := ⟨hown.1, .inr ⟨g, cap, cur, rfl, hb, (hb1.block g hgl).trans hg, hc, hm2, hs, ht⟩⟩
    go_wp2_with fail
    refine (Tryz.slices_Delete_int_cells g 0 l.length cap 0 m l w1 (Nat.le_refl _) hc (by unfold maxLen at hm2; omega) (Nat.zero_le _) hml (fun j hj => ?_) (fun j _ => ?_)).mono ?_
    · rw [Nat.zero_add, hownl.cellAt j (by simpa using hj)]; simp [ints, List.getD_eq_getElem?_getD, List.getElem?_eq_getElem hj]
    · exact hownl.frozenAt _
    rintro e w2 ⟨rfl, q, hw2⟩
    have hlen : (ints ((l.take l.length).take 0 ++ (l.take l.length).drop m ++ List.replicate (m - 0) 0)).length = l.length := by simp [ints]; omega
    have hrow2 := ownsRow_setCells (w := w1.drewN q) (vs := ints ((l.take l.length).take 0 ++ (l.take l.length).drop m ++ List.replicate (m - 0) 0)) hownl hlen (l.length - m) (by omega) (Nat.zero_le _)
    have hw2' : w2 = (w1.drewN q).setCells g 0 (ints ((l.take l.length).take 0 ++ (l.take l.length).drop m ++ List.replicate (m - 0) 0)) := hw2
    have hk2 : ∀ x : Addr, x.block ≠ g → w2.cell? x = w1.cell? x := fun x hx => by rw [hw2', World.cell?_setCells_out g _ _ _ _ (fun e => absurd e hx)]; rfl
    have hf2 : ∀ x : Addr, w2.frozen? x = w1.frozen? x := fun x => by rw [hw2', World.frozen?_setCells]; rfl
    have hmod2 : Mod (· = g) w1 w2 := by rw [hw2']; exact ((Mod.refl _ w1).drewN q).setCellsB _ _
    have hrow2' : w2.ownsRow 0 3 1 (.slice (some ⟨g, 0, none⟩) (l.length - m) cap) (l.drop m).length (ints (l.drop m)) := by
      rw [hw2']
      simp only [List.length_drop]
      have e1 : (ints ((l.take l.length).take 0 ++ (l.take l.length).drop m ++ List.replicate (m - 0) 0)).take (l.length - m) = ints (l.drop m) := by
        simp only [List.take_zero, List.nil_append, List.take_length, ints, List.map_append, List.map_drop]
        rw [List.take_append_of_le_length (by simp), List.take_of_length_le (by simp)]
      rw [← e1]; exact hrow2
    clear hw2 hw2' hrow2 hlen
    have c02 : w2.cell? ⟨b, 0, none⟩ = some (.slice (some ⟨g, 0, none⟩) l.length cap) := (hk2 ⟨b, 0, none⟩ (Ne.symm hgb)).trans c01
    have f02 : ∀ o, w2.frozen? ⟨b, o, none⟩ = false := fun o => (hf2 _).trans (f01 o)
    go_wp2
    go_ret
    have hms : Mod S w (w2.setCell ⟨b, 0, none⟩ (.slice (some ⟨g, 0, none⟩) (l.length - m) cap)) :=
      ((Mod.of_below hb1 S).trans1 (hmod2.mono (fun x _ e => e ▸ hSg))).setCell (.inl hS) _
    have hv1 : v1.ownBlock ≠ some b := fun e => by have := hown1.lt b e; omega
    have hv1g : v1.ownBlock ≠ some g := fun e => by have := hown1.lt g e; omega
    refine ⟨_, rfl, ?_, ⟨_, World.cell?_setCell_same _ _ _ c02, ownsRow_setCell_other hrow2' (by simpa [Value.ownBlock] using hgb) _, (fun x hx => by cases hx; exact hSg), by simpa [Value.ownBlock] using hgb⟩, hms, ?_, ?_⟩
    · refine ownsRow_setCell_other ?_ hv1 _
      refine hown1.kept (row := some g) ⟨hmod2.os, hmod2.tape, hmod2.output, hmod2.size, fun k hk hx => hmod2.block k hk (fun e => hx (by rw [e]))⟩ (.inr hv1g)
    · intro o ho
      rw [cell_set c02, if_neg ho, hk2 _ (Ne.symm hgb)]
      exact hb1.cell hbl
    · intro o; rw [World.frozen?_setCell]; exact f02 o
end Go.Proofs.YtfjepdcnikgjeaaGreatDoor
