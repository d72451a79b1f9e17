/-
  Contracts of the idle's functions: a processor that is idle, a machine that stops.
-/
import Derived.Test.YtfjepdcnikgjeaaGreatDoorIdle
import Derived.Test.YtfjepdcnikgjeaaGreatDoorFound
set_option linter.unusedVariables false
set_option linter.unusedSimpArgs false
set_option linter.unusedSectionVars false
namespace Go.Proofs.YtfjepdcnikgjeaaGreatDoor
open Go Go.RowKit Hst Go.Proofs

theorem grown_cell {w w2 : World} {o : Obj} {row : Option Nat} (hg : (w.alloc o).grownBy w2 row) {b k : Nat} {v : Value} (hb : b < w.heap.size) (hne : some b ≠ row) (hc : w.cell? ⟨b, k, none⟩ = some v) : w2.cell? ⟨b, k, none⟩ = some v :=
  hg.cell (a := ⟨b, k, none⟩) ((World.cell?_of_block (a := ⟨b, k, none⟩) (Below.heap_alloc w o b hb)).trans hc) hne
theorem grown_frozen {w w2 : World} {o : Obj} {row : Option Nat} (hg : (w.alloc o).grownBy w2 row) {b k : Nat} (hb : b < w.heap.size) (hne : some b ≠ row) (hc : w.frozen? ⟨b, k, none⟩ = false) : w2.frozen? ⟨b, k, none⟩ = false :=
  (World.frozen?_of_block (a := ⟨b, k, none⟩) ((hg.block b (by simp; omega) hne).trans (Below.heap_alloc w o b hb))).trans hc

theorem contains_row (v : Value) (base : Nat) (l : List Int) (x : Int) (w : World) (hown : w.ownsRow base 3 1 v l.length (ints l)) (hbig : l.length ≤ 4294967296) :
    Calls Tryz.prog 147 #[v, .int .i64 x] w fun e w' => e = .returned (.bool (l.contains x)) ∧ w' = w := by
  rcases Nat.eq_zero_or_pos l.length with h0 | h0
  · have hl : l = [] := List.eq_nil_of_length_eq_zero h0
    subst hl
    obtain ⟨a, c, rfl⟩ := ownsRow_slice hown
    exact Tryz.slices_Contains_int_empty a c x w
  · obtain ⟨g, cap, rfl, _, _, _⟩ := ownsRow_some hown h0
    have hcell : ∀ j, j < l.length → w.cell? ⟨g, 0 + j, none⟩ = some (.int .i64 (l.getD j 0)) := fun j hj => by
      rw [Nat.zero_add, hown.cellAt j (by simpa using hj)]; simp [ints, List.getD_eq_getElem?_getD, List.getElem?_eq_getElem hj]
    have h := Tryz.slices_Contains_int g 0 l.length cap l x w (Nat.le_refl _) (by omega) hcell
    rw [List.take_length] at h
    exact h

set_option maxRecDepth 100000 in
set_option maxHeartbeats 1600000 in
theorem putp_new (S : Nat → Prop) (b mk mw n m q : Nat) (x : Hst.Idle) (w : World) (h : IdleH S b mk mw w n m x) (hp : x.pending = []) (hq : q < n) (hb : x.p.testBit q = false) :
    Calls Tryz.prog 106 #[.pointer (some ⟨b, 0, none⟩), .int .i64 q] w fun e w' => e = .returned (.bool true) ∧ IdleH S b mk mw w' n m { x with p := x.p ^^^ 2 ^ q } ∧ Mod S w w' := by
  obtain ⟨pv, mv, r1, r2, r3, r4, r5, r6, r7, r8⟩ := h.rows
  have c0 := h.c0
  have hc := fun w1 (e : w1.ownsRow 0 3 1 pv x.pending.length (ints x.pending)) => contains_row pv 0 x.pending q w1 e (by rw [hp]; simp)
  rw [hp] at hc r3
  have HC := Lib.hid (hc w r3)
  have ht := turn_yes mk mw n q x.p false w h.n_le hq h.bits h.ne.2.2 h.k0 h.k1 h.kw (h.fr.2.2 0) hb
  have HT := Lib.hid ht
  have H := Lib.hid h
  have H1 := Lib.hid r1
  have H2 := Lib.hid r2
  have H3 := Lib.hid r3
  have H4 := Lib.hid r4
  have HP := Lib.hid hp
  clear h hc r2 r3 r4 ht hp
  go_enter Tryz.func106, Tryz.ntmps106
  go_wp2_with (first | (go_at_call 147; refine HC.out.mono ?_; rintro e w1 ⟨rfl, hw⟩; have hw := hw.symm; subst hw) | (go_at_call 148; go_in) | (go_at_call 191; refine HT.out.mono ?_; rintro e w1 ⟨rfl, rfl⟩))
  go_returns
  have h := H.out
  have nb : mw ≠ b := fun e => h.ne.2.1 e.symm
  have nk : mw ≠ mk := fun e => h.ne.2.2 e.symm
  refine ⟨rfl, ⟨h.inS, h.ne, ?_, ⟨pv, mv, ?_, ?_, ?_, ?_, r5, r6, r7, r8⟩, ?_, ?_, ?_, ?_, ?_, ⟨?_, ?_, ?_⟩, ?_, h.n_le⟩, ?_⟩
  · exact (cell_far nb _).trans h.c0
  · exact (cell_far nb _).trans H1.out
  · exact (cell_far nb _).trans H2.out
  · show World.ownsRow (World.setCell _ _ _) 0 _ 1 pv x.pending.length (ints x.pending)
    rw [HP.out]
    exact ownsRow_far H3.out (fun e => (r7 _ e).2.2.1 rfl)
  · exact ownsRow_far H4.out (fun e => (r8 _ e).2.2 rfl)
  · exact (cell_far nb _).trans h.c3
  · exact (cell_far nb _).trans h.c4
  · exact (cell_far nk _).trans h.k0
  · exact (cell_far nk _).trans h.k1
  · exact World.cell?_setCell_same _ _ _ h.kw
  · intro o; exact (World.frozen?_setCell _ _ _ _).trans (h.fr.1 o)
  · intro o; exact (World.frozen?_setCell _ _ _ _).trans (h.fr.2.1 o)
  · intro o; exact (World.frozen?_setCell _ _ _ _).trans (h.fr.2.2 o)
  · exact Nat.xor_lt_two_pow h.bits (Nat.pow_lt_pow_right (by decide) hq)
  · exact ((Mod.refl S w).setCell (.inl h.inS.2.2) _).drew

set_option maxRecDepth 100000 in
set_option maxHeartbeats 1600000 in
theorem stop_new (S : Nat → Prop) (b mk mw n m i : Nat) (x : Hst.Idle) (w : World) (h : IdleH S b mk mw w n m x) (hi : i < m) (hn : x.poller ≠ (i : Int)) (hm : x.m.contains (i : Int) = false) (hbig : x.m.length ≤ 65536) (hM : m ≤ 65536) :
    Calls Tryz.prog 108 #[.pointer (some ⟨b, 0, none⟩), .int .i64 i] w fun e w' => (∃ v, e = .returned v) ∧ IdleH (fun y => S y ∨ w.heap.size ≤ y) b mk mw w' n m (x.stop i).1 ∧ Mod S w w' := by
  obtain ⟨pv, mv, r1, r2, r3, r4, r5, r6, r7, r8⟩ := h.rows
  have hc := contains_row mv 0 x.m i w r4 (by omega)
  rw [hm] at hc
  have HC := Lib.hid hc
  have c2 := r2
  have c3 := h.c3
  have c4 := h.c4
  have fb := h.fr.1
  have lb := World.block_lt_of_cell? w _ c3
  simp only at lb
  obtain ⟨i0, hi0, hz0, hz1, hz2⟩ := info_parts Tryz.infoInt
  have hi1 : ¬ (m : Int) ≤ (i : Int) := by omega
  have hn1 : ((i : Int) == x.poller) = false := by rw [beq_eq_false_iff_ne]; exact fun e => hn e.symm
  have hnm : ¬ (i : Int) ∈ x.m := by intro e; rw [List.contains_iff_mem.2 e] at hm; cases hm
  have hxs : (x.stop i).1 = if x.poller = -1 then { x with poller := (i : Int) } else { x with m := x.m ++ [(i : Int)] } := by
    unfold Idle.stop
    rw [if_neg (by rintro (e | e); exact hn e.symm; exact hnm e)]
    split <;> rfl
  rw [hxs]
  have H := Lib.hid h
  have H2 := Lib.hid r2
  have H3 := Lib.hid r3
  have H4 := Lib.hid r4
  clear h hc r2 r3 r4 hm hxs hnm hn
  by_cases hpo : x.poller = -1
  · rw [if_pos hpo]
    rw [hpo] at c3 hn1
    have HPO := Lib.hid hpo
    clear hpo
    go_enter Tryz.func108, Tryz.ntmps108
    go_wp2_with (first | (go_at_call 147; refine HC.out.mono ?_; rintro e w1 ⟨rfl, hw⟩; have hw := hw.symm; subst hw))
    go_returns
    have h := H.out
    have bk := h.ne.1
    have bw := h.ne.2.1
    refine ⟨⟨_, rfl⟩, ⟨⟨.inl h.inS.1, .inl h.inS.2.1, .inl h.inS.2.2⟩, h.ne, ?_, ⟨pv, mv, ?_, ?_, ?_, ?_, fun g e => .inl (r5 g e), fun g e => .inl (r6 g e), r7, r8⟩, ?_, ?_, ?_, ?_, ?_, ⟨?_, ?_, ?_⟩, h.bits, h.n_le⟩, ?_⟩
    · rw [cell_set h.c3, if_neg (by decide)]; exact h.c0
    · rw [cell_set h.c3, if_neg (by decide)]; exact r1
    · rw [cell_set h.c3, if_neg (by decide)]; exact H2.out
    · exact ownsRow_far H3.out (fun e => (r7 _ e).1 rfl)
    · exact ownsRow_far H4.out (fun e => (r8 _ e).1 rfl)
    · rw [cell_set h.c3]; rfl
    · rw [cell_set h.c3, if_neg (by decide)]; exact h.c4
    · exact (cell_far bk _).trans h.k0
    · exact (cell_far bk _).trans h.k1
    · exact (cell_far bw _).trans h.kw
    · intro o; exact (World.frozen?_setCell _ _ _ _).trans (h.fr.1 o)
    · intro o; exact (World.frozen?_setCell _ _ _ _).trans (h.fr.2.1 o)
    · intro o; exact (World.frozen?_setCell _ _ _ _).trans (h.fr.2.2 o)
    · exact (Mod.refl S w).setCell (.inl h.inS.1) _
  · rw [if_neg hpo]
    have hpo2 : (x.poller == -1) = false := by rw [beq_eq_false_iff_ne]; exact hpo
    clear hpo
    have mb : mv.ownBlock ≠ some b := fun e => (r8 _ e).1 rfl
    have mk' : mv.ownBlock ≠ some mk := fun e => (r8 _ e).2.1 rfl
    have mw' : mv.ownBlock ≠ some mw := fun e => (r8 _ e).2.2 rfl
    go_enter Tryz.func108, Tryz.ntmps108
    go_wp2_with (first | (go_at_call 147; refine HC.out.mono ?_; rintro e w1 ⟨rfl, hw⟩; have hw := hw.symm; subst hw) | (at_builtin; refine wpList_append_lies _ rfl _ _ 33 rfl 0 3 i0 (.int .i64 0) 1 8 Tryz.underlying33 hi0 hz0 hz1 hz2 rfl (by decide) mv x.m.length (ints x.m) rfl (H4.out.alloc _) ⟨w.heap.size, 0, none⟩ 1 1 [.int .i64 i] rfl rfl (World.news_of_block (cs := #[.int .i64 i]) (t := 3) (fr := (0, 0)) (heap_alloc_new w _)) (by simp [Value.oneCell']) (by omega) (by unfold maxLen; omega) (by omega) (by simp) (w.heap.size + 1) (by simp) ?_; intro g cap w2 hown2 hgrow hat hlt; have k2 := grown_cell hgrow lb (Ne.symm mb) H2.out; have kf := fun o => grown_frozen hgrow lb (Ne.symm mb) (fb o)))
    go_returns
    have h := H.out
    have bk := h.ne.1
    have bw := h.ne.2.1
    have lk := World.block_lt_of_cell? w _ h.k0
    have lw := World.block_lt_of_cell? w _ h.kw
    simp only at lk lw
    have old : ∀ y o v, y < w.heap.size → mv.ownBlock ≠ some y → y ≠ b → w.cell? ⟨y, o, none⟩ = some v → (w2.setCell ⟨b, 2, none⟩ (.slice (some ⟨g, 0, none⟩) (x.m.length + 1) cap)).cell? ⟨y, o, none⟩ = some v := fun y o v hy hne hyb hc => by
      rw [cell_far (Ne.symm hyb)]
      exact grown_cell hgrow hy (Ne.symm hne) hc
    have oldf : ∀ y o, y < w.heap.size → mv.ownBlock ≠ some y → w.frozen? ⟨y, o, none⟩ = false → (w2.setCell ⟨b, 2, none⟩ (.slice (some ⟨g, 0, none⟩) (x.m.length + 1) cap)).frozen? ⟨y, o, none⟩ = false := fun y o hy hne hc => by
      rw [World.frozen?_setCell]
      exact grown_frozen hgrow hy (Ne.symm hne) hc
    have oldb : ∀ o v, o ≠ 2 → w.cell? ⟨b, o, none⟩ = some v → (w2.setCell ⟨b, 2, none⟩ (.slice (some ⟨g, 0, none⟩) (x.m.length + 1) cap)).cell? ⟨b, o, none⟩ = some v := fun o v ho hc => by
      rw [cell_set k2, if_neg ho]
      exact grown_cell hgrow lb (Ne.symm mb) hc
    have gb : g ≠ b := fun e => by rcases hat with h | h; exact mb (by rw [h, e]); omega
    have hgr : ∀ y, y < w.heap.size → mv.ownBlock ≠ some y → g ≠ y := fun y hy hne e => by rcases hat with h | h; exact hne (by rw [h, e]); omega
    have hown3 : w2.ownsRow 0 3 1 (.slice (some ⟨g, 0, none⟩) (x.m.length + 1) cap) (x.m ++ [(i : Int)]).length (ints (x.m ++ [(i : Int)])) := by
      have e : ints (x.m ++ [(i : Int)]) = ints x.m ++ [.int .i64 i] := by simp [ints]
      rw [e, List.length_append]; exact hown2
    refine ⟨⟨_, rfl⟩, ⟨⟨.inl h.inS.1, .inl h.inS.2.1, .inl h.inS.2.2⟩, h.ne, oldb 0 _ (by decide) h.c0, ⟨pv, .slice (some ⟨g, 0, none⟩) (x.m.length + 1) cap, oldb 1 _ (by decide) r1, World.cell?_setCell_same _ _ _ k2, ?_, ownsRow_far hown3 (by simpa [Value.ownBlock] using gb), fun y e => .inl (r5 y e), ?_, ?_, ?_⟩, oldb 3 _ (by decide) h.c3, oldb 4 _ (by decide) h.c4, old mk 0 _ lk mk' (Ne.symm bk) h.k0, old mk 1 _ lk mk' (Ne.symm bk) h.k1, old mw 0 _ lw mw' (Ne.symm bw) h.kw, ⟨fun o => oldf b o lb mb (h.fr.1 o), fun o => oldf mk o lk mk' (h.fr.2.1 o), fun o => oldf mw o lw mw' (h.fr.2.2 o)⟩, h.bits, h.n_le⟩, ?_⟩
    · refine ownsRow_far ?_ (fun e => (r7 _ e).1 rfl)
      refine (H3.out.alloc _).kept hgrow ?_
      cases hpv : pv.ownBlock with
      | none => exact .inl rfl
      | some y => exact .inr (fun e => (r7 y hpv).2.2.2 e.symm)
    · intro y e
      have hy : y = g := by simpa [Value.ownBlock] using e.symm
      subst hy
      rcases hat with h | h
      · exact .inl (r6 _ h)
      · exact .inr (by omega)
    · intro y e
      obtain ⟨e1, e2, e3, e4⟩ := r7 y e
      refine ⟨e1, e2, e3, fun e5 => ?_⟩
      have hy : g = y := by simpa [Value.ownBlock] using e5
      exact hgr y (H3.out.lt y e).2 e4 hy
    · intro y e
      have hy : y = g := by simpa [Value.ownBlock] using e.symm
      subst hy
      exact ⟨gb, hgr mk lk mk', hgr mw lw mw'⟩
    · have hm0 : Mod S w w2 := ⟨hgrow.os, hgrow.tape, hgrow.output, by have := hgrow.size; simp at this; omega, fun y hy hs => (hgrow.block y (by simp; omega) (fun e => hs (r6 _ e.symm))).trans (Below.heap_alloc w _ y hy)⟩
      exact hm0.setCell (p := ⟨b, 2, none⟩) (.inl h.inS.1) _
end Go.Proofs.YtfjepdcnikgjeaaGreatDoor
