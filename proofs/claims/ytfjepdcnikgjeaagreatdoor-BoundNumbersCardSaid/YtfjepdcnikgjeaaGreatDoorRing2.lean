/-
  Contracts of the rings' functions, further.
-/
import Derived.Test.YtfjepdcnikgjeaaGreatDoorRing
set_option linter.unusedVariables false
set_option linter.unusedSimpArgs false
set_option linter.unusedSectionVars false
namespace Go.Proofs.YtfjepdcnikgjeaaGreatDoor
open Go Go.RowKit Hst

set_option maxRecDepth 100000 in
set_option maxHeartbeats 800000 in
theorem get_row (b : Nat) (r : Hst.Ring) (w : World) (h : RingAt b w r) (hc : r.l ≠ [] ∧ (r.is = true → 4 ≤ r.streak)) :
    Calls Tryz.prog 210 #[.pointer (some ⟨b, 0, none⟩)] w fun e w' =>
      e = .returned (.tuple #[.int .i64 r.get.2.1, .bool r.get.2.2]) ∧ RingAt b w' r.get.1 ∧ Mod (· = b) w w' := by
  obtain ⟨head, h⟩ := h
  obtain ⟨l, is, next, streak⟩ := r
  have hl0 := h.len_le
  have hlt := h.lt
  have c257 := h.csize
  have c258 := h.cis
  have c259 := h.cnext
  have c260 := h.cstreak
  have hfr := h.fr
  have hst := h.streak
  dsimp only at *
  obtain ⟨hl, hs⟩ := hc
  have hl' : 0 < l.length := List.length_pos_iff.2 hl
  obtain ⟨g, t, rfl⟩ := getD_eq l hl'
  have e1 : (((g :: t).length : Int) == 0) = false := by simp; omega
  have Hh := Lib.hid h
  clear h hl hl'
  cases is
  · go_enter Tryz.func210, Tryz.ntmps210
    go_wp2_with fail
    refine (pop_any b 1 head { l := g :: t, is := false, next := next, streak := 0 } _ ?_ ?_).mono ?_
    · exact Hh.out.setStreak 0 (by decide)
    · simp
    rintro e w' ⟨v, rfl, hown, hr, hm⟩
    obtain ⟨gb, cap, rfl, hgb, hgl, hcap⟩ := ownsRow_some hown (by decide)
    have hg0 := hown.cellAt 0 (by decide)
    have hgf := hown.frozenAt 0
    simp [ints] at hg0
    have c258' := hr.cis
    dsimp only at c258'
    go_wp2
    go_ret2
    exact ⟨by simp [Ring.get], ⟨_, by simpa [Ring.get] using hr⟩, ((Mod.refl _ w).setB _ _).trans1 hm⟩
  · have h4 := hs rfl
    have e2 : decide (streak < 4) = false := by simp; omega
    go_enter Tryz.func210, Tryz.ntmps210
    go_wp2_with fail
    refine (pop_any b 1 head { l := g :: t, is := true, next := next, streak := 0 } _ ?_ ?_).mono ?_
    · exact Hh.out.setStreak 0 (by decide)
    · simp
    rintro e w' ⟨v, rfl, hown, hr, hm⟩
    obtain ⟨gb, cap, rfl, hgb, hgl, hcap⟩ := ownsRow_some hown (by decide)
    have hg0 := hown.cellAt 0 (by decide)
    have hgf := hown.frozenAt 0
    simp [ints] at hg0
    have c258' := hr.cis
    have c259' := hr.cnext
    have hfr' := hr.fr
    dsimp only at c258' c259'
    have Hr := Lib.hid hr
    clear hr
    go_wp2_with (go_at_call 239; go_in)
    refine (push_any b { l := t, is := false, next := next, streak := 0 } _ next _ (Hr.out.setIs false) (by simp at hl0 ⊢; omega)).mono ?_
    rintro e w2 ⟨rfl, hr2, hm2⟩
    go_wp2
    go_ret2
    exact ⟨by simp [Ring.get, show ¬ streak < 4 by omega], ⟨_, by simpa [Ring.get, show ¬ streak < 4 by omega] using hr2⟩, (((Mod.refl _ w).setB _ _).trans1 hm).setB _ _ |>.trans1 hm2⟩

theorem get_any (b : Nat) (r : Hst.Ring) (w : World) (h : RingAt b w r) :
    Calls Tryz.prog 210 #[.pointer (some ⟨b, 0, none⟩)] w fun e w' =>
      e = .returned (.tuple #[.int .i64 r.get.2.1, .bool r.get.2.2]) ∧ RingAt b w' r.get.1 ∧ Mod (· = b) w w' := by
  by_cases hc : (r.is = true ∧ (r.l = [] ∨ r.streak < 4)) ∨ (r.is = false ∧ r.l = [])
  · exact get_next b r w h hc
  · refine get_row b r w h ⟨fun e => hc ?_, fun e => ?_⟩
    · cases hi : r.is
      · exact .inr ⟨rfl, e⟩
      · exact .inl ⟨rfl, .inl e⟩
    · by_cases h4 : r.streak < 4
      · exact absurd (.inl ⟨e, .inr h4⟩) hc
      · omega

set_option maxRecDepth 100000 in
set_option maxHeartbeats 800000 in
theorem steal_any (b : Nat) (r : Hst.Ring) (w : World) (h : RingAt b w r) :
    Calls Tryz.prog 213 #[.pointer (some ⟨b, 0, none⟩)] w fun e w' =>
      ∃ v, e = .returned v ∧ w'.ownsRow w.heap.size 3 1 v r.steal.2.length (ints r.steal.2) ∧ RingAt b w' r.steal.1 ∧ Mod (· = b) w w' := by
  obtain ⟨head, h⟩ := h
  obtain ⟨l, is, next, streak⟩ := r
  have hl0 := h.len_le
  have hlt := h.lt
  have c257 := h.csize
  have c258 := h.cis
  have c259 := h.cnext
  have c260 := h.cstreak
  have hfr := h.fr
  dsimp only at *
  have Hh := Lib.hid h
  clear h
  by_cases hl : l = []
  · subst hl
    simp only [List.length_nil] at c257
    cases is
    · go_enter Tryz.func213, Tryz.ntmps213
      go_wp2_with fail
      refine (pop_any b 0 head { l := [], is := false, next := next, streak := streak } _ Hh.out (by simp)).mono ?_
      rintro e w' ⟨v, rfl, hown, hr, hm⟩
      go_wp2
      go_ret
      exact ⟨_, rfl, by simpa [Ring.steal] using hown, ⟨_, by simpa [Ring.steal] using hr⟩, hm⟩
    · go_enter Tryz.func213, Tryz.ntmps213
      go_wp2
      go_ret
      have hb2 := (((Hh.out.setStreak 0 (by decide)).setIs false).congr (Below.heap_alloc _ (.cells #[.int .i64 next] 3) b (by simpa using hlt)))
      have ho := World.ownsRow_lit (base := w.heap.size) (e := 3) (size := 1) ((w.setCell ⟨b, 260, none⟩ (.int .i64 0)).setCell ⟨b, 258, none⟩ (.bool false)) #[.int .i64 next] 1 (by simp) (by unfold maxLen; omega) rfl
      simp only [World.size_setCell] at ho
      exact ⟨_, rfl, by simpa [Ring.steal, ints] using ho, ⟨_, by simpa [Ring.steal] using hb2⟩, (((Mod.refl _ w).setB _ _).setB _ _).alloc _⟩
  · have hl' : 0 < l.length := List.length_pos_iff.2 hl
    have e1 : ((l.length : Int) == 0) = false := by simp; omega
    obtain ⟨k, hk⟩ : ∃ k : Nat, k = (l.length + 1) / 2 := ⟨_, rfl⟩
    have e2 : ((l.length : Int) + 1).tdiv 2 = (k : Int) := by rw [Int.tdiv_eq_ediv_of_nonneg (by omega)]; omega
    have e4 : ((l.length : Int) + 1) / 2 = (k : Int) := by omega
    have hk2 : k ≤ l.length := by omega
    have Hk := Lib.hid hk
    clear hk
    go_enter Tryz.func213, Tryz.ntmps213
    go_wp2_with fail
    refine (pop_any b k head { l := l, is := is, next := next, streak := streak } _ Hh.out hk2).mono ?_
    rintro e w' ⟨v, rfl, hown, hr, hm⟩
    go_wp2
    go_ret
    have hlen : (l.take k).length = k := by simp; omega
    have hk := Hk.out
    exact ⟨_, rfl, by simpa [Ring.steal, hl, ← hk, hlen, hk2] using hown, ⟨_, by simpa [Ring.steal, hl, ← hk] using hr⟩, hm⟩
end Go.Proofs.YtfjepdcnikgjeaaGreatDoor
