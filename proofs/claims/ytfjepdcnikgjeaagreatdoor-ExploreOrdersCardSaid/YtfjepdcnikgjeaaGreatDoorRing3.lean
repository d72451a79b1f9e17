/-
  Contracts of the rings' functions: what is put.
-/
import Derived.Test.YtfjepdcnikgjeaaGreatDoorRing2
import Derived.Test.YtfjepdcnikgjeaaGreatDoorShelf
set_option linter.unusedVariables false
set_option linter.unusedSimpArgs false
set_option linter.unusedSectionVars false
namespace Go.Proofs.YtfjepdcnikgjeaaGreatDoor
open Go Go.RowKit Hst Go.Proofs

set_option maxRecDepth 100000 in
set_option maxHeartbeats 800000 in
theorem put_any (b : Nat) (r : Hst.Ring) (g : Int) (w : World) (h : RingAt b w r) :
    Calls Tryz.prog 248 #[.pointer (some ⟨b, 0, none⟩), .int .i64 g] w fun e w' =>
      ∃ v, e = .returned v ∧ w'.ownsRow w.heap.size 3 1 v (r.put g).2.length (ints (r.put g).2) ∧ RingAt b w' (r.put g).1 ∧ Mod (· = b) w w' := by
  obtain ⟨head, h⟩ := h
  have hl0 := h.len_le
  have hlt := h.lt
  have c257 := h.csize
  obtain ⟨i0, hi, hz0, hz1, hz2⟩ := info_parts Tryz.infoInt
  have Hh := Lib.hid h
  clear h
  by_cases hf : r.l.length = 256
  · have e1 : ((r.l.length : Int) == 256) = true := by simp; omega
    rw [hf] at c257
    have Hf := Lib.hid hf
    clear hf e1
    go_enter Tryz.func248, Tryz.ntmps248
    go_wp2_with fail
    refine (pop_any b 128 head r _ Hh.out (by have := Hf.out; omega)).mono ?_
    rintro e w' ⟨v, rfl, hown, hr, hm⟩
    have hsz := hm.size
    go_wp2_with (at_builtin; refine wpList_append_own _ rfl _ _ 33 rfl w.heap.size 3 i0 (.int .i64 0) 1 8 Tryz.underlying33 hi hz0 hz1 hz2 rfl (by decide) _ _ _ rfl (hown.alloc _) ⟨w'.heap.size, 0, none⟩ 1 1 [.int .i64 g] rfl rfl (cell_one_new _ _ _) (by simp [Value.oneCell']) (by unfold maxLen; omega) (by omega) (by simp; omega) ?_; intro v' w2 hown2 hgrow _)
    go_ret
    have hf := Hf.out
    have hnb : v.ownBlock ≠ some b := fun e => by have := hown.lt b e; omega
    have hr2 : RingH b w2 { r with l := r.l.drop 128 } ((head + 128) % 256) := hr.congr ((hgrow.block b (by have := hr.lt; simp; omega) (Ne.symm hnb)).trans (Below.heap_alloc w' _ b hr.lt))
    refine ⟨_, rfl, ?_, ⟨_, by simpa [Ring.put, hf] using hr2⟩, ?_⟩
    · simpa [Ring.put, hf, ints] using hown2
    · refine hm.trans (((Mod.refl _ w').alloc _).trans ⟨hgrow.os, hgrow.tape, hgrow.output, hgrow.size, fun x hx hn => hgrow.block x hx (fun e => ?_)⟩)
      have := hown.lt x e.symm
      exact hn (.inl (.inr this.1))
  · have e1 : ((r.l.length : Int) == 256) = false := by simp; omega
    have Hf := Lib.hid hf
    clear hf
    go_enter Tryz.func248, Tryz.ntmps248
    go_wp2_with fail
    have hf := Hf.out
    refine (push_any b r head g _ Hh.out (by omega)).mono ?_
    clear hf
    rintro e w' ⟨rfl, hr, hm⟩
    go_wp2
    go_ret
    have hf := Hf.out
    exact ⟨_, rfl, by simpa [Ring.put, hf, ints] using World.ownsRow_nil _ _ _ _, ⟨_, by simpa [Ring.put, hf] using hr⟩, hm⟩

set_option maxRecDepth 100000 in
set_option maxHeartbeats 800000 in
theorem ready_any (b : Nat) (r : Hst.Ring) (g : Int) (w : World) (h : RingAt b w r) :
    Calls Tryz.prog 220 #[.pointer (some ⟨b, 0, none⟩), .int .i64 g] w fun e w' =>
      ∃ v, e = .returned v ∧ w'.ownsRow w.heap.size 3 1 v (r.ready g).2.length (ints (r.ready g).2) ∧ RingAt b w' (r.ready g).1 ∧ Mod (· = b) w w' := by
  obtain ⟨head, h⟩ := h
  have c258 := h.cis
  have c259 := h.cnext
  have hfr := h.fr
  have Hh := Lib.hid h
  clear h
  obtain ⟨l, is, next, streak⟩ := r
  dsimp only at *
  have hh2 := (Hh.out.setNext g).setIs true
  have Hh2 := Lib.hid hh2
  clear hh2
  cases is
  · go_enter Tryz.func220, Tryz.ntmps220
    go_wp2
    go_ret
    exact ⟨_, rfl, by simpa [Ring.ready, ints] using World.ownsRow_nil _ _ _ _, ⟨_, by simpa [Ring.ready] using Hh2.out⟩, ((Mod.refl _ w).setB _ _).setB _ _⟩
  · go_enter Tryz.func220, Tryz.ntmps220
    go_wp2_with (go_at_call 247; go_in)
    refine (put_any b { l := l, is := true, next := g, streak := streak } next _ ⟨_, Hh2.out⟩).mono ?_
    rintro e w' ⟨v, rfl, hown, hr, hm⟩
    go_wp2
    go_ret
    refine ⟨_, rfl, by simpa [Ring.ready] using hown, by simpa [Ring.ready] using hr, (((Mod.refl _ w).setB _ _).setB _ _).trans1 hm⟩

/-- What is left of a row behind its first k, cloned. -/
theorem clone_rest (g k n c : Nat) (l : List Int) (w : World) (hk : k ≤ n) (hl : l.length = n) (hn : n * 8 ≤ 140737488355328) (hc : ∀ j, j < n → w.cell? ⟨g, j, none⟩ = some (.int .i64 (l.getD j 0))) (o : Nat) (ho : k < n → o = k) :
    Calls Tryz.prog 155 #[.slice (some ⟨g, o, none⟩) (n - k) c] w fun e w' =>
      ∃ v, e = .returned v ∧ w'.ownsRow w.heap.size 3 1 v (l.drop k).length (ints (l.drop k)) ∧ Below w.heap.size w w' := by
  by_cases h : k < n
  · obtain rfl := ho h
    refine (Tryz.slices_Clone_int g o (n - o) c (l.drop o) w (by simp; omega) (by omega) (fun j hj => ?_)).mono ?_
    · simp at hj
      rw [hc (o + j) (by omega)]
      simp [List.getD_eq_getElem?_getD]
    · rintro e w' ⟨v, rfl, hown, _, hb⟩
      refine ⟨v, rfl, ?_, hb⟩
      have e1 : (l.drop o).length = n - o := by simp; omega
      rw [e1]
      rwa [List.take_of_length_le (by omega)] at hown
  · obtain rfl : k = n := by omega
    have e1 : l.drop k = [] := List.drop_of_length_le (by omega)
    rw [Nat.sub_self, e1]
    refine (Tryz.slices_Clone_int_zero _ c w).mono ?_
    rintro e w' ⟨v, rfl, hown, _, hb⟩
    exact ⟨v, rfl, hown, hb⟩

theorem getD_drop (l : List Int) (k j : Nat) : (l.drop k).getD j 0 = l.getD (k + j) 0 := by simp [List.getD_eq_getElem?_getD]

theorem cut_min (l : List Int) (k m : Nat) (h : k = min l.length m) : l.take k = l.take m ∧ l.drop k = l.drop m := by
  rcases Nat.le_total l.length m with h1 | h1
  · rw [List.take_of_length_le (by omega), List.take_of_length_le h1, List.drop_of_length_le (by omega), List.drop_of_length_le h1]; exact ⟨rfl, rfl⟩
  · rw [show k = m by omega]; exact ⟨rfl, rfl⟩

theorem putAll_fin {b k head : Nat} {r : Hst.Ring} {l : List Int} {w wr w' : World} {v : Value} (hk : k = min l.length (256 - r.l.length)) (hr : RingH b wr { r with l := r.l ++ l.take k } head) (hm : Mod (· = b) w wr)
    (hown : w'.ownsRow wr.heap.size 3 1 v (l.drop k).length (ints (l.drop k))) (hb : Below wr.heap.size wr w') :
    ∃ v', Ending.returned v = .returned v' ∧ w'.ownsRow w.heap.size 3 1 v' (r.putAll l).2.length (ints (r.putAll l).2) ∧ RingAt b w' (r.putAll l).1 ∧ Mod (· = b) w w' := by
  obtain ⟨e1, e2⟩ := cut_min l k _ hk
  refine ⟨v, rfl, ?_, ⟨head, ?_⟩, hm.trans1 (Mod.of_below hb _)⟩
  · rw [e2] at hown
    obtain ⟨h1, h2⟩ := hown
    refine ⟨h1, ?_⟩
    rcases h2 with h2 | ⟨g, cap, cur, hv, hg, rest⟩
    · exact .inl h2
    · exact .inr ⟨g, cap, cur, hv, Nat.le_trans hm.size hg, rest⟩
  · rw [e1] at hr
    exact hr.congr (hb.block b hr.lt)

set_option maxRecDepth 100000 in
set_option maxHeartbeats 1600000 in
theorem putAll_any (b : Nat) (r : Hst.Ring) (base : Nat) (v0 : Value) (l : List Int) (w : World) (h : RingAt b w r) (hown : w.ownsRow base 3 1 v0 l.length (ints l)) (hne : v0.ownBlock ≠ some b) (hbig : l.length ≤ 4294967296) :
    Calls Tryz.prog 219 #[.pointer (some ⟨b, 0, none⟩), v0] w fun e w' =>
      ∃ v, e = .returned v ∧ w'.ownsRow w.heap.size 3 1 v (r.putAll l).2.length (ints (r.putAll l).2) ∧ RingAt b w' (r.putAll l).1 ∧ Mod (· = b) w w' := by
  obtain ⟨head, h⟩ := h
  have hl0 := h.len_le
  have hlt := h.lt
  have c257 := h.csize
  have Hh := Lib.hid h
  clear h
  rcases Nat.eq_zero_or_pos l.length with h0 | h0
  · have hl : l = [] := List.eq_nil_of_length_eq_zero h0
    subst hl
    have hm1 : (0 : Int) ≤ 256 - (r.l.length : Int) := by omega
    have hm2 : min (0 : Int) (256 - (r.l.length : Int)) = 0 := by omega
    rcases hown.2 with ⟨rfl, _⟩ | ⟨g, cap, cur, rfl, _⟩
    · go_enter Tryz.func219, Tryz.ntmps219
      go_wp2
      refine wp_loop_rounds 1 ?_
      rw [rounds_succ]
      go_wp2_with fail
      refine (Tryz.slices_Clone_int_nil _ _ _).mono ?_
      rintro e w' ⟨rfl, rfl⟩
      go_wp2
      go_ret
      exact putAll_fin (k := 0) (by simp) (by simpa using Hh.out) (Mod.refl _ _) (by simpa [ints] using World.ownsRow_nil _ _ _ _) (Below.refl _ _)
    · go_enter Tryz.func219, Tryz.ntmps219
      go_wp2
      refine wp_loop_rounds 1 ?_
      rw [rounds_succ]
      go_wp2_with fail
      refine (Tryz.slices_Clone_int_zero _ _ _).mono ?_
      rintro e w' ⟨v, rfl, hown2, _, hb⟩
      go_wp2
      go_ret
      exact putAll_fin (k := 0) (by simp) (by simpa using Hh.out) (Mod.refl _ _) (by simpa [ints] using hown2) hb
  · obtain ⟨g, cap, rfl, hgb, hgl, hcap⟩ := ownsRow_some hown h0
    have hcell : ∀ j, j < l.length → w.cell? ⟨g, j, none⟩ = some (.int .i64 (l.getD j 0)) := fun j hj => by
      rw [hown.cellAt j (by simpa using hj)]; simp [ints, List.getD_eq_getElem?_getD, List.getElem?_eq_getElem hj]
    have hgn : g ≠ b := fun e => hne (by simp [Value.ownBlock, e])
    clear hown hne
    obtain ⟨n, hn⟩ : ∃ n, n = min l.length (256 - r.l.length) := ⟨_, rfl⟩
    have hm1 : min (l.length : Int) (256 - (r.l.length : Int)) = (n : Int) := by omega
    have hn1 : n ≤ l.length := by omega
    have hn2 : r.l.length + n ≤ 256 := by omega
    have Hn := Lib.hid hn
    clear hn
    go_enter Tryz.func219, Tryz.ntmps219
    go_wp2
    go_loopw [7, 20] (fun _ i wr => ∃ k : Nat, k ≤ n ∧ i = .int .i64 k ∧ RingH b wr { r with l := r.l ++ l.take k } head ∧ Mod (· = b) w wr) (fun _ i _ => n - (intOf i).toNat)
    case atStart => exact ⟨0, Nat.zero_le _, rfl, by simpa using Hh.out, Mod.refl _ _⟩
    case round =>
      obtain ⟨k, hk, rfl, hr, hm⟩ := hrel
      by_cases hlt2 : k < n
      · have hx : wr.cell? ⟨g, k, none⟩ = some (.int .i64 (l.getD k 0)) := hm.cell (a := ⟨g, k, none⟩) hgn (hcell k (by omega))
        have Hr := Lib.hid hr
        have hx2 : r.l ++ l.take (k + 1) = (r.l ++ l.take k) ++ [l.getD k 0] := by
          rw [List.take_succ_eq_append_getElem (show k < l.length by omega), List.append_assoc]; simp [List.getD_eq_getElem?_getD, List.getElem?_eq_getElem (show k < l.length by omega)]
        have Hx := Lib.hid hx2
        clear hx2
        clear hr
        clear hcell
        generalize l.getD k 0 = x at *
        go_wp2_with fail
        refine (push_any b { r with l := r.l ++ l.take k } head x _ Hr.out (by simp; omega)).mono ?_
        rintro e w' ⟨rfl, hr2, hm2⟩
        go_wp2
        go_roundw
        case rel => exact ⟨k + 1, by omega, by go_num, by rw [Hx.out]; exact hr2, hm.trans1 hm2⟩
        case measure => simp [intOf]; omega
      · obtain rfl : k = n := by omega
        clear hlt2
        have Hr := Lib.hid hr
        have hc3 : ∀ j, j < l.length → wr.cell? ⟨g, j, none⟩ = some (.int .i64 (l.getD j 0)) := fun j hj => hm.cell (a := ⟨g, j, none⟩) hgn (hcell j hj)
        have hclone := clone_rest g k l.length (cap - k) l wr hn1 rfl (by omega) hc3
        clear hr hcell hc3
        by_cases hcn : cap = k
        · subst hcn
          go_wp2_with fail
          refine (Tryz.slices_Clone_int_zero ⟨g, 0, none⟩ 0 wr).mono ?_
          rintro e w' ⟨v, rfl, hown, _, hb⟩
          go_wp2
          go_ret
          have e1 : l.drop cap = [] := List.drop_of_length_le (by omega)
          exact putAll_fin Hn.out Hr.out hm (by rw [e1]; exact hown) hb
        · go_wp2_with fail
          refine (hclone k (fun _ => rfl)).mono ?_
          rintro e w' ⟨v, rfl, hown, hb⟩
          go_wp2
          go_ret
          exact putAll_fin Hn.out Hr.out hm hown hb
end Go.Proofs.YtfjepdcnikgjeaaGreatDoor
