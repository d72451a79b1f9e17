/-
  Contracts of the rings' functions.
-/
import Derived.Test.YtfjepdcnikgjeaaGreatDoorBase
import Derived.Test.YtfjepdcnikgjeaaGreatDoorChecked
import Derived.Lib.Hide
import Derived.Deep.RegionHeld3
import Derived.Deep.AppendLies
set_option linter.unusedVariables false
set_option linter.unusedSimpArgs false
set_option linter.unusedSectionVars false
namespace Go.Proofs.YtfjepdcnikgjeaaGreatDoor
open Go Go.RowKit Hst

theorem ints_take (l : List Int) (k : Nat) (h : k < l.length) : ints (l.take (k + 1)) = ints (l.take k) ++ [.int .i64 (l.getD k 0)] := by
  unfold ints; rw [List.take_succ_eq_append_getElem h, List.map_append]; simp [List.getD_eq_getElem?_getD, List.getElem?_eq_getElem h]
theorem Tryz.infoInt : (Tryz.prog.info? 3).map (fun i => (i.zero, i.size, i.bytes)) = some (some (.int .i64 0), 1, 8) := by kernel_rfl

set_option maxRecDepth 100000 in
set_option maxHeartbeats 800000 in
theorem pop_any (b n head : Nat) (r : Hst.Ring) (w : World) (h : RingH b w r head) (hn : n ≤ r.l.length) :
    Calls Tryz.prog 160 #[.pointer (some ⟨b, 0, none⟩), .int .i64 n] w fun e w' =>
      ∃ v, e = .returned v ∧ w'.ownsRow w.heap.size 3 1 v n (ints (r.l.take n)) ∧
        RingH b w' { r with l := r.l.drop n } ((head + n) % 256) ∧ Mod (· = b) w w' := by
  have hl := h.len_le
  have hlt := h.lt
  obtain ⟨i0, hi, hz0, hz1, hz2⟩ := info_parts Tryz.infoInt
  obtain ⟨w1, hmk, hown0, hg0⟩ := run_make_own (P := Tryz.prog) w w.heap.size 33 3 i0 (.int .i64 0) 1 Tryz.underlying33 hi hz0 hz1 .i64 .i64 n (by rw [hz2]; omega) (by unfold maxLen; omega) (Nat.le_refl _)
  have hr1 : RingH b w1 r head := h.congr (hg0.block b hlt (by simp))
  have hm1 : Mod (· = b) w w1 := ⟨hg0.os, hg0.tape, hg0.output, hg0.size, fun k hk _ => hg0.block k hk (by simp)⟩
  go_enter Tryz.func160, Tryz.ntmps160
  go_wp2
  clear hmk hg0
  go_loopw [5, 9] (fun v i wr => ∃ k : Nat, k ≤ n ∧ i = .int .i64 k ∧ wr.ownsRow w.heap.size 3 1 v k (ints (r.l.take k)) ∧
      RingH b wr { r with l := r.l.drop k } ((head + k) % 256) ∧ Mod (· = b) w wr) (fun _ i _ => n - (intOf i).toNat)
  case atStart => exact ⟨0, Nat.zero_le _, rfl, by simpa [ints] using hown0, by simpa [Nat.mod_eq_of_lt h.head_lt] using hr1, hm1⟩
  case round =>
    obtain ⟨k, hk, rfl, hown, hr, hm⟩ := hrel
    by_cases hlt2 : k < n
    · have hd0 : (head + k) % 256 < 256 := Nat.mod_lt _ (by omega)
      have hk1 : ints (r.l.take (k + 1)) = ints (r.l.take k) ++ [.int .i64 (r.l.getD k 0)] := ints_take _ _ (by omega)
      have hmod : (head + (k + 1)) % 256 = ((head + k) % 256 + 1) % 256 := by omega
      have hdr : r.l.drop (k + 1) = (r.l.drop k).drop 1 := by simp [List.drop_drop]
      have hlen : (r.l.drop k).length = r.l.length - k := by simp
      have h0 : (r.l.drop k).getD 0 0 = r.l.getD k 0 := by simp [List.getD_eq_getElem?_getD]
      generalize hhd : (head + k) % 256 = hd at *
      generalize hx : r.l.getD k 0 = x at *
      have c256 := hr.chead
      have c257 := hr.csize
      have hrow := hr.row 0 (by simp; omega)
      have hfr := hr.fr
      rw [h0] at hrow
      simp only [Nat.add_zero, Nat.mod_eq_of_lt hd0] at hrow
      have hlt3 := hr.lt
      have hdI : ((hd : Nat) : Int) < 256 := by omega
      have hsz := hm.size
      have hnb : Value.ownBlock u5 ≠ some b := fun e => by have := hown.lt b e; omega
      have Hr := Lib.hid hr; have Hk1 := Lib.hid hk1; have Hmod := Lib.hid hmod; have Hdr := Lib.hid hdr; have Hlen := Lib.hid hlen; have Hhd := Lib.hid hhd; have Hx := Lib.hid hx; have H0 := Lib.hid h0
      clear hr hk1 hmod hdr hlen hhd hx h0
      go_wp2
      go_region_held3 (fun w' => w'.cell? ⟨b, 256, none⟩ = some (.int .i64 hd) ∧ w'.cell? ⟨b, hd, none⟩ = some (.int .i64 x))
        (first
          | go_keep
          | (go_split_ands
             refine ⟨?_, ?_⟩
             · (rw [hgrow.cell_far _ (by simp; omega) (Ne.symm hnb)]; assumption)
             · (rw [hgrow.cell_far _ (by simp; omega) (Ne.symm hnb)]; assumption)))
        ((refine step_append_lies _ (by rfl) _ _ _ (by rfl) w.heap.size 3 i0 _ 1 8 Tryz.underlying33 hi hz0 hz1 hz2 rfl (by omega) _ k _ (by rfl) ((hown.alloc _).drew)
            ⟨wr.heap.size, 0, none⟩ 1 1 [.int .i64 x] (by rfl) (by rfl) (World.news_of_block (cs := #[.int .i64 x]) (t := 3) (fr := (0, 0)) (heap_alloc_new wr _)) (by simp [Value.oneCell'])
            (by omega) (by unfold maxLen; omega) (by omega) (by simp; omega) (wr.heap.size + 1) (by simp) ?_; intro gg cap w2 hown2 hgrow hat hlt4))
      have hr2 : RingH b w2 { r with l := r.l.drop k } hd := Hr.out.congr ((hgrow.block b (by simp; omega) (Ne.symm hnb)).trans (Below.heap_alloc wr _ b hlt3))
      have hm2 : Mod (· = b) w w2 := hm.trans (((Mod.refl _ wr).alloc _).drew.trans ⟨hgrow.os, hgrow.tape, hgrow.output, hgrow.size, fun x hx hn => hgrow.block x hx (fun e => by
        have := hown.lt x e.symm; simp at hx; exact hn (.inl (.inr this.1)))⟩)
      clear c256 c257 hrow hfr
      have c256 := hr2.chead
      have c257 := hr2.csize
      have hfr := hr2.fr
      have hlen := Hlen.out
      dsimp only at c257
      rw [hlen] at c257
      have Hr2 := Lib.hid hr2
      clear hr2 hlen
      obtain ⟨sz, hsz2⟩ : ∃ sz : Nat, sz = r.l.length - k := ⟨_, rfl⟩
      rw [← hsz2] at c257
      have hsz3 : 0 < sz := by omega
      have hsz4 : sz ≤ 256 := by omega
      have Hsz := Lib.hid hsz2
      clear hsz2
      go_wp2
      go_roundw
      case rel =>
        have hd1 : ((hd : Int) + 1) % 256 = (((hd + 1) % 256 : Nat) : Int) := by omega
        have hs1 : ((sz : Int) - 1) = ((sz - 1 : Nat) : Int) := by omega
        have hl1 : (List.drop (k + 1) r.l).length = sz - 1 := by have := Hsz.out; simp; omega
        have hl2 : (List.drop k r.l).length = sz := by have := Hsz.out; have := Hlen.out; omega
        have hgb : gg ≠ b := fun e => by rcases hat with e' | e'; exact hnb (e ▸ e'); omega
        have hp := Hr2.out.pop1 (by dsimp only; omega)
        dsimp only at hp
        rw [hl2] at hp
        rw [hd1, hs1]
        refine ⟨k + 1, by omega, by go_num, ?_, ?_, ?_⟩
        · rw [Hk1.out]; exact ownsRow_setCell_other (ownsRow_setCell_other hown2 (by simpa [Value.ownBlock] using hgb) _) (by simpa [Value.ownBlock] using hgb) _
        · rw [Hmod.out, Hdr.out]; exact hp
        · exact (hm2.setCell (.inl rfl) _).setCell (.inl rfl) _
      case measure => simp [intOf]; omega
    · go_wp2
      go_ret
      obtain rfl : k = n := by omega
      exact ⟨_, rfl, hown, hr, hm⟩

theorem getD_eq (l : List Int) (h : 0 < l.length) : ∃ g t, l = g :: t := by cases l with | nil => simp at h | cons g t => exact ⟨g, t, rfl⟩

set_option maxRecDepth 100000 in
/-- Get where the next one is taken, or there is none. -/
theorem get_next (b : Nat) (r : Hst.Ring) (w : World) (h : RingAt b w r) (hc : (r.is = true ∧ (r.l = [] ∨ r.streak < 4)) ∨ (r.is = false ∧ r.l = [])) :
    Calls Tryz.prog 210 #[.pointer (some ⟨b, 0, none⟩)] w fun e w' =>
      e = .returned (.tuple #[.int .i64 r.get.2.1, .bool r.get.2.2]) ∧ RingAt b w' r.get.1 ∧ Mod (· = b) w w' := by
  obtain ⟨head, h⟩ := h
  obtain ⟨l, is, next, streak⟩ := r
  have c257 := h.csize
  have c258 := h.cis
  have c259 := h.cnext
  have c260 := h.cstreak
  have hfr := h.fr
  have hst := h.streak
  dsimp only at *
  rcases hc with ⟨rfl, hc⟩ | ⟨rfl, rfl⟩
  · by_cases hl : l = []
    · subst hl
      simp only [List.length_nil] at c257
      go_enter Tryz.func210, Tryz.ntmps210
      go_wp2
      go_ret2
      exact ⟨by simp [Ring.get], ⟨head, by simpa [Ring.get] using (h.setStreak 0 (by decide)).setIs false⟩, ((Mod.refl _ w).setB _ _).setB _ _⟩
    · have hl' : 0 < l.length := List.length_pos_iff.2 hl
      have hst' : streak < 4 := by rcases hc with hc | hc; exact absurd hc hl; exact hc
      have e1 : ((l.length : Int) == 0) = false := by simp; omega
      go_enter Tryz.func210, Tryz.ntmps210
      go_wp2
      go_ret2
      exact ⟨by simp [Ring.get, hl, hst'], ⟨head, by simpa [Ring.get, hl, hst'] using (h.setStreak (streak + 1) (by omega)).setIs false⟩, ((Mod.refl _ w).setB _ _).setB _ _⟩
  · simp only [List.length_nil] at c257
    go_enter Tryz.func210, Tryz.ntmps210
    go_wp2
    go_ret2
    exact ⟨by simp [Ring.get], ⟨head, by simpa [Ring.get] using h⟩, Mod.refl _ _⟩

set_option maxRecDepth 100000 in
set_option maxHeartbeats 800000 in
/-- push: one more behind the row, which has room. -/
theorem push_any (b : Nat) (r : Hst.Ring) (head : Nat) (g : Int) (w : World) (h : RingH b w r head) (hs : r.l.length < 256) :
    Calls Tryz.prog 240 #[.pointer (some ⟨b, 0, none⟩), .int .i64 g] w fun e w' =>
      e = .returned (.tuple #[]) ∧ RingH b w' { r with l := r.l ++ [g] } head ∧ Mod (· = b) w w' := by
  have c256 := h.chead
  have c257 := h.csize
  have hh := h.head_lt
  have hfr := h.fr
  obtain ⟨u, hu⟩ := h.slot _ (Nat.mod_lt (head + r.l.length) (show 0 < 256 by decide))
  have Hh := Lib.hid h
  clear h
  have hp := Hh.out.push g hs
  have Hp := Lib.hid hp
  clear hp
  obtain ⟨l, is, next, streak⟩ := r
  dsimp only at *
  have hm := Nat.mod_lt (head + l.length) (show 0 < 256 by decide)
  have hlen : l.length ≤ 256 := by omega
  have em0 : ((head : Int) + (l.length : Int)) % 256 = (((head + l.length) % 256 : Nat) : Int) := by omega
  have em1 : ((head : Int) + (l.length : Int)).tmod 256 = (((head + l.length) % 256 : Nat) : Int) := by rw [Int.tmod_eq_emod_of_nonneg (by omega)]; exact em0
  have e0 : IntKind.i64.wrap ((head : Int) + (l.length : Int)) = (head : Int) + (l.length : Int) := IntWalk.i64_in _ (by omega)
  generalize (head + l.length) % 256 = m at *
  have hmI : (m : Int) < 256 := by omega
  go_enter Tryz.func240, Tryz.ntmps240
  go_wp2
  go_still_tail 15, (by kernel_rfl)
  change wpList _ _ _ _ _ w.drew
  go_wp2
  go_end0
  exact ⟨rfl, Hp.out.congr rfl, (((Mod.refl _ w).setB _ _).setB _ _).drew⟩
end Go.Proofs.YtfjepdcnikgjeaaGreatDoor
