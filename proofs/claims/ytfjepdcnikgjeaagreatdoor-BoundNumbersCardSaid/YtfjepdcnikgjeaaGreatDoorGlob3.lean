/-
  Contracts of the queue's functions: what is put, what is listed.
-/
import Derived.Test.YtfjepdcnikgjeaaGreatDoorGlob2
namespace Go.Proofs.YtfjepdcnikgjeaaGreatDoor
open Go Go.RowKit Hst Go.Proofs

set_option maxRecDepth 100000 in
set_option maxHeartbeats 1600000 in
/-- Put of a row that is some slice's. -/
theorem gput_any (S : Nat → Prop) (b n base : Nat) (l xs : List Int) (vx : Value) (w : World) (h : GlobAt S b w n l) (hx : w.ownsRow base 3 1 vx xs.length (ints xs)) (hbig : l.length + xs.length ≤ 4294967296) :
    Calls Tryz.prog 111 #[.pointer (some ⟨b, 0, none⟩), vx] w fun e w' =>
      e = .returned (.tuple #[]) ∧ GlobAt (fun x => S x ∨ w.heap.size ≤ x) b w' n (l ++ xs) ∧ Mod S w w' := by
  obtain ⟨v, c0, hown, hin, hne⟩ := h.row
  have hfr := h.fr
  have c1 := h.cn
  have hS := h.inS
  have hbl := World.block_lt_of_cell? w _ c0
  obtain ⟨i0, hi, hz0, hz1, hz2⟩ := info_parts Tryz.infoInt
  obtain ⟨v', w2, hrun, hown2, hgrow, hat, a2, c2, rfl⟩ := append_ints (P := Tryz.prog) 33 33 3 i0 w 0 base v vx l xs Tryz.underlying33 hi hz0 hz1 hz2 hown hx (Nat.zero_le _) hbig
  obtain ⟨hrow, k0⟩ := RowAt.append hne hin c0 hown2 hgrow hat
  have k1 : w2.cell? ⟨b, 1, none⟩ = some (.int .i64 n) := hgrow.cell c1 (Ne.symm hne)
  have kf : ∀ o, w2.frozen? ⟨b, o, none⟩ = false := fun o => (World.frozen?_of_block (a := ⟨b, o, none⟩) (hgrow.block b hbl (Ne.symm hne))).trans (hfr o)
  have Hrun := Lib.hid hrun
  have Hrow := Lib.hid hrow
  have Hat := Lib.hid hat
  clear h hrun hrow hat
  go_enter Tryz.func111, Tryz.ntmps111
  go_wp2_with (first | (go_at_call 153; go_in) | (at_builtin; refine wpList_append_run rfl _ _ 33 rfl _ _ _ rfl rfl Hrun.out ?_))
  go_end0
  dsimp only
  go_wp2
  go_end0
  rw [← List.length_append]
  refine ⟨rfl, ⟨.inl hS, Hrow.out, ?_, ?_⟩, ?_⟩
  · rw [cell_set k0, if_neg (by decide)]; exact k1
  · intro o; rw [World.frozen?_setCell]; exact kf o
  · exact Mod.setCell ⟨hgrow.os, hgrow.tape, hgrow.output, hgrow.size, fun k hk hs => hgrow.block k hk (fun e => hs (hin k e.symm))⟩ (.inl hS) _

set_option maxRecDepth 100000 in
/-- List: a copy of the row. -/
theorem glist_any (S : Nat → Prop) (b n : Nat) (l : List Int) (w : World) (h : GlobAt S b w n l) (hbig : l.length ≤ 4294967296) :
    Calls Tryz.prog 113 #[.pointer (some ⟨b, 0, none⟩)] w fun e w' =>
      ∃ v, e = .returned v ∧ w'.ownsRow w.heap.size 3 1 v l.length (ints l) ∧ Below w.heap.size w w' := by
  obtain ⟨v, c0, hown, hin, hne⟩ := h.row
  have hcl := clone_first v l.length 0 l w hown (Nat.le_refl _) (by omega)
  rw [List.take_length] at hcl
  obtain ⟨a, c, rfl⟩ := ownsRow_slice hown
  go_enter Tryz.func113, Tryz.ntmps113
  go_wp2_with (first | (go_at_call 154; go_in))
  refine (hcl c).mono ?_
  rintro e w' ⟨v', rfl, hown', hb⟩
  go_wp2
  go_ret
  exact ⟨_, rfl, hown', hb⟩
end Go.Proofs.YtfjepdcnikgjeaaGreatDoor
