/-
  Contracts of the queue's functions, further.
-/
import Derived.Test.YtfjepdcnikgjeaaGreatDoorGlob
import Derived.Test.YtfjepdcnikgjeaaGreatDoorApp
import Derived.WalkLawsBesides
import Derived.Deep.RegionHeld3
namespace Go.Proofs.YtfjepdcnikgjeaaGreatDoor
open Go Go.RowKit Hst Go.Proofs

theorem GlobAt.of_row {S : Nat → Prop} {b n : Nat} {w w' : World} {l l' : List Int} (h : GlobAt S b w n l) (hr : RowAt S b 0 w' l') (hc : ∀ o, o ≠ 0 → w'.cell? ⟨b, o, none⟩ = w.cell? ⟨b, o, none⟩) (hf : ∀ o, w'.frozen? ⟨b, o, none⟩ = false) : GlobAt S b w' n l' :=
  ⟨h.inS, hr, by rw [hc 1 (by decide)]; exact h.cn, hf⟩

theorem row_len {S : Nat → Prop} {b o : Nat} {w : World} {l : List Int} (h : RowAt S b o w l) : ∃ a c, w.cell? ⟨b, o, none⟩ = some (.slice a l.length c) := by
  obtain ⟨v, c0, hown, _, _⟩ := h
  rcases hown.2 with ⟨rfl, h0⟩ | ⟨g, cap, cur, rfl, _⟩
  · exact ⟨none, 0, by rw [h0]; exact c0⟩
  · exact ⟨_, _, c0⟩

theorem ret_int {k : IntKind} {a b : Int} (h : a = b) : Ending.returned (.int k a) = Ending.returned (.int k b) := by rw [h]

theorem glen_any (b : Nat) (a : Option Addr) (n c : Nat) (w : World) (c0 : w.cell? ⟨b, 0, none⟩ = some (.slice a n c)) :
    Calls Tryz.prog 215 #[.pointer (some ⟨b, 0, none⟩)] w fun e w' => e = .returned (.int .i64 n) ∧ w' = w := by
  go_enter Tryz.func215, Tryz.ntmps215
  go_wp2
  go_ret
  exact ⟨rfl, rfl⟩

set_option maxRecDepth 100000 in
set_option maxHeartbeats 800000 in
theorem share_any (b n len c k : Nat) (a : Option Addr) (w : World) (c0 : w.cell? ⟨b, 0, none⟩ = some (.slice a len c)) (c1 : w.cell? ⟨b, 1, none⟩ = some (.int .i64 n)) (hn : 0 < n) (hn2 : n ≤ 4294967296) (hbig : len ≤ 4294967296)
    (hk : k = min (min (len / n + 1) len) 128) :
    Calls Tryz.prog 242 #[.pointer (some ⟨b, 0, none⟩)] w fun e w' => e = .returned (.int .i64 k) ∧ ∃ q, w' = w.drewN q := by
  have e1 : (len : Int).tdiv n = ((len / n : Nat) : Int) := by rw [Int.tdiv_eq_ediv_of_nonneg (by omega)]; simp
  have e0 : ((n : Int) == 0) = false := by simp; omega
  obtain ⟨m, hm⟩ : ∃ m, m = len / n := ⟨_, rfl⟩
  have hml : m ≤ len := by rw [hm]; exact Nat.div_le_self _ _
  rw [← hm] at e1
  have e2 : (len : Int) / n = (m : Int) := by rw [hm]; simp
  have e3 : min (min ((m : Int) + 1) (len : Int)) 128 = (k : Int) := by rw [hk, ← hm]; omega
  clear hm hk
  have h0 : ¬ n = 0 := by omega
  have w1 : IntKind.i64.wrap ((len : Int).tdiv n) = (m : Int) := by rw [e1]; exact IntWalk.i64_in _ (by omega)
  have w2 : IntKind.i64.wrap (m : Int) = (m : Int) := IntWalk.i64_in _ (by omega)
  have w3 : IntKind.i64.wrap ((m : Int) + 1) = (m : Int) + 1 := IntWalk.i64_in _ (by omega)
  go_enter Tryz.func242, Tryz.ntmps242
  go_wp2
  go_quiet ((go_at_call 215; exact Calls.quiet_of_same (glen_any b a len c _ (by exact c0))))
  go_wp2
  all_goals go_ret
  all_goals exact ⟨ret_int (by omega), nq, rfl⟩

set_option maxRecDepth 100000 in
set_option maxHeartbeats 1600000 in
theorem gtake_any (S : Nat → Prop) (b n : Nat) (l : List Int) (w : World) (h : GlobAt S b w n l) (hn : 0 < n) (hn2 : n ≤ 4294967296) (hbig : l.length ≤ 4294967296) (k : Nat) (hk : k = min (min (l.length / n + 1) l.length) 128) :
    Calls Tryz.prog 212 #[.pointer (some ⟨b, 0, none⟩)] w fun e w' =>
      ∃ v, e = .returned v ∧ w'.ownsRow w.heap.size 3 1 v k (ints (l.take k)) ∧ GlobAt S b w' n (l.drop k) ∧ Mod S w w' := by
  obtain ⟨a, c, c0⟩ := row_len h.row
  have c1 := h.cn
  have hkl : k ≤ l.length := by omega
  have H := Lib.hid h
  have Hk := Lib.hid hk
  clear h hk
  go_enter Tryz.func212, Tryz.ntmps212
  go_wp2
  go_region_held3 (fun w' => w'.cell? ⟨b, 1, none⟩ = some (.int .i64 n))
    (first | go_keep | (rw [hcs 1 (by decide)]; assumption))
    (first
      | (go_at_call 242; refine (share_any b n l.length c k a _ (by exact c0) (by exact c1) hn hn2 hbig Hk.out).mono ?_; rintro e w1 ⟨rfl, q, rfl⟩)
      | (go_at_call 241; refine (takeMost_any S b k k l _ H.out.inS (by exact H.out.row.congr rfl (fun _ _ _ => rfl)) (by exact H.out.fr) hbig (by omega)).mono ?_; rintro e w2 ⟨v, rfl, hown, hrow, hmod, hcs, hfs⟩))
  go_wp2
  go_ret
  exact ⟨v, rfl, hown, H.out.of_row hrow hcs hfs, ((Mod.refl S w).drewN _).trans1 hmod⟩

set_option maxRecDepth 100000 in
set_option maxHeartbeats 800000 in
theorem gone_any (S : Nat → Prop) (b n : Nat) (l : List Int) (w : World) (h : GlobAt S b w n l) (hbig : l.length ≤ 4294967296) :
    Calls Tryz.prog 208 #[.pointer (some ⟨b, 0, none⟩)] w fun e w' =>
      e = .returned (.tuple #[.int .i64 (l.headD 0), .bool (!l.isEmpty)]) ∧ GlobAt S b w' n l.tail ∧ Mod S w w' := by
  cases l with
  | nil =>
    go_enter Tryz.func208, Tryz.ntmps208
    go_wp2_with (go_at_call 238; go_in)
    refine (takeMost_any S b 1 0 [] w h.inS h.row h.fr (by simp) (by simp only [List.length_nil]; omega)).mono ?_
    rintro e w' ⟨v, rfl, hown, hrow, hmod, hcs, hfs⟩
    obtain ⟨a, c, rfl⟩ : ∃ a c, v = .slice a 0 c := by
      rcases hown.2 with ⟨rfl, _⟩ | ⟨g, cap, cur, rfl, _⟩
      · exact ⟨_, _, rfl⟩
      · exact ⟨_, _, rfl⟩
    go_wp2
    go_ret2
    exact ⟨rfl, h.of_row hrow hcs hfs, hmod⟩
  | cons g t =>
    go_enter Tryz.func208, Tryz.ntmps208
    go_wp2_with (go_at_call 238; go_in)
    refine (takeMost_any S b 1 1 (g :: t) w h.inS h.row h.fr hbig (by simp; omega)).mono ?_
    rintro e w' ⟨v, rfl, hown, hrow, hmod, hcs, hfs⟩
    obtain ⟨gb, cap, rfl, hgb, hgl, hcap⟩ := ownsRow_some hown (by decide)
    have hg0 := hown.cellAt 0 (by decide)
    simp [ints] at hg0
    go_wp2
    go_ret2
    exact ⟨rfl, h.of_row hrow hcs hfs, hmod⟩

end Go.Proofs.YtfjepdcnikgjeaaGreatDoor
