/-
  The document's word of an event; what it reads of a word.
-/
import Derived.BigQuiet
import Derived.Deep.QuietTactic
import Derived.Deep.RegionHeld3
import Derived.Outline
import Derived.Test.YtnkbddebafcjbaaDoorGlRef1
namespace Go.Proofs.YtnkbddebafcjbaaDoor
open Go Go.RowKit Go.Proofs




set_option maxHeartbeats 8000000 in
set_option maxRecDepth 100000 in
theorem refWord_any (e : Ev) (he : rightOf e = true) (hv0 : -9223372036854775808 ≤ e.v) (hv1 : e.v ≤ 9223372036854775807) (w : World) :
    Calls Tryd.prog 19 #[evV e] w fun r w' => r = .returned (.string ⟨(wordOf e).toArray⟩) ∧ Below w.heap.size w w' := by
  obtain ⟨k, g, m, p, v⟩ := e
  have hq := he
  simp only [rightOf, decide_eq_true_eq] at hq
  obtain ⟨k0, k1, g0, g1, m0, m1, p0, p1, _⟩ := hq
  dsimp only at hv0 hv1
  have ek : Lib.encodeRune (runeOf k) = kName k := by unfold kName; rw [if_pos ⟨k0, k1⟩]
  have l0 := encodeRune_le (runeOf k)
  rw [ek] at l0
  have lg := Lib.itoa_length_le g (by omega) (by omega)
  have lm := Lib.itoa_length_le m (by omega) (by omega)
  have lp := Lib.itoa_length_le p (by omega) (by omega)
  have lv := Lib.itoa_length_le v (by omega) (by omega)
  have hG := number_ref g (by omega) (by omega)
  have hM := number_ref m (by omega) (by omega)
  have hP := number_ref p (by omega) (by omega)
  have hV := number_ref v (by omega) (by omega)
  have hK := refKind k
  have ew : wordOf ⟨k, g, m, p, v⟩ = kName k ++ Lib.itoa g ++ (if 0 ≤ m then 109 :: Lib.itoa m else []) ++ (if 0 ≤ p then 112 :: Lib.itoa p else []) ++ (if v ≠ 0 then 61 :: Lib.itoa v else []) := by simp only [wordOf, ek]
  rw [ew]
  simp only [evV]
  clear ew ek he
  have HG := Lib.hid hG
  have HM := Lib.hid hM
  have HP := Lib.hid hP
  have HV := Lib.hid hV
  have HK := Lib.hid hK
  clear hG hM hP hV hK
  generalize kName k = nk at *
  generalize Lib.itoa g = ng at *
  generalize Lib.itoa m = nm at *
  generalize Lib.itoa p = np at *
  generalize Lib.itoa v = nv at *
  have hcat0 : ¬ 9223372036854775807 < nk.length + ng.length := by omega
  go_enter Tryd.func19, Tryd.ntmps19
  go_wp2
  go_region_held3 (fun w' => w'.cell? ⟨w.heap.size, 0, none⟩ = some (.int .i64 k) ∧ w'.cell? ⟨w.heap.size, 1, none⟩ = some (.int .i64 g)) (first | go_keep | (refine ⟨?_, ?_⟩ <;> (rw [below_cell (by assumption) (by simp)]; go_keep)))
    (first
      | (go_at_call 25; refine (HK.out _).mono ?_; rintro e w' ⟨rfl, rfl⟩)
      | (go_at_call 34; refine (HG.out _).mono ?_; rintro e w' ⟨rfl, hb⟩))
  have K : Below w.heap.size w w' := ((Below.refl _ w).alloc (Nat.le_refl _) _).drew.trans (hb.mono (by simp))
  have hlt : w.heap.size < w'.heap.size := by have := hb.size; simp at this; omega
  have B2 : w'.cell? ⟨w.heap.size, 2, none⟩ = some (.int .i64 m) := (below_cell hb (by simp)).trans (by go_keep)
  have B3 : w'.cell? ⟨w.heap.size, 3, none⟩ = some (.int .i64 p) := (below_cell hb (by simp)).trans (by go_keep)
  have B4 : w'.cell? ⟨w.heap.size, 4, none⟩ = some (.int .i64 v) := (below_cell hb (by simp)).trans (by go_keep)
  clear hb
  have D2 := Lib.hid B2
  have D3 := Lib.hid B3
  have D4 := Lib.hid B4
  clear B2 B3 B4
  have c2 := D2.out
  have c3 := D3.out
  have c4 := D4.out
  by_cases hm : 0 ≤ m <;> by_cases hp : 0 ≤ p <;> by_cases hv : v = 0
  · subst hv
    go_wp2_with fail
    refine (HM.out _).mono ?_
    rintro e W1 ⟨rfl, hb⟩
    have J := (Below.refl _ w').trans (hb.mono (Nat.le_refl _))
    have K := K.trans (hb.mono K.size)
    clear hb
    have c2 := (below_cell J hlt).trans D2.out
    have c3 := (below_cell J hlt).trans D3.out
    have c4 := (below_cell J hlt).trans D4.out
    go_wp2_with fail
    refine (HP.out _).mono ?_
    rintro e W2 ⟨rfl, hb⟩
    have J := J.trans (hb.mono J.size)
    have K := K.trans (hb.mono K.size)
    clear hb
    have c2 := (below_cell J hlt).trans D2.out
    have c3 := (below_cell J hlt).trans D3.out
    have c4 := (below_cell J hlt).trans D4.out
    go_wp2
    go_returns
    exact ⟨by simp [← cat_arr] <;> (apply ByteArray.ext; simp [ByteArray.data_append]), K⟩
  · go_wp2_with fail
    refine (HM.out _).mono ?_
    rintro e W1 ⟨rfl, hb⟩
    have J := (Below.refl _ w').trans (hb.mono (Nat.le_refl _))
    have K := K.trans (hb.mono K.size)
    clear hb
    have c2 := (below_cell J hlt).trans D2.out
    have c3 := (below_cell J hlt).trans D3.out
    have c4 := (below_cell J hlt).trans D4.out
    go_wp2_with fail
    refine (HP.out _).mono ?_
    rintro e W2 ⟨rfl, hb⟩
    have J := J.trans (hb.mono J.size)
    have K := K.trans (hb.mono K.size)
    clear hb
    have c2 := (below_cell J hlt).trans D2.out
    have c3 := (below_cell J hlt).trans D3.out
    have c4 := (below_cell J hlt).trans D4.out
    go_wp2_with fail
    refine (HV.out _).mono ?_
    rintro e W3 ⟨rfl, hb⟩
    have J := J.trans (hb.mono J.size)
    have K := K.trans (hb.mono K.size)
    clear hb
    have c2 := (below_cell J hlt).trans D2.out
    have c3 := (below_cell J hlt).trans D3.out
    have c4 := (below_cell J hlt).trans D4.out
    go_wp2
    go_returns
    exact ⟨by simp [← cat_arr] <;> (apply ByteArray.ext; simp [ByteArray.data_append]), K⟩
  · subst hv
    go_wp2_with fail
    refine (HM.out _).mono ?_
    rintro e W1 ⟨rfl, hb⟩
    have J := (Below.refl _ w').trans (hb.mono (Nat.le_refl _))
    have K := K.trans (hb.mono K.size)
    clear hb
    have c2 := (below_cell J hlt).trans D2.out
    have c3 := (below_cell J hlt).trans D3.out
    have c4 := (below_cell J hlt).trans D4.out
    go_wp2
    go_returns
    exact ⟨by simp [← cat_arr] <;> (apply ByteArray.ext; simp [ByteArray.data_append]), K⟩
  · go_wp2_with fail
    refine (HM.out _).mono ?_
    rintro e W1 ⟨rfl, hb⟩
    have J := (Below.refl _ w').trans (hb.mono (Nat.le_refl _))
    have K := K.trans (hb.mono K.size)
    clear hb
    have c2 := (below_cell J hlt).trans D2.out
    have c3 := (below_cell J hlt).trans D3.out
    have c4 := (below_cell J hlt).trans D4.out
    go_wp2_with fail
    refine (HV.out _).mono ?_
    rintro e W2 ⟨rfl, hb⟩
    have J := J.trans (hb.mono J.size)
    have K := K.trans (hb.mono K.size)
    clear hb
    have c2 := (below_cell J hlt).trans D2.out
    have c3 := (below_cell J hlt).trans D3.out
    have c4 := (below_cell J hlt).trans D4.out
    go_wp2
    go_returns
    exact ⟨by simp [← cat_arr] <;> (apply ByteArray.ext; simp [ByteArray.data_append]), K⟩
  · subst hv
    go_wp2_with fail
    refine (HP.out _).mono ?_
    rintro e W1 ⟨rfl, hb⟩
    have J := (Below.refl _ w').trans (hb.mono (Nat.le_refl _))
    have K := K.trans (hb.mono K.size)
    clear hb
    have c2 := (below_cell J hlt).trans D2.out
    have c3 := (below_cell J hlt).trans D3.out
    have c4 := (below_cell J hlt).trans D4.out
    go_wp2
    go_returns
    exact ⟨by simp [← cat_arr] <;> (apply ByteArray.ext; simp [ByteArray.data_append]), K⟩
  · go_wp2_with fail
    refine (HP.out _).mono ?_
    rintro e W1 ⟨rfl, hb⟩
    have J := (Below.refl _ w').trans (hb.mono (Nat.le_refl _))
    have K := K.trans (hb.mono K.size)
    clear hb
    have c2 := (below_cell J hlt).trans D2.out
    have c3 := (below_cell J hlt).trans D3.out
    have c4 := (below_cell J hlt).trans D4.out
    go_wp2_with fail
    refine (HV.out _).mono ?_
    rintro e W2 ⟨rfl, hb⟩
    have J := J.trans (hb.mono J.size)
    have K := K.trans (hb.mono K.size)
    clear hb
    have c2 := (below_cell J hlt).trans D2.out
    have c3 := (below_cell J hlt).trans D3.out
    have c4 := (below_cell J hlt).trans D4.out
    go_wp2
    go_returns
    exact ⟨by simp [← cat_arr] <;> (apply ByteArray.ext; simp [ByteArray.data_append]), K⟩
  · subst hv
    go_wp2
    go_returns
    exact ⟨by simp [← cat_arr] <;> (apply ByteArray.ext; simp [ByteArray.data_append]), K⟩
  · go_wp2_with fail
    refine (HV.out _).mono ?_
    rintro e W1 ⟨rfl, hb⟩
    have J := (Below.refl _ w').trans (hb.mono (Nat.le_refl _))
    have K := K.trans (hb.mono K.size)
    clear hb
    have c2 := (below_cell J hlt).trans D2.out
    have c3 := (below_cell J hlt).trans D3.out
    have c4 := (below_cell J hlt).trans D4.out
    go_wp2
    go_returns
    exact ⟨by simp [← cat_arr] <;> (apply ByteArray.ext; simp [ByteArray.data_append]), K⟩
end Go.Proofs.YtnkbddebafcjbaaDoor
