/-
  Where a machine goes on behind its section.
-/
import Derived.Test.YtfjepdcnikgjeaaGreatDoorDo1
import Derived.BigRegion
set_option linter.unusedVariables false
set_option linter.unusedSimpArgs false
set_option linter.unusedSectionVars false
namespace Go.Proofs.YtfjepdcnikgjeaaGreatDoor
open Go Go.RowKit Hst Go.Proofs

set_option maxRecDepth 100000 in
set_option maxHeartbeats 1600000 in
theorem take_to {F : Fix} {V : Vol} {ow : Nat → Nat} {w : World} {p : Wd} (h : WAt F V ow w p) (i : Nat) (hi : i < p.M) :
    Calls Tryz.prog 255 #[.pointer (some ⟨F.W, 0, none⟩), .int .i64 i] w fun e w' => e = .returned (.tuple #[]) ∧ ∃ ow', On F V ow w ow' w' (p.take i) := by
  have c13 := h.cW_all
  have c0 := h.cA_place hi
  have c1 := h.cA_p hi
  have c6 := h.cA_i hi
  have c7 := h.cA_spin hi
  have c10 := h.cA_back hi
  have c11 := h.cA_after hi
  have cP := h.cW_F_P
  obtain ⟨ra, rc, hrv⟩ := ownsRow_slice (h.crest i hi).1
  have c9 := h.cA_rest hi
  rw [hrv] at c9
  have fA := h.call.2
  have hM := h.dim
  have hcap := h.own_cap.2
  have nWA := h.own.ne.2.2.2.2.1
  have H := Lib.hid h
  unfold dims at hM
  clear h hrv
  by_cases hr : (p.mach i).rest.length = 0
  · have hr0 : (p.mach i).rest = [] := List.eq_nil_of_length_eq_zero hr
    rw [hr] at c9
    have Hr := Lib.hid hr0
    clear hr hr0
    cases hs : (p.mach i).spin
    · rw [hs] at c7
      have Hs := Lib.hid hs
      clear hs
      go_enter Tryz.func255, Tryz.ntmps255
      go_wp2
      go_returns
      exact ⟨rfl, _, (((OnM.start H.out hi).s_back 20).s_place 20).fin (by unfold Wd.take; simp only [Hr.out, Hs.out]; rfl)⟩
    · rw [hs] at c7
      have Hs := Lib.hid hs
      clear hs
      go_enter Tryz.func255, Tryz.ntmps255
      go_wp2
      go_returns
      exact ⟨rfl, _, (((OnM.start H.out hi).s_back 20).s_place 19).fin (by unfold Wd.take; simp only [Hr.out, Hs.out]; rfl)⟩
  · have hr0 : (p.mach i).rest ≠ [] := fun e => hr (by rw [e]; rfl)
    have hr1 : (0 : Int) < ((p.mach i).rest.length : Int) := by omega
    have Hr := Lib.hid hr0
    clear hr hr0
    go_enter Tryz.func255, Tryz.ntmps255
    go_wp2
    go_returns
    exact ⟨rfl, _, (((OnM.start H.out hi).s_back 20).s_place 17).fin (by unfold Wd.take; simp only [if_pos Hr.out])⟩

set_option maxRecDepth 100000 in
set_option maxHeartbeats 1600000 in
theorem settle_to {F : Fix} {V : Vol} {ow : Nat → Nat} {w : World} {p : Wd} (h : WAt F V ow w p) (i : Nat) (hi : i < p.M) :
    Calls Tryz.prog 225 #[.pointer (some ⟨F.W, 0, none⟩), .int .i64 i] w fun e w' => e = .returned (.tuple #[]) ∧ ∃ ow', On F V ow w ow' w' (p.settle i) := by
  have c13 := h.cW_all
  have c0 := h.cA_place hi
  have c1 := h.cA_p hi
  have c6 := h.cA_i hi
  have c7 := h.cA_spin hi
  have c10 := h.cA_back hi
  have c11 := h.cA_after hi
  have cP := h.cW_F_P
  obtain ⟨ra, rc, hrv⟩ := ownsRow_slice (h.crest i hi).1
  have c9 := h.cA_rest hi
  rw [hrv] at c9
  have fA := h.call.2
  have hM := h.dim
  have hcap := h.own_cap.2
  have nWA := h.own.ne.2.2.2.2.1
  have H := Lib.hid h
  unfold dims at hM
  clear h hrv
  by_cases hr : (p.mach i).rest.length = 0
  · have hr0 : (p.mach i).rest = [] := List.eq_nil_of_length_eq_zero hr
    rw [hr] at c9
    have Hr := Lib.hid hr0
    clear hr hr0
    cases hs : (p.mach i).spin
    · rw [hs] at c7
      have Hs := Lib.hid hs
      clear hs
      go_enter Tryz.func225, Tryz.ntmps225
      go_wp2
      go_returns
      exact ⟨rfl, _, ((OnM.start H.out hi).s_place 21).fin (by unfold Wd.settle; simp only [Hr.out, Hs.out]; rfl)⟩
    · rw [hs] at c7
      have Hs := Lib.hid hs
      clear hs
      go_enter Tryz.func225, Tryz.ntmps225
      go_wp2
      go_returns
      exact ⟨rfl, _, ((OnM.start H.out hi).s_place 19).fin (by unfold Wd.settle; simp only [Hr.out, Hs.out]; rfl)⟩
  · have hr0 : (p.mach i).rest ≠ [] := fun e => hr (by rw [e]; rfl)
    have hr1 : (0 : Int) < ((p.mach i).rest.length : Int) := by omega
    have Hr := Lib.hid hr0
    clear hr hr0
    go_enter Tryz.func225, Tryz.ntmps225
    go_wp2
    go_returns
    exact ⟨rfl, _, ((OnM.start H.out hi).s_place 18).fin (by unfold Wd.settle; simp only [if_pos Hr.out])⟩

set_option maxRecDepth 100000 in
set_option maxHeartbeats 1600000 in
theorem steal_to {F : Fix} {V : Vol} {ow : Nat → Nat} {w : World} {p : Wd} (h : WAt F V ow w p) (i : Nat) (hi : i < p.M) (f : Int) :
    Calls Tryz.prog 179 #[.pointer (some ⟨F.W, 0, none⟩), .int .i64 i, .int .i64 f] w fun e w' => e = .returned (.tuple #[]) ∧ ∃ ow', On F V ow w ow' w' (p.steal i f) := by
  have c13 := h.cW_all
  have c0 := h.cA_place hi
  have c1 := h.cA_p hi
  have c6 := h.cA_i hi
  have c7 := h.cA_spin hi
  have c10 := h.cA_back hi
  have c11 := h.cA_after hi
  have cP := h.cW_F_P
  obtain ⟨ra, rc, hrv⟩ := ownsRow_slice (h.crest i hi).1
  have c9 := h.cA_rest hi
  rw [hrv] at c9
  have fA := h.call.2
  have hM := h.dim
  have hcap := h.own_cap.2
  have nWA := h.own.ne.2.2.2.2.1
  have H := Lib.hid h
  unfold dims at hM
  clear h hrv
  by_cases hf : (p.P : Int) ≤ f
  · have Hf := Lib.hid hf
    go_enter Tryz.func179, Tryz.ntmps179
    go_wp2
    go_returns
    exact ⟨rfl, _, (((OnM.start H.out hi).s_i f).s_place 6 |>.s_place 7).fin (by unfold Wd.steal; rw [if_pos (show f ≥ (p.P : Int) from Hf.out)])⟩
  · have Hf := Lib.hid hf
    go_enter Tryz.func179, Tryz.ntmps179
    go_wp2
    go_returns
    exact ⟨rfl, _, (((OnM.start H.out hi).s_i f).s_place 6).fin (by unfold Wd.steal; rw [if_neg (show ¬ f ≥ (p.P : Int) from by have := Hf.out; omega)])⟩

set_option maxRecDepth 100000 in
set_option maxHeartbeats 1600000 in
theorem deliver_to {F : Fix} {V : Vol} {ow : Nat → Nat} {w : World} {p : Wd} (h : WAt F V ow w p) (i : Nat) (hi : i < p.M) (a : Nat) :
    Calls Tryz.prog 170 #[.pointer (some ⟨F.W, 0, none⟩), .int .i64 i, .int .i64 a] w fun e w' => e = .returned (.tuple #[]) ∧ ∃ ow', On F V ow w ow' w' (p.deliver i a) := by
  have c13 := h.cW_all
  have c0 := h.cA_place hi
  have c1 := h.cA_p hi
  have c6 := h.cA_i hi
  have c7 := h.cA_spin hi
  have c10 := h.cA_back hi
  have c11 := h.cA_after hi
  have cP := h.cW_F_P
  obtain ⟨ra, rc, hrv⟩ := ownsRow_slice (h.crest i hi).1
  have c9 := h.cA_rest hi
  rw [hrv] at c9
  have fA := h.call.2
  have hM := h.dim
  have hcap := h.own_cap.2
  have nWA := h.own.ne.2.2.2.2.1
  have H := Lib.hid h
  unfold dims at hM
  clear h hrv
  go_enter Tryz.func170, Tryz.ntmps170
  go_wp2
  go_region
  go_wp2
  go_returns
  exact ⟨rfl, _, (((OnM.start H.out hi).s_after a).s_place 25).drew.fin rfl⟩

set_option maxRecDepth 100000 in
set_option maxHeartbeats 1600000 in
theorem searched_yes {F : Fix} {V : Vol} {ow : Nat → Nat} {w : World} {p : Wd} (h : WAt F V ow w p) (i : Nat) (hi : i < p.M) :
    Calls Tryz.prog 224 #[.pointer (some ⟨F.W, 0, none⟩), .int .i64 i, .bool true] w fun e w' => e = .returned (.tuple #[]) ∧ ∃ ow', On F V ow w ow' w' (p.searched i true) := by
  have ht := take_to h i hi
  have HT := Lib.hid ht
  have c13 := h.cW_all
  have c0 := h.cA_place hi
  have c1 := h.cA_p hi
  have c6 := h.cA_i hi
  have c7 := h.cA_spin hi
  have c10 := h.cA_back hi
  have c11 := h.cA_after hi
  have cP := h.cW_F_P
  obtain ⟨ra, rc, hrv⟩ := ownsRow_slice (h.crest i hi).1
  have c9 := h.cA_rest hi
  rw [hrv] at c9
  have fA := h.call.2
  have hM := h.dim
  have hcap := h.own_cap.2
  have nWA := h.own.ne.2.2.2.2.1
  have H := Lib.hid h
  unfold dims at hM
  clear h hrv ht
  go_enter Tryz.func224, Tryz.ntmps224
  go_wp2_with fail
  refine HT.out.mono ?_
  rintro e w1 ⟨rfl, ow1, h1⟩
  go_wp2
  go_returns
  exact ⟨rfl, _, h1⟩

set_option maxRecDepth 100000 in
set_option maxHeartbeats 1600000 in
theorem searched_no2 {F : Fix} {V : Vol} {ow : Nat → Nat} {w : World} {p : Wd} (h : WAt F V ow w p) (i : Nat) (hi : i < p.M) (hpl : (p.mach i).place = 2) :
    Calls Tryz.prog 224 #[.pointer (some ⟨F.W, 0, none⟩), .int .i64 i, .bool false] w fun e w' => e = .returned (.tuple #[]) ∧ ∃ ow', On F V ow w ow' w' (p.searched i false) := by
  have c13 := h.cW_all
  have c0 := h.cA_place hi
  have c1 := h.cA_p hi
  have c6 := h.cA_i hi
  have c7 := h.cA_spin hi
  have c10 := h.cA_back hi
  have c11 := h.cA_after hi
  have cP := h.cW_F_P
  obtain ⟨ra, rc, hrv⟩ := ownsRow_slice (h.crest i hi).1
  have c9 := h.cA_rest hi
  rw [hrv] at c9
  have fA := h.call.2
  have hM := h.dim
  have hcap := h.own_cap.2
  have nWA := h.own.ne.2.2.2.2.1
  have H := Lib.hid h
  unfold dims at hM
  have HP := Lib.hid hpl
  rw [hpl] at c0
  clear h hrv hpl
  go_enter Tryz.func224, Tryz.ntmps224
  go_wp2
  go_returns
  exact ⟨rfl, _, ((OnM.start H.out hi).s_place 3).fin (by unfold Wd.searched; simp only [HP.out]; rfl)⟩

set_option maxRecDepth 100000 in
set_option maxHeartbeats 1600000 in
theorem searched_no3 {F : Fix} {V : Vol} {ow : Nat → Nat} {w : World} {p : Wd} (h : WAt F V ow w p) (i : Nat) (hi : i < p.M) (hpl : (p.mach i).place = 3) :
    Calls Tryz.prog 224 #[.pointer (some ⟨F.W, 0, none⟩), .int .i64 i, .bool false] w fun e w' => e = .returned (.tuple #[]) ∧ ∃ ow', On F V ow w ow' w' (p.searched i false) := by
  have c13 := h.cW_all
  have c0 := h.cA_place hi
  have c1 := h.cA_p hi
  have c6 := h.cA_i hi
  have c7 := h.cA_spin hi
  have c10 := h.cA_back hi
  have c11 := h.cA_after hi
  have cP := h.cW_F_P
  obtain ⟨ra, rc, hrv⟩ := ownsRow_slice (h.crest i hi).1
  have c9 := h.cA_rest hi
  rw [hrv] at c9
  have fA := h.call.2
  have hM := h.dim
  have hcap := h.own_cap.2
  have nWA := h.own.ne.2.2.2.2.1
  have H := Lib.hid h
  unfold dims at hM
  have HP := Lib.hid hpl
  rw [hpl] at c0
  clear h hrv hpl
  go_enter Tryz.func224, Tryz.ntmps224
  go_wp2
  go_returns
  exact ⟨rfl, _, ((OnM.start H.out hi).s_place 4).fin (by unfold Wd.searched; simp only [HP.out]; rfl)⟩

set_option maxRecDepth 100000 in
set_option maxHeartbeats 1600000 in
theorem searched_no7 {F : Fix} {V : Vol} {ow : Nat → Nat} {w : World} {p : Wd} (h : WAt F V ow w p) (i : Nat) (hi : i < p.M) (hpl : (p.mach i).place = 7) :
    Calls Tryz.prog 224 #[.pointer (some ⟨F.W, 0, none⟩), .int .i64 i, .bool false] w fun e w' => e = .returned (.tuple #[]) ∧ ∃ ow', On F V ow w ow' w' (p.searched i false) := by
  have c13 := h.cW_all
  have c0 := h.cA_place hi
  have c1 := h.cA_p hi
  have c6 := h.cA_i hi
  have c7 := h.cA_spin hi
  have c10 := h.cA_back hi
  have c11 := h.cA_after hi
  have cP := h.cW_F_P
  obtain ⟨ra, rc, hrv⟩ := ownsRow_slice (h.crest i hi).1
  have c9 := h.cA_rest hi
  rw [hrv] at c9
  have fA := h.call.2
  have hM := h.dim
  have hcap := h.own_cap.2
  have nWA := h.own.ne.2.2.2.2.1
  have H := Lib.hid h
  unfold dims at hM
  have HP := Lib.hid hpl
  rw [hpl] at c0
  clear h hrv hpl
  go_enter Tryz.func224, Tryz.ntmps224
  go_wp2
  go_returns
  exact ⟨rfl, _, ((OnM.start H.out hi).s_place 8).fin (by unfold Wd.searched; simp only [HP.out]; rfl)⟩

set_option maxRecDepth 100000 in
set_option maxHeartbeats 1600000 in
theorem searched_no6 {F : Fix} {V : Vol} {ow : Nat → Nat} {w : World} {p : Wd} (h : WAt F V ow w p) (i : Nat) (hi : i < p.M) (hpl : (p.mach i).place = 6) (hb : -1 ≤ (p.mach i).i ∧ (p.mach i).i ≤ 4096) :
    Calls Tryz.prog 224 #[.pointer (some ⟨F.W, 0, none⟩), .int .i64 i, .bool false] w fun e w' => e = .returned (.tuple #[]) ∧ ∃ ow', On F V ow w ow' w' (p.searched i false) := by
  have ht := steal_to h i hi ((p.mach i).i + 1)
  have HT := Lib.hid ht
  have c13 := h.cW_all
  have c0 := h.cA_place hi
  have c1 := h.cA_p hi
  have c6 := h.cA_i hi
  have c7 := h.cA_spin hi
  have c10 := h.cA_back hi
  have c11 := h.cA_after hi
  have cP := h.cW_F_P
  obtain ⟨ra, rc, hrv⟩ := ownsRow_slice (h.crest i hi).1
  have c9 := h.cA_rest hi
  rw [hrv] at c9
  have fA := h.call.2
  have hM := h.dim
  have hcap := h.own_cap.2
  have nWA := h.own.ne.2.2.2.2.1
  have H := Lib.hid h
  unfold dims at hM
  have HP := Lib.hid hpl
  rw [hpl] at c0
  obtain ⟨hb1, hb2⟩ := hb
  clear h hrv hpl ht
  go_enter Tryz.func224, Tryz.ntmps224
  go_wp2_with fail
  refine HT.out.mono ?_
  rintro e w1 ⟨rfl, ow1, h1⟩
  go_wp2
  go_returns
  exact ⟨rfl, _, by unfold Wd.searched; simp only [HP.out]; exact h1⟩

set_option maxRecDepth 100000 in
set_option maxHeartbeats 1600000 in
theorem searched_no4 {F : Fix} {V : Vol} {ow : Nat → Nat} {w : World} {p : Wd} (h : WAt F V ow w p) (i : Nat) (hi : i < p.M) (hpl : (p.mach i).place = 4) :
    Calls Tryz.prog 224 #[.pointer (some ⟨F.W, 0, none⟩), .int .i64 i, .bool false] w fun e w' => e = .returned (.tuple #[]) ∧ ∃ ow', On F V ow w ow' w' (p.searched i false) := by
  have ht := steal_to h i hi 1
  have HT := Lib.hid ht
  have c13 := h.cW_all
  have c0 := h.cA_place hi
  have c1 := h.cA_p hi
  have c6 := h.cA_i hi
  have c7 := h.cA_spin hi
  have c10 := h.cA_back hi
  have c11 := h.cA_after hi
  have cP := h.cW_F_P
  obtain ⟨ra, rc, hrv⟩ := ownsRow_slice (h.crest i hi).1
  have c9 := h.cA_rest hi
  rw [hrv] at c9
  have fA := h.call.2
  have hM := h.dim
  have hcap := h.own_cap.2
  have nWA := h.own.ne.2.2.2.2.1
  have H := Lib.hid h
  unfold dims at hM
  have HP := Lib.hid hpl
  rw [hpl] at c0
  clear h hrv hpl ht
  cases hs : (p.mach i).spin
  · rw [hs] at c7
    have Hs := Lib.hid hs
    clear hs
    go_enter Tryz.func224, Tryz.ntmps224
    go_wp2
    go_returns
    exact ⟨rfl, _, ((OnM.start H.out hi).s_place 5).fin (by unfold Wd.searched; simp [HP.out, Hs.out, Wd.go])⟩
  · rw [hs] at c7
    have Hs := Lib.hid hs
    clear hs
    go_enter Tryz.func224, Tryz.ntmps224
    go_wp2_with fail
    refine HT.out.mono ?_
    rintro e w1 ⟨rfl, ow1, h1⟩
    go_wp2
    go_returns
    exact ⟨rfl, _, by unfold Wd.searched; simp only [HP.out, Hs.out]; exact h1⟩

theorem searched_any {F : Fix} {V : Vol} {ow : Nat → Nat} {w : World} {p : Wd} (h : WAt F V ow w p) (i : Nat) (hi : i < p.M) (is : Bool) (hpl : (p.mach i).place = 2 ∨ (p.mach i).place = 3 ∨ (p.mach i).place = 4 ∨ (p.mach i).place = 6 ∨ (p.mach i).place = 7) (hb : -1 ≤ (p.mach i).i ∧ (p.mach i).i ≤ 4096) :
    Calls Tryz.prog 224 #[.pointer (some ⟨F.W, 0, none⟩), .int .i64 i, .bool is] w fun e w' => e = .returned (.tuple #[]) ∧ ∃ ow', On F V ow w ow' w' (p.searched i is) := by
  cases is
  · rcases hpl with e | e | e | e | e
    · exact searched_no2 h i hi e
    · exact searched_no3 h i hi e
    · exact searched_no4 h i hi e
    · exact searched_no6 h i hi e hb
    · exact searched_no7 h i hi e
  · exact searched_yes h i hi

set_option maxRecDepth 100000 in
set_option maxHeartbeats 1600000 in
theorem then_2 (N : Nat) (p : Wd) (i : Nat) (hi : i < p.M) (hpl : (p.mach i).place = 2) (hb : -1 ≤ (p.mach i).i ∧ (p.mach i).i ≤ 4096) : ThenOK N p i (p.andThen i) := by
  intro F V ow w h E
  have e : p.andThen i = p.searched i (p.fl i) := by unfold Wd.andThen; simp only [hpl]
  rw [e]
  have ht := searched_any h i hi (p.fl i) (by omega) hb
  have HT := Lib.hid ht
  have c14 := h.cW_flag
  have cf := h.cF hi
  have c13 := h.cW_all
  have c0 := h.cA_place hi
  have c1 := h.cA_p hi
  have c6 := h.cA_i hi
  have c7 := h.cA_spin hi
  have c10 := h.cA_back hi
  have c11 := h.cA_after hi
  have cP := h.cW_F_P
  obtain ⟨ra, rc, hrv⟩ := ownsRow_slice (h.crest i hi).1
  have c9 := h.cA_rest hi
  rw [hrv] at c9
  have fA := h.call.2
  have hM := h.dim
  have hcap := h.own_cap.2
  have nWA := h.own.ne.2.2.2.2.1
  have H := Lib.hid h
  unfold dims at hM
  rw [hpl] at c0
  clear h hrv hpl ht hb E e
  go_enter Tryz.func177, Tryz.ntmps177
  go_wp2_with fail
  refine HT.out.mono ?_
  rintro e w1 ⟨rfl, ow1, h1⟩
  go_wp2
  go_returns
  exact ⟨rfl, V, _, h1⟩

set_option maxRecDepth 100000 in
set_option maxHeartbeats 1600000 in
theorem then_3 (N : Nat) (p : Wd) (i : Nat) (hi : i < p.M) (hpl : (p.mach i).place = 3) (hb : -1 ≤ (p.mach i).i ∧ (p.mach i).i ≤ 4096) : ThenOK N p i (p.andThen i) := by
  intro F V ow w h E
  have e : p.andThen i = p.searched i (p.fl i) := by unfold Wd.andThen; simp only [hpl]
  rw [e]
  have ht := searched_any h i hi (p.fl i) (by omega) hb
  have HT := Lib.hid ht
  have c14 := h.cW_flag
  have cf := h.cF hi
  have c13 := h.cW_all
  have c0 := h.cA_place hi
  have c1 := h.cA_p hi
  have c6 := h.cA_i hi
  have c7 := h.cA_spin hi
  have c10 := h.cA_back hi
  have c11 := h.cA_after hi
  have cP := h.cW_F_P
  obtain ⟨ra, rc, hrv⟩ := ownsRow_slice (h.crest i hi).1
  have c9 := h.cA_rest hi
  rw [hrv] at c9
  have fA := h.call.2
  have hM := h.dim
  have hcap := h.own_cap.2
  have nWA := h.own.ne.2.2.2.2.1
  have H := Lib.hid h
  unfold dims at hM
  rw [hpl] at c0
  clear h hrv hpl ht hb E e
  go_enter Tryz.func177, Tryz.ntmps177
  go_wp2_with fail
  refine HT.out.mono ?_
  rintro e w1 ⟨rfl, ow1, h1⟩
  go_wp2
  go_returns
  exact ⟨rfl, V, _, h1⟩

set_option maxRecDepth 100000 in
set_option maxHeartbeats 1600000 in
theorem then_4 (N : Nat) (p : Wd) (i : Nat) (hi : i < p.M) (hpl : (p.mach i).place = 4) (hb : -1 ≤ (p.mach i).i ∧ (p.mach i).i ≤ 4096) : ThenOK N p i (p.andThen i) := by
  intro F V ow w h E
  have e : p.andThen i = p.searched i (p.fl i) := by unfold Wd.andThen; simp only [hpl]
  rw [e]
  have ht := searched_any h i hi (p.fl i) (by omega) hb
  have HT := Lib.hid ht
  have c14 := h.cW_flag
  have cf := h.cF hi
  have c13 := h.cW_all
  have c0 := h.cA_place hi
  have c1 := h.cA_p hi
  have c6 := h.cA_i hi
  have c7 := h.cA_spin hi
  have c10 := h.cA_back hi
  have c11 := h.cA_after hi
  have cP := h.cW_F_P
  obtain ⟨ra, rc, hrv⟩ := ownsRow_slice (h.crest i hi).1
  have c9 := h.cA_rest hi
  rw [hrv] at c9
  have fA := h.call.2
  have hM := h.dim
  have hcap := h.own_cap.2
  have nWA := h.own.ne.2.2.2.2.1
  have H := Lib.hid h
  unfold dims at hM
  rw [hpl] at c0
  clear h hrv hpl ht hb E e
  go_enter Tryz.func177, Tryz.ntmps177
  go_wp2_with fail
  refine HT.out.mono ?_
  rintro e w1 ⟨rfl, ow1, h1⟩
  go_wp2
  go_returns
  exact ⟨rfl, V, _, h1⟩

set_option maxRecDepth 100000 in
set_option maxHeartbeats 1600000 in
theorem then_6 (N : Nat) (p : Wd) (i : Nat) (hi : i < p.M) (hpl : (p.mach i).place = 6) (hb : -1 ≤ (p.mach i).i ∧ (p.mach i).i ≤ 4096) : ThenOK N p i (p.andThen i) := by
  intro F V ow w h E
  have e : p.andThen i = p.searched i (p.fl i) := by unfold Wd.andThen; simp only [hpl]
  rw [e]
  have ht := searched_any h i hi (p.fl i) (by omega) hb
  have HT := Lib.hid ht
  have c14 := h.cW_flag
  have cf := h.cF hi
  have c13 := h.cW_all
  have c0 := h.cA_place hi
  have c1 := h.cA_p hi
  have c6 := h.cA_i hi
  have c7 := h.cA_spin hi
  have c10 := h.cA_back hi
  have c11 := h.cA_after hi
  have cP := h.cW_F_P
  obtain ⟨ra, rc, hrv⟩ := ownsRow_slice (h.crest i hi).1
  have c9 := h.cA_rest hi
  rw [hrv] at c9
  have fA := h.call.2
  have hM := h.dim
  have hcap := h.own_cap.2
  have nWA := h.own.ne.2.2.2.2.1
  have H := Lib.hid h
  unfold dims at hM
  rw [hpl] at c0
  clear h hrv hpl ht hb E e
  go_enter Tryz.func177, Tryz.ntmps177
  go_wp2_with fail
  refine HT.out.mono ?_
  rintro e w1 ⟨rfl, ow1, h1⟩
  go_wp2
  go_returns
  exact ⟨rfl, V, _, h1⟩

set_option maxRecDepth 100000 in
set_option maxHeartbeats 1600000 in
theorem then_7 (N : Nat) (p : Wd) (i : Nat) (hi : i < p.M) (hpl : (p.mach i).place = 7) (hb : -1 ≤ (p.mach i).i ∧ (p.mach i).i ≤ 4096) : ThenOK N p i (p.andThen i) := by
  intro F V ow w h E
  have e : p.andThen i = p.searched i (p.fl i) := by unfold Wd.andThen; simp only [hpl]
  rw [e]
  have ht := searched_any h i hi (p.fl i) (by omega) hb
  have HT := Lib.hid ht
  have c14 := h.cW_flag
  have cf := h.cF hi
  have c13 := h.cW_all
  have c0 := h.cA_place hi
  have c1 := h.cA_p hi
  have c6 := h.cA_i hi
  have c7 := h.cA_spin hi
  have c10 := h.cA_back hi
  have c11 := h.cA_after hi
  have cP := h.cW_F_P
  obtain ⟨ra, rc, hrv⟩ := ownsRow_slice (h.crest i hi).1
  have c9 := h.cA_rest hi
  rw [hrv] at c9
  have fA := h.call.2
  have hM := h.dim
  have hcap := h.own_cap.2
  have nWA := h.own.ne.2.2.2.2.1
  have H := Lib.hid h
  unfold dims at hM
  rw [hpl] at c0
  clear h hrv hpl ht hb E e
  go_enter Tryz.func177, Tryz.ntmps177
  go_wp2_with fail
  refine HT.out.mono ?_
  rintro e w1 ⟨rfl, ow1, h1⟩
  go_wp2
  go_returns
  exact ⟨rfl, V, _, h1⟩

end Go.Proofs.YtfjepdcnikgjeaaGreatDoor
