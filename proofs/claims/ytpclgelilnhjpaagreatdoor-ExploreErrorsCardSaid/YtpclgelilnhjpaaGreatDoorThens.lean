/-
  Where a machine goes on behind its section.
  A step without a lock: at the places Sched, Dispatch.
-/
import Derived.Test.YtpclgelilnhjpaaGreatDoorLockeds
import Derived.BigRegion
set_option linter.unusedVariables false
set_option linter.unusedSimpArgs false
set_option linter.unusedSectionVars false
namespace Go.Proofs.YtpclgelilnhjpaaGreatDoor
open Go Go.RowKit Hst Go.Proofs

set_option maxRecDepth 100000 in
set_option maxHeartbeats 1600000 in
theorem take_to {F : Fix} {V : Vol} {ow : Nat → Nat} {w : World} {p : Wd} (h : WAt F V ow w p) (i : Nat) (hi : i < p.M) :
    Calls Tryz.prog 220 #[.pointer (some ⟨F.W, 0, none⟩), .int .i64 i] w fun e w' => e = .returned (.tuple #[]) ∧ ∃ ow', On F V ow w ow' w' (p.take i) := by
  have c13 := h.cW_all
  have c0 := h.cA_place hi
  have c1 := h.cA_p hi
  have c6 := h.cA_i hi
  have c7 := h.cA_spin hi
  have c10 := h.cA_back hi
  have c11 := h.cA_after hi
  have cP := h.cW_F_P
  obtain ⟨ra, rc, hrv⟩ := ownsRow_slice (h.crest i hi).1
  have c9 := h.cA_rest hi
  rw [hrv] at c9
  have fA := h.call.2
  have hM := h.dim
  have hcap := h.own_cap.2
  have nWA := h.own.ne.2.2.2.2.1
  have H := Lib.hid h
  unfold dims at hM
  clear h hrv
  by_cases hr : (p.mach i).rest.length = 0
  · have hr0 : (p.mach i).rest = [] := List.eq_nil_of_length_eq_zero hr
    rw [hr] at c9
    have Hr := Lib.hid hr0
    clear hr hr0
    cases hs : (p.mach i).spin
    · rw [hs] at c7
      have Hs := Lib.hid hs
      clear hs
      go_enter Tryz.func220, Tryz.ntmps220
      go_wp2
      go_returns
      exact ⟨rfl, _, (((OnM.start H.out hi).s_back 20).s_place 20).fin (by unfold Wd.take; simp only [Hr.out, Hs.out]; rfl)⟩
    · rw [hs] at c7
      have Hs := Lib.hid hs
      clear hs
      go_enter Tryz.func220, Tryz.ntmps220
      go_wp2
      go_returns
      exact ⟨rfl, _, (((OnM.start H.out hi).s_back 20).s_place 19).fin (by unfold Wd.take; simp only [Hr.out, Hs.out]; rfl)⟩
  · have hr0 : (p.mach i).rest ≠ [] := fun e => hr (by rw [e]; rfl)
    have hr1 : (0 : Int) < ((p.mach i).rest.length : Int) := by omega
    have Hr := Lib.hid hr0
    clear hr hr0
    go_enter Tryz.func220, Tryz.ntmps220
    go_wp2
    go_returns
    exact ⟨rfl, _, (((OnM.start H.out hi).s_back 20).s_place 17).fin (by unfold Wd.take; simp only [if_pos Hr.out])⟩

set_option maxRecDepth 100000 in
set_option maxHeartbeats 1600000 in
theorem settle_to {F : Fix} {V : Vol} {ow : Nat → Nat} {w : World} {p : Wd} (h : WAt F V ow w p) (i : Nat) (hi : i < p.M) :
    Calls Tryz.prog 188 #[.pointer (some ⟨F.W, 0, none⟩), .int .i64 i] w fun e w' => e = .returned (.tuple #[]) ∧ ∃ ow', On F V ow w ow' w' (p.settle i) := by
  have c13 := h.cW_all
  have c0 := h.cA_place hi
  have c1 := h.cA_p hi
  have c6 := h.cA_i hi
  have c7 := h.cA_spin hi
  have c10 := h.cA_back hi
  have c11 := h.cA_after hi
  have cP := h.cW_F_P
  obtain ⟨ra, rc, hrv⟩ := ownsRow_slice (h.crest i hi).1
  have c9 := h.cA_rest hi
  rw [hrv] at c9
  have fA := h.call.2
  have hM := h.dim
  have hcap := h.own_cap.2
  have nWA := h.own.ne.2.2.2.2.1
  have H := Lib.hid h
  unfold dims at hM
  clear h hrv
  by_cases hr : (p.mach i).rest.length = 0
  · have hr0 : (p.mach i).rest = [] := List.eq_nil_of_length_eq_zero hr
    rw [hr] at c9
    have Hr := Lib.hid hr0
    clear hr hr0
    cases hs : (p.mach i).spin
    · rw [hs] at c7
      have Hs := Lib.hid hs
      clear hs
      go_enter Tryz.func188, Tryz.ntmps188
      go_wp2
      go_returns
      exact ⟨rfl, _, ((OnM.start H.out hi).s_place 21).fin (by unfold Wd.settle; simp only [Hr.out, Hs.out]; rfl)⟩
    · rw [hs] at c7
      have Hs := Lib.hid hs
      clear hs
      go_enter Tryz.func188, Tryz.ntmps188
      go_wp2
      go_returns
      exact ⟨rfl, _, ((OnM.start H.out hi).s_place 19).fin (by unfold Wd.settle; simp only [Hr.out, Hs.out]; rfl)⟩
  · have hr0 : (p.mach i).rest ≠ [] := fun e => hr (by rw [e]; rfl)
    have hr1 : (0 : Int) < ((p.mach i).rest.length : Int) := by omega
    have Hr := Lib.hid hr0
    clear hr hr0
    go_enter Tryz.func188, Tryz.ntmps188
    go_wp2
    go_returns
    exact ⟨rfl, _, ((OnM.start H.out hi).s_place 18).fin (by unfold Wd.settle; simp only [if_pos Hr.out])⟩

set_option maxRecDepth 100000 in
set_option maxHeartbeats 1600000 in
theorem steal_to {F : Fix} {V : Vol} {ow : Nat → Nat} {w : World} {p : Wd} (h : WAt F V ow w p) (i : Nat) (hi : i < p.M) (f : Int) :
    Calls Tryz.prog 141 #[.pointer (some ⟨F.W, 0, none⟩), .int .i64 i, .int .i64 f] w fun e w' => e = .returned (.tuple #[]) ∧ ∃ ow', On F V ow w ow' w' (p.steal i f) := by
  have c13 := h.cW_all
  have c0 := h.cA_place hi
  have c1 := h.cA_p hi
  have c6 := h.cA_i hi
  have c7 := h.cA_spin hi
  have c10 := h.cA_back hi
  have c11 := h.cA_after hi
  have cP := h.cW_F_P
  obtain ⟨ra, rc, hrv⟩ := ownsRow_slice (h.crest i hi).1
  have c9 := h.cA_rest hi
  rw [hrv] at c9
  have fA := h.call.2
  have hM := h.dim
  have hcap := h.own_cap.2
  have nWA := h.own.ne.2.2.2.2.1
  have H := Lib.hid h
  unfold dims at hM
  clear h hrv
  by_cases hf : (p.P : Int) ≤ f
  · have Hf := Lib.hid hf
    go_enter Tryz.func141, Tryz.ntmps141
    go_wp2
    go_returns
    exact ⟨rfl, _, (((OnM.start H.out hi).s_i f).s_place 6 |>.s_place 7).fin (by unfold Wd.steal; rw [if_pos (show f ≥ (p.P : Int) from Hf.out)])⟩
  · have Hf := Lib.hid hf
    go_enter Tryz.func141, Tryz.ntmps141
    go_wp2
    go_returns
    exact ⟨rfl, _, (((OnM.start H.out hi).s_i f).s_place 6).fin (by unfold Wd.steal; rw [if_neg (show ¬ f ≥ (p.P : Int) from by have := Hf.out; omega)])⟩

set_option maxRecDepth 100000 in
set_option maxHeartbeats 1600000 in
theorem deliver_to {F : Fix} {V : Vol} {ow : Nat → Nat} {w : World} {p : Wd} (h : WAt F V ow w p) (i : Nat) (hi : i < p.M) (a : Nat) :
    Calls Tryz.prog 132 #[.pointer (some ⟨F.W, 0, none⟩), .int .i64 i, .int .i64 a] w fun e w' => e = .returned (.tuple #[]) ∧ ∃ ow', On F V ow w ow' w' (p.deliver i a) := by
  have c13 := h.cW_all
  have c0 := h.cA_place hi
  have c1 := h.cA_p hi
  have c6 := h.cA_i hi
  have c7 := h.cA_spin hi
  have c10 := h.cA_back hi
  have c11 := h.cA_after hi
  have cP := h.cW_F_P
  obtain ⟨ra, rc, hrv⟩ := ownsRow_slice (h.crest i hi).1
  have c9 := h.cA_rest hi
  rw [hrv] at c9
  have fA := h.call.2
  have hM := h.dim
  have hcap := h.own_cap.2
  have nWA := h.own.ne.2.2.2.2.1
  have H := Lib.hid h
  unfold dims at hM
  clear h hrv
  go_enter Tryz.func132, Tryz.ntmps132
  go_wp2
  go_region
  go_wp2
  go_returns
  exact ⟨rfl, _, (((OnM.start H.out hi).s_after a).s_place 25).drew.fin rfl⟩

set_option maxRecDepth 100000 in
set_option maxHeartbeats 1600000 in
theorem searched_yes {F : Fix} {V : Vol} {ow : Nat → Nat} {w : World} {p : Wd} (h : WAt F V ow w p) (i : Nat) (hi : i < p.M) :
    Calls Tryz.prog 187 #[.pointer (some ⟨F.W, 0, none⟩), .int .i64 i, .bool true] w fun e w' => e = .returned (.tuple #[]) ∧ ∃ ow', On F V ow w ow' w' (p.searched i true) := by
  have ht := take_to h i hi
  have HT := Lib.hid ht
  have c13 := h.cW_all
  have c0 := h.cA_place hi
  have c1 := h.cA_p hi
  have c6 := h.cA_i hi
  have c7 := h.cA_spin hi
  have c10 := h.cA_back hi
  have c11 := h.cA_after hi
  have cP := h.cW_F_P
  obtain ⟨ra, rc, hrv⟩ := ownsRow_slice (h.crest i hi).1
  have c9 := h.cA_rest hi
  rw [hrv] at c9
  have fA := h.call.2
  have hM := h.dim
  have hcap := h.own_cap.2
  have nWA := h.own.ne.2.2.2.2.1
  have H := Lib.hid h
  unfold dims at hM
  clear h hrv ht
  go_enter Tryz.func187, Tryz.ntmps187
  go_wp2_with fail
  refine HT.out.mono ?_
  rintro e w1 ⟨rfl, ow1, h1⟩
  go_wp2
  go_returns
  exact ⟨rfl, _, h1⟩

set_option maxRecDepth 100000 in
set_option maxHeartbeats 1600000 in
theorem searched_no2 {F : Fix} {V : Vol} {ow : Nat → Nat} {w : World} {p : Wd} (h : WAt F V ow w p) (i : Nat) (hi : i < p.M) (hpl : (p.mach i).place = 2) :
    Calls Tryz.prog 187 #[.pointer (some ⟨F.W, 0, none⟩), .int .i64 i, .bool false] w fun e w' => e = .returned (.tuple #[]) ∧ ∃ ow', On F V ow w ow' w' (p.searched i false) := by
  have c13 := h.cW_all
  have c0 := h.cA_place hi
  have c1 := h.cA_p hi
  have c6 := h.cA_i hi
  have c7 := h.cA_spin hi
  have c10 := h.cA_back hi
  have c11 := h.cA_after hi
  have cP := h.cW_F_P
  obtain ⟨ra, rc, hrv⟩ := ownsRow_slice (h.crest i hi).1
  have c9 := h.cA_rest hi
  rw [hrv] at c9
  have fA := h.call.2
  have hM := h.dim
  have hcap := h.own_cap.2
  have nWA := h.own.ne.2.2.2.2.1
  have H := Lib.hid h
  unfold dims at hM
  have HP := Lib.hid hpl
  rw [hpl] at c0
  clear h hrv hpl
  go_enter Tryz.func187, Tryz.ntmps187
  go_wp2
  go_returns
  exact ⟨rfl, _, ((OnM.start H.out hi).s_place 3).fin (by unfold Wd.searched; simp only [HP.out]; rfl)⟩

set_option maxRecDepth 100000 in
set_option maxHeartbeats 1600000 in
theorem searched_no3 {F : Fix} {V : Vol} {ow : Nat → Nat} {w : World} {p : Wd} (h : WAt F V ow w p) (i : Nat) (hi : i < p.M) (hpl : (p.mach i).place = 3) :
    Calls Tryz.prog 187 #[.pointer (some ⟨F.W, 0, none⟩), .int .i64 i, .bool false] w fun e w' => e = .returned (.tuple #[]) ∧ ∃ ow', On F V ow w ow' w' (p.searched i false) := by
  have c13 := h.cW_all
  have c0 := h.cA_place hi
  have c1 := h.cA_p hi
  have c6 := h.cA_i hi
  have c7 := h.cA_spin hi
  have c10 := h.cA_back hi
  have c11 := h.cA_after hi
  have cP := h.cW_F_P
  obtain ⟨ra, rc, hrv⟩ := ownsRow_slice (h.crest i hi).1
  have c9 := h.cA_rest hi
  rw [hrv] at c9
  have fA := h.call.2
  have hM := h.dim
  have hcap := h.own_cap.2
  have nWA := h.own.ne.2.2.2.2.1
  have H := Lib.hid h
  unfold dims at hM
  have HP := Lib.hid hpl
  rw [hpl] at c0
  clear h hrv hpl
  go_enter Tryz.func187, Tryz.ntmps187
  go_wp2
  go_returns
  exact ⟨rfl, _, ((OnM.start H.out hi).s_place 4).fin (by unfold Wd.searched; simp only [HP.out]; rfl)⟩

set_option maxRecDepth 100000 in
set_option maxHeartbeats 1600000 in
theorem searched_no7 {F : Fix} {V : Vol} {ow : Nat → Nat} {w : World} {p : Wd} (h : WAt F V ow w p) (i : Nat) (hi : i < p.M) (hpl : (p.mach i).place = 7) :
    Calls Tryz.prog 187 #[.pointer (some ⟨F.W, 0, none⟩), .int .i64 i, .bool false] w fun e w' => e = .returned (.tuple #[]) ∧ ∃ ow', On F V ow w ow' w' (p.searched i false) := by
  have c13 := h.cW_all
  have c0 := h.cA_place hi
  have c1 := h.cA_p hi
  have c6 := h.cA_i hi
  have c7 := h.cA_spin hi
  have c10 := h.cA_back hi
  have c11 := h.cA_after hi
  have cP := h.cW_F_P
  obtain ⟨ra, rc, hrv⟩ := ownsRow_slice (h.crest i hi).1
  have c9 := h.cA_rest hi
  rw [hrv] at c9
  have fA := h.call.2
  have hM := h.dim
  have hcap := h.own_cap.2
  have nWA := h.own.ne.2.2.2.2.1
  have H := Lib.hid h
  unfold dims at hM
  have HP := Lib.hid hpl
  rw [hpl] at c0
  clear h hrv hpl
  go_enter Tryz.func187, Tryz.ntmps187
  go_wp2
  go_returns
  exact ⟨rfl, _, ((OnM.start H.out hi).s_place 8).fin (by unfold Wd.searched; simp only [HP.out]; rfl)⟩

set_option maxRecDepth 100000 in
set_option maxHeartbeats 1600000 in
theorem searched_no6 {F : Fix} {V : Vol} {ow : Nat → Nat} {w : World} {p : Wd} (h : WAt F V ow w p) (i : Nat) (hi : i < p.M) (hpl : (p.mach i).place = 6) (hb : -1 ≤ (p.mach i).i ∧ (p.mach i).i ≤ 4096) :
    Calls Tryz.prog 187 #[.pointer (some ⟨F.W, 0, none⟩), .int .i64 i, .bool false] w fun e w' => e = .returned (.tuple #[]) ∧ ∃ ow', On F V ow w ow' w' (p.searched i false) := by
  have ht := steal_to h i hi ((p.mach i).i + 1)
  have HT := Lib.hid ht
  have c13 := h.cW_all
  have c0 := h.cA_place hi
  have c1 := h.cA_p hi
  have c6 := h.cA_i hi
  have c7 := h.cA_spin hi
  have c10 := h.cA_back hi
  have c11 := h.cA_after hi
  have cP := h.cW_F_P
  obtain ⟨ra, rc, hrv⟩ := ownsRow_slice (h.crest i hi).1
  have c9 := h.cA_rest hi
  rw [hrv] at c9
  have fA := h.call.2
  have hM := h.dim
  have hcap := h.own_cap.2
  have nWA := h.own.ne.2.2.2.2.1
  have H := Lib.hid h
  unfold dims at hM
  have HP := Lib.hid hpl
  rw [hpl] at c0
  obtain ⟨hb1, hb2⟩ := hb
  clear h hrv hpl ht
  go_enter Tryz.func187, Tryz.ntmps187
  go_wp2_with fail
  refine HT.out.mono ?_
  rintro e w1 ⟨rfl, ow1, h1⟩
  go_wp2
  go_returns
  exact ⟨rfl, _, by unfold Wd.searched; simp only [HP.out]; exact h1⟩

set_option maxRecDepth 100000 in
set_option maxHeartbeats 1600000 in
theorem searched_no4 {F : Fix} {V : Vol} {ow : Nat → Nat} {w : World} {p : Wd} (h : WAt F V ow w p) (i : Nat) (hi : i < p.M) (hpl : (p.mach i).place = 4) :
    Calls Tryz.prog 187 #[.pointer (some ⟨F.W, 0, none⟩), .int .i64 i, .bool false] w fun e w' => e = .returned (.tuple #[]) ∧ ∃ ow', On F V ow w ow' w' (p.searched i false) := by
  have ht := steal_to h i hi 1
  have HT := Lib.hid ht
  have c13 := h.cW_all
  have c0 := h.cA_place hi
  have c1 := h.cA_p hi
  have c6 := h.cA_i hi
  have c7 := h.cA_spin hi
  have c10 := h.cA_back hi
  have c11 := h.cA_after hi
  have cP := h.cW_F_P
  obtain ⟨ra, rc, hrv⟩ := ownsRow_slice (h.crest i hi).1
  have c9 := h.cA_rest hi
  rw [hrv] at c9
  have fA := h.call.2
  have hM := h.dim
  have hcap := h.own_cap.2
  have nWA := h.own.ne.2.2.2.2.1
  have H := Lib.hid h
  unfold dims at hM
  have HP := Lib.hid hpl
  rw [hpl] at c0
  clear h hrv hpl ht
  cases hs : (p.mach i).spin
  · rw [hs] at c7
    have Hs := Lib.hid hs
    clear hs
    go_enter Tryz.func187, Tryz.ntmps187
    go_wp2
    go_returns
    exact ⟨rfl, _, ((OnM.start H.out hi).s_place 5).fin (by unfold Wd.searched; simp [HP.out, Hs.out, Wd.go])⟩
  · rw [hs] at c7
    have Hs := Lib.hid hs
    clear hs
    go_enter Tryz.func187, Tryz.ntmps187
    go_wp2_with fail
    refine HT.out.mono ?_
    rintro e w1 ⟨rfl, ow1, h1⟩
    go_wp2
    go_returns
    exact ⟨rfl, _, by unfold Wd.searched; simp only [HP.out, Hs.out]; exact h1⟩

theorem searched_any {F : Fix} {V : Vol} {ow : Nat → Nat} {w : World} {p : Wd} (h : WAt F V ow w p) (i : Nat) (hi : i < p.M) (is : Bool) (hpl : (p.mach i).place = 2 ∨ (p.mach i).place = 3 ∨ (p.mach i).place = 4 ∨ (p.mach i).place = 6 ∨ (p.mach i).place = 7) (hb : -1 ≤ (p.mach i).i ∧ (p.mach i).i ≤ 4096) :
    Calls Tryz.prog 187 #[.pointer (some ⟨F.W, 0, none⟩), .int .i64 i, .bool is] w fun e w' => e = .returned (.tuple #[]) ∧ ∃ ow', On F V ow w ow' w' (p.searched i is) := by
  cases is
  · rcases hpl with e | e | e | e | e
    · exact searched_no2 h i hi e
    · exact searched_no3 h i hi e
    · exact searched_no4 h i hi e
    · exact searched_no6 h i hi e hb
    · exact searched_no7 h i hi e
  · exact searched_yes h i hi

set_option maxRecDepth 100000 in
set_option maxHeartbeats 1600000 in
theorem then_2 (N : Nat) (p : Wd) (i : Nat) (hi : i < p.M) (hpl : (p.mach i).place = 2) (hb : -1 ≤ (p.mach i).i ∧ (p.mach i).i ≤ 4096) : ThenOK N p i (p.andThen i) := by
  intro F V ow w h E
  have e : p.andThen i = p.searched i (p.fl i) := by unfold Wd.andThen; simp only [hpl]
  rw [e]
  have ht := searched_any h i hi (p.fl i) (by omega) hb
  have HT := Lib.hid ht
  have c14 := h.cW_flag
  have cf := h.cF hi
  have c13 := h.cW_all
  have c0 := h.cA_place hi
  have c1 := h.cA_p hi
  have c6 := h.cA_i hi
  have c7 := h.cA_spin hi
  have c10 := h.cA_back hi
  have c11 := h.cA_after hi
  have cP := h.cW_F_P
  obtain ⟨ra, rc, hrv⟩ := ownsRow_slice (h.crest i hi).1
  have c9 := h.cA_rest hi
  rw [hrv] at c9
  have fA := h.call.2
  have hM := h.dim
  have hcap := h.own_cap.2
  have nWA := h.own.ne.2.2.2.2.1
  have H := Lib.hid h
  unfold dims at hM
  rw [hpl] at c0
  clear h hrv hpl ht hb E e
  go_enter Tryz.func139, Tryz.ntmps139
  go_wp2_with fail
  refine HT.out.mono ?_
  rintro e w1 ⟨rfl, ow1, h1⟩
  go_wp2
  go_returns
  exact ⟨rfl, V, _, h1⟩

set_option maxRecDepth 100000 in
set_option maxHeartbeats 1600000 in
theorem then_3 (N : Nat) (p : Wd) (i : Nat) (hi : i < p.M) (hpl : (p.mach i).place = 3) (hb : -1 ≤ (p.mach i).i ∧ (p.mach i).i ≤ 4096) : ThenOK N p i (p.andThen i) := by
  intro F V ow w h E
  have e : p.andThen i = p.searched i (p.fl i) := by unfold Wd.andThen; simp only [hpl]
  rw [e]
  have ht := searched_any h i hi (p.fl i) (by omega) hb
  have HT := Lib.hid ht
  have c14 := h.cW_flag
  have cf := h.cF hi
  have c13 := h.cW_all
  have c0 := h.cA_place hi
  have c1 := h.cA_p hi
  have c6 := h.cA_i hi
  have c7 := h.cA_spin hi
  have c10 := h.cA_back hi
  have c11 := h.cA_after hi
  have cP := h.cW_F_P
  obtain ⟨ra, rc, hrv⟩ := ownsRow_slice (h.crest i hi).1
  have c9 := h.cA_rest hi
  rw [hrv] at c9
  have fA := h.call.2
  have hM := h.dim
  have hcap := h.own_cap.2
  have nWA := h.own.ne.2.2.2.2.1
  have H := Lib.hid h
  unfold dims at hM
  rw [hpl] at c0
  clear h hrv hpl ht hb E e
  go_enter Tryz.func139, Tryz.ntmps139
  go_wp2_with fail
  refine HT.out.mono ?_
  rintro e w1 ⟨rfl, ow1, h1⟩
  go_wp2
  go_returns
  exact ⟨rfl, V, _, h1⟩

set_option maxRecDepth 100000 in
set_option maxHeartbeats 1600000 in
theorem then_4 (N : Nat) (p : Wd) (i : Nat) (hi : i < p.M) (hpl : (p.mach i).place = 4) (hb : -1 ≤ (p.mach i).i ∧ (p.mach i).i ≤ 4096) : ThenOK N p i (p.andThen i) := by
  intro F V ow w h E
  have e : p.andThen i = p.searched i (p.fl i) := by unfold Wd.andThen; simp only [hpl]
  rw [e]
  have ht := searched_any h i hi (p.fl i) (by omega) hb
  have HT := Lib.hid ht
  have c14 := h.cW_flag
  have cf := h.cF hi
  have c13 := h.cW_all
  have c0 := h.cA_place hi
  have c1 := h.cA_p hi
  have c6 := h.cA_i hi
  have c7 := h.cA_spin hi
  have c10 := h.cA_back hi
  have c11 := h.cA_after hi
  have cP := h.cW_F_P
  obtain ⟨ra, rc, hrv⟩ := ownsRow_slice (h.crest i hi).1
  have c9 := h.cA_rest hi
  rw [hrv] at c9
  have fA := h.call.2
  have hM := h.dim
  have hcap := h.own_cap.2
  have nWA := h.own.ne.2.2.2.2.1
  have H := Lib.hid h
  unfold dims at hM
  rw [hpl] at c0
  clear h hrv hpl ht hb E e
  go_enter Tryz.func139, Tryz.ntmps139
  go_wp2_with fail
  refine HT.out.mono ?_
  rintro e w1 ⟨rfl, ow1, h1⟩
  go_wp2
  go_returns
  exact ⟨rfl, V, _, h1⟩

set_option maxRecDepth 100000 in
set_option maxHeartbeats 1600000 in
theorem then_6 (N : Nat) (p : Wd) (i : Nat) (hi : i < p.M) (hpl : (p.mach i).place = 6) (hb : -1 ≤ (p.mach i).i ∧ (p.mach i).i ≤ 4096) : ThenOK N p i (p.andThen i) := by
  intro F V ow w h E
  have e : p.andThen i = p.searched i (p.fl i) := by unfold Wd.andThen; simp only [hpl]
  rw [e]
  have ht := searched_any h i hi (p.fl i) (by omega) hb
  have HT := Lib.hid ht
  have c14 := h.cW_flag
  have cf := h.cF hi
  have c13 := h.cW_all
  have c0 := h.cA_place hi
  have c1 := h.cA_p hi
  have c6 := h.cA_i hi
  have c7 := h.cA_spin hi
  have c10 := h.cA_back hi
  have c11 := h.cA_after hi
  have cP := h.cW_F_P
  obtain ⟨ra, rc, hrv⟩ := ownsRow_slice (h.crest i hi).1
  have c9 := h.cA_rest hi
  rw [hrv] at c9
  have fA := h.call.2
  have hM := h.dim
  have hcap := h.own_cap.2
  have nWA := h.own.ne.2.2.2.2.1
  have H := Lib.hid h
  unfold dims at hM
  rw [hpl] at c0
  clear h hrv hpl ht hb E e
  go_enter Tryz.func139, Tryz.ntmps139
  go_wp2_with fail
  refine HT.out.mono ?_
  rintro e w1 ⟨rfl, ow1, h1⟩
  go_wp2
  go_returns
  exact ⟨rfl, V, _, h1⟩

set_option maxRecDepth 100000 in
set_option maxHeartbeats 1600000 in
theorem then_7 (N : Nat) (p : Wd) (i : Nat) (hi : i < p.M) (hpl : (p.mach i).place = 7) (hb : -1 ≤ (p.mach i).i ∧ (p.mach i).i ≤ 4096) : ThenOK N p i (p.andThen i) := by
  intro F V ow w h E
  have e : p.andThen i = p.searched i (p.fl i) := by unfold Wd.andThen; simp only [hpl]
  rw [e]
  have ht := searched_any h i hi (p.fl i) (by omega) hb
  have HT := Lib.hid ht
  have c14 := h.cW_flag
  have cf := h.cF hi
  have c13 := h.cW_all
  have c0 := h.cA_place hi
  have c1 := h.cA_p hi
  have c6 := h.cA_i hi
  have c7 := h.cA_spin hi
  have c10 := h.cA_back hi
  have c11 := h.cA_after hi
  have cP := h.cW_F_P
  obtain ⟨ra, rc, hrv⟩ := ownsRow_slice (h.crest i hi).1
  have c9 := h.cA_rest hi
  rw [hrv] at c9
  have fA := h.call.2
  have hM := h.dim
  have hcap := h.own_cap.2
  have nWA := h.own.ne.2.2.2.2.1
  have H := Lib.hid h
  unfold dims at hM
  rw [hpl] at c0
  clear h hrv hpl ht hb E e
  go_enter Tryz.func139, Tryz.ntmps139
  go_wp2_with fail
  refine HT.out.mono ?_
  rintro e w1 ⟨rfl, ow1, h1⟩
  go_wp2
  go_returns
  exact ⟨rfl, V, _, h1⟩

end Go.Proofs.YtpclgelilnhjpaaGreatDoor

namespace Go.Proofs.YtpclgelilnhjpaaGreatDoor
open Go Go.RowKit Hst Go.Proofs

/-- A status's step turns words alone. -/
theorem move_shape (p : Wd) (g : Int) (a b : Nat) : ∃ ws cnt, p.move g a b = { p with ws := ws, cnt := cnt } := by
  unfold Wd.move Wd.swap Wd.st Wd.acc
  split
  · split <;> exact ⟨_, _, rfl⟩
  · exact ⟨_, _, rfl⟩

/-- A step without a lock, called. -/
def BareOK (N : Nat) (p : Wd) (i : Nat) (p' : Wd) : Prop := ∀ (F : Fix) (V : Vol) (ow : Nat → Nat) (w : World), WAt F V ow w p → Env N ow w →
  Calls Tryz.prog 97 #[.pointer (some ⟨F.W, 0, none⟩), .int .i64 i] w fun e w' => e = .returned (.tuple #[]) ∧ ∃ V' ow', On F V' ow w ow' w' p'

set_option maxRecDepth 100000 in
set_option maxHeartbeats 1600000 in
theorem bare_1 (N : Nat) (p : Wd) (i q : Nat) (hi : i < p.M) (hq : q < p.P) (hp : (p.mach i).p = (q : Int)) (hpl : (p.mach i).place = 1) : BareOK N p i (p.bare i) := by
  intro F V ow w h E
  obtain ⟨t, ht⟩ : ∃ t, t = wrap64 (p.turns.getD q 0 + 1) := ⟨_, rfl⟩
  have e : p.bare i = (if t.tmod 61 = 0 then ({ p with turns := p.turns.set q t } : Wd).deliver i 2 else ({ p with turns := p.turns.set q t } : Wd).go i 3) := by
    unfold Wd.bare; simp only [hpl, hp, Int.toNat_natCast, ← ht]
  rw [e]
  have c13 := h.cW_all
  have c9 := h.cW_turns
  have c0 := h.cA_place hi
  have c1 := h.cA_p hi
  have ct := h.cT hq
  have fA := h.call.2
  have fT := h.cturns.2
  have hM := h.dim
  have hcap := h.own_cap
  have n1 := h.own.ne.2.2.2.2.2.2.2.2.2.2.2.1
  have n2 := h.own.ne.2.2.2.1
  have n3 := h.own.ne.2.2.2.2.1
  rw [hpl] at c0
  rw [hp] at c1
  unfold dims at hM
  have H := Lib.hid h
  have HPq := Lib.hid hp
  clear h E e hpl hp
  have HT := Lib.hid ht
  clear ht
  go_enter Tryz.func97, Tryz.ntmps97
  go_wp2
  go_region
  go_wp2
  refine on_gen (fun w2 => OnM F V ow w ow w2 ({ p with turns := p.turns.set q t } : Wd) i { p.mach i with place := 3 })
    (by
      have h1 := (On.start H.out).s_turn hq (wrap64 (p.turns.getD q 0 + 1))
      rw [← HT.out] at h1
      have h2 := ((OnM.of_on h1 hi).drew).s_place 3
      rw [HT.out] at h2 ⊢
      exact h2) ?_
  intro w2 h2
  have c9' : w2.cell? ⟨F.W, 9, none⟩ = some (.slice (some ⟨F.turns, 0, none⟩) p.P p.P) := h2.on.at_.cW_turns
  have c1' : w2.cell? ⟨F.all, i * 18 + 1, none⟩ = some (.int .i64 q) := (h2.on.at_.cA_p hi).trans (by rw [mach_self _ _ _ h2.len]; exact congrArg (fun x => some (Value.int .i64 x)) HPq.out)
  have ct' : w2.cell? ⟨F.turns, q, none⟩ = some (.int .i64 t) := (h2.on.at_.cT hq).trans (by show some (Value.int .i64 ((p.turns.set q t).getD q 0)) = _; rw [getD_set _ _ _ _ _ (by have := H.out.lens.2.1; omega), if_pos rfl])
  have H2 := Lib.hid h2
  clear h2 c13 c9 c0 c1 ct fA fT n1 n2 n3
  by_cases hm : t.tmod 61 = 0
  · have HM := Lib.hid hm
    go_quiet (fail)
    go_wp2_with fail
    refine (deliver_to (H2.out.on.drewN nq).at_ i hi 2).mono ?_
    rintro e w3 ⟨rfl, ow3, h3⟩
    go_wp2
    go_returns
    exact ⟨rfl, V, _, ((H2.out.on.drewN nq).then_ h3).cast (by unfold Wd.deliver; rw [mach_self _ _ _ H2.out.len, setM_setM]; rfl)⟩
  · have HM := Lib.hid hm
    have hm2 : (t.tmod 61 == 0) = false := by rw [beq_eq_false_iff_ne]; exact hm
    clear hm
    go_quiet (fail)
    go_wp2
    go_returns
    exact ⟨rfl, V, _, (H2.out.drewN nq).on⟩

set_option maxRecDepth 100000 in
set_option maxHeartbeats 1600000 in
theorem bare_20 (N : Nat) (p : Wd) (i : Nat) (hi : i < p.M) (hpl : (p.mach i).place = 20) (hr : rightOf ⟨2, (p.mach i).got, i, (p.mach i).p, 0⟩ = true) (hbig : p.log.length < 4294967296) : BareOK N p i (p.bare i) := by
  intro F V ow w h E
  obtain ⟨ws, cnt, hsh⟩ := move_shape p (p.mach i).got 1 2
  have e : p.bare i = (({ p with ws := ws, cnt := cnt } : Wd).add i 2 (p.mach i).got 0).setM i { p.mach i with g := (p.mach i).got, got := -1, place := 0 } := by
    unfold Wd.bare; simp only [hpl]; rw [hsh]
  rw [e]
  have c13 := h.cW_all
  have c3 := h.cW_mem
  have c6 := h.cW_from
  have c7 := h.cW_n
  have c0 := h.cA_place hi
  have c4 := h.cA_got hi
  have hM := h.dim
  have hcap := h.own_cap
  rw [hpl] at c0
  unfold dims at hM
  have hmv := move_on ((On.start h).drew).at_ (E.on (On.start h).drew) (p.mach i).got 1 2 (by decide) (by decide) (by decide)
  obtain ⟨fr, hfr⟩ : ∃ fr : Int, fr = ((2 * (p.P + 2) + 1 + p.M : Nat) : Int) := ⟨_, rfl⟩
  rw [← hfr] at c6 hmv
  rw [hsh] at hmv
  have HM := Lib.hid hmv
  have H := Lib.hid h
  have HE := Lib.hid E
  have HR := Lib.hid hr
  clear h E e hpl hmv hfr hr hsh
  go_enter Tryz.func97, Tryz.ntmps97
  go_wp2
  go_still_tail 12, (by kernel_rfl)
  change wpList _ _ _ _ _ w.drew
  go_wp2_with fail
  refine HM.out.mono ?_
  rintro e w1 ⟨rfl, ow1, h1⟩
  have d4 : w1.cell? ⟨F.all, i * 18 + 4, none⟩ = some (.int .i64 (p.mach i).got) := h1.at_.cA_got hi
  have H1 := Lib.hid ((On.start H.out).drew.then_ h1)
  have had := add_on h1.at_ ((HE.out.on (On.start H.out).drew).on h1) i hi 2 (p.mach i).got 0 HR.out hbig
  have HA := Lib.hid had
  clear had h1 c13 c3 c6 c7 c0 c4
  go_wp2_with fail
  refine HA.out.mono ?_
  rintro e w2 ⟨rfl, V2, ow2, _, h2⟩
  have d4' : w2.cell? ⟨F.all, i * 18 + 4, none⟩ = some (.int .i64 (p.mach i).got) := h2.at_.cA_got hi
  have d2 : w2.cell? ⟨F.all, i * 18 + 2, none⟩ = some (.int .i64 (p.mach i).g) := h2.at_.cA_g hi
  have d0 : w2.cell? ⟨F.all, i * 18, none⟩ = some (.int .i64 (p.mach i).place) := h2.at_.cA_place hi
  have fA := h2.at_.call.2
  have H2 := Lib.hid (H1.out.then_ h2)
  clear h2 d4
  go_wp2
  go_returns
  exact ⟨rfl, V2, _, ((((OnM.of_on H2.out hi).s_g _).s_got (-1)).s_place 0).fin rfl⟩
end Go.Proofs.YtpclgelilnhjpaaGreatDoor
