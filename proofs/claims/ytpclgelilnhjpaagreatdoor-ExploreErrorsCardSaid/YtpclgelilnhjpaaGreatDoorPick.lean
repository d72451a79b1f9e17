/-
  Which lock a machine takes; one step of a machine.
-/
import Derived.Test.YtpclgelilnhjpaaGreatDoorThens
set_option linter.unusedVariables false
set_option linter.unusedSimpArgs false
set_option linter.unusedSectionVars false
namespace Go.Proofs.YtpclgelilnhjpaaGreatDoor
open Go Go.RowKit Hst Go.Proofs

set_option maxHeartbeats 1600000 in
set_option maxRecDepth 100000 in
theorem ofplace_any (k : Nat) (hk : k < 31) (N : Nat) (w : World) (T : Tabs N w) :
    Calls Tryz.prog 133 #[.int .i64 k] w fun r w' => (∃ s, r = .returned (.tuple #[.agg #[.string s, .int .i64 (lockK k : Nat)], .bool true])) ∧ Below w.heap.size w w' := by
  obtain ⟨s, c0, c1⟩ := T.places k hk
  have hlt : 3 < w.heap.size := by have h1 := T.lt; have h2 := T.tzlt; have h3 := T.le; omega
  clear T
  go_enter Tryz.func133, Tryz.ntmps133
  go_wp2
  go_returns
  exact ⟨⟨s, rfl⟩, by go_grown⟩

/-- Which lock a machine takes; below 0: none. -/
def ringI (P : Nat) (q : Int) : Int := if 0 ≤ q ∧ q < P then q + 1 else -1
def lockI (P : Nat) (m : Mach) : Int :=
  match lockK m.place with
  | 1 => 0
  | 5 => (P : Int) + 1
  | 2 => ringI P m.p
  | 4 => ringI P m.i
  | 3 => if 0 ≤ m.i ∧ 0 ≤ m.p ∧ m.p < P then (m.p + m.i % P) % P + 1 else -1
  | _ => -1

set_option maxHeartbeats 1600000 in
set_option maxRecDepth 100000 in
theorem ringp_any (P : Nat) (hP : P ≤ 64) (q : Int) (w : World) :
    Calls Tryz.prog 134 #[.int .i64 q, .int .i64 P] w fun r w' => r = .returned (.int .i64 (ringI P q)) ∧ w' = w := by
  by_cases h : 0 ≤ q ∧ q < P
  · have e : ringI P q = q + 1 := if_pos h
    rw [e]
    obtain ⟨h1, h2⟩ := h
    clear e
    go_enter Tryz.func134, Tryz.ntmps134
    go_wp2
    go_returns
    exact ⟨rfl, rfl⟩
  · have e : ringI P q = -1 := if_neg h
    rw [e]
    clear e
    by_cases h0 : q < 0
    · clear h
      go_enter Tryz.func134, Tryz.ntmps134
      go_wp2
      go_returns
      exact ⟨rfl, rfl⟩
    · have h1 : (P : Int) ≤ q := by omega
      clear h
      go_enter Tryz.func134, Tryz.ntmps134
      go_wp2
      go_returns
      exact ⟨rfl, rfl⟩

theorem lockK_le (k : Nat) : lockK k = 0 ∨ lockK k = 1 ∨ lockK k = 2 ∨ lockK k = 3 ∨ lockK k = 4 ∨ lockK k = 5 := by
  unfold lockK; split <;> simp

set_option maxHeartbeats 3200000 in
set_option maxRecDepth 100000 in
theorem lock_0 (m : Mach) (r : Value) (P : Nat) (hP : 1 ≤ P ∧ P ≤ 64) (hpl : m.place < 31) (hk : lockK m.place = 0) (N : Nat) (w : World) (T : Tabs N w) :
    Calls Tryz.prog 95 #[.agg (encM m r).toArray, .int .i64 P] w fun e w' => e = .returned (.int .i64 (lockI P m)) ∧ Below w.heap.size w w' := by
  obtain ⟨place, mp, mg, mnext, mgot, mtarget, mi, mspin, minn, mrest, mback, mafter, marg, mlkN, mlkS, mstage, mticket, mtimes⟩ := m
  simp only [encM] at *
  have ho := fun w T => ofplace_any place hpl N w T
  simp only [hk] at ho
  have HO := Lib.hid ho
  have hT := Lib.hid T
  have el : lockI P ⟨place, mp, mg, mnext, mgot, mtarget, mi, mspin, minn, mrest, mback, mafter, marg, mlkN, mlkS, mstage, mticket, mtimes⟩ = -1 := by unfold lockI; simp only [hk]
  rw [el]
  clear ho T hk el
  obtain ⟨hP1, hP2⟩ := hP
  go_enter Tryz.func95, Tryz.ntmps95
  go_wp2_with fail
  refine (HO.out _ (hT.out.alloc _)).mono ?_
  rintro e w1 ⟨⟨s, rfl⟩, hb⟩
  have hx := below_box hb
  have hb0 : Below w.heap.size w w1 := ((Below.refl _ w).alloc (Nat.le_refl _) _).trans (hb.mono (by simp))
  have hlt := box_lt hx
  clear hx hb HO
  go_wp2
  go_returns
  exact ⟨rfl, hb0.alloc (by omega) _⟩

set_option maxHeartbeats 3200000 in
set_option maxRecDepth 100000 in
theorem lock_1 (m : Mach) (r : Value) (P : Nat) (hP : 1 ≤ P ∧ P ≤ 64) (hpl : m.place < 31) (hk : lockK m.place = 1) (N : Nat) (w : World) (T : Tabs N w) :
    Calls Tryz.prog 95 #[.agg (encM m r).toArray, .int .i64 P] w fun e w' => e = .returned (.int .i64 (lockI P m)) ∧ Below w.heap.size w w' := by
  obtain ⟨place, mp, mg, mnext, mgot, mtarget, mi, mspin, minn, mrest, mback, mafter, marg, mlkN, mlkS, mstage, mticket, mtimes⟩ := m
  simp only [encM] at *
  have ho := fun w T => ofplace_any place hpl N w T
  simp only [hk] at ho
  have HO := Lib.hid ho
  have hT := Lib.hid T
  have el : lockI P ⟨place, mp, mg, mnext, mgot, mtarget, mi, mspin, minn, mrest, mback, mafter, marg, mlkN, mlkS, mstage, mticket, mtimes⟩ = 0 := by unfold lockI; simp only [hk]
  rw [el]
  clear ho T hk el
  obtain ⟨hP1, hP2⟩ := hP
  go_enter Tryz.func95, Tryz.ntmps95
  go_wp2_with fail
  refine (HO.out _ (hT.out.alloc _)).mono ?_
  rintro e w1 ⟨⟨s, rfl⟩, hb⟩
  have hx := below_box hb
  have hb0 : Below w.heap.size w w1 := ((Below.refl _ w).alloc (Nat.le_refl _) _).trans (hb.mono (by simp))
  have hlt := box_lt hx
  clear hx hb HO
  go_wp2
  go_returns
  exact ⟨rfl, hb0.alloc (by omega) _⟩

set_option maxHeartbeats 3200000 in
set_option maxRecDepth 100000 in
theorem lock_5 (m : Mach) (r : Value) (P : Nat) (hP : 1 ≤ P ∧ P ≤ 64) (hpl : m.place < 31) (hk : lockK m.place = 5) (N : Nat) (w : World) (T : Tabs N w) :
    Calls Tryz.prog 95 #[.agg (encM m r).toArray, .int .i64 P] w fun e w' => e = .returned (.int .i64 (lockI P m)) ∧ Below w.heap.size w w' := by
  obtain ⟨place, mp, mg, mnext, mgot, mtarget, mi, mspin, minn, mrest, mback, mafter, marg, mlkN, mlkS, mstage, mticket, mtimes⟩ := m
  simp only [encM] at *
  have ho := fun w T => ofplace_any place hpl N w T
  simp only [hk] at ho
  have HO := Lib.hid ho
  have hT := Lib.hid T
  have el : lockI P ⟨place, mp, mg, mnext, mgot, mtarget, mi, mspin, minn, mrest, mback, mafter, marg, mlkN, mlkS, mstage, mticket, mtimes⟩ = (P : Int) + 1 := by unfold lockI; simp only [hk]
  rw [el]
  clear ho T hk el
  obtain ⟨hP1, hP2⟩ := hP
  go_enter Tryz.func95, Tryz.ntmps95
  go_wp2_with fail
  refine (HO.out _ (hT.out.alloc _)).mono ?_
  rintro e w1 ⟨⟨s, rfl⟩, hb⟩
  have hx := below_box hb
  have hb0 : Below w.heap.size w w1 := ((Below.refl _ w).alloc (Nat.le_refl _) _).trans (hb.mono (by simp))
  have hlt := box_lt hx
  clear hx hb HO
  go_wp2
  go_returns
  exact ⟨rfl, hb0.alloc (by omega) _⟩

set_option maxHeartbeats 3200000 in
set_option maxRecDepth 100000 in
theorem lock_2 (m : Mach) (r : Value) (P : Nat) (hP : 1 ≤ P ∧ P ≤ 64) (hpl : m.place < 31) (hk : lockK m.place = 2) (N : Nat) (w : World) (T : Tabs N w) :
    Calls Tryz.prog 95 #[.agg (encM m r).toArray, .int .i64 P] w fun e w' => e = .returned (.int .i64 (lockI P m)) ∧ Below w.heap.size w w' := by
  obtain ⟨place, mp, mg, mnext, mgot, mtarget, mi, mspin, minn, mrest, mback, mafter, marg, mlkN, mlkS, mstage, mticket, mtimes⟩ := m
  simp only [encM] at *
  have ho := fun w T => ofplace_any place hpl N w T
  simp only [hk] at ho
  have HO := Lib.hid ho
  have hT := Lib.hid T
  have el : lockI P ⟨place, mp, mg, mnext, mgot, mtarget, mi, mspin, minn, mrest, mback, mafter, marg, mlkN, mlkS, mstage, mticket, mtimes⟩ = ringI P mp := by unfold lockI; simp only [hk]
  rw [el]
  clear ho T hk el
  have hr := fun w => ringp_any P hP.2 mp w
  have HR := Lib.hid hr
  clear hr
  obtain ⟨hP1, hP2⟩ := hP
  go_enter Tryz.func95, Tryz.ntmps95
  go_wp2_with fail
  refine (HO.out _ (hT.out.alloc _)).mono ?_
  rintro e w1 ⟨⟨s, rfl⟩, hb⟩
  have hx := below_box hb
  have hb0 : Below w.heap.size w w1 := ((Below.refl _ w).alloc (Nat.le_refl _) _).trans (hb.mono (by simp))
  have hlt := box_lt hx
  have c1 := box_cell hx 1
  simp only [List.getElem?_toArray, List.getElem?_cons_zero, List.getElem?_cons_succ] at c1
  clear hx hb HO
  go_wp2_with fail
  refine (HR.out _).mono ?_
  rintro e w2 ⟨rfl, rfl⟩
  go_wp2
  go_returns
  exact ⟨rfl, hb0.alloc (by omega) _⟩

set_option maxHeartbeats 3200000 in
set_option maxRecDepth 100000 in
theorem lock_4 (m : Mach) (r : Value) (P : Nat) (hP : 1 ≤ P ∧ P ≤ 64) (hpl : m.place < 31) (hk : lockK m.place = 4) (N : Nat) (w : World) (T : Tabs N w) :
    Calls Tryz.prog 95 #[.agg (encM m r).toArray, .int .i64 P] w fun e w' => e = .returned (.int .i64 (lockI P m)) ∧ Below w.heap.size w w' := by
  obtain ⟨place, mp, mg, mnext, mgot, mtarget, mi, mspin, minn, mrest, mback, mafter, marg, mlkN, mlkS, mstage, mticket, mtimes⟩ := m
  simp only [encM] at *
  have ho := fun w T => ofplace_any place hpl N w T
  simp only [hk] at ho
  have HO := Lib.hid ho
  have hT := Lib.hid T
  have el : lockI P ⟨place, mp, mg, mnext, mgot, mtarget, mi, mspin, minn, mrest, mback, mafter, marg, mlkN, mlkS, mstage, mticket, mtimes⟩ = ringI P mi := by unfold lockI; simp only [hk]
  rw [el]
  clear ho T hk el
  have hr := fun w => ringp_any P hP.2 mi w
  have HR := Lib.hid hr
  clear hr
  obtain ⟨hP1, hP2⟩ := hP
  go_enter Tryz.func95, Tryz.ntmps95
  go_wp2_with fail
  refine (HO.out _ (hT.out.alloc _)).mono ?_
  rintro e w1 ⟨⟨s, rfl⟩, hb⟩
  have hx := below_box hb
  have hb0 : Below w.heap.size w w1 := ((Below.refl _ w).alloc (Nat.le_refl _) _).trans (hb.mono (by simp))
  have hlt := box_lt hx
  have c6 := box_cell hx 6
  simp only [List.getElem?_toArray, List.getElem?_cons_zero, List.getElem?_cons_succ] at c6
  clear hx hb HO
  go_wp2_with fail
  refine (HR.out _).mono ?_
  rintro e w2 ⟨rfl, rfl⟩
  go_wp2
  go_returns
  exact ⟨rfl, hb0.alloc (by omega) _⟩

theorem lock_any (m : Mach) (r : Value) (P : Nat) (hP : 1 ≤ P ∧ P ≤ 64) (hpl : m.place < 31) (hne : lockK m.place ≠ 3) (N : Nat) (w : World) (T : Tabs N w) :
    Calls Tryz.prog 95 #[.agg (encM m r).toArray, .int .i64 P] w fun e w' => e = .returned (.int .i64 (lockI P m)) ∧ Below w.heap.size w w' := by
  rcases lockK_le m.place with e | e | e | e | e | e
  · exact lock_0 m r P hP hpl e N w T
  · exact lock_1 m r P hP hpl e N w T
  · exact lock_2 m r P hP hpl e N w T
  · exact absurd e hne
  · exact lock_4 m r P hP hpl e N w T
  · exact lock_5 m r P hP hpl e N w T

/-- A step with a lock, called. -/
def LockedOK (N : Nat) (p : Wd) (i k : Nat) (p' : Wd) : Prop := ∀ (F : Fix) (V : Vol) (ow : Nat → Nat) (w : World), WAt F V ow w p → Env N ow w →
  Calls Tryz.prog 96 #[.pointer (some ⟨F.W, 0, none⟩), .int .i64 i, .int .i64 k] w fun e w' => e = .returned (.tuple #[]) ∧ ∃ V' ow', On F V' ow w ow' w' p'
def stepV (kind act a x d : Int) : Value := .agg #[.int .u8 kind, .int .u8 act, .int .i64 a, .int .i64 x, .int .i64 d]

set_option maxHeartbeats 3200000 in
set_option maxRecDepth 100000 in
theorem pick_mach (N : Nat) {F : Fix} {V : Vol} {ow : Nat → Nat} {w : World} {p p' : Wd} (h : WAt F V ow w p) (E : Env N ow w) (i : Nat) (hi : i < p.M) (hpl : (p.mach i).place < 31) (h0 : (p.mach i).place ≠ 0) (h16 : (p.mach i).place ≠ 16) (hne : lockK (p.mach i).place ≠ 3)
    (hk : (∃ k : Nat, lockI p.P (p.mach i) = k ∧ LockedOK N p i k p') ∨ (lockI p.P (p.mach i) < 0 ∧ BareOK N p i p')) (kind act x d : Int) :
    Calls Tryz.prog 54 #[.pointer (some ⟨F.W, 0, none⟩), .agg #[.int .u8 kind, .int .u8 act, .int .i64 i, .int .i64 x, .int .i64 d]] w fun e w' => e = .returned (.bool true) ∧ ∃ V' ow', On F V' ow w ow' w' p' := by
  have hM := h.dim
  have hcap := h.own_cap.2
  unfold dims at hM
  have hi0 : ¬ (i : Int) < 0 := by omega
  have hi1 : ¬ (p.M : Int) ≤ (i : Int) := by omega
  have hd0 : decide ((i : Int) < 0) = false := by simp
  have hd1 : decide ((p.M : Int) ≤ (i : Int)) = false := by simp; omega
  have h0' : (((p.mach i).place : Int) == 0) = false := by rw [beq_eq_false_iff_ne]; omega
  have h16' : (((p.mach i).place : Int) == 16) = false := by rw [beq_eq_false_iff_ne]; omega
  have hlock := fun w T => lock_any (p.mach i) (V.rest i) p.P ⟨hM.1, hM.2.1⟩ hpl hne N w T
  simp only [encM] at hlock
  have HL := Lib.hid hlock
  have H := Lib.hid h
  have HE := Lib.hid E
  have HK := Lib.hid hk
  clear h E hk hlock h0 h16 hne hpl
  go_enter Tryz.func54, Tryz.ntmps54
  go_wp2
  refine on_gen (fun wb => On F V ow w (grow ow w.heap.size 0) wb p ∧ wb.cell? ⟨w.heap.size, 0, none⟩ = some (.int .u8 kind) ∧ wb.cell? ⟨w.heap.size, 1, none⟩ = some (.int .u8 act) ∧ wb.cell? ⟨w.heap.size, 2, none⟩ = some (.int .i64 i) ∧ wb.cell? ⟨w.heap.size, 3, none⟩ = some (.int .i64 x) ∧ wb.cell? ⟨w.heap.size, 4, none⟩ = some (.int .i64 d))
    ⟨(On.start H.out).alloc _, by rw [cell_new]; rfl, by rw [cell_new]; rfl, by rw [cell_new]; rfl, by rw [cell_new]; rfl, by rw [cell_new]; rfl⟩ ?_
  rintro wb ⟨h1, b0, b1, b2, b3, b4⟩
  have cM := h1.at_.cW_F_M
  have cP := h1.at_.cW_F_P
  have c13 := h1.at_.cW_all
  have a0 := h1.at_.cA_place hi
  have a1 := h1.at_.cA_p hi
  have a2 := h1.at_.cA_g hi
  have a3 := h1.at_.cA_next hi
  have a4 := h1.at_.cA_got hi
  have a5 := h1.at_.cA_target hi
  have a6 := h1.at_.cA_i hi
  have a7 := h1.at_.cA_spin hi
  have a8 := h1.at_.cA_inn hi
  have a9 := h1.at_.cA_rest hi
  have a10 := h1.at_.cA_back hi
  have a11 := h1.at_.cA_after hi
  have a12 := h1.at_.cA_arg hi
  have a13 := h1.at_.cA_lkN hi
  have a14 := h1.at_.cA_lkS hi
  have a15 := h1.at_.cA_stage hi
  have a16 := h1.at_.cA_ticket hi
  have a17 := h1.at_.cA_times hi
  have H1 := Lib.hid h1
  clear h1
  go_quiet (fail)
  go_wp2
  go_quiet (fail)
  go_wp2
  refine on_gen (fun w2 => On F V ow w (grow ow w.heap.size 0) w2 p ∧ w2.cell? ⟨w.heap.size, 2, none⟩ = some (.int .i64 i)) ⟨H1.out.drewN _, b2⟩ ?_
  rintro w2 ⟨h2, d2⟩
  clear cM cP c13 b0 b1 b2 b3 b4 a0 a1 a2 a3 a4 a5 a6 a7 a8 a9 a10 a11 a12 a13 a14 a15 a16 a17
  have cP := h2.at_.cW_F_P
  have a0 := h2.at_.cA_place hi
  have a1 := h2.at_.cA_p hi
  have a2 := h2.at_.cA_g hi
  have a3 := h2.at_.cA_next hi
  have a4 := h2.at_.cA_got hi
  have a5 := h2.at_.cA_target hi
  have a6 := h2.at_.cA_i hi
  have a7 := h2.at_.cA_spin hi
  have a8 := h2.at_.cA_inn hi
  have a9 := h2.at_.cA_rest hi
  have a10 := h2.at_.cA_back hi
  have a11 := h2.at_.cA_after hi
  have a12 := h2.at_.cA_arg hi
  have a13 := h2.at_.cA_lkN hi
  have a14 := h2.at_.cA_lkS hi
  have a15 := h2.at_.cA_stage hi
  have a16 := h2.at_.cA_ticket hi
  have a17 := h2.at_.cA_times hi
  have H2 := Lib.hid h2
  clear h2 H1 wb
  go_still_tail 8, (by kernel_rfl)
  change wpList _ _ _ _ _ w2.drew
  go_wp2_with fail
  refine (HL.out _ ((HE.out.on H2.out).on (On.start H2.out.at_).drew).tabs).mono ?_
  rintro e w3 ⟨rfl, hb⟩
  have d3 : w3.cell? ⟨w.heap.size, 2, none⟩ = some (.int .i64 i) := (hb.cell (p := ⟨w.heap.size, 2, none⟩) (World.block_lt_of_cell? w2 _ d2)).trans d2
  have h3 := H2.out.drew.below hb
  have H3 := Lib.hid h3
  clear h3 hb HL
  rcases HK.out with ⟨k, hk, hok⟩ | ⟨hk, hok⟩
  · rw [hk]
    have HOK := Lib.hid hok
    clear hk HK hok
    go_wp2_with fail
    refine (HOK.out _ _ _ _ H3.out.at_ (HE.out.on H3.out)).mono ?_
    rintro e w4 ⟨rfl, V4, ow4, h4⟩
    go_wp2
    go_returns
    exact ⟨rfl, _, _, H3.out.then_ h4⟩
  · have HOK := Lib.hid hok
    clear HK hok
    generalize lockI p.P (p.mach i) = lk at *
    go_wp2_with fail
    refine (HOK.out _ _ _ _ H3.out.at_ (HE.out.on H3.out)).mono ?_
    rintro e w4 ⟨rfl, V4, ow4, h4⟩
    go_wp2
    go_returns
    exact ⟨rfl, _, _, H3.out.then_ h4⟩

set_option maxHeartbeats 1600000 in
set_option maxRecDepth 100000 in
theorem step_pick {F : Fix} {V : Vol} {ow : Nat → Nat} {w : World} {p p' : Wd} (h : WAt F V ow w p) (act a x d : Int) (ok : Bool)
    (hp : ∀ w1 ow1, WAt F V ow1 w1 p → (∀ b, b < w.heap.size → ow1 b = ow b) → Agree (fun b => ow b = 0) w w1 → Calls Tryz.prog 54 #[.pointer (some ⟨F.W, 0, none⟩), .agg #[.int .u8 0, .int .u8 act, .int .i64 a, .int .i64 x, .int .i64 d]] w1 fun e w' => e = .returned (.bool ok) ∧ ∃ V' ow', On F V' ow1 w1 ow' w' p') :
    Calls Tryz.prog 19 #[.pointer (some ⟨F.W, 0, none⟩), .agg #[.int .u8 0, .int .u8 act, .int .i64 a, .int .i64 x, .int .i64 d]] w fun e w' => e = .returned (.bool ok) ∧ ∃ V' ow', On F V' ow w ow' w' p' := by
  have h1 := (On.start h).alloc (.cells #[.int .u8 0, .int .u8 act, .int .i64 a, .int .i64 x, .int .i64 d] 43)
  have hq := hp _ _ h1.at_ h1.st.own ⟨h1.st.size, h1.st.block⟩
  have HQ := Lib.hid hq
  have H1 := Lib.hid h1
  clear h h1 hp hq
  go_enter Tryz.func19, Tryz.ntmps19
  go_wp2_with fail
  refine HQ.out.mono ?_
  rintro e w1 ⟨rfl, V1, ow1, h2⟩
  go_wp2
  go_returns
  exact ⟨rfl, _, _, H1.out.then_ h2⟩
end Go.Proofs.YtpclgelilnhjpaaGreatDoor
