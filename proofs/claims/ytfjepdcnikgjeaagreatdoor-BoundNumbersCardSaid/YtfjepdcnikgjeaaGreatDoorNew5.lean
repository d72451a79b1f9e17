/-
  A world made: world.New.
-/
import Derived.Test.YtfjepdcnikgjeaaGreatDoorNew4
set_option linter.unusedVariables false
set_option linter.unusedSimpArgs false
set_option linter.unusedSectionVars false
namespace Go.Proofs.YtfjepdcnikgjeaaGreatDoor
open Go Go.RowKit Hst Go.Proofs

theorem Stp.below {ow ow' : Nat → Nat} {w w' : World} (s : Stp ow ow' w w') {n : Nat} (hn : n ≤ w.heap.size) (l : ∀ b, b < n → ow b = 0) : Below n w w' :=
  ⟨s.os, s.tape, s.output, s.size, fun b hb => s.block b (Nat.lt_of_lt_of_le hb hn) (l b hb)⟩

/-- A world behind its first status. -/
def newW (P M G : Nat) : Wd := ((halfW P M G).setM 0 { Mach.fresh with place := 1, p := 0 }).move 0 0 1
theorem newW_eq (P M G : Nat) (hG : 1 ≤ G) : newW P M G = { ((halfW P M G).setM 0 { Mach.fresh with place := 1, p := 0 }) with ws := (List.replicate (2 * (P + 2) + 1 + M + G) 0).set (2 * (P + 2) + 1 + M) 1, cnt := 1 } := by
  unfold newW Wd.move
  rw [if_pos ⟨by omega, by show (0 : Int) < (G : Int); omega⟩]
  unfold Wd.swap
  rw [if_pos (by
    show (List.replicate (nWords P M G) 0).getD _ 0 = 0
    rw [List.getD_eq_getElem?_getD, List.getElem?_replicate]; split <;> rfl)]
  show ({ ((halfW P M G).setM 0 { Mach.fresh with place := 1, p := 0 }) with ws := (List.replicate (2 * (P + 2) + 1 + M + G) 0).set (2 * (P + 2) + 1 + M) 1, cnt := wrap64 (0 + 1) } : Wd) = _
  rw [show wrap64 (0 + 1) = 1 by kernel_rfl]
theorem new_eq (P M G : Nat) (hd : dims P M G) : ({ ({ (newW P M G) with log := (newW P M G).log ++ [⟨0, 0, -1, -1, 0⟩] } : Wd) with glob := [] ++ [0] } : Wd) = Wd.new P M G := by
  rw [newW_eq P M G hd.2.2.2.2.1]; rfl

set_option maxHeartbeats 3200000 in
set_option maxRecDepth 100000 in
theorem new_ok (P M G N : Nat) (hd : dims P M G) (w : World) (T : Tabs N w) :
    Calls Tryz.prog 53 #[.agg #[.int .i64 P, .int .i64 M, .int .i64 G]] w fun e w' => ∃ F V ow, e = .returned (.tuple #[.pointer (some ⟨F.W, 0, none⟩), .int .i64 0]) ∧ WAt F V ow w' (Wd.new P M G) ∧ (∀ b, b < w.heap.size → ow b = 0) ∧ Below w.heap.size w w' := by
  have HTab := Lib.hid T
  clear T
  have hr : rightI P M G = true := by unfold rightI; unfold dims at hd; simp; omega
  have hc := fun w => right_c P M G w
  rw [hr] at hc
  have HC := Lib.hid hc
  have HD := Lib.hid hd
  clear hc hr
  unfold dims at hd
  go_enter Tryz.func53, Tryz.ntmps53
  go_wp2_with fail
  refine (HC.out _).mono ?_
  rintro e w1 ⟨rfl, hw1⟩
  have hbx : newS w.heap.size P M G w1 := by
    rw [hw1]
    refine ⟨?_, ?_, ?_⟩ <;> rw [World.cell?_alloc_lt _ _ _ (by simp), cell_new] <;> rfl
  have hB1 : Below w.heap.size w w1 := by rw [hw1]; exact ((Below.refl _ w).alloc (Nat.le_refl _) _).alloc (by simp) _
  have HB1 := Lib.hid hB1
  clear hw1 hB1
  go_wp2
  refine new_region P M G w.heap.size HD.out w1 _ ⟨fun _ _ _ _ _ h => h, ?_⟩ hbx (fun _ => 0) (fun _ => rfl)
  intro ow w2 v17 v20 v23 v26 v31 hI hS2
  obtain ⟨x17, e17, _⟩ := hI.turns _ rfl
  obtain ⟨x20, e20, _⟩ := hI.flag _ rfl
  obtain ⟨x23, e23, _⟩ := hI.glob _ rfl
  obtain ⟨x26, e26, _⟩ := hI.src _ rfl
  obtain ⟨x31, e31, _⟩ := hI.idle _ rfl
  subst e17 e20 e23 e26 e31
  simp only [sli, ptr] at *
  have hI2 := hI.more (by omega) (by omega) (below_alloc w2 (.cells #[.int .i64 P, .int .i64 M, .int .i64 G, .pointer none, .int .i64 (2 * ((P : Int) + 2)), .int .i64 (2 * ((P : Int) + 2) + 1), .int .i64 0, .int .i64 0, .slice none 0 0, .slice (some ⟨x17, 0, none⟩) P P, .pointer (some ⟨x23, 0, none⟩), .pointer (some ⟨x26, 0, none⟩), .pointer (some ⟨x31, 0, none⟩), .slice none 0 0, .slice (some ⟨x20, 0, none⟩) M M, .slice none 0 0] 153)) 1
  have hs2 := newS_below hS2 (below_alloc w2 (.cells #[.int .i64 P, .int .i64 M, .int .i64 G, .pointer none, .int .i64 (2 * ((P : Int) + 2)), .int .i64 (2 * ((P : Int) + 2) + 1), .int .i64 0, .int .i64 0, .slice none 0 0, .slice (some ⟨x17, 0, none⟩) P P, .pointer (some ⟨x23, 0, none⟩), .pointer (some ⟨x26, 0, none⟩), .pointer (some ⟨x31, 0, none⟩), .slice none 0 0, .slice (some ⟨x20, 0, none⟩) M M, .slice none 0 0] 153))
  have HI := Lib.hid hI2
  have HS := Lib.hid hs2
  clear hI hS2 hI2 hs2
  go_wp2
  refine on_gen (fun w3 => NewInv w1 P M (grow ow w2.heap.size 1) w3 (some (.slice (some ⟨x17, 0, none⟩) P P)) (some (.slice (some ⟨x20, 0, none⟩) M M)) (some (.pointer (some ⟨x23, 0, none⟩))) (some (.pointer (some ⟨x26, 0, none⟩))) (some (.pointer (some ⟨x31, 0, none⟩))) ∧ newS w.heap.size P M G w3 ∧
    w3.heap[w2.heap.size]? = some (.cells #[.int .i64 P, .int .i64 M, .int .i64 G, .pointer none, .int .i64 (2 * ((P : Int) + 2)), .int .i64 (2 * ((P : Int) + 2) + 1), .int .i64 0, .int .i64 0, .slice none 0 0, .slice (some ⟨x17, 0, none⟩) P P, .pointer (some ⟨x23, 0, none⟩), .pointer (some ⟨x26, 0, none⟩), .pointer (some ⟨x31, 0, none⟩), .slice none 0 0, .slice (some ⟨x20, 0, none⟩) M M, .slice none 0 0] 153 (0, 0))) ⟨HI.out, HS.out, heap_alloc_new w2 _⟩ ?_
  rintro w3 ⟨hI3, hS3, hW⟩
  obtain ⟨k0, k1, k2⟩ := hS3
  have lW := box_lt hW
  have fW : ∀ o, w3.frozen? ⟨w2.heap.size, o, none⟩ = false := fun o => Lib.frozen_of_heap hW o
  have d5 := box_cell hW 5
  have d6 := box_cell hW 6
  have d7 := box_cell hW 7
  simp only [List.getElem?_toArray, List.getElem?_cons_zero, List.getElem?_cons_succ] at d5 d6 d7
  have lb := World.block_lt_of_cell? w3 _ k0
  have hbw : w.heap.size < w1.heap.size := World.block_lt_of_cell? w1 _ hbx.1
  have hne : w2.heap.size ≠ w.heap.size := fun e => by have := hI3.low w.heap.size hbw; rw [← e, grow_self] at this; omega
  have hW4 : ((w3.setCell ⟨w2.heap.size, 6, none⟩ (.int .i64 (2 * ((P : Int) + 2) + 1 + (M : Int)))).setCell ⟨w2.heap.size, 7, none⟩ (.int .i64 G)).drew.heap[w2.heap.size]? = some (.cells (wLit P M G 0 (.pointer none) x17 x20 x23 x26 x31) 153 (0, 0)) :=
    heap_setCell_same _ w2.heap.size 7 _ _ (.int .i64 G) (heap_setCell_same w3 w2.heap.size 6 _ _ (.int .i64 (2 * ((P : Int) + 2) + 1 + (M : Int))) hW)
  have hI4 := (hI3.setW (by omega) (by omega) (grow_self ow w2.heap.size 1) 6 (.int .i64 (2 * ((P : Int) + 2) + 1 + (M : Int)))).setW (by omega) (by omega) (grow_self ow w2.heap.size 1) 7 (.int .i64 G)
  have HI4 := Lib.hid hI4
  have HW4 := Lib.hid hW4
  clear hI3 hW HI HS hI4 hW4
  go_region
  go_wp2
  refine on_gen (fun w4 => NewInv w1 P M (grow ow w2.heap.size 1) w4 (some (.slice (some ⟨x17, 0, none⟩) P P)) (some (.slice (some ⟨x20, 0, none⟩) M M)) (some (.pointer (some ⟨x23, 0, none⟩))) (some (.pointer (some ⟨x26, 0, none⟩))) (some (.pointer (some ⟨x31, 0, none⟩))) ∧ newS w.heap.size P M G w4 ∧
    w4.heap[w2.heap.size]? = some (.cells (wLit P M G 0 (.pointer none) x17 x20 x23 x26 x31) 153 (0, 0)))
    ⟨HI4.out.more2 (by omega) (by omega) (fun _ _ => rfl) ((Below.refl _ _).drew), ⟨(cell_far hne _).trans ((cell_far hne _).trans k0), (cell_far hne _).trans ((cell_far hne _).trans k1), (cell_far hne _).trans ((cell_far hne _).trans k2)⟩, HW4.out⟩ ?_
  clear HI4 HW4 d5 d6 d7 fW lW lb k0 k1 k2
  rintro w4 ⟨hI4, ⟨k0, k1, k2⟩, hW4⟩
  have lW := box_lt hW4
  have d6 := box_cell hW4 6
  have d3 := box_cell hW4 3
  have fW : ∀ o, w4.frozen? ⟨w2.heap.size, o, none⟩ = false := fun o => Lib.frozen_of_heap hW4 o
  simp only [wLit, List.getElem?_toArray, List.getElem?_cons_zero, List.getElem?_cons_succ] at d6 d3
  have lb := World.block_lt_of_cell? w4 _ k0
  simp only at lb
  have ecn : 2 * ((P : Int) + 2) + 1 + (M : Int) + (G : Int) = ((nWords P M G : Nat) : Int) := by unfold nWords; omega
  have hcn := cnew_any (nWords P M G) (by unfold nWords; omega) w4.drew
  rw [← ecn] at hcn
  have HCN := Lib.hid hcn
  have hwr : IntKind.i64.wrap (2 * ((P : Int) + 2) + 1 + (M : Int) + (G : Int)) = 2 * ((P : Int) + 2) + 1 + (M : Int) + (G : Int) := IntWalk.i64_in _ (by omega)
  have HI4 := Lib.hid hI4
  have HW4 := Lib.hid hW4
  clear hcn ecn hI4 hW4
  go_region_held3 (fun w' => w'.cell? ⟨w2.heap.size, 6, none⟩ = some (.int .i64 (2 * ((P : Int) + 2) + 1 + (M : Int))) ∧ w'.cell? ⟨w.heap.size, 2, none⟩ = some (.int .i64 G))
    (first | exact ⟨d6, k2⟩ | exact ⟨d6', k2'⟩ | exact ⟨(cell_set d3' _ _).trans ((if_neg (by decide)).trans d6'), (cell_far hne _).trans k2'⟩)
    (first | (go_at_call 104; refine HCN.out.mono ?_; rintro e w5 ⟨mb, r, rfl, g1, g2, g3, m0, m1, mw, mf1, mf2, hb⟩; have d6' := (hb.cell (p := ⟨w2.heap.size, 6, none⟩) lW).trans d6; have d3' := (hb.cell (p := ⟨w2.heap.size, 3, none⟩) lW).trans d3; have k0' := (hb.cell (p := ⟨w.heap.size, 0, none⟩) lb).trans k0; have k1' := (hb.cell (p := ⟨w.heap.size, 1, none⟩) lb).trans k1; have k2' := (hb.cell (p := ⟨w.heap.size, 2, none⟩) lb).trans k2; have fW' := fun o => (hb.frozen (p := ⟨w2.heap.size, o, none⟩) lW).trans (fW o)))
  obtain ⟨ow5, F, hH, hFW⟩ := half_start (by omega) (by omega) HI4.out HW4.out (grow_self ow w2.heap.size 1) g1 g2 g3 m0 m1 mw mf1 mf2 ((Below.refl _ w4).drew.trans hb)
  have hH2 : newS w.heap.size P M G (w5.setCell ⟨w2.heap.size, 3, none⟩ (.pointer (some ⟨mb, 0, none⟩))) := ⟨(cell_far hne _).trans k0', (cell_far hne _).trans k1', (cell_far hne _).trans k2'⟩
  clear HI4 HW4 HCN d6 d3 d6' d3' k0 k1 k2 k0' k1' k2' fW fW' m0 m1 mw mf1 mf2 hb lW lb g1 g2 g3
  generalize w5.setCell ⟨w2.heap.size, 3, none⟩ (.pointer (some ⟨mb, 0, none⟩)) = w6 at *
  obtain ⟨W, hWe⟩ : ∃ W, W = w2.heap.size := ⟨_, rfl⟩
  rw [← hWe] at hFW ⊢
  clear hWe hne
  have hH0 : ∃ F ow vr, Half F w1 P M G ow w6 0 0 vr (idl1 0) 0 (.slice none 0 0) ∧ F.W = W := ⟨F, ow5, _, hH, hFW⟩
  have HH0 := Lib.hid hH0
  obtain ⟨k0, k1, k2⟩ := hH2
  have HBX := Lib.hid hbx
  clear hH hFW hH0 hbx
  go_wp2
  clear k0 k1 k2
  obtain ⟨i0, hi0, hz0, hz1, hz2⟩ := info_parts Tryz.infoPR
  go_loopw [5, 69] (fun _ i wr => ∃ k : Nat, k ≤ P ∧ i = .int .i64 k ∧ ∃ F ow vr, Half F w1 P M G ow wr k k vr (idl1 k) 0 (.slice none 0 0) ∧ F.W = W) (fun _ i _ => P - (intOf i).toNat)
  case atStart => exact ⟨0, Nat.zero_le _, rfl, HH0.out⟩
  case round =>
    obtain ⟨k, hk, rfl, F, ow, vr, hH, hFW⟩ := hrel
    subst hFW
    by_cases hlt : k < P
    · have c8 : wr.cell? ⟨F.W, 8, none⟩ = some vr := hH.cw.1 8 (by decide)
      have lW := hH.lt.1
      have HH := Lib.hid hH
      clear hH
      rcases Nat.eq_zero_or_pos k with hkp | hkp
      · subst hkp
        go_wp2
        go_region_law (first
          | (go_simp; go_at_call 105; refine (rnew_any _).mono ?_; rintro e w5 ⟨b, rfl, hge, hr, hb⟩; have hH5 := HH.out.drew.ringNew (Nat.le_refl _) hge hr hb; have c8' : w5.cell? ⟨F.W, 8, none⟩ = some vr := hH5.cw.1 8 (by decide); have lW5 : F.W < w5.heap.size := hH5.lt.1; have hH6 := (hH5.more (below_alloc w5 (.cells #[.pointer (some ⟨b, 0, none⟩)] 183)) 0); have HH6 := Lib.hid hH6; clear hH5 hH6 hr)
          | (refine step_append_lies _ (by rfl) _ _ _ (by rfl) 0 183 i0 _ 1 8 Tryz.underlying145 hi0 hz0 hz1 hz2 rfl (by omega) _ 0 _ (by rfl) HH6.out.row.1 ⟨w5.heap.size, 0, none⟩ 1 1 [.pointer (some ⟨b, 0, none⟩)] (by rfl) (by rfl) (World.news_of_block (cs := #[.pointer (some ⟨b, 0, none⟩)]) (t := 183) (fr := (0, 0)) (heap_alloc_new w5 _)) (by simp [Value.oneCell']) (by omega) (by unfold maxLen; omega) (by omega) (by simp) (w5.heap.size + 1) (by simp) ?_; intro gg cap w7 hown7 hgrow hat hlt4; have k8 := hgrow.cell (HH6.out.cw.1 8 (by decide)) (fun e => half_row HH6.out _ e.symm rfl); have kf := fun o => (hgrow.frozen_far ⟨F.W, o, none⟩ (by simp; omega) (fun e => half_row HH6.out _ e.symm rfl)).trans (HH6.out.cw.2 o)))
        all_goals (
          have hap := HH6.out.appRow (vr' := .slice (some ⟨gg, 0, none⟩) (0 + 1) cap) hgrow (by rw [ptrs_succ]; simp only [if_true, ptr]; exact hown7) (by rcases hat with e | e; exact .inl e.symm; exact .inr (by rw [e]; simp [Value.ownBlock]))
          have HAP := Lib.hid hap
          clear hap HH6 hgrow hown7
          go_wp2
          go_roundw
          case rel => exact ⟨1, by omega, rfl, _, _, _, HAP.out, rfl⟩
          case measure => simp [intOf]; omega)
      · go_wp2
        go_region_law (first
          | (go_simp; go_at_call 105; refine (rnew_any _).mono ?_; rintro e w5 ⟨b, rfl, hge, hr, hb⟩; have hH5 := HH.out.drew.ringNew (Nat.le_refl _) hge hr hb; have c8' : w5.cell? ⟨F.W, 8, none⟩ = some vr := hH5.cw.1 8 (by decide); have lW5 : F.W < w5.heap.size := hH5.lt.1; have hH6 := (hH5.more (below_alloc w5 (.cells #[.pointer (some ⟨b, 0, none⟩)] 183)) 0); have HH6 := Lib.hid hH6; clear hH5 hH6 hr)
          | (refine step_append_lies _ (by rfl) _ _ _ (by rfl) 0 183 i0 _ 1 8 Tryz.underlying145 hi0 hz0 hz1 hz2 rfl (by omega) _ k _ (by rfl) HH6.out.row.1 ⟨w5.heap.size, 0, none⟩ 1 1 [.pointer (some ⟨b, 0, none⟩)] (by rfl) (by rfl) (World.news_of_block (cs := #[.pointer (some ⟨b, 0, none⟩)]) (t := 183) (fr := (0, 0)) (heap_alloc_new w5 _)) (by simp [Value.oneCell']) (by omega) (by unfold maxLen; omega) (by omega) (by simp) (w5.heap.size + 1) (by simp) ?_; intro gg cap w7 hown7 hgrow hat hlt4; have k8 := hgrow.cell (HH6.out.cw.1 8 (by decide)) (fun e => half_row HH6.out _ e.symm rfl); have kf := fun o => (hgrow.frozen_far ⟨F.W, o, none⟩ (by simp; omega) (fun e => half_row HH6.out _ e.symm rfl)).trans (HH6.out.cw.2 o)))
        all_goals (
          have hap := HH6.out.appRow (vr' := .slice (some ⟨gg, 0, none⟩) (k + 1) cap) hgrow (by rw [ptrs_succ]; simp only [if_true, ptr]; exact hown7) (by rcases hat with e | e; exact .inl e.symm; exact .inr (by rw [e]; simp [Value.ownBlock]))
          have HAP := Lib.hid hap
          clear hap HH6 hgrow hown7
          have c12 : (w7.setCell ⟨F.W, 8, none⟩ (.slice (some ⟨gg, 0, none⟩) (k + 1) cap)).cell? ⟨F.W, 12, none⟩ = some (ptr F.idle) := HAP.out.cw.1 12 (by decide)
          simp only [ptr] at c12
          go_wp2_with fail
          obtain ⟨mk, mw, hidle⟩ := HAP.out.idle8
          refine (putp_new _ F.idle mk mw P M k (idl1 k) _ hidle rfl hlt (idl1_step k hkp).1).mono ?_
          rintro e w8 ⟨rfl, hi8, hm8⟩
          rw [(idl1_step k hkp).2] at hi8
          have h8 := HAP.out.idleMod ⟨mk, mw, (IdleH_mono hi8 (fun _ e => .inl e))⟩ hm8
          have H8 := Lib.hid h8
          clear h8 hi8 hm8
          go_wp2
          go_roundw
          case rel => exact ⟨k + 1, by omega, by go_num, _, _, _, H8.out, rfl⟩
          case measure => simp [intOf]; omega)
    · obtain rfl : k = P := by omega
      obtain ⟨k0, k1, k2⟩ := newS_frame HBX.out hbw hH.frame
      rw [idl12 k (by omega)] at hH
      obtain ⟨W, hWe⟩ : ∃ W, W = F.W := ⟨_, rfl⟩
      rw [← hWe]
      have hH0 : ∃ F ow vr va, Half F w1 k M G ow wr k k vr (idl2 k 0) 0 va ∧ F.W = W := ⟨F, ow, _, _, hH, hWe.symm⟩
      have HH0 := Lib.hid hH0
      clear hH hH0 hWe hlt
      generalize hPk : k = P at *
      have HPk := Lib.hid hPk
      clear hPk
      go_wp2
      clear k0 k1 k2
      obtain ⟨i1, hi1, hy0, hy1, hy2⟩ := info_parts Tryz.infoMach
      go_loopw [6, 93] (fun _ i wr => ∃ k : Nat, k ≤ M ∧ i = .int .i64 k ∧ ∃ F ow vr va, Half F w1 P M G ow wr P P vr (idl2 P k) k va ∧ F.W = W) (fun _ i _ => M - (intOf i).toNat)
      case atStart => exact ⟨0, Nat.zero_le _, rfl, HH0.out⟩
      case round =>
        obtain ⟨k, hk, rfl, F, ow, vr, va, hH, hFW⟩ := hrel
        subst hFW
        by_cases hlt : k < M
        · have c13 : wr.cell? ⟨F.W, 13, none⟩ = some va := hH.cw.1 13 (by decide)
          have lW := hH.lt.1
          have HH := Lib.hid hH
          clear hH
          rcases Nat.eq_zero_or_pos k with hkp | hkp
          · subst hkp
            go_wp2
            go_region_law (first
              | (go_simp; go_at_call 107; refine (fresh_any _).mono ?_; rintro e w5 ⟨rfl, hb⟩; have hH5 := HH.out.drew.more hb 0; have c13' : w5.cell? ⟨F.W, 13, none⟩ = some va := hH5.cw.1 13 (by decide); have lW5 : F.W < w5.heap.size := hH5.lt.1; have hH6 := (hH5.more (below_alloc w5 (.cells #[.int .i64 16, .int .i64 (-1), .int .i64 (-1), .int .i64 (-1), .int .i64 (-1), .int .i64 (-1), .int .i64 0, .bool false, .bool false, .slice none 0 0, .int .i64 0, .int .i64 0, .int .i64 0, .int .i64 0, .int .i64 0, .int .i64 0, .int .u64 0, .int .i64 0] 107)) 0); have HH6 := Lib.hid hH6; clear hH5 hH6)
              | (refine step_append_lies _ (by rfl) _ _ _ (by rfl) 0 107 i1 _ 18 152 Tryz.underlying148 hi1 hy0 hy1 hy2 rfl (by omega) _ 0 _ (by rfl) HH6.out.all.1 ⟨w5.heap.size, 0, none⟩ 1 1 freshC (by rfl) (by rfl) (World.news_of_block (cs := #[.int .i64 16, .int .i64 (-1), .int .i64 (-1), .int .i64 (-1), .int .i64 (-1), .int .i64 (-1), .int .i64 0, .bool false, .bool false, .slice none 0 0, .int .i64 0, .int .i64 0, .int .i64 0, .int .i64 0, .int .i64 0, .int .i64 0, .int .u64 0, .int .i64 0]) (t := 107) (fr := (0, 0)) (heap_alloc_new w5 _)) (by simp [freshC, encM, Value.oneCell']) (by omega) (by unfold maxLen; omega) (by omega) (by simp) (w5.heap.size + 1) (by simp) ?_; intro gg cap w7 hown7 hgrow hat hlt4; have k13 := hgrow.cell (HH6.out.cw.1 13 (by decide)) (fun e => half_all HH6.out _ e.symm rfl); have kf := fun o => (hgrow.frozen_far ⟨F.W, o, none⟩ (by simp; omega) (fun e => half_all HH6.out _ e.symm rfl)).trans (HH6.out.cw.2 o)))
            all_goals (
              have hap := HH6.out.appAll (va' := .slice (some ⟨gg, 0, none⟩) (0 + 1) cap) hgrow (by rw [rep_succ]; exact hown7) (by rcases hat with e | e; exact .inl e.symm; exact .inr (by rw [e]; simp [Value.ownBlock]))
              have HAP := Lib.hid hap
              clear hap HH6 hgrow hown7
              go_wp2
              go_roundw
              case rel => exact ⟨1, by omega, rfl, _, _, _, _, (by rw [← idl2_01]; exact HAP.out), rfl⟩
              case measure => simp [intOf]; omega)
          · go_wp2
            go_region_law (first
              | (go_simp; go_at_call 107; refine (fresh_any _).mono ?_; rintro e w5 ⟨rfl, hb⟩; have hH5 := HH.out.drew.more hb 0; have c13' : w5.cell? ⟨F.W, 13, none⟩ = some va := hH5.cw.1 13 (by decide); have lW5 : F.W < w5.heap.size := hH5.lt.1; have hH6 := (hH5.more (below_alloc w5 (.cells #[.int .i64 16, .int .i64 (-1), .int .i64 (-1), .int .i64 (-1), .int .i64 (-1), .int .i64 (-1), .int .i64 0, .bool false, .bool false, .slice none 0 0, .int .i64 0, .int .i64 0, .int .i64 0, .int .i64 0, .int .i64 0, .int .i64 0, .int .u64 0, .int .i64 0] 107)) 0); have HH6 := Lib.hid hH6; clear hH5 hH6)
              | (refine step_append_lies _ (by rfl) _ _ _ (by rfl) 0 107 i1 _ 18 152 Tryz.underlying148 hi1 hy0 hy1 hy2 rfl (by omega) _ k _ (by rfl) HH6.out.all.1 ⟨w5.heap.size, 0, none⟩ 1 1 freshC (by rfl) (by rfl) (World.news_of_block (cs := #[.int .i64 16, .int .i64 (-1), .int .i64 (-1), .int .i64 (-1), .int .i64 (-1), .int .i64 (-1), .int .i64 0, .bool false, .bool false, .slice none 0 0, .int .i64 0, .int .i64 0, .int .i64 0, .int .i64 0, .int .i64 0, .int .i64 0, .int .u64 0, .int .i64 0]) (t := 107) (fr := (0, 0)) (heap_alloc_new w5 _)) (by simp [freshC, encM, Value.oneCell']) (by omega) (by unfold maxLen; omega) (by omega) (by simp) (w5.heap.size + 1) (by simp) ?_; intro gg cap w7 hown7 hgrow hat hlt4; have k13 := hgrow.cell (HH6.out.cw.1 13 (by decide)) (fun e => half_all HH6.out _ e.symm rfl); have kf := fun o => (hgrow.frozen_far ⟨F.W, o, none⟩ (by simp; omega) (fun e => half_all HH6.out _ e.symm rfl)).trans (HH6.out.cw.2 o)))
            all_goals (
              have hap := HH6.out.appAll (va' := .slice (some ⟨gg, 0, none⟩) (k + 1) cap) hgrow (by rw [rep_succ]; exact hown7) (by rcases hat with e | e; exact .inl e.symm; exact .inr (by rw [e]; simp [Value.ownBlock]))
              have HAP := Lib.hid hap
              clear hap HH6 hgrow hown7
              have c12 : (w7.setCell ⟨F.W, 13, none⟩ (.slice (some ⟨gg, 0, none⟩) (k + 1) cap)).cell? ⟨F.W, 12, none⟩ = some (ptr F.idle) := HAP.out.cw.1 12 (by decide)
              simp only [ptr] at c12
              go_wp2_with fail
              obtain ⟨mk, mw, hidle⟩ := HAP.out.idle8
              obtain ⟨s1, s2, s3⟩ := idl2_step P k hkp
              refine (stop_new _ F.idle mk mw P M k (idl2 P k) _ hidle hlt s1 s2 (by unfold idl2; simp; omega) (by omega)).mono ?_
              rintro e w8 ⟨⟨v8, rfl⟩, hi8, hm8⟩
              rw [s3] at hi8
              have h8 := HAP.out.idleMod ⟨mk, mw, hi8⟩ hm8
              have H8 := Lib.hid h8
              clear h8 hi8 hm8
              go_wp2
              go_roundw
              case rel => exact ⟨k + 1, by omega, by go_num, _, _, _, _, H8.out, rfl⟩
              case measure => simp [intOf]; omega)
        · obtain rfl : k = M := by omega
          obtain ⟨F', V, hA, hFW⟩ := half_world hH HD.out
          rw [← hFW]
          have hEnv : Env N ow wr := ⟨(HTab.out.of_below HB1.out HTab.out.le).of_below hH.frame (Nat.le_trans HTab.out.le HB1.out.size), fun b hb => hH.low b (Nat.lt_of_lt_of_le hb (Nat.le_trans HTab.out.le HB1.out.size))⟩
          have hlow : ∀ b, b < w.heap.size → ow b = 0 := fun b hb => hH.low b (Nat.lt_of_lt_of_le hb HB1.out.size)
          have hfr : Below w.heap.size w wr := HB1.out.trans (hH.frame.mono HB1.out.size)
          have c13 := hA.cW_all
          have a0 : wr.cell? ⟨F'.all, 0, none⟩ = some (.int .i64 (((halfW P k G).mach 0).place : Nat)) := hA.cA_place (i := 0) (by show 0 < k; omega)
          have a1 : wr.cell? ⟨F'.all, 1, none⟩ = some (.int .i64 ((halfW P k G).mach 0).p) := hA.cA_p (i := 0) (by show 0 < k; omega)
          have fA := hA.call.2
          have hc2 := hA.own_cap.2
          have HA := Lib.hid hA
          have HE := Lib.hid hEnv
          have HL := Lib.hid hlow
          have HFR := Lib.hid hfr
          clear hA hEnv hlow hfr hH hFW
          have hkk : (halfW P k G).M = k := rfl
          rw [hkk] at c13 hc2
          clear hkk
          have h0k : 0 < k := by omega
          go_wp2
          go_region
          go_wp2
          refine on_gen (fun w2 => On F' V ow wr ow w2 ((halfW P k G).setM 0 { Mach.fresh with place := 1, p := 0 }))
            (by
              have h1 := (((OnM.start HA.out h0k).s_place 1).s_p 0).drew
              have e0 : (halfW P k G).mach 0 = Mach.fresh := getD_rep _ _ _ _ h0k
              rw [e0] at h1; exact h1.on) ?_
          clear c13 a0 a1 fA hc2
          intro w2 h2
          have hmv := move_on h2.drew.at_ (HE.out.on h2.drew) 0 0 1 (by decide) (by decide) (by decide)
          have c3 := h2.at_.cW_mem
          have c6 := h2.at_.cW_from
          have c7 := h2.at_.cW_n
          have hPe : ((halfW P k G).setM 0 { Mach.fresh with place := 1, p := 0 }).P = P := rfl
          have hMe : ((halfW P k G).setM 0 { Mach.fresh with place := 1, p := 0 }).M = k := rfl
          have hGe : ((halfW P k G).setM 0 { Mach.fresh with place := 1, p := 0 }).G = G := rfl
          simp only [hPe, hMe, hGe] at c6 c7 hmv
          have hne := new_eq P k G HD.out
          obtain ⟨ws, cnt, hsh⟩ := move_shape ((halfW P k G).setM 0 { Mach.fresh with place := 1, p := 0 }) 0 0 1
          unfold newW at hne
          rw [hsh] at hne hmv
          have HNE := Lib.hid hne
          clear hne hsh
          obtain ⟨fr, hfr⟩ : ∃ fr : Int, fr = ((2 * (P + 2) + 1 + k : Nat) : Int) := ⟨_, rfl⟩
          rw [← hfr] at c6 hmv
          have HM := Lib.hid hmv
          have H2 := Lib.hid h2
          clear hmv h2 hfr hPe hMe hGe
          go_still_tail 8, (by kernel_rfl)
          change wpList _ _ _ _ _ w2.drew
          go_wp2_with fail
          refine HM.out.mono ?_
          rintro e w3 ⟨rfl, ow3, h3⟩
          have h4 := H2.out.drew.then_ h3
          have hlg := logadd_on h4.at_ (HE.out.on h4) ⟨0, 0, -1, -1, 0⟩ (by decide) (Nat.zero_lt_of_lt (by decide : 0 < 4294967296))
          simp only [evV] at hlg
          have HL3 := Lib.hid hlg
          have H4 := Lib.hid h4
          clear hlg h3 h4 c3 c6 c7 HM
          go_wp2_with fail
          refine HL3.out.mono ?_
          rintro e w4 ⟨rfl, V4, ow4, _, h5⟩
          have h6 := H4.out.then_ h5
          have c10 := h6.at_.cW_glob
          have h7 := h6.alloc (.cells #[.int .i64 0] 3)
          have hv : (w4.alloc (.cells #[.int .i64 0] 3)).ownsRow 0 3 1 (.slice (some ⟨w4.heap.size, 0, none⟩) 1 1) [(0 : Int)].length (ints [0]) := by
            refine ⟨by simp [ints], .inr ⟨w4.heap.size, 1, #[.int .i64 0], rfl, Nat.zero_le _, ?_, by simp, by decide, by simp, by simp [ints]⟩⟩
            show (w4.heap.push _)[w4.heap.size]? = _
            simp
          have hpt := gput_any _ F'.glob P 0 [] [0] (.slice (some ⟨w4.heap.size, 0, none⟩) 1 1) (w4.alloc (.cells #[.int .i64 0] 3)) (by have := h7.at_.glob6; exact this) hv (by decide)
          have HP := Lib.hid hpt
          have H7 := Lib.hid h7
          clear hpt h7 h6 h5 HL3
          go_wp2_with fail
          refine HP.out.mono ?_
          rintro e w5 ⟨rfl, hg, hm⟩
          have h8 := H7.out.globMod 6 (hg.mono fun x hx e => by
            rcases e with e | e
            · rw [grow_lt e.2]; exact e.1
            · rw [grow_ge e]) hm
          obtain ⟨ow8, h8⟩ : ∃ ow8, On F' V4 ow wr ow8 w5 _ := ⟨_, h8⟩
          have H8 := Lib.hid h8
          clear h8 hg hm HP
          go_wp2
          go_returns
          refine ⟨F', V4, ow8, rfl, ?_, fun b hb => ?_, HFR.out.trans (H8.out.st.below (HFR.out.size) HL.out)⟩
          · rw [HPk.out, ← HNE.out]; exact H8.out.at_
          · rw [H8.out.st.own b (Nat.lt_of_lt_of_le hb HFR.out.size)]; exact HL.out b hb
end Go.Proofs.YtfjepdcnikgjeaaGreatDoor
