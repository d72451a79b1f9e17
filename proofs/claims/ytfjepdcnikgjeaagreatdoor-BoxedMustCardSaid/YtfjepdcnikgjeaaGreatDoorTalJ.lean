/-
  TallyJoins, walked.
-/
import Derived.Test.YtfjepdcnikgjeaaGreatDoorTalO
set_option linter.unusedVariables false
set_option linter.unusedSimpArgs false
set_option linter.unusedSectionVars false
namespace Go.Proofs.YtfjepdcnikgjeaaGreatDoor
open Go Go.RowKit Hst Go.Proofs
open Go.Maps (Keyed)

theorem wpl_gen {P : Program} {ops : Array Oper} {Q : Exit → Act → World → Prop} {rest : List Oper} {a : Act} {w : World} (R : World → Prop) (h : R w) (k : ∀ w2, R w2 → wpList P ops Q rest a w2) : wpList P ops Q rest a w := k w h
theorem setRow_new {w : World} {o : Array Value} {t : TypeId} (cs : Array Value) : ((w.alloc (.cells o t)).setRow w.heap.size cs).heap[w.heap.size]? = some (.cells cs t (0, 0)) ∧ Below w.heap.size w ((w.alloc (.cells o t)).setRow w.heap.size cs) := by
  refine ⟨setRow_heap _ _ _ _ _ _ (heap_alloc_new w _), ⟨rfl, rfl, rfl, by simp, fun b hb => ?_⟩⟩
  rw [setRow_other _ _ _ _ (by omega)]
  exact Below.heap_alloc _ _ _ hb

set_option maxHeartbeats 6400000 in
set_option maxRecDepth 100000 in
theorem joins27_any (pa pm : Option Addr) (ca cm : Nat) (l m : List Hst.Ev) (g : Int) (N : Nat) (w : World) (hA : EvArg w (.slice pa l.length ca) l) (hM : EvArg w (.slice pm m.length cm) m) (hvl : inI64 l) (hvm : inI64 m) (hg : i64I g) (T : Tabs N w) :
    Calls Tryz.prog 8 #[.slice pa l.length ca, .slice pm m.length cm, .int .i64 g] w fun r w' => r = .returned (.bool true) ∧ Below w.heap.size w w' := by
  have hl := fun w1 (hb : Below w.heap.size w w1) => lives27_any N w1 (T.of_below hb T.le)
  have HLV := Lib.hid hl
  clear hl T
  by_cases hs : 40 < l.length ∨ 40 < m.length
  · have hsI : (40 : Int) < l.length ∨ ((l.length : Int) ≤ 40 ∧ (40 : Int) < m.length) := by omega
    clear hs
    rcases hsI with hs | ⟨hs0, hs⟩
    all_goals
      go_enter Tryz.func8, Tryz.ntmps8
      go_wp2_with fail
      refine (HLV.out _ (Below.refl _ _)).mono ?_
      rintro e w1 ⟨rfl, K⟩
      go_wp2_with fail
      refine (HLV.out _ K).mono ?_
      rintro e w2 ⟨rfl, hb2⟩
      have K := K.trans (hb2.mono K.size)
      clear hb2 hA hM
      go_wp2
      go_returns
      exact ⟨rfl, K⟩
  · have hl : (l.length : Int) ≤ 40 := by omega
    have hm : (m.length : Int) ≤ 40 := by omega
    clear hs
    have HA := Lib.hid hA
    have HM := Lib.hid hM
    have V1 := Lib.hid hvl
    have V2 := Lib.hid hvm
    have V3 := Lib.hid (show inI64 (l ++ m) from fun e he => by rcases List.mem_append.1 he with h | h; exact hvl e h; exact hvm e h)
    clear hA hM hvl hvm
    obtain ⟨x, hx⟩ : ∃ x, x = seenG l g := ⟨_, rfl⟩
    obtain ⟨y, hy⟩ : ∃ y, y = seenG m g := ⟨_, rfl⟩
    have t1 := fun w v (h : EvArg w v l) => tof_any g hg h (by omega) V1.out
    have t2 := fun w v (h : EvArg w v m) => tof_any g hg h (by omega) V2.out
    have t3 := fun w v (h : EvArg w v (l ++ m)) => tof_any g hg h (by simp; omega) V3.out
    have hxy : seenG (l ++ m) g = (x || y) := by rw [seenG_append, hx, hy]
    simp only [← hx] at t1
    simp only [← hy] at t2
    simp only [hxy] at t3
    have T1 := Lib.hid t1
    have T2 := Lib.hid t2
    have T3 := Lib.hid t3
    clear t1 t2 t3 hx hy hxy
    have hyy : (y != y) = false := by cases y <;> rfl
    have hty : (true || y) = true := rfl
    have hfy : (false || y) = y := by cases y <;> rfl
    go_enter Tryz.func8, Tryz.ntmps8
    go_wp2_with fail
    refine (HLV.out _ (Below.refl _ _)).mono ?_
    rintro e w1 ⟨rfl, K⟩
    have K0 := Lib.hid K
    clear K HLV
    go_wp2_with (first
      | (at_builtin; refine append_ev rfl _ _ rfl w.heap.size _ [] rfl (own_empty K0.out) _ rfl l (HA.out.below (K0.out.alloc K0.out.size _)) (by simp; omega) (by have := K0.out.size; simp; omega) ?_; intro v1 w2 hown1 hb1; have K1 := Lib.hid ((K0.out.alloc K0.out.size _).trans hb1); clear hb1)
      | (at_builtin; refine append_ev rfl _ _ rfl w.heap.size _ _ rfl hown1 _ rfl m (HM.out.below K1.out) (by simp; omega) K1.out.size ?_; intro v2 w3 hown2 hb2; have K2 := Lib.hid (K1.out.trans hb2); clear hb2))
    have hB3 : EvArg w3 v2 (l ++ m) := by have := own_arg hown2; simpa using this
    have HB3 := Lib.hid hB3
    have hml : (l ++ m).length ≤ 100000 := by simp; omega
    have HML := Lib.hid hml
    clear hB3 hown1 hown2 hml
    refine (T1.out _ _ (HA.out.below K2.out)).mono ?_
    rintro e w4 ⟨rfl, hb⟩
    have B4 := Lib.hid hb
    clear hb
    go_wp2_with (refine wpList_store_row rfl 70 _ _ rfl _ _ rfl rfl 70 _ (heap_alloc_new w4 _) (by kernel_rfl) rfl (by simp [ofC, Value.oneCell']) ?_; refine wpl_gen (fun wb => wb.heap[w4.heap.size]? = some (.cells (ofC l g) 70 (0, 0)) ∧ Below w4.heap.size w4 wb) (setRow_new _) ?_; rintro w5 ⟨hw5, bw5⟩)
    have lt5 := box_lt hw5
    have B5 := Lib.hid (B4.out.trans (bw5.mono B4.out.size))
    clear bw5
    refine (T2.out _ _ (HM.out.below (K2.out.trans (B5.out.mono K2.out.size)))).mono ?_
    rintro e w6 ⟨rfl, hb⟩
    have B6 := Lib.hid (B5.out.trans (hb.mono B5.out.size))
    have hw6 := (hb.block _ lt5).trans hw5
    clear hb hw5
    have hz6 : w4.heap.size < w6.heap.size := box_lt hw6
    go_wp2_with (refine wpList_store_row rfl 70 _ _ rfl _ _ rfl rfl 70 _ (heap_alloc_new w6 _) (by kernel_rfl) rfl (by simp [ofC, Value.oneCell']) ?_; refine wpl_gen (fun wb => wb.heap[w6.heap.size]? = some (.cells (ofC m g) 70 (0, 0)) ∧ Below w6.heap.size w6 wb) (setRow_new _) ?_; rintro w7 ⟨hw7, bw7⟩)
    have lt7 := box_lt hw7
    have B7 := Lib.hid (B6.out.trans (bw7.mono B6.out.size))
    have hv7 := (bw7.block _ hz6).trans hw6
    clear bw7 hw6
    refine (T3.out _ _ (HB3.out.below B7.out)).mono ?_
    rintro e w8 ⟨rfl, hb⟩
    have B8 := Lib.hid (B7.out.trans (hb.mono B7.out.size))
    have hw8 := (hb.block _ lt7).trans hw7
    have hv8 := (hb.block _ (box_lt hv7)).trans hv7
    clear hb hw7 hv7
    have hz8 : w6.heap.size < w8.heap.size := box_lt hw8
    have hy8 : w4.heap.size < w8.heap.size := box_lt hv8
    have o1 := fun w v (h : EvArg w v l) => torder_any h (by omega)
    have o2 := fun w v (h : EvArg w v m) => torder_any h (by omega)
    have o3 := fun w v (h : EvArg w v (l ++ m)) => torder_any h (by simp; omega)
    obtain ⟨r, hr⟩ : ∃ r, r = (orderG (l ++ m)).length := ⟨_, rfl⟩
    have hr2 : (r : Int) = ((orderG l).length : Nat) + ((orderG m).length : Nat) := by rw [hr, orderG_append, List.length_append]; push_cast; rfl
    have ol := orderG_le l
    have om := orderG_le m
    simp only [← hr] at o3
    obtain ⟨p, hp⟩ : ∃ p, p = (orderG l).length := ⟨_, rfl⟩
    obtain ⟨q, hq⟩ : ∃ q, q = (orderG m).length := ⟨_, rfl⟩
    simp only [← hp] at o1 ol hr2
    simp only [← hq] at o2 om hr2
    have hreq : ((r : Int) == (p : Int) + (q : Int)) = true := by rw [hr2]; simp
    have hwpq : IntKind.i64.wrap ((p : Int) + (q : Int)) = (p : Int) + (q : Int) := IntWalk.i64_in _ (by omega)
    have l1 := fun w v (h : EvArg w v l) => longest_any g h (by omega)
    have l2 := fun w v (h : EvArg w v m) => longest_any g h (by omega)
    have l3 := fun w v (h : EvArg w v (l ++ m)) => longest_any g h (by simp; omega)
    have hmx := lg_both l m g
    generalize (lg l g).best = x1 at *
    generalize (lg m g).best = x2 at *
    generalize (lg (l ++ m) g).best = x3 at *
    have O1 := Lib.hid o1
    have O2 := Lib.hid o2
    have O3 := Lib.hid o3
    have L1 := Lib.hid l1
    have L2 := Lib.hid l2
    have L3 := Lib.hid l3
    clear o1 o2 o3 l1 l2 l3 hr hr2 hp hq
    have KW := Lib.hid (K2.out.trans (B8.out.mono K2.out.size))
    have hc := fun (k : Nat) (hk : k < 8) => ofC_at l g k hk
    have hd := fun (k : Nat) (hk : k < 8) => ofC_at m g k hk
    have he := fun (k : Nat) (hk : k < 8) => ofC_at (l ++ m) g k hk
    have hsum : ∀ k : Nat, ((cntK (l ++ m) g k : Nat) : Int) = (cntK l g k : Nat) + (cntK m g k : Nat) := fun k => by rw [cntK_append]; push_cast; rfl
    have hle : ∀ k : Nat, ((cntK l g k : Nat) : Int) ≤ 40 ∧ ((cntK m g k : Nat) : Int) ≤ 40 := fun k => by have := cntK_le l g k; have := cntK_le m g k; omega
    have HC := Lib.hid hc
    have HD := Lib.hid hd
    have HE := Lib.hid he
    have HSUM := Lib.hid hsum
    have HLE := Lib.hid hle
    clear hc hd he hsum hle
    cases x
    all_goals
      go_wp2_with (first | (refine wpList_store_row rfl 70 _ _ rfl _ _ rfl rfl 70 _ (heap_alloc_new w8 _) (by kernel_rfl) rfl (by simp [ofC, Value.oneCell']) ?_; refine wpl_gen (fun wb => wb.heap[w8.heap.size]? = some (.cells (ofC (l ++ m) g) 70 (0, 0)) ∧ Below w8.heap.size w8 wb) (setRow_new _) ?_; rintro w9 ⟨hw9, bw9⟩))
      have B9 := Lib.hid (KW.out.trans (bw9.mono KW.out.size))
      have g8 := (bw9.block _ hz8).trans hw8
      have f8 := (bw9.block _ hy8).trans hv8
      have hz9 := box_lt hw9
      have G8 := Lib.hid g8
      have F8 := Lib.hid f8
      have G9 := Lib.hid hw9
      have bw9x := Lib.hid bw9
      clear bw9 hw8 hv8 g8 f8 hw9
      go_loopw [57] (fun iv wr => ∃ k : Nat, iv = .int .i64 (k : Int) ∧ k ≤ 8 ∧ Below w9.heap.size w9 wr) (fun iv _ => 8 - (intOf iv).toNat)
      case atStart => exact ⟨0, rfl, by omega, Below.refl _ _⟩
      case round =>
        obtain ⟨k, rfl, hk, hb⟩ := hrel
        by_cases hk8 : k < 8
        · have x1 := (box_cell ((hb.block _ (by omega)).trans F8.out) (1 + k)).trans (HC.out k hk8)
          have x2 := (box_cell ((hb.block _ (by omega)).trans G8.out) (1 + k)).trans (HD.out k hk8)
          have x3 := (box_cell ((hb.block _ hz9).trans G9.out) (1 + k)).trans (HE.out k hk8)
          rw [HSUM.out] at x3
          obtain ⟨p, hp⟩ : ∃ p : Int, p = (cntK l g k : Nat) := ⟨_, rfl⟩
          obtain ⟨q, hq⟩ : ∃ q : Int, q = (cntK m g k : Nat) := ⟨_, rfl⟩
          have hle := HLE.out k
          rw [← hp, ← hq] at hle
          rw [← hp] at x1
          rw [← hq] at x2
          rw [← hp, ← hq] at x3
          have hp0 : 0 ≤ p := by omega
          have hq0 : 0 ≤ q := by omega
          have hw1 : IntKind.i64.wrap (p + q) = p + q := IntWalk.i64_in _ (by omega)
          have hkb : (0 : Int) ≤ (k : Int) ∧ (k : Int) < 8 := by omega
          have hk1 : (k : Int) < 8 := by omega
          have HBB := Lib.hid hb
          clear hp hq hb
          go_wp2
          go_quiet (fail)
          go_wp2
          go_roundw
          case rel => exact ⟨k + 1, by go_num, hk8, below_drewN HBB.out _⟩
          case measure => simp [intOf]; omega
        · have hk1 : ¬ (k : Int) < 8 := by omega
          have KX := Lib.hid (B9.out.trans (hb.mono B9.out.size))
          have hbx := Lib.hid hb
          clear hb
          have KY := Lib.hid (show Below w3.heap.size w3 wr from B8.out.trans ((bw9x.out.trans (hbx.out.mono bw9x.out.size)).mono B8.out.size))
          go_wp2_with fail
          refine (O3.out _ _ (HB3.out.below KY.out)).mono ?_
          rintro e wa ⟨va, rfl, hra, hba⟩
          obtain ⟨aa, ca', rfl⟩ := ownsRow_slice hra
          have KA := Lib.hid (KX.out.trans (hba.mono KX.out.size))
          have KAY := Lib.hid (KY.out.trans (hba.mono KY.out.size))
          clear hra hba
          go_wp2_with fail
          refine (O1.out _ _ (HA.out.below KA.out)).mono ?_
          rintro e wb ⟨vb, rfl, hrb, hbb⟩
          obtain ⟨ab, cb', rfl⟩ := ownsRow_slice hrb
          have KB := Lib.hid (KA.out.trans (hbb.mono KA.out.size))
          have KBY := Lib.hid (KAY.out.trans (hbb.mono KAY.out.size))
          clear hrb hbb
          go_wp2_with fail
          refine (O2.out _ _ (HM.out.below KB.out)).mono ?_
          rintro e wc ⟨vc, rfl, hrc, hbc⟩
          obtain ⟨ac, cc', rfl⟩ := ownsRow_slice hrc
          have KC := Lib.hid (KB.out.trans (hbc.mono KB.out.size))
          have KCY := Lib.hid (KBY.out.trans (hbc.mono KBY.out.size))
          clear hrc hbc
          go_wp2_with fail
          refine (L3.out _ _ (HB3.out.below KCY.out)).mono ?_
          rintro e wd ⟨rfl, hbd⟩
          have KD := Lib.hid (KC.out.trans (hbd.mono KC.out.size))
          clear hbd
          go_wp2_with fail
          refine (L1.out _ _ (HA.out.below KD.out)).mono ?_
          rintro e we ⟨rfl, hbe⟩
          have KE := Lib.hid (KD.out.trans (hbe.mono KD.out.size))
          clear hbe
          go_wp2_with fail
          refine (L2.out _ _ (HM.out.below KE.out)).mono ?_
          rintro e wf ⟨rfl, hbf⟩
          have KF := Lib.hid (KE.out.trans (hbf.mono KE.out.size))
          clear hbf
          have hmd : decide (max x1 x2 ≤ x3) = true := by simpa using hmx
          go_wp2
          go_returns
          exact ⟨by simp_all, KF.out⟩
end Go.Proofs.YtfjepdcnikgjeaaGreatDoor
