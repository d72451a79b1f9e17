/-
  BoxedSteps, walked.
-/
import Derived.Test.YtfjepdcnikgjeaaGreatDoorBoxK
import Derived.Test.YtfjepdcnikgjeaaGreatDoorBoxL
import Derived.Test.YtfjepdcnikgjeaaGreatDoorBoxN
set_option linter.unusedVariables false
set_option linter.unusedSimpArgs false
set_option linter.unusedSectionVars false
namespace Go.Proofs.YtfjepdcnikgjeaaGreatDoor
open Go Go.RowKit Hst Go.Proofs

theorem neq_rs (s : Hst.Stp) (w : World) : (binOp .neq 48 (.agg #[.int .u8 (s.kind : Nat), .int .u8 (s.act : Nat), .int .i64 s.a, .int .i64 s.x, .int .i64 s.d]) (.agg #[.int .u8 (s.kind : Nat), .int .u8 (s.act : Nat), .int .i64 s.a, .int .i64 s.x, .int .i64 s.d])).run Tryz.prog w = .ok (.bool false) w := by
  rw [run_neq_struct, run_equalIn_struct w 9999 48 _ _ (by kernel_rfl) (by kernel_rfl)]
  simp only [Program.fieldsOf, Tryz.underlying48, Op.eqFields]
  simp [go_sem, Tryz.underlying5, Tryz.underlying3, Tryz.underlying2, Result.andThen]
theorem thOf_ok {r : RawT} (h : r.text.size ≤ 100) : (thOf r).ok := by
  have hk := kind_lt r
  unfold thOf Thg.ok
  generalize r.kind % 10 = k at *
  match k, hk with
  | 0, _ | 1, _ | 2, _ | 3, _ | 4, _ | 7, _ | 8, _ | 9, _ => exact Nat.zero_le _
  | 5, _ => exact Nat.le_trans (encode_size_le r.rune) (by decide)
  | 6, _ => exact Nat.le_trans h (by decide)

set_option maxHeartbeats 6400000 in
set_option maxRecDepth 100000 in
theorem bsteps_any (pa : Option Addr) (ca : Nat) (l : List RawT) (N : Nat) (w : World) (hA : RawArg w (.slice pa l.length ca) l) (hn : (∀ r ∈ l, r.nums) ∧ l.length ≤ 9223372036854775807) (T : Tabs N w) :
    Calls Tryz.prog 11 #[.slice pa l.length ca] w fun e w' => e = .returned (.bool true) ∧ Below w.heap.size w w' := by
  have hl := fun w1 (hb : Below w.heap.size w w1) => lives26_any N w1 (T.of_below hb T.le)
  have hfw := fun w1 (hb : Below w.heap.size w w1) => few_any (hA.below hb) hn.2
  have HLV := Lib.hid hl
  have HFW := Lib.hid hfw
  clear hl T hfw
  by_cases hf : fewB l = true
  · have hfb := hf
    unfold fewB at hfb
    rw [Bool.and_eq_true, List.all_eq_true, decide_eq_true_eq] at hfb
    obtain ⟨hall, h40⟩ := hfb
    have hok : ∀ r ∈ l, r.ok ∧ r.kind ≤ 255 := fun r hr => ⟨⟨by have := hall r hr; simpa using this, (hn.1 r hr).2⟩, (hn.1 r hr).1⟩
    have hth := fun w1 (hb : Below w.heap.size w w1) => things_any (hA.below hb) h40 hok
    have htok : ∀ e ∈ l.map thOf, e.ok := fun e he => by
      obtain ⟨r, hr, rfl⟩ := List.mem_map.1 he
      exact thOf_ok (hok r hr).1.1
    have hnq := fun e w => neq_rs e w
    have HT := Lib.hid hth
    have HOK := Lib.hid htok
    have HF := Lib.hid hf
    clear hall hok hth htok hf hn hA
    go_enter Tryz.func11, Tryz.ntmps11
    go_wp2_with fail
    refine (HLV.out _ (Below.refl _ _)).mono ?_
    rintro e w1 ⟨rfl, K1⟩
    have K1 := Lib.hid K1
    go_wp2_with fail
    have hfw := HFW.out _ K1.out
    rw [HF.out] at hfw
    refine hfw.mono ?_
    rintro e w2 ⟨rfl, b2⟩
    have K2 := Lib.hid (K1.out.trans (b2.mono K1.out.size))
    clear hfw b2
    go_wp2_with fail
    refine (HT.out _ K2.out).mono ?_
    rintro e w3 ⟨va, vb, rfl, bs, hbl, hbo, hbs, hbr, hva, hvb, hne, b3⟩
    have K3 := Lib.hid (K2.out.trans (b3.mono K2.out.size))
    have aA := any_own hva
    have aB := own_thg (l := l.map thOf) (by rw [List.length_map]; exact hvb)
    have s1 := fun w v (h : AnyArg w v bs) => steps_any h (by omega) hbo
    have r1 := fun w v (h : AnyArg w v bs) => runes_any h (by omega) hbo
    have s2 := fun w v (h : ThgArg w v (l.map thOf)) => rsteps_any h (by simp; omega) HOK.out
    have r2 := fun w v (h : ThgArg w v (l.map thOf)) => rrunes_any h (by simp; omega) HOK.out
    simp only [hbs] at s1
    simp only [hbr] at r1
    have hDl := stepsTs_len HOK.out
    rw [List.length_map] at hDl
    generalize stepsTs (l.map thOf) = D at *
    generalize runesTs (l.map thOf) = R at *
    have HAA := Lib.hid aA
    have HAB := Lib.hid aB
    have S1 := Lib.hid s1
    have S2 := Lib.hid s2
    have R1 := Lib.hid r1
    have R2 := Lib.hid r2
    clear hbl hbo hbs hbr hva hvb hne b3 aA aB s1 s2 r1 r2 HT HLV HFW
    go_wp2_with fail
    refine (S1.out _ _ HAA.out).mono ?_
    rintro e w4 ⟨v4, rfl, h4, b4⟩
    obtain ⟨a4, c4, rfl⟩ := ownsRow_slice h4
    have A4 := Lib.hid (own_starg h4)
    have X4 := Lib.hid b4
    clear h4 b4
    go_wp2_with fail
    refine (S2.out _ _ (HAB.out.below X4.out)).mono ?_
    rintro e w5 ⟨v5, rfl, h5, b5⟩
    obtain ⟨a5, c5, rfl⟩ := ownsRow_slice h5
    have A5 := Lib.hid (A4.out.below b5)
    have B5 := Lib.hid (own_rsarg h5)
    have X5 := Lib.hid (X4.out.trans (b5.mono X4.out.size))
    clear h5 b5
    go_wp2_with fail
    refine (R1.out _ _ (HAA.out.below X5.out)).mono ?_
    rintro e w6 ⟨rfl, b6⟩
    have A6 := Lib.hid (A5.out.below b6)
    have B6 := Lib.hid (B5.out.below b6)
    have X6 := Lib.hid (X5.out.trans (b6.mono X5.out.size))
    clear b6
    go_wp2_with fail
    refine (R2.out _ _ (HAB.out.below X6.out)).mono ?_
    rintro e w7 ⟨rfl, b7⟩
    have A7 := Lib.hid (A6.out.below b7)
    have B7 := Lib.hid (B6.out.below b7)
    have X7 := Lib.hid (K3.out.trans ((X6.out.trans (b7.mono X6.out.size)).mono K3.out.size))
    clear b7
    obtain ⟨S, hS⟩ : ∃ S : ByteArray, S = ⟨R.toArray⟩ := ⟨_, rfl⟩
    rw [← hS]
    clear hS
    have hss : (S.toList == S.toList) = true := by simp
    go_wp2
    go_loopw [39] (fun iv wr => ∃ i : Nat, iv = .int .i64 (i : Int) ∧ i ≤ D.length ∧ Below w7.heap.size w7 wr) (fun iv _ => D.length - (intOf iv).toNat)
    case atStart => exact ⟨0, rfl, by omega, Below.refl _ _⟩
    case round =>
      obtain ⟨i, rfl, hi', hbi⟩ := hrel
      by_cases hid : i < D.length
      · have hii : (i : Int) < (D.length : Int) := by omega
        obtain ⟨e, he⟩ : ∃ e, D[i]? = some e := ⟨_, List.getElem?_eq_getElem hid⟩
        have hne0 : D ≠ [] := by rintro rfl; simp at hid
        obtain ⟨a1, c1, q1, h1⟩ := stArg_slice (A7.out.below hbi)
        obtain ⟨a2, c2, q2, h2⟩ := rsArg_slice (B7.out.below hbi)
        simp only [Value.slice.injEq, true_and] at q1 q2
        obtain ⟨rfl, rfl⟩ := q1
        obtain ⟨rfl, rfl⟩ := q2
        obtain ⟨b1, o1, rfl, x1⟩ := h1.resolve_left hne0
        obtain ⟨b2, o2, rfl, x2⟩ := h2.resolve_left hne0
        have u0 := x1.ck i e he
        have u1 := x1.cg i e he
        have u2 := x1.cm i e he
        have u3 := x1.cp i e he
        have u4 := x1.cv i e he
        have v0 := x2.ck i e he
        have v1 := x2.cg i e he
        have v2 := x2.cm i e he
        have v3 := x2.cp i e he
        have v4 := x2.cv i e he
        have hnq1 := fun w => hnq e w
        have HBI := Lib.hid hbi
        clear x1 x2 h1 h2 he hbi hne0
        go_wp2
        go_quiet (fail)
        go_wp2
        go_roundw
        case rel => exact ⟨i + 1, by go_num, hid, below_drewN HBI.out _⟩
        case measure => simp [intOf]; omega
      · have hii : ¬ (i : Int) < (D.length : Int) := by omega
        have KX := Lib.hid (X7.out.trans (hbi.mono X7.out.size))
        clear hbi
        go_wp2
        go_returns
        exact ⟨rfl, KX.out⟩
  · have hf : fewB l = false := by simpa using hf
    have HF := Lib.hid hf
    clear hf hn hA
    go_enter Tryz.func11, Tryz.ntmps11
    go_wp2_with fail
    refine (HLV.out _ (Below.refl _ _)).mono ?_
    rintro e w1 ⟨rfl, K1⟩
    have K1 := Lib.hid K1
    go_wp2_with fail
    have hfw := HFW.out _ K1.out
    rw [HF.out] at hfw
    refine hfw.mono ?_
    rintro e w2 ⟨rfl, b2⟩
    have K2 := Lib.hid (K1.out.trans (b2.mono K1.out.size))
    clear hfw b2
    go_wp2_with fail
    refine (HLV.out _ K2.out).mono ?_
    rintro e w3 ⟨rfl, b3⟩
    have K3 := Lib.hid (K2.out.trans (b3.mono K2.out.size))
    clear b3
    go_wp2
    go_returns
    exact ⟨rfl, K3.out⟩
end Go.Proofs.YtfjepdcnikgjeaaGreatDoor
