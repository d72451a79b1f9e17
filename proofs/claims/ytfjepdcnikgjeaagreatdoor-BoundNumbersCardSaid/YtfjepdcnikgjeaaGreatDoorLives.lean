/-
  The chapter's example, walked.
-/
import Derived.Test.YtfjepdcnikgjeaaGreatDoorLives0
import Derived.Test.YtfjepdcnikgjeaaGreatDoorNew5
import Derived.Test.YtfjepdcnikgjeaaGreatDoorMachine
set_option linter.unusedVariables false
set_option linter.unusedSimpArgs false
set_option linter.unusedSectionVars false
namespace Go.Proofs.YtfjepdcnikgjeaaGreatDoor
open Go Go.RowKit Hst Go.Proofs

set_option maxHeartbeats 1600000 in
set_option maxRecDepth 100000 in
theorem lives_any (N : Nat) (w : World) (T : Tabs N w) : Calls Tryz.prog 31 #[] w fun e w' => e = .returned (.bool true) ∧ Below w.heap.size w w' := by
  have hn : Calls Tryz.prog 53 #[.agg #[.int .i64 1, .int .i64 1, .int .i64 1]] w _ := new_ok 1 1 1 N (by unfold dims; decide) w T
  have HN := Lib.hid hn
  have HT := Lib.hid T
  clear hn T
  go_enter Tryz.func31, Tryz.ntmps31
  go_wp2_with fail
  refine HN.out.mono ?_
  rintro e w1 ⟨F, V, ow, rfl, hA, hlow, hb⟩
  have hE : Env N ow w1 := ⟨HT.out.of_below hb HT.out.le, fun b hlt => hlow b (Nat.lt_of_lt_of_le hlt HT.out.le)⟩
  have H0 := Lib.hid (show ∃ V ow, WAt F V ow w1 (lk 0) ∧ Env N ow w1 ∧ (∀ b, b < w.heap.size → ow b = 0) ∧ Below w.heap.size w w1 from ⟨V, ow, hA, hE, hlow, hb⟩)
  clear hA hE hlow hb HN HT
  go_wp2
  go_loopw [14] (fun i wr => ∃ k : Nat, k ≤ 10 ∧ i = .int .i64 k ∧ ∃ V ow, WAt F V ow wr (lk k) ∧ Env N ow wr ∧ (∀ b, b < w.heap.size → ow b = 0) ∧ Below w.heap.size w wr) (fun i _ => 10 - (intOf i).toNat)
  case atStart => exact ⟨0, Nat.zero_le _, rfl, H0.out⟩
  case round =>
    obtain ⟨k, hk, rfl, V, ow, hA, hE, hlow, hb⟩ := hrel
    by_cases hlt : k < 10
    · have hg := go_k N k hlt F V ow wr hA hE
      have HG := Lib.hid hg
      have HL := Lib.hid hlow
      have HB := Lib.hid hb
      have HE := Lib.hid hE
      clear hg hA hE hlow hb
      go_wp2_with fail
      refine HG.out.mono ?_
      rintro e w2 ⟨rfl, V2, ow2, h2⟩
      have hR : ∃ V ow, WAt F V ow w2 (lk (k + 1)) ∧ Env N ow w2 ∧ (∀ b, b < w.heap.size → ow b = 0) ∧ Below w.heap.size w w2 :=
        ⟨V2, ow2, h2.at_, HE.out.on h2, fun b hb => (h2.st.own b (Nat.lt_of_lt_of_le hb HB.out.size)).trans (HL.out b hb), HB.out.trans (h2.st.below HB.out.size HL.out)⟩
      have HR := Lib.hid hR
      clear hR h2
      go_wp2
      go_roundw
      case rel => exact ⟨k + 1, by omega, by go_num, HR.out⟩
      case measure => simp [intOf]; omega
    · obtain rfl : k = 10 := by omega
      obtain ⟨f1, f2, f3, f4, f5⟩ := l10_facts
      have hm := fun (w2 : World) (h2 : Below wr.heap.size wr w2) => machine_on ((On.start hA).below h2).at_ 0 (by decide +kernel) (by show (l10.mach 0).rest.length ≤ _; rw [f5]; decide)
      have hs := fun (w2 : World) (h2 : Below wr.heap.size wr w2) => status_on ((On.start hA).below h2).at_ 0 (by decide)
      have he := fun (w2 : World) (h2 : Below wr.heap.size wr w2) => events_on ((On.start hA).below h2).at_ (by show 0 < l10.log.length; rw [f4]; decide) (by show l10.log.length ≤ _; rw [f4]; decide)
      have g1 : ((lk 10).mach 0).g = 0 := f1
      have g2 : ((lk 10).mach 0).place = 0 := f2
      have g3 : (lk 10).stat 0 = 2 := f3
      have g4 : (lk 10).log.length = 2 := f4
      simp only [encM, g1, g2, g3, g4] at hm hs he
      generalize (lk 10).mach 0 = m at hm
      generalize (lk 10).log = lg at he
      have hf2 : ∀ (a : Option Addr) (n c : Nat) (w : World), (Instr.field 107 (.agg #[.int .i64 0, .int .i64 m.p, .int .i64 0, .int .i64 m.next, .int .i64 m.got, .int .i64 m.target, .int .i64 m.i, .bool m.spin, .bool m.inn, .slice a n c, .int .i64 m.back, .int .i64 m.after, .int .i64 m.arg, .int .i64 m.lkN, .int .i64 m.lkS, .int .i64 m.stage, .int .u64 m.ticket, .int .i64 m.times]) 2).run Tryz.prog w = .ok (.int .i64 0) w := by intros; kernel_rfl
      have hf0 : ∀ (a : Option Addr) (n c : Nat) (w : World), (Instr.field 107 (.agg #[.int .i64 0, .int .i64 m.p, .int .i64 0, .int .i64 m.next, .int .i64 m.got, .int .i64 m.target, .int .i64 m.i, .bool m.spin, .bool m.inn, .slice a n c, .int .i64 m.back, .int .i64 m.after, .int .i64 m.arg, .int .i64 m.lkN, .int .i64 m.lkS, .int .i64 m.stage, .int .u64 m.ticket, .int .i64 m.times]) 0).run Tryz.prog w = .ok (.int .i64 0) w := by intros; kernel_rfl
      have HM := Lib.hid hm
      have HS := Lib.hid hs
      have HV := Lib.hid he
      have HB := Lib.hid hb
      clear hm hs he hA hE hlow hb f1 f2 f3 f4 f5 g1 g2 g3 g4 hlt hk
      go_wp2_with fail
      refine (HM.out wr (Below.refl _ wr)).mono ?_
      rintro e w2 ⟨v2, rfl, o2, b2⟩
      obtain ⟨a2, c2, rfl⟩ := ownsRow_slice o2
      clear o2
      go_wp2_with fail
      refine (HM.out w2 b2).mono ?_
      rintro e w3 ⟨v3, rfl, o3, b3⟩
      obtain ⟨a3, c3, rfl⟩ := ownsRow_slice o3
      clear o3
      have hb3 := b2.trans (b3.mono b2.size)
      have B3 := Lib.hid hb3
      clear b2 b3 hb3
      go_wp2_with fail
      refine (HS.out w3 B3.out).mono ?_
      rintro e w4 ⟨rfl, b4⟩
      have hb4 := B3.out.trans (b4.mono B3.out.size)
      have B4 := Lib.hid hb4
      clear b4 hb4 B3
      go_wp2_with fail
      refine (HV.out w4 B4.out).mono ?_
      rintro e w5 ⟨v5, rfl, o5, b5⟩
      obtain ⟨a5, c5, rfl⟩ := ownsRow_slice o5
      clear o5
      have B5 := Lib.hid (HB.out.trans ((B4.out.trans (b5.mono B4.out.size)).mono HB.out.size))
      clear b5 B4
      go_wp2
      go_returns
      exact ⟨rfl, B5.out⟩
end Go.Proofs.YtfjepdcnikgjeaaGreatDoor
