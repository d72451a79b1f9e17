/-
  GlyphParses, walked.
-/
import Derived.Test.YtnkbddebafcjbaaDoorGlRefParse
import Derived.Test.YtnkbddebafcjbaaDoorGlPrints
namespace Go.Proofs.YtnkbddebafcjbaaDoor
open Go Go.RowKit Go.Proofs

/-- glyph.Parse, of any text. -/
theorem gparse_any (s : ByteArray) (hs : s.size ≤ 400) (w : World) (hE : Env w) (hm : MaxAt w) :
    Calls Tryd.prog 20 #[.string s] w fun r w' => ∃ v, r = .returned (.tuple #[v, .int .i64 ((if pOk s.data.toList then 0 else pWrong s.data.toList : Nat) : Int), .int .i64 (if pOk s.data.toList then 0 else 5)]) ∧
      EvArg w' v (pEvs s.data.toList) ∧ Below w.heap.size w w' := by
  by_cases h0 : s.size = 0
  · obtain rfl := no_bytes s h0
    refine (parse_empty w).mono ?_
    rintro r w' ⟨rfl, rfl⟩
    exact ⟨_, by simp [pOk], .inl ⟨rfl, by simp [pEvs]⟩, Below.refl _ _⟩
  · refine (parse_any s (by omega) h0 w hE hm).mono ?_
    rintro r w' ⟨v, rfl, ho, hb⟩
    exact ⟨v, rfl, own_arg ho, hb⟩
set_option maxHeartbeats 8000000 in
set_option maxRecDepth 100000 in
theorem parses_long (s : ByteArray) (hs : 400 < s.size) (w : World) (hE : Env w) :
    Calls Tryd.prog 7 #[.string s] w fun r w' => r = .returned (.bool true) ∧ Below w.heap.size w w' := by
  have hsi : (400 : Int) < s.size := by omega
  go_enter Tryd.func7, Tryd.ntmps7
  go_wp2_with fail
  refine (lives_k hE (Below.refl _ w)).mono ?_
  rintro e w1 ⟨rfl, K⟩
  go_wp2_with fail
  refine (lives_k hE K).mono ?_
  rintro e w2 ⟨rfl, K⟩
  clear hE
  go_wp2
  go_returns
  exact ⟨rfl, K⟩

set_option maxHeartbeats 16000000 in
set_option maxRecDepth 100000 in
theorem parses_short (s : ByteArray) (hs : s.size ≤ 400) (w : World) (hE : Env w) (hM : MaxAt w) :
    Calls Tryd.prog 7 #[.string s] w fun r w' => r = .returned (.bool true) ∧ Below w.heap.size w w' := by
  have hP := gparse_any s hs
  have hR := rparse_any s hs
  have hl := pEvs_len s.data.toList
  rw [← Lib.size_eq] at hl
  have hr : ∀ e ∈ pEvs s.data.toList, rightOf e = true := fun e he => (pEvs_mem _ e he).1
  have hv : inI64 (pEvs s.data.toList) := fun e he => (pEvs_mem _ e he).2
  have hw : (0 : Int) ≤ (pWrong s.data.toList : Nat) := by omega
  have ht := pEvs_text s.data.toList
  have hsi : ¬ (400 : Int) < s.size := by omega
  have hbs : (⟨s.data.toList.toArray⟩ : ByteArray) = s := arr_id s
  revert hP hR hl hr hv hw ht hbs
  generalize pEvs s.data.toList = l
  generalize pWrong s.data.toList = pw
  generalize pOk s.data.toList = ok
  generalize s.data.toList = sl
  intro hP hR hl hr hv hw ht hbs
  have HE := Lib.hid hE
  have HM := Lib.hid hM
  have HP := Lib.hid hP
  have HRp := Lib.hid hR
  have HR := Lib.hid hr
  have HV := Lib.hid hv
  have HT := Lib.hid ht
  have HB := Lib.hid hbs
  clear hE hM hP hR hr hv ht hbs
  cases ok
  · have hPx := HP.out
    have hRx := HRp.out
    simp only [Bool.false_eq_true, if_false] at hPx hRx
    have HPx := Lib.hid hPx
    have HRx := Lib.hid hRx
    clear hPx hRx HP HRp
    go_enter Tryd.func7, Tryd.ntmps7
    go_wp2_with fail
    refine (lives_k HE.out (Below.refl _ w)).mono ?_
    rintro e w1 ⟨rfl, K⟩
    go_wp2_with fail
    refine (HPx.out _ (HE.out.below K) (max_below HM.out K)).mono ?_
    rintro e w2 ⟨u, rfl, hu, hb⟩
    have K := K.trans (hb.mono K.size)
    have HU := Lib.hid hu
    clear hb hu
    go_wp2_with fail
    refine (HRx.out _).mono ?_
    rintro e w3 ⟨v, rfl, hv, hb⟩
    have K := K.trans (hb.mono K.size)
    have HU2 := Lib.hid (HU.out.below hb)
    have HV2 := Lib.hid hv
    clear hb hv
    go_wp2_with fail
    refine (same_any HU2.out HV2.out (by omega)).mono ?_
    rintro e w4 ⟨rfl, hb⟩
    have K := K.trans (hb.mono K.size)
    clear hb HU HU2 HV2
    go_wp2
    go_returns
    exact ⟨rfl, K⟩
  · have hPx := HP.out
    have hRx := HRp.out
    simp only [if_true] at hPx hRx
    have HPx := Lib.hid hPx
    have HRx := Lib.hid hRx
    clear hPx hRx HP HRp
    go_enter Tryd.func7, Tryd.ntmps7
    go_wp2_with fail
    refine (lives_k HE.out (Below.refl _ w)).mono ?_
    rintro e w1 ⟨rfl, K⟩
    go_wp2_with fail
    refine (HPx.out _ (HE.out.below K) (max_below HM.out K)).mono ?_
    rintro e w2 ⟨u, rfl, hu, hb⟩
    have K := K.trans (hb.mono K.size)
    have HU := Lib.hid hu
    clear hb hu
    go_wp2_with fail
    refine (HRx.out _).mono ?_
    rintro e w3 ⟨v, rfl, hv, hb⟩
    have K := K.trans (hb.mono K.size)
    have HU2 := Lib.hid (HU.out.below hb)
    have HV2 := Lib.hid hv
    clear hb hv HU
    go_wp2_with fail
    refine (same_any HU2.out HV2.out (by omega)).mono ?_
    rintro e w4 ⟨rfl, hb⟩
    have K := K.trans (hb.mono K.size)
    have HU := Lib.hid (HU2.out.below hb)
    clear hb HU2 HV2
    go_wp2_with fail
    refine (print_good HU.out (by omega) HR.out HV.out (HE.out.below K).k (HE.out.below K).t).mono ?_
    rintro e w5 ⟨rfl, hb⟩
    have K := K.trans (hb.mono K.size)
    clear hb HU
    rw [HT.out trivial, HB.out]
    go_wp2
    go_returns
    exact ⟨rfl, K⟩
theorem parses_any (s : ByteArray) (w : World) (hE : Env w) (hM : MaxAt w) :
    Calls Tryd.prog 7 #[.string s] w fun r w' => r = .returned (.bool true) ∧ Below w.heap.size w w' := by
  by_cases hs : s.size ≤ 400
  · exact parses_short s hs w hE hM
  · exact parses_long s (by omega) w hE
end Go.Proofs.YtnkbddebafcjbaaDoor
