/-
  GlyphPrints, walked.
-/
import Derived.Test.YtnkbddebafcjbaaDoorGlSame2
namespace Go.Proofs.YtnkbddebafcjbaaDoor
open Go Go.RowKit Go.Proofs

abbrev MaxAt (w : World) : Prop := ∃ m, w.cell? ⟨4, 0, none⟩ = some (.int .i64 m)
theorem max_below {w w' : World} (h : MaxAt w) (hb : Below w.heap.size w w') : MaxAt w' := by
  obtain ⟨m, hm⟩ := h
  exact ⟨m, cell_below hb hm⟩
set_option maxHeartbeats 8000000 in
set_option maxRecDepth 100000 in
theorem parse_empty (w : World) :
    Calls Tryd.prog 20 #[.string ⟨#[]⟩] w fun r w' => r = .returned (.tuple #[.slice none 0 0, .int .i64 0, .int .i64 0]) ∧ w' = w := by
  go_enter Tryd.func20, Tryd.ntmps20
  go_wp2
  go_returns
  exact ⟨rfl, rfl⟩
/-- glyph.Parse, at a text that is parsed whole. -/
theorem parse_good (s : ByteArray) (hs : s.size ≤ 8000) (hok : pOk s.data.toList = true) (w : World) (hE : Env w) (hm : MaxAt w) :
    Calls Tryd.prog 20 #[.string s] w fun r w' => ∃ v, r = .returned (.tuple #[v, .int .i64 0, .int .i64 0]) ∧ EvArg w' v (pEvs s.data.toList) ∧ Below w.heap.size w w' := by
  by_cases h0 : s.size = 0
  · have hs0 : s = ⟨#[]⟩ := by
      apply ByteArray.ext
      apply Array.ext'
      rw [Lib.size_eq] at h0
      exact List.length_eq_zero_iff.1 h0
    subst hs0
    refine (parse_empty w).mono ?_
    rintro r w' ⟨rfl, rfl⟩
    exact ⟨_, rfl, .inl ⟨rfl, by simp [pEvs]⟩, Below.refl _ _⟩
  · refine (parse_any s hs h0 w hE hm).mono ?_
    rintro r w' ⟨v, rfl, ho, hb⟩
    rw [hok]
    exact ⟨v, rfl, own_arg ho, hb⟩
theorem all_snoc (l : List Ev) (j : Nat) (e : Ev) (h : l[j]? = some e) : (l.take (j + 1)).all rightOf = ((l.take j).all rightOf && rightOf e) := by
  rw [List.take_add_one, h]
  simp
theorem lives_k {w W : World} (hE : Env w) (K : Below w.heap.size w W) :
    Calls Tryd.prog 8 #[] W fun r w' => r = .returned (.bool true) ∧ Below w.heap.size w w' := by
  refine (lives_any W (hE.below K).k (hE.below K).t).mono ?_
  rintro r w' ⟨rfl, hb⟩
  exact ⟨rfl, K.trans (hb.mono K.size)⟩

set_option maxHeartbeats 8000000 in
set_option maxRecDepth 100000 in
theorem prints_long (pa : Option Addr) (ca : Nat) (n : Nat) (hn : (40 : Int) < n) (w : World) (hE : Env w) :
    Calls Tryd.prog 6 #[.slice pa n ca] w fun r w' => r = .returned (.bool true) ∧ Below w.heap.size w w' := by
  go_enter Tryd.func6, Tryd.ntmps6
  go_wp2_with fail
  refine (lives_k hE (Below.refl _ w)).mono ?_
  rintro e w1 ⟨rfl, K⟩
  go_wp2_with fail
  refine (lives_k hE K).mono ?_
  rintro e w2 ⟨rfl, K⟩
  clear hE
  go_wp2
  go_returns
  exact ⟨rfl, K⟩

set_option maxHeartbeats 16000000 in
set_option maxRecDepth 100000 in
theorem prints_empty (pa : Option Addr) (ca : Nat) (w : World) (hA : EvArg w (.slice pa 0 ca) []) (hE : Env w) :
    Calls Tryd.prog 6 #[.slice pa 0 ca] w fun r w' => r = .returned (.bool true) ∧ Below w.heap.size w w' := by
  go_enter Tryd.func6, Tryd.ntmps6
  go_wp2_with fail
  refine (lives_k hE (Below.refl _ w)).mono ?_
  rintro e w1 ⟨rfl, K⟩
  go_wp2
  refine wp_loop_rounds 1 ?_
  rw [rounds_succ]
  go_wp2_with fail
  refine (print_nil pa ca _).mono ?_
  rintro e w2 ⟨rfl, hb⟩
  have K := K.trans (hb.mono K.size)
  clear hb
  go_wp2_with fail
  refine (parse_empty _).mono ?_
  rintro e w3 ⟨rfl, rfl⟩
  go_wp2_with fail
  refine (refs_any (hA.below K) (by simp)).mono ?_
  rintro e w4 ⟨u, rfl, hu, hb⟩
  have K := K.trans (hb.mono K.size)
  clear hb
  go_wp2_with fail
  refine (refText_any hu (by simp) (fun e he => by cases he) (fun e he => by cases he)).mono ?_
  rintro e w5 ⟨rfl, hb⟩
  have K := K.trans (hb.mono K.size)
  clear hb hu
  rw [text_nil]
  go_wp2_with fail
  refine (refs_any (hA.below K) (by simp)).mono ?_
  rintro e w6 ⟨u2, rfl, hu, hb⟩
  have K := K.trans (hb.mono K.size)
  clear hb
  go_wp2_with fail
  refine (same_any (l := []) (.inl ⟨rfl, rfl⟩) hu (by simp)).mono ?_
  rintro e w7 ⟨rfl, hb⟩
  have K := K.trans (hb.mono K.size)
  clear hb hu hA hE
  go_wp2
  go_returns
  exact ⟨rfl, K⟩

set_option maxHeartbeats 32000000 in
set_option maxRecDepth 100000 in
theorem prints_some (b o ca : Nat) (l : List Ev) (hne : l ≠ []) (hl : l.length ≤ 40) (hv : inI64 l) (w : World) (hC : EvCells w b o l) (hE : Env w) (hM : MaxAt w) :
    Calls Tryd.prog 6 #[.slice (some ⟨b, o, none⟩) l.length ca] w fun r w' => r = .returned (.bool true) ∧ Below w.heap.size w w' := by
  have hA : EvArg w (.slice (some ⟨b, o, none⟩) l.length ca) l := .inr (.inr ⟨b, o, ca, rfl, hC⟩)
  have HE := Lib.hid hE
  have HM := Lib.hid hM
  have HA := Lib.hid hA
  have HC := Lib.hid hC
  have hl0 : 0 < l.length := List.length_pos_iff.2 hne
  clear hE hM hA hC hne
  go_enter Tryd.func6, Tryd.ntmps6
  go_wp2_with fail
  refine (lives_k HE.out (Below.refl _ w)).mono ?_
  rintro e w1 ⟨rfl, K⟩
  go_wp2
  go_loopw [3, 24] (fun mv iv wr => ∃ j : Nat, iv = .int .i64 (j : Int) ∧ j ≤ l.length ∧ mv = .bool ((l.take j).all rightOf) ∧ Below w.heap.size w wr) (fun _ iv _ => l.length + 1 - iOf iv)
  case atStart => exact ⟨0, rfl, Nat.zero_le _, rfl, K⟩
  case round =>
    obtain ⟨j, rfl, hj, rfl, K⟩ := hrel
    by_cases hp : j < l.length
    · obtain ⟨e, he⟩ : ∃ e, l[j]? = some e := ⟨_, List.getElem?_eq_getElem hp⟩
      have hmem : e ∈ l := List.mem_of_getElem? he
      have hE2 := HC.out.below HC.out.lt K
      have c0 := hE2.ck j e he
      have c1 := hE2.cg j e he
      have c2 := hE2.cm j e he
      have c3 := hE2.cp j e he
      have c4 := hE2.cv j e he
      have hlt := hE2.lt
      have hpi : (j : Int) < l.length := by omega
      have HS := Lib.hid (all_snoc l j e he)
      have hRef := ref_any e
      have hRight := refRight_any e
      have hve := hv e hmem
      simp only [evV] at hRef hRight
      obtain ⟨wb, hwb⟩ : ∃ wb : World, wb = wr.alloc (.cells #[.int .i64 e.k, .int .i64 e.g, .int .i64 e.m, .int .i64 e.p, .int .i64 e.v] 38) := ⟨_, rfl⟩
      have hx : wb.heap[wr.heap.size]? = some (.cells #[.int .i64 e.k, .int .i64 e.g, .int .i64 e.m, .int .i64 e.p, .int .i64 e.v] 38 (0, 0)) := by
        rw [hwb]
        show (wr.heap.push _)[wr.heap.size]? = _
        simp
      have KB : Below w.heap.size w wb := by rw [hwb]; exact K.alloc K.size _
      have HWB := Lib.hid hwb
      have HX := Lib.hid hx
      have HRef := Lib.hid hRef
      have HRight := Lib.hid hRight
      clear he hE2 hwb hx hRef hRight
      obtain ⟨r, hr⟩ : ∃ r, r = rightOf e := ⟨_, rfl⟩
      have HR := Lib.hid hr
      rw [← hr] at HRight HS
      clear hr
      generalize (l.take j).all rightOf = q at *
      cases q <;> cases r
      · go_wp2_with fail
        rw [← HWB.out]
        refine (HRef.out _).mono ?_
        rintro z W1 ⟨rfl, hb⟩
        have hx := (below_heap hb (box_lt HX.out)).trans HX.out
        have K := KB.trans (hb.mono KB.size)
        clear hb HX c0 c1 c2 c3 c4
        have HX := Lib.hid hx
        clear hx
        go_wp2_with fail
        refine (HRight.out _).mono ?_
        rintro z W2 ⟨rfl, hb⟩
        have hx := (below_heap hb (box_lt HX.out)).trans HX.out
        have K := K.trans (hb.mono K.size)
        clear hb HX
        obtain ⟨d0, d1, d2, d3, d4, _, dl⟩ := cells5 hx
        have HX := Lib.hid hx
        clear hx
        have hw := word_bad e HR.out.symm W2 (HE.out.below K).k
        simp only [evV] at hw
        go_wp2_with fail
        refine hw.mono ?_
        rintro z W3 ⟨rfl, hb⟩
        have K := K.trans (hb.mono K.size)
        clear hb HX d0 d1 d2 d3 d4 dl hw
        go_wp2
        go_roundw
        case rel => exact ⟨j + 1, by simp, by omega, by rw [HS.out]; rfl, K⟩
        case measure => simp only [iOf_int]; omega
      · go_wp2_with fail
        rw [← HWB.out]
        refine (HRef.out _).mono ?_
        rintro z W1 ⟨rfl, hb⟩
        have hx := (below_heap hb (box_lt HX.out)).trans HX.out
        have K := KB.trans (hb.mono KB.size)
        clear hb HX c0 c1 c2 c3 c4
        have HX := Lib.hid hx
        clear hx
        go_wp2_with fail
        refine (HRight.out _).mono ?_
        rintro z W2 ⟨rfl, hb⟩
        have hx := (below_heap hb (box_lt HX.out)).trans HX.out
        have K := K.trans (hb.mono K.size)
        clear hb HX
        obtain ⟨d0, d1, d2, d3, d4, _, dl⟩ := cells5 hx
        have HX := Lib.hid hx
        clear hx
        have hw := word_ok e HR.out.symm hve.1 hve.2 W2 (HE.out.below K).k (HE.out.below K).t
        simp only [evV] at hw
        go_wp2_with fail
        refine hw.mono ?_
        rintro z W3 ⟨rfl, hb⟩
        have hx := (below_heap hb (box_lt HX.out)).trans HX.out
        have K := K.trans (hb.mono K.size)
        clear hb HX d0 d1 d2 d3 d4 dl hw
        obtain ⟨d0, d1, d2, d3, d4, _, dl⟩ := cells5 hx
        clear hx
        go_wp2_with fail
        refine (HRef.out _).mono ?_
        rintro z W4 ⟨rfl, hb⟩
        have K := K.trans (hb.mono K.size)
        clear hb d0 d1 d2 d3 d4 dl
        have hw := refWord_any e HR.out.symm hve.1 hve.2 W4
        simp only [evV] at hw
        go_wp2_with fail
        refine hw.mono ?_
        rintro z W5 ⟨rfl, hb⟩
        have K := K.trans (hb.mono K.size)
        clear hb hw
        go_wp2
        go_roundw
        case rel => exact ⟨j + 1, by simp, by omega, by rw [HS.out]; rfl, K⟩
        case measure => simp only [iOf_int]; omega
      · go_wp2_with fail
        rw [← HWB.out]
        refine (HRef.out _).mono ?_
        rintro z W1 ⟨rfl, hb⟩
        have hx := (below_heap hb (box_lt HX.out)).trans HX.out
        have K := KB.trans (hb.mono KB.size)
        clear hb HX c0 c1 c2 c3 c4
        have HX := Lib.hid hx
        clear hx
        go_wp2_with fail
        refine (HRight.out _).mono ?_
        rintro z W2 ⟨rfl, hb⟩
        have hx := (below_heap hb (box_lt HX.out)).trans HX.out
        have K := K.trans (hb.mono K.size)
        clear hb HX
        obtain ⟨d0, d1, d2, d3, d4, _, dl⟩ := cells5 hx
        have HX := Lib.hid hx
        clear hx
        have hw := word_bad e HR.out.symm W2 (HE.out.below K).k
        simp only [evV] at hw
        go_wp2_with fail
        refine hw.mono ?_
        rintro z W3 ⟨rfl, hb⟩
        have K := K.trans (hb.mono K.size)
        clear hb HX d0 d1 d2 d3 d4 dl hw
        go_wp2
        go_roundw
        case rel => exact ⟨j + 1, by simp, by omega, by rw [HS.out]; rfl, K⟩
        case measure => simp only [iOf_int]; omega
      · go_wp2_with fail
        rw [← HWB.out]
        refine (HRef.out _).mono ?_
        rintro z W1 ⟨rfl, hb⟩
        have hx := (below_heap hb (box_lt HX.out)).trans HX.out
        have K := KB.trans (hb.mono KB.size)
        clear hb HX c0 c1 c2 c3 c4
        have HX := Lib.hid hx
        clear hx
        go_wp2_with fail
        refine (HRight.out _).mono ?_
        rintro z W2 ⟨rfl, hb⟩
        have hx := (below_heap hb (box_lt HX.out)).trans HX.out
        have K := K.trans (hb.mono K.size)
        clear hb HX
        obtain ⟨d0, d1, d2, d3, d4, _, dl⟩ := cells5 hx
        have HX := Lib.hid hx
        clear hx
        have hw := word_ok e HR.out.symm hve.1 hve.2 W2 (HE.out.below K).k (HE.out.below K).t
        simp only [evV] at hw
        go_wp2_with fail
        refine hw.mono ?_
        rintro z W3 ⟨rfl, hb⟩
        have hx := (below_heap hb (box_lt HX.out)).trans HX.out
        have K := K.trans (hb.mono K.size)
        clear hb HX d0 d1 d2 d3 d4 dl hw
        obtain ⟨d0, d1, d2, d3, d4, _, dl⟩ := cells5 hx
        clear hx
        go_wp2_with fail
        refine (HRef.out _).mono ?_
        rintro z W4 ⟨rfl, hb⟩
        have K := K.trans (hb.mono K.size)
        clear hb d0 d1 d2 d3 d4 dl
        have hw := refWord_any e HR.out.symm hve.1 hve.2 W4
        simp only [evV] at hw
        go_wp2_with fail
        refine hw.mono ?_
        rintro z W5 ⟨rfl, hb⟩
        have K := K.trans (hb.mono K.size)
        clear hb hw
        go_wp2
        go_roundw
        case rel => exact ⟨j + 1, by simp, by omega, by rw [HS.out]; rfl, K⟩
        case measure => simp only [iOf_int]; omega
    · obtain rfl : j = l.length := by omega
      rw [List.take_length]
      clear hp
      cases hall : l.all rightOf with
      | true =>
        have hr : ∀ e ∈ l, rightOf e = true := List.all_eq_true.1 hall
        obtain ⟨b1, b2⟩ := pEvs_back l hr hv
        have ht := text_le l hr hv
        have hpg := parse_good ⟨(textOf l).toArray⟩ (by rw [szA]; omega) b1
        rw [show (⟨(textOf l).toArray⟩ : ByteArray).data.toList = textOf l from rfl, b2] at hpg
        have HPG := Lib.hid hpg
        have HR := Lib.hid hr
        clear hall hr b1 b2 hpg
        go_wp2_with fail
        refine (print_good (HA.out.below K) (by omega) HR.out hv (HE.out.below K).k (HE.out.below K).t).mono ?_
        rintro z w2 ⟨rfl, hb⟩
        have K := K.trans (hb.mono K.size)
        clear hb
        go_wp2_with fail
        refine (HPG.out _ (HE.out.below K) (max_below HM.out K)).mono ?_
        rintro z w3 ⟨u, rfl, hu, hb⟩
        have K := K.trans (hb.mono K.size)
        have HU := Lib.hid hu
        clear hb HPG hu
        go_wp2_with fail
        refine (refs_any (HA.out.below K) (by omega)).mono ?_
        rintro z w4 ⟨u2, rfl, hu2, hb⟩
        have K := K.trans (hb.mono K.size)
        have J := hb
        have HU2 := Lib.hid hu2
        clear hb hu2
        go_wp2_with fail
        refine (refText_any HU2.out hl HR.out hv).mono ?_
        rintro z w5 ⟨rfl, hb⟩
        have K := K.trans (hb.mono K.size)
        have J := J.trans (hb.mono J.size)
        clear hb HU2
        go_wp2_with fail
        refine (refs_any (HA.out.below K) (by omega)).mono ?_
        rintro z w6 ⟨u3, rfl, hu3, hb⟩
        have K := K.trans (hb.mono K.size)
        have J := J.trans (hb.mono J.size)
        have HU3 := Lib.hid hu3
        clear hb hu3
        go_wp2_with fail
        refine (same_any (HU.out.below J) HU3.out (by omega)).mono ?_
        rintro z w7 ⟨rfl, hb⟩
        have K := K.trans (hb.mono K.size)
        clear hb J HU HU3
        go_wp2
        go_returns
        exact ⟨rfl, K⟩
      | false =>
        have hx : ∃ e ∈ l, rightOf e = false := by simpa using hall
        have HX := Lib.hid hx
        clear hall hx
        go_wp2_with fail
        refine (print_none (HA.out.below K) (by omega) HX.out hv (HE.out.below K).k (HE.out.below K).t).mono ?_
        rintro z w2 ⟨rfl, hb⟩
        have K := K.trans (hb.mono K.size)
        clear hb
        go_wp2
        go_returns
        exact ⟨rfl, K⟩

theorem prints_any (pa : Option Addr) (ca : Nat) (l : List Ev) (hv : inI64 l) (w : World) (hA : EvArg w (.slice pa l.length ca) l) (hE : Env w) (hM : MaxAt w) :
    Calls Tryd.prog 6 #[.slice pa l.length ca] w fun r w' => r = .returned (.bool true) ∧ Below w.heap.size w w' := by
  by_cases hl : l.length ≤ 40
  · by_cases hn : l = []
    · subst hn
      exact prints_empty pa ca w hA hE
    · obtain ⟨a, c, he, h⟩ := evArg_slice hA
      obtain ⟨b, o, rfl, hC⟩ := h.resolve_left hn
      injection he with h1 h2 h3
      subst h1 h3
      exact prints_some b o _ l hn hl hv w hC hE hM
  · exact prints_long pa ca l.length (by omega) w hE
end Go.Proofs.YtnkbddebafcjbaaDoor
