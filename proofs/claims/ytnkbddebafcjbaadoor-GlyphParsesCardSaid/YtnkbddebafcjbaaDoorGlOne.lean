/-
  glyph.one: the event of a word; whether it is one's.
-/
import Derived.Test.YtnkbddebafcjbaaDoorGlNumW
namespace Go.Proofs.YtnkbddebafcjbaaDoor
open Go Go.RowKit Go.Proofs

abbrev U8At (w : World) : Prop := Lib.Utf8Tabs 2 3 w
theorem cell_below {w w' : World} (hb : Below w.heap.size w w') {b o : Nat} {v : Value} (h : w.cell? ⟨b, o, none⟩ = some v) : w'.cell? ⟨b, o, none⟩ = some v :=
  (below_cell hb (World.block_lt_of_cell? w ⟨b, o, none⟩ h)).trans h
theorem u8_below {w w' : World} (h : U8At w) (hb : Below w.heap.size w w') : U8At w' :=
  ⟨fun c hc => cell_below hb (h.1 c hc), fun i hi => ⟨cell_below hb (h.2 i hi).1, cell_below hb (h.2 i hi).2⟩⟩
theorem beq_list (l : List UInt8) (s : ByteArray) : decide (l = s.data.toList) = (l == s.toList) := by
  rw [Lib.toList_data, Bool.eq_iff_iff]
  simp

theorem cell_far {w : World} {b b' o o' : Nat} (h : b ≠ b') (v : Value) : (w.setCell ⟨b, o, none⟩ v).cell? ⟨b', o', none⟩ = w.cell? ⟨b', o', none⟩ :=
  World.cell?_setCell_other w _ _ v (fun e => h (by cases e; rfl))
theorem cells5 {w : World} {b : Nat} {t : TypeId} {a0 a1 a2 a3 a4 : Value} (h : w.heap[b]? = some (.cells #[a0, a1, a2, a3, a4] t (0, 0))) :
    w.cell? ⟨b, 0, none⟩ = some a0 ∧ w.cell? ⟨b, 1, none⟩ = some a1 ∧ w.cell? ⟨b, 2, none⟩ = some a2 ∧ w.cell? ⟨b, 3, none⟩ = some a3 ∧ w.cell? ⟨b, 4, none⟩ = some a4 ∧ (∀ o, w.frozen? ⟨b, o, none⟩ = false) ∧ b < w.heap.size := by
  have c0 := box_cell h 0
  have c1 := box_cell h 1
  have c2 := box_cell h 2
  have c3 := box_cell h 3
  have c4 := box_cell h 4
  simp only [List.getElem?_toArray, List.getElem?_cons_zero, List.getElem?_cons_succ] at c0 c1 c2 c3 c4
  exact ⟨c0, c1, c2, c3, c4, fun o => by simp [World.frozen?, h], box_lt h⟩
/-- What the code stands on besides the heap: tables and errors. -/
structure Env (w : World) : Prop where
  k : KindsAt w
  t : TabAt w
  e : ErrsAt w
  u : U8At w
theorem Env.below {w w' : World} (h : Env w) (hb : Below w.heap.size w w') : Env w' := ⟨h.k.below hb, tab_below h.t hb, h.e.below hb, u8_below h.u hb⟩

theorem not_word (s : ByteArray) (h : isRune ((Lib.decodeGo s).1 : Int) = false) : isWord s.data.toList = false := by
  rw [← Bool.not_eq_true]
  intro hw
  have hx := isWord_evOf hw
  have hne : s.size ≠ 0 := by
    intro h0
    rw [Lib.size_eq] at h0
    have h1 := List.length_eq_zero_iff.1 h0
    rw [h1] at hx
    exact word_ne _ hx.2.2
  have := (oneE_back s _ hx).1
  unfold Lib.decodeGo at h
  rw [if_neg hne] at h
  rw [h] at this
  cases this
theorem rune_some (s : ByteArray) (h : isRune ((Lib.decodeGo s).1 : Int) = true) : 0 < s.size ∧ Lib.decodeGo s = Utf8.decode s 0 ∧ (Utf8.decode s 0).2 ≤ s.size := by
  have hne : s.size ≠ 0 := by
    intro h0
    unfold Lib.decodeGo at h
    rw [if_pos h0] at h
    exact absurd h (by decide)
  refine ⟨by omega, by unfold Lib.decodeGo; rw [if_neg hne], ?_⟩
  have := step_le s 0 (by omega)
  omega

set_option maxHeartbeats 8000000 in
set_option maxRecDepth 100000 in
theorem one_none (s : ByteArray) (h : isRune ((Lib.decodeGo s).1 : Int) = false) (w : World) (hE : Env w) :
    Calls Tryd.prog 36 #[.string s] w fun r w' => r = .returned (.tuple #[evV ⟨0, 0, 0, 0, 0⟩, .bool false]) ∧ Below w.heap.size w w' := by
  have hd := Tryd.utf8_DecodeRuneInString s
  generalize Lib.decodeGo s = d at *
  obtain ⟨rn, n⟩ := d
  dsimp only at h hd
  have hu := hE.u
  clear hE
  go_enter Tryd.func36, Tryd.ntmps36
  go_wp2_with fail
  refine (hd _ (u8_below hu ((Below.refl _ w).alloc (Nat.le_refl _) _))).mono ?_
  rintro e w1 ⟨rfl, hb⟩
  have hlt := box_lt (below_box hb)
  have K : Below w.heap.size w w1 := ((Below.refl _ w).alloc (Nat.le_refl _) _).trans (hb.mono (by simp))
  have hk := kind_any (rn : Int)
  rw [h] at hk
  have hx := below_box hb
  clear hb hd hu
  go_wp2_with fail
  refine (hk _).mono ?_
  rintro e w2 ⟨rfl, hb⟩
  have hx2 := (below_heap hb hlt).trans hx
  have K2 := K.trans (hb.mono K.size)
  have hlt2 := box_lt hx2
  clear hb hk hx K h
  have f0 : ∀ o, w2.frozen? ⟨w.heap.size, o, none⟩ = false := fun o => by simp [World.frozen?, hx2]
  have c0 := box_cell hx2 0
  have c1 := box_cell hx2 1
  have c2 := box_cell hx2 2
  have c3 := box_cell hx2 3
  have c4 := box_cell hx2 4
  simp only [List.getElem?_toArray, List.getElem?_cons_zero, List.getElem?_cons_succ] at c0 c1 c2 c3 c4
  clear hx2
  go_wp2
  refine bodyPost_ret (v := .tuple #[.agg #[.int .i64 0, .int .i64 0, .int .i64 0, .int .i64 0, .int .i64 0], .bool false]) (by simp [results, Tryd.results36, go_sem, c0, c1, c2, c3, c4]) rfl ⟨rfl, by go_grown⟩

set_option maxHeartbeats 8000000 in
set_option maxRecDepth 100000 in
theorem one_some (s : ByteArray) (hs : s.size ≤ 10000) (h : isRune ((Lib.decodeGo s).1 : Int) = true) (w : World) (hE : Env w) :
    Calls Tryd.prog 36 #[.string s] w fun r w' => r = .returned (.tuple #[evV (oneE s), .bool (rightOf (oneE s) && decide (wordOf (oneE s) = s.data.toList))]) ∧ Below w.heap.size w w' := by
  obtain ⟨hp, hdec, hw⟩ := rune_some s h
  have hd := Tryd.utf8_DecodeRuneInString s
  rw [hdec] at h hd
  have hv := oneE_v s
  have ek : (oneE s).k = kindOf (Utf8.decode s 0).1 := rfl
  have eg : (oneE s).g = numV (s.data.toList.drop (Utf8.decode s 0).2) [] 0 := rfl
  have em : (oneE s).m = numV (numR (s.data.toList.drop (Utf8.decode s 0).2) []) [109] (-1) := rfl
  have ep : (oneE s).p = numV (numR (numR (s.data.toList.drop (Utf8.decode s 0).2) []) [109]) [112] (-1) := rfl
  have ev : (oneE s).v = numV (numR (numR (numR (s.data.toList.drop (Utf8.decode s 0).2) []) [109]) [112]) [61] 0 := rfl
  have e0 := Lib.extract_to_end s (Utf8.decode s 0).2
  clear hdec
  revert hd h hw ek eg em ep ev e0 hv
  generalize oneE s = x
  obtain ⟨xk, xg, xm, xp, xv⟩ := x
  dsimp only
  generalize Utf8.decode s 0 = d
  obtain ⟨rn, n⟩ := d
  dsimp only
  intro h hw hd hv ek eg em ep ev e0
  have hn : (n : Int) ≤ s.size := by omega
  have hs2 : (s.extract n s.size).size ≤ s.size := by rw [Lib.size_eq, e0, List.length_drop, ← Lib.size_eq]; omega
  have l1 := numR_le (s.data.toList.drop n) []
  have l2 := numR_le (numR (s.data.toList.drop n) []) [109]
  have l3 := numR_le (numR (numR (s.data.toList.drop n) []) [109]) [112]
  rw [List.length_drop, ← Lib.size_eq] at l1
  rw [← e0] at eg em ep ev l1 l2 l3
  clear e0 hw
  have hk := kind_any (rn : Int)
  rw [h, ← ek] at hk
  clear ek
  simp only [evV]
  have HE := Lib.hid hE
  clear hE
  by_cases hr : rightOf ⟨xk, xg, xm, xp, xv⟩ = true
  · go_enter Tryd.func36, Tryd.ntmps36
    go_wp2_with fail
    refine (hd _ (u8_below HE.out.u ((Below.refl _ w).alloc (Nat.le_refl _) _))).mono ?_
    rintro e w1 ⟨rfl, hb⟩
    have hx := below_box hb
    have hlt := box_lt hx
    have K : Below w.heap.size w w1 := ((Below.refl _ w).alloc (Nat.le_refl _) _).trans (hb.mono (by simp))
    have J : Below w1.heap.size w1 w1 := Below.refl _ _
    have HX := Lib.hid hx
    clear hb hd hx
    go_wp2_with fail
    refine (hk _).mono ?_
    rintro e w2 ⟨rfl, hb⟩
    have K := K.trans (hb.mono K.size)
    have J := J.trans (hb.mono J.size)
    clear hb hk
    go_wp2_with fail
    refine (number_any (s.extract n s.size) ⟨#[]⟩ 0 (by omega) _ (HE.out.e.below K)).mono ?_
    rintro e w3 ⟨r1, rfl, hr1, hb⟩
    have K := K.trans (hb.mono K.size)
    have J := J.trans (hb.mono J.size)
    clear hb
    rw [show (⟨#[]⟩ : ByteArray).data.toList = [] from rfl] at hr1
    rw [show (⟨#[]⟩ : ByteArray).data.toList = [] from rfl, ← eg]
    clear eg
    rw [← hr1] at em ep ev l1 l2 l3
    have S1 : r1.size ≤ 10001 := by rw [Lib.size_eq]; omega
    clear hr1
    go_wp2_with fail
    refine (number_any r1 ⟨#[109]⟩ (-1) (by omega) _ (HE.out.e.below K)).mono ?_
    rintro e w4 ⟨r2, rfl, hr2, hb⟩
    have K := K.trans (hb.mono K.size)
    have J := J.trans (hb.mono J.size)
    clear hb
    rw [show (⟨#[109]⟩ : ByteArray).data.toList = [109] from rfl] at hr2
    rw [show (⟨#[109]⟩ : ByteArray).data.toList = [109] from rfl, ← em]
    clear em
    rw [← hr2] at ep ev l2 l3
    have S2 : r2.size ≤ 10002 := by rw [Lib.size_eq]; omega
    clear hr2
    go_wp2_with fail
    refine (number_any r2 ⟨#[112]⟩ (-1) (by omega) _ (HE.out.e.below K)).mono ?_
    rintro e w5 ⟨r3, rfl, hr3, hb⟩
    have K := K.trans (hb.mono K.size)
    have J := J.trans (hb.mono J.size)
    clear hb
    rw [show (⟨#[112]⟩ : ByteArray).data.toList = [112] from rfl] at hr3
    rw [show (⟨#[112]⟩ : ByteArray).data.toList = [112] from rfl, ← ep]
    clear ep
    rw [← hr3] at ev l3
    have S3 : r3.size ≤ 10003 := by rw [Lib.size_eq]; omega
    clear hr3
    go_wp2_with fail
    refine (number_any r3 ⟨#[61]⟩ 0 (by omega) _ (HE.out.e.below K)).mono ?_
    rintro e w6 ⟨r4, rfl, hr4, hb⟩
    have K := K.trans (hb.mono K.size)
    have J := J.trans (hb.mono J.size)
    clear hb
    rw [show (⟨#[61]⟩ : ByteArray).data.toList = [61] from rfl] at hr4
    rw [show (⟨#[61]⟩ : ByteArray).data.toList = [61] from rfl, ← ev]
    clear ev
    clear hr4
    have hx1 := (below_heap J hlt).trans HX.out
    have hlt6 : w.heap.size < w6.heap.size := box_lt hx1
    have K6 : Below w.heap.size w (w6.alloc (.cells #[.int .i64 xk, .int .i64 xg, .int .i64 xm, .int .i64 xp, .int .i64 xv] 38)) := K.alloc K.size _
    clear HX hlt J
    have hwd := word_ok ⟨xk, xg, xm, xp, xv⟩ hr hv.1 hv.2 _ (HE.out.k.below K6) (tab_below HE.out.t K6)
    simp only [evV] at hwd
    go_wp2_with fail
    refine hwd.mono ?_
    rintro e w7 ⟨rfl, hb⟩
    have hx2 := below_box hb
    have hx3 := (below_heap hb (by simp; omega)).trans ((Below.heap_alloc w6 (.cells #[.int .i64 xk, .int .i64 xg, .int .i64 xm, .int .i64 xp, .int .i64 xv] 38) w.heap.size hlt6).trans hx1)
    have K7 := K6.trans (hb.mono K6.size)
    have hlt7 := box_lt hx3
    have hl := box_lt hx2
    clear hb hwd K K6 hx1
    have f0 : ∀ o, w7.frozen? ⟨w.heap.size, o, none⟩ = false := fun o => by simp [World.frozen?, hx3]
    have c0 := box_cell hx3 0
    have c1 := box_cell hx3 1
    have c2 := box_cell hx3 2
    have c3 := box_cell hx3 3
    have c4 := box_cell hx3 4
    have d0 := box_cell hx2 0
    have d1 := box_cell hx2 1
    have d2 := box_cell hx2 2
    have d3 := box_cell hx2 3
    have d4 := box_cell hx2 4
    simp only [List.getElem?_toArray, List.getElem?_cons_zero, List.getElem?_cons_succ] at c0 c1 c2 c3 c4 d0 d1 d2 d3 d4
    clear hx2 hx3
    have HS := Lib.hid hs2
    clear hs2
    have HRR := Lib.hid hr
    clear hr
    go_wp2
    refine bodyPost_ret (v := .tuple #[.agg #[.int .i64 xk, .int .i64 xg, .int .i64 xm, .int .i64 xp, .int .i64 xv], .bool _]) (by simp [results, Tryd.results36, go_sem, c0, c1, c2, c3, c4]; rfl) rfl ⟨by rw [HRR.out, Bool.true_and, beq_list], by go_grown⟩
  · rw [Bool.not_eq_true] at hr
    go_enter Tryd.func36, Tryd.ntmps36
    go_wp2_with fail
    refine (hd _ (u8_below HE.out.u ((Below.refl _ w).alloc (Nat.le_refl _) _))).mono ?_
    rintro e w1 ⟨rfl, hb⟩
    have hx := below_box hb
    have hlt := box_lt hx
    have K : Below w.heap.size w w1 := ((Below.refl _ w).alloc (Nat.le_refl _) _).trans (hb.mono (by simp))
    have J : Below w1.heap.size w1 w1 := Below.refl _ _
    have HX := Lib.hid hx
    clear hb hd hx
    go_wp2_with fail
    refine (hk _).mono ?_
    rintro e w2 ⟨rfl, hb⟩
    have K := K.trans (hb.mono K.size)
    have J := J.trans (hb.mono J.size)
    clear hb hk
    go_wp2_with fail
    refine (number_any (s.extract n s.size) ⟨#[]⟩ 0 (by omega) _ (HE.out.e.below K)).mono ?_
    rintro e w3 ⟨r1, rfl, hr1, hb⟩
    have K := K.trans (hb.mono K.size)
    have J := J.trans (hb.mono J.size)
    clear hb
    rw [show (⟨#[]⟩ : ByteArray).data.toList = [] from rfl] at hr1
    rw [show (⟨#[]⟩ : ByteArray).data.toList = [] from rfl, ← eg]
    clear eg
    rw [← hr1] at em ep ev l1 l2 l3
    have S1 : r1.size ≤ 10001 := by rw [Lib.size_eq]; omega
    clear hr1
    go_wp2_with fail
    refine (number_any r1 ⟨#[109]⟩ (-1) (by omega) _ (HE.out.e.below K)).mono ?_
    rintro e w4 ⟨r2, rfl, hr2, hb⟩
    have K := K.trans (hb.mono K.size)
    have J := J.trans (hb.mono J.size)
    clear hb
    rw [show (⟨#[109]⟩ : ByteArray).data.toList = [109] from rfl] at hr2
    rw [show (⟨#[109]⟩ : ByteArray).data.toList = [109] from rfl, ← em]
    clear em
    rw [← hr2] at ep ev l2 l3
    have S2 : r2.size ≤ 10002 := by rw [Lib.size_eq]; omega
    clear hr2
    go_wp2_with fail
    refine (number_any r2 ⟨#[112]⟩ (-1) (by omega) _ (HE.out.e.below K)).mono ?_
    rintro e w5 ⟨r3, rfl, hr3, hb⟩
    have K := K.trans (hb.mono K.size)
    have J := J.trans (hb.mono J.size)
    clear hb
    rw [show (⟨#[112]⟩ : ByteArray).data.toList = [112] from rfl] at hr3
    rw [show (⟨#[112]⟩ : ByteArray).data.toList = [112] from rfl, ← ep]
    clear ep
    rw [← hr3] at ev l3
    have S3 : r3.size ≤ 10003 := by rw [Lib.size_eq]; omega
    clear hr3
    go_wp2_with fail
    refine (number_any r3 ⟨#[61]⟩ 0 (by omega) _ (HE.out.e.below K)).mono ?_
    rintro e w6 ⟨r4, rfl, hr4, hb⟩
    have K := K.trans (hb.mono K.size)
    have J := J.trans (hb.mono J.size)
    clear hb
    rw [show (⟨#[61]⟩ : ByteArray).data.toList = [61] from rfl] at hr4
    rw [show (⟨#[61]⟩ : ByteArray).data.toList = [61] from rfl, ← ev]
    clear ev
    clear hr4
    have hx1 := (below_heap J hlt).trans HX.out
    have hlt6 : w.heap.size < w6.heap.size := box_lt hx1
    have K6 : Below w.heap.size w (w6.alloc (.cells #[.int .i64 xk, .int .i64 xg, .int .i64 xm, .int .i64 xp, .int .i64 xv] 38)) := K.alloc K.size _
    clear HX hlt J
    have hwd := word_bad ⟨xk, xg, xm, xp, xv⟩ hr _ (HE.out.k.below K6)
    simp only [evV] at hwd
    go_wp2_with fail
    refine hwd.mono ?_
    rintro e w7 ⟨rfl, hb⟩
    have hx2 := below_box hb
    have hx3 := (below_heap hb (by simp; omega)).trans ((Below.heap_alloc w6 (.cells #[.int .i64 xk, .int .i64 xg, .int .i64 xm, .int .i64 xp, .int .i64 xv] 38) w.heap.size hlt6).trans hx1)
    have K7 := K6.trans (hb.mono K6.size)
    have hlt7 := box_lt hx3
    have hl := box_lt hx2
    clear hb hwd K K6 hx1
    have f0 : ∀ o, w7.frozen? ⟨w.heap.size, o, none⟩ = false := fun o => by simp [World.frozen?, hx3]
    have c0 := box_cell hx3 0
    have c1 := box_cell hx3 1
    have c2 := box_cell hx3 2
    have c3 := box_cell hx3 3
    have c4 := box_cell hx3 4
    have d0 := box_cell hx2 0
    have d1 := box_cell hx2 1
    have d2 := box_cell hx2 2
    have d3 := box_cell hx2 3
    have d4 := box_cell hx2 4
    simp only [List.getElem?_toArray, List.getElem?_cons_zero, List.getElem?_cons_succ] at c0 c1 c2 c3 c4 d0 d1 d2 d3 d4
    clear hx2 hx3
    have HS := Lib.hid hs2
    clear hs2
    have HRR := Lib.hid hr
    clear hr
    go_wp2
    refine bodyPost_ret (v := .tuple #[.agg #[.int .i64 xk, .int .i64 xg, .int .i64 xm, .int .i64 xp, .int .i64 xv], .bool _]) (by simp [results, Tryd.results36, go_sem, c0, c1, c2, c3, c4]; rfl) rfl ⟨by rw [HRR.out]; rfl, by go_grown⟩

/-- glyph.one, at any word: is it an event's; whose? -/
theorem one_any (s : ByteArray) (hs : s.size ≤ 10000) (w : World) (hE : Env w) :
    Calls Tryd.prog 36 #[.string s] w fun r w' => ∃ e : Ev, r = .returned (.tuple #[evV e, .bool (isWord s.data.toList)]) ∧ (isWord s.data.toList = true → e = evOf s.data.toList) ∧ Below w.heap.size w w' := by
  cases h : isRune ((Lib.decodeGo s).1 : Int) with
  | false =>
    have hn := not_word s h
    rw [hn]
    refine (one_none s h w hE).mono ?_
    rintro r w' ⟨rfl, hb⟩
    exact ⟨_, rfl, fun h => (by cases h), hb⟩
  | true =>
    obtain ⟨h1, h2⟩ := isWord_of s.data.toList (oneE s) (oneE_v s) (fun x hx => (oneE_back s x hx).2)
    refine (one_some s hs h w hE).mono ?_
    rintro r w' ⟨rfl, hb⟩
    rw [← h1]
    exact ⟨_, rfl, h2, hb⟩
end Go.Proofs.YtnkbddebafcjbaaDoor
