/-
  glyph.Parse, at any text.
-/
import Derived.Test.YtnkbddebafcjbaaDoorGlOne
namespace Go.Proofs.YtnkbddebafcjbaaDoor
open Go Go.RowKit Go.Proofs

theorem split_words (s : ByteArray) : Lib.countB s ⟨#[32]⟩ + 1 = (wordsA [] s.data.toList).length ∧ Lib.splitB ⟨#[32]⟩ 0 (Lib.countB s ⟨#[32]⟩) s = (wordsA [] s.data.toList).map fun l => ⟨l.toArray⟩ := by
  refine ⟨(wordsA_count _ s.data.toList (Nat.le_refl _)).symm, ?_⟩
  have h1 := Lib.splitB_data ⟨#[32]⟩ 0 (Lib.countB s ⟨#[32]⟩) s
  have h2 : Lib.splitK [32] 0 (Lib.countB s ⟨#[32]⟩) s.data.toList = wordsA [] s.data.toList := splitK_words _ s.data.toList (Nat.le_refl _)
  rw [show (⟨#[32]⟩ : ByteArray).data.toList = [32] from rfl, h2] at h1
  rw [← h1, List.map_map]
  conv => lhs; rw [← List.map_id (Lib.splitB ⟨#[32]⟩ 0 (Lib.countB s ⟨#[32]⟩) s)]
  exact List.map_congr_left fun x _ => by simp
theorem own_down {w : World} {B B' e size n : Nat} {v : Value} {xs : List Value} (h : w.ownsRow B e size v n xs) (hb : B' ≤ B) : w.ownsRow B' e size v n xs := by
  refine ⟨h.1, ?_⟩
  rcases h.2 with hn | ⟨g, cap, cur, hv, hbg, rest⟩
  · exact .inl hn
  · exact .inr ⟨g, cap, cur, hv, Nat.le_trans hb hbg, rest⟩
theorem sum_le (B : Nat) : ∀ ws : List (List UInt8), (∀ l ∈ ws, cnt l ≤ B) → sumAt ws ≤ ws.length * (B + 1)
  | [], _ => by simp [sumAt]
  | a :: r, h => by
    have h1 := sum_le B r (fun l hl => h l (List.mem_cons_of_mem _ hl))
    have h2 := h a (List.mem_cons_self ..)
    unfold sumAt at h1 ⊢
    rw [List.map_cons, List.sum_cons, List.length_cons, Nat.succ_mul]
    omega
theorem cnt_le (l : List UInt8) : cnt l ≤ l.length := by
  have := Lib.runeCount_le ⟨l.toArray⟩
  rw [szA] at this
  exact this
theorem one_arg (w : World) (e : Ev) : EvArg (w.alloc (.cells #[.int .i64 e.k, .int .i64 e.g, .int .i64 e.m, .int .i64 e.p, .int .i64 e.v] 38)) (.slice (some ⟨w.heap.size, 0, none⟩) 1 1) [e] := by
  have hx : (w.alloc (.cells #[.int .i64 e.k, .int .i64 e.g, .int .i64 e.m, .int .i64 e.p, .int .i64 e.v] 38)).heap[w.heap.size]? = some (.cells #[.int .i64 e.k, .int .i64 e.g, .int .i64 e.m, .int .i64 e.p, .int .i64 e.v] 38 (0, 0)) := by
    show (w.heap.push _)[w.heap.size]? = _
    simp
  refine .inr (.inr ⟨w.heap.size, 0, 1, rfl, box_lt hx, ?_, ?_, ?_, ?_, ?_⟩)
  all_goals
    intro j x hj
    match j, hj with
    | 0, hj => simp at hj; subst hj; rw [box_cell hx]; rfl

/-- What a parse of words leaves. -/
def PRes (ws : List (List UInt8)) (w : World) (r : Ending) (w' : World) : Prop :=
  ∃ v, r = .returned (.tuple #[v, .int .i64 ((if goodN ws = ws.length then 0 else sumAt (ws.take (goodN ws)) : Nat) : Int), .int .i64 (if goodN ws = ws.length then 0 else 5)]) ∧
    w'.ownsRow w.heap.size 38 5 v ((ws.take (goodN ws)).map evOf).length (flat ((ws.take (goodN ws)).map evOf)) ∧ Below w.heap.size w w'
theorem PRes.bad {ws : List (List UInt8)} {w w' : World} {B j : Nat} {v : Value} (hj : j = goodN ws) (hl : j < ws.length) (ho : w'.ownsRow B 38 5 v ((ws.take j).map evOf).length (flat ((ws.take j).map evOf))) (hB : w.heap.size ≤ B) (hb : Below w.heap.size w w') :
    PRes ws w (.returned (.tuple #[v, .int .i64 (sumAt (ws.take j) : Nat), .int .i64 5])) w' := by
  subst hj
  have hn : ¬ goodN ws = ws.length := by omega
  exact ⟨v, by rw [if_neg hn, if_neg hn], own_down ho hB, hb⟩
theorem PRes.ok {ws : List (List UInt8)} {w w' : World} {B j : Nat} {v : Value} (hj : j = ws.length) (hg : goodN ws = ws.length) (ho : w'.ownsRow B 38 5 v ((ws.take j).map evOf).length (flat ((ws.take j).map evOf))) (hB : w.heap.size ≤ B) (hb : Below w.heap.size w w') :
    PRes ws w (.returned (.tuple #[v, .int .i64 0, .int .i64 0])) w' := by
  subst hj
  exact ⟨v, by rw [if_pos hg, if_pos hg]; rfl, by rw [hg]; exact own_down ho hB, hb⟩

set_option maxHeartbeats 8000000 in
set_option maxRecDepth 100000 in
theorem parse_words (s : ByteArray) (hs : s.size ≤ 8000) (hne : s.size ≠ 0) (w : World) (hE : Env w) (hm : ∃ m, w.cell? ⟨4, 0, none⟩ = some (.int .i64 m)) :
    Calls Tryd.prog 20 #[.string s] w (PRes (wordsA [] s.data.toList) w) := by
  obtain ⟨m, hm⟩ := hm
  have hsp := Tryd.strings_Split s ⟨#[32]⟩ m w (by omega) hm (by decide)
  obtain ⟨e1, e2⟩ := split_words s
  rw [e1, e2] at hsp
  have hmem := wordsA_mem s.data.toList []
  have hwl := wordsA_len s.data.toList []
  rw [← Lib.size_eq] at hwl
  clear e1 e2 hm
  have hmem' : ∀ l ∈ wordsA [] s.data.toList, l.length ≤ s.size := fun l hl => by have := hmem l hl; rw [List.length_nil, Nat.zero_add, ← Lib.size_eq] at this; exact this
  clear hmem
  generalize wordsA [] s.data.toList = ws at *
  have hgl := goodN_le ws
  have HM := Lib.hid hmem'
  have HE := Lib.hid hE
  clear hmem' hE
  have hse : (s.toList == []) = false := by
    rw [Lib.toList_data, ← Bool.not_eq_true]
    intro h
    apply hne
    have := eq_of_beq h
    rw [Lib.size_eq, this]
    rfl
  have hse2 : s.toList.isEmpty = false := by
    rw [Lib.toList_data]
    cases h : s.data.toList with
    | nil => exfalso; apply hne; rw [Lib.size_eq, h]; rfl
    | cons _ _ => rfl
  go_enter Tryd.func20, Tryd.ntmps20
  go_wp2_with fail
  refine hsp.mono ?_
  rintro e w1 ⟨rfl, hw1⟩
  have hx : w1.heap[w.heap.size]? = some (.cells ((ws.map fun l => (⟨l.toArray⟩ : ByteArray)).map Value.string).toArray 9 (0, 0)) := by
    rw [hw1]
    show (w.heap.push _)[w.heap.size]? = _
    simp
  have K : Below w.heap.size w w1 := by rw [hw1]; exact (Below.refl _ w).alloc (Nat.le_refl _) _
  have hlt := box_lt hx
  have hcell : ∀ j l, ws[j]? = some l → w1.cell? ⟨w.heap.size, j, none⟩ = some (.string ⟨l.toArray⟩) := by
    intro j l hj
    rw [box_cell hx]
    simp [hj]
  have HC := Lib.hid hcell
  clear hw1 hx hcell hsp
  have hE1 := HE.out.below K
  have HE1 := Lib.hid hE1
  clear hE1
  go_wp2
  go_loopw [2, 3, 14] (fun lv av iv wr => ∃ j : Nat, iv = .int .i64 (j : Int) ∧ j ≤ goodN ws ∧ av = .int .i64 (sumAt (ws.take j) : Nat) ∧ wr.ownsRow w1.heap.size 38 5 lv ((ws.take j).map evOf).length (flat ((ws.take j).map evOf)) ∧ Below w1.heap.size w1 wr) (fun _ _ iv _ => ws.length + 1 - iOf iv)
  case atStart => exact ⟨0, rfl, Nat.zero_le _, rfl, ⟨by simp [flat], .inl ⟨rfl, rfl⟩⟩, Below.refl _ _⟩
  case round =>
    obtain ⟨j, rfl, hj, rfl, hown, J⟩ := hrel
    have hsum : sumAt (ws.take j) ≤ 100000000 := by
      have h1 := sum_le s.size (ws.take j) (fun l hl => Nat.le_trans (cnt_le l) (HM.out l (List.mem_of_mem_take hl)))
      have h2 : (ws.take j).length * (s.size + 1) ≤ 8001 * 8001 := Nat.mul_le_mul (by rw [List.length_take]; omega) (by omega)
      omega
    by_cases hp : j < ws.length
    · obtain ⟨l, hl⟩ : ∃ l, ws[j]? = some l := ⟨_, List.getElem?_eq_getElem hp⟩
      have hc := (below_cell J hlt).trans (HC.out j l hl)
      obtain ⟨g1, g2⟩ := goodN_lt ws j l hj hl
      have hll := HM.out l (List.mem_of_getElem? hl)
      have h1 := one_any ⟨l.toArray⟩ (by rw [szA]; omega)
      rw [show (⟨l.toArray⟩ : ByteArray).data.toList = l from rfl] at h1
      have HL := Lib.hid hl
      have hpi : (j : Int) < ws.length := by omega
      have hlen : ((ws.take j).map evOf).length ≤ 8001 := by rw [List.length_map, List.length_take]; omega
      cases hw : isWord l with
      | true =>
        rw [hw] at h1
        have hj1 := g1 hw
        simp only [evV] at h1
        clear g1 g2 hl hw
        have hcn : Lib.runeCount ⟨l.toArray⟩ ≤ l.length := cnt_le l
        have hrc : (Lib.runeCount ⟨l.toArray⟩ : Int) ≤ 8000 := by omega
        have hsI : (sumAt (ws.take j) : Int) ≤ 100000000 := by omega
        go_wp2_with fail
        refine (h1 _ (HE1.out.below J)).mono ?_
        rintro e w2 ⟨x, rfl, hx, hb⟩
        have HX := Lib.hid (hx trivial)
        have o2 := own_below (own_below (own_below hown hb) ((Below.refl _ w2).alloc (Nat.le_refl _) (.cells #[.int .i64 x.k, .int .i64 x.g, .int .i64 x.m, .int .i64 x.p, .int .i64 x.v] 38)))
          ((Below.refl _ (w2.alloc (.cells #[.int .i64 x.k, .int .i64 x.g, .int .i64 x.m, .int .i64 x.p, .int .i64 x.v] 38))).alloc (Nat.le_refl _) (.cells #[.int .i64 x.k, .int .i64 x.g, .int .i64 x.m, .int .i64 x.p, .int .i64 x.v] 38))
        have J2 := J.trans (hb.mono J.size)
        have J4 := (J2.alloc J2.size (.cells #[.int .i64 x.k, .int .i64 x.g, .int .i64 x.m, .int .i64 x.p, .int .i64 x.v] 38)).alloc (by have := J2.size; simp; omega) (.cells #[.int .i64 x.k, .int .i64 x.g, .int .i64 x.m, .int .i64 x.p, .int .i64 x.v] 38)
        have ha := one_arg (w2.alloc (.cells #[.int .i64 x.k, .int .i64 x.g, .int .i64 x.m, .int .i64 x.p, .int .i64 x.v] 38)) x
        simp only [World.size_alloc] at ha
        have O2 := Lib.hid o2
        have HA := Lib.hid ha
        clear hx hb hown J J2 h1 o2 ha
        go_wp2_with (at_builtin; refine append_ev rfl _ _ rfl w1.heap.size _ ((ws.take j).map evOf) rfl O2.out _ rfl [x] HA.out (by simp only [List.length_cons, List.length_nil]; omega) J4.size ?_)
        intro v3 w3 o3 b3
        have J := J4.trans b3
        have O3 := Lib.hid o3
        clear J4 b3 O2 HA o3
        go_wp2_with (go_at_call 13; refine (count_any ⟨l.toArray⟩ (by rw [szA]; omega) _).mono ?_; rintro e w4 ⟨rfl, hb⟩)
        go_roundw
        case rel =>
          have et : ws.take (j + 1) = ws.take j ++ [l] := by rw [List.take_add_one, HL.out]; rfl
          refine ⟨j + 1, by simp, hj1, ?_, ?_, J.trans (hb.mono J.size)⟩
          · rw [et, sumAt_snoc]
            congr 1
          · rw [et, List.map_append, List.map_cons, List.map_nil, ← HX.out]
            simpa using own_below O3.out hb
        case measure => simp only [iOf_int]; omega
      | false =>
        rw [hw] at h1
        have hjg := Lib.hid (g2 hw)
        simp only [evV] at h1
        clear g1 g2 hl hw
        go_wp2_with fail
        refine (h1 _ (HE1.out.below J)).mono ?_
        rintro e w2 ⟨x, rfl, _, hb⟩
        have J2 := J.trans (hb.mono J.size)
        have o2 := own_below hown hb
        have O2 := Lib.hid o2
        clear o2 hb hown J h1
        go_wp2
        go_returns
        exact PRes.bad hjg.out hp (own_below O2.out ((Below.refl _ w2).alloc (Nat.le_refl _) _)) K.size (K.trans ((J2.alloc J2.size _).mono K.size))
    · have hjl : j = ws.length := by omega
      have hg : goodN ws = ws.length := by omega
      have HG := Lib.hid hg
      have HJ := Lib.hid hjl
      have O2 := Lib.hid hown
      have hpi : (ws.length : Int) ≤ j := by omega
      clear hg hjl hown hp
      go_wp2
      go_returns
      exact PRes.ok HJ.out HG.out O2.out K.size (K.trans (J.mono K.size))
theorem parse_any (s : ByteArray) (hs : s.size ≤ 8000) (hne : s.size ≠ 0) (w : World) (hE : Env w) (hm : ∃ m, w.cell? ⟨4, 0, none⟩ = some (.int .i64 m)) :
    Calls Tryd.prog 20 #[.string s] w fun r w' => ∃ v, r = .returned (.tuple #[v, .int .i64 ((if pOk s.data.toList then 0 else pWrong s.data.toList : Nat) : Int), .int .i64 (if pOk s.data.toList then 0 else 5)]) ∧
      w'.ownsRow w.heap.size 38 5 v (pEvs s.data.toList).length (flat (pEvs s.data.toList)) ∧ Below w.heap.size w w' := by
  have hl0 : s.data.toList ≠ [] := by intro h; apply hne; rw [Lib.size_eq, h]; rfl
  have eE : pEvs s.data.toList = ((wordsA [] s.data.toList).take (goodN (wordsA [] s.data.toList))).map evOf := by unfold pEvs; rw [if_neg hl0]
  have eO : pOk s.data.toList = decide (goodN (wordsA [] s.data.toList) = (wordsA [] s.data.toList).length) := by unfold pOk; rw [Bool.eq_iff_iff]; simp [hl0]
  have eW : pWrong s.data.toList = sumAt ((wordsA [] s.data.toList).take (goodN (wordsA [] s.data.toList))) := rfl
  rw [eE, eO, eW]
  simp only [decide_eq_true_eq]
  exact (parse_words s hs hne w hE hm).mono fun _ _ h => h
end Go.Proofs.YtnkbddebafcjbaaDoor
