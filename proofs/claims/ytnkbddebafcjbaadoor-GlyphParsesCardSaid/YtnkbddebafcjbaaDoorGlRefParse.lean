/-
  The document's reading of a text.
-/
import Derived.Test.YtnkbddebafcjbaaDoorGlRefOne
import Derived.Test.YtnkbddebafcjbaaDoorGlSame2
namespace Go.Proofs.YtnkbddebafcjbaaDoor
open Go Go.RowKit Go.Proofs

/-- What the document's parse of words leaves. -/
def RRes (ws : List (List UInt8)) (w : World) (r : Ending) (w' : World) : Prop :=
  ∃ v, r = .returned (.tuple #[v, .int .i64 (if goodN ws = ws.length then -1 else (sumAt (ws.take (goodN ws)) : Int))]) ∧
    w'.ownsRow w.heap.size 42 5 v ((ws.take (goodN ws)).map evOf).length (flat ((ws.take (goodN ws)).map evOf)) ∧ Below w.heap.size w w'
theorem RRes.bad {ws : List (List UInt8)} {w w' : World} {j : Nat} {v : Value} (hj : j = goodN ws) (hl : j < ws.length) (ho : w'.ownsRow w.heap.size 42 5 v ((ws.take j).map evOf).length (flat ((ws.take j).map evOf))) (hb : Below w.heap.size w w') :
    RRes ws w (.returned (.tuple #[v, .int .i64 (sumAt (ws.take j) : Nat)])) w' := by
  subst hj
  have hn : ¬ goodN ws = ws.length := by omega
  exact ⟨v, by rw [if_neg hn], ho, hb⟩
theorem RRes.ok {ws : List (List UInt8)} {w w' : World} {j : Nat} {v : Value} (hj : j = ws.length) (hg : goodN ws = ws.length) (ho : w'.ownsRow w.heap.size 42 5 v ((ws.take j).map evOf).length (flat ((ws.take j).map evOf))) (hb : Below w.heap.size w w') :
    RRes ws w (.returned (.tuple #[v, .int .i64 (-1)])) w' := by
  subst hj
  exact ⟨v, by rw [if_pos hg], by rw [hg]; exact ho, hb⟩
theorem arr_id (c : ByteArray) : (⟨c.data.toList.toArray⟩ : ByteArray) = c := by cases c; simp
theorem piece1 (s : ByteArray) (i : Nat) (b : UInt8) (h : s.data.toList[i]? = some b) (c : ByteArray) : (c ++ s.extract i (i + 1)).data.toList = c.data.toList ++ [b] := by
  rw [ByteArray.data_append, Array.toList_append, Lib.extract_data]
  congr 1
  have hl := (List.getElem?_eq_some_iff.1 h).1
  have := List.drop_eq_getElem_cons hl
  rw [(List.getElem?_eq_some_iff.1 h).2] at this
  simp [this]

set_option maxHeartbeats 16000000 in
set_option maxRecDepth 100000 in
theorem refParse_words (s : ByteArray) (hs : s.size ≤ 400) (hne : s.size ≠ 0) (w : World) :
    Calls Tryd.prog 24 #[.string s] w (RRes (wordsA [] s.data.toList) w) := by
  have hmem := wordsA_mem s.data.toList []
  have hmem' : ∀ l ∈ wordsA [] s.data.toList, l.length ≤ s.size := fun l hl => by have := hmem l hl; rw [List.length_nil, Nat.zero_add, ← Lib.size_eq] at this; exact this
  have hwl := wordsA_len s.data.toList []
  rw [← Lib.size_eq] at hwl
  have hst : wordsA [] (s.data.toList.drop 0) = (wordsA [] s.data.toList).drop 0 := rfl
  have hgl := goodN_le (wordsA [] s.data.toList)
  clear hmem
  generalize wordsA [] s.data.toList = ws at *
  have HM := Lib.hid hmem'
  have HST := Lib.hid hst
  clear hmem' hst
  have hse : (s.toList == []) = false := by
    rw [Lib.toList_data, ← Bool.not_eq_true]
    intro h
    apply hne
    have := eq_of_beq h
    rw [Lib.size_eq, this]
    rfl
  have hse2 : s.toList.isEmpty = false := by
    rw [Lib.toList_data]
    cases h : s.data.toList with
    | nil => exfalso; apply hne; rw [Lib.size_eq, h]; rfl
    | cons _ _ => rfl
  go_enter Tryd.func24, Tryd.ntmps24
  go_wp2
  go_loopw [4, 5, 6, 7] (fun lv av cv iv wr => ∃ (i j : Nat) (c : ByteArray), iv = .int .i64 (i : Int) ∧ j ≤ goodN ws ∧ cv = .string c ∧ c.size ≤ i ∧ av = .int .i64 (sumAt (ws.take j) : Nat) ∧ ((i ≤ s.size ∧ wordsA c.data.toList (s.data.toList.drop i) = ws.drop j) ∨ (i = s.size + 1 ∧ j = ws.length)) ∧
      wr.ownsRow w.heap.size 42 5 lv ((ws.take j).map evOf).length (flat ((ws.take j).map evOf)) ∧ Below w.heap.size w wr) (fun _ _ _ iv _ => s.size + 2 - iOf iv)
  case atStart => exact ⟨0, 0, ⟨#[]⟩, rfl, Nat.zero_le _, rfl, Nat.zero_le _, rfl, .inl ⟨Nat.zero_le _, HST.out⟩, ⟨by simp [flat], .inl ⟨rfl, rfl⟩⟩, Below.refl _ _⟩
  case round =>
    obtain ⟨i, j, c, rfl, hj, rfl, hci, rfl, hinv, hown, K⟩ := hrel
    have hsum : sumAt (ws.take j) ≤ 1000000 := by
      have h1 := sum_le s.size (ws.take j) (fun l hl => Nat.le_trans (cnt_le l) (HM.out l (List.mem_of_mem_take hl)))
      have h2 : (ws.take j).length * (s.size + 1) ≤ 401 * 401 := Nat.mul_le_mul (by rw [List.length_take]; omega) (by omega)
      omega
    have hsI : (sumAt (ws.take j) : Int) ≤ 1000000 := by omega
    have HO := Lib.hid hown
    clear hown
    rcases hinv with ⟨hi, hw⟩ | ⟨hi, hjl⟩
    · -- a byte that isn't a blank
      by_cases hb : ∃ b, s.data.toList[i]? = some b ∧ b ≠ 32
      · obtain ⟨b, hb1, hb2⟩ := hb
        have his : i < s.size := by have := (List.getElem?_eq_some_iff.1 hb1).1; rw [← Lib.size_eq] at this; exact this
        have hpc := piece1 s i b hb1 c
        have hdrop := List.drop_eq_getElem_cons (l := s.data.toList) (i := i) (by rw [← Lib.size_eq]; exact his)
        rw [(List.getElem?_eq_some_iff.1 hb1).2] at hdrop
        rw [hdrop, wordsA, if_neg hb2, ← hpc] at hw
        have hbs : s[i] = b := by
          have h0 : s.data.toList[i]? = some s[i] := by rw [List.getElem?_eq_getElem (by rw [← Lib.size_eq]; exact his)]; rfl
          rw [hb1] at h0
          exact (Option.some.inj h0).symm
        have hne2 : ¬ (s[i].toNat : Int) = 32 := by
          rw [hbs]
          intro h
          apply hb2
          apply UInt8.toNat_inj.1
          show b.toNat = 32
          omega
        have hsz1 : (s.extract i (i + 1)).size = 1 := by rw [ByteArray.size_extract]; omega
        have hcs : (c ++ s.extract i (i + 1)).size ≤ i + 1 := by rw [ByteArray.size_append]; omega
        have hcat : ¬ 9223372036854775807 < c.size + (s.extract i (i + 1)).size := by omega
        have HW := Lib.hid hw
        have HCS := Lib.hid hcs
        clear hw hpc hdrop hbs hb1 hb2 hcs
        go_wp2
        go_roundw
        case rel => exact ⟨i + 1, j, c ++ s.extract i (i + 1), by simp, hj, rfl, HCS.out, rfl, .inl ⟨by omega, HW.out⟩, HO.out, K⟩
        case measure => simp only [iOf_int]; omega
      · -- a word's end
        have hcut : ∃ r, ws.drop j = c.data.toList :: r ∧ ((i < s.size ∧ (s.data.toList[i]? = some 32) ∧ r = wordsA [] (s.data.toList.drop (i + 1))) ∨ (i = s.size ∧ r = [])) := by
          by_cases his : i < s.size
          · obtain ⟨b, hb1⟩ : ∃ b, s.data.toList[i]? = some b := ⟨_, List.getElem?_eq_getElem (by rw [← Lib.size_eq]; exact his)⟩
            have hb2 : b = 32 := by
              by_cases h : b = 32
              · exact h
              · exact absurd ⟨b, hb1, h⟩ hb
            subst hb2
            have hdrop := List.drop_eq_getElem_cons (l := s.data.toList) (i := i) (by rw [← Lib.size_eq]; exact his)
            rw [(List.getElem?_eq_some_iff.1 hb1).2] at hdrop
            rw [hdrop, wordsA, if_pos rfl] at hw
            exact ⟨_, hw.symm, .inl ⟨his, hb1, rfl⟩⟩
          · have : s.data.toList.drop i = [] := List.drop_of_length_le (by rw [← Lib.size_eq]; omega)
            rw [this, wordsA] at hw
            exact ⟨[], hw.symm, .inr ⟨by omega, rfl⟩⟩
        obtain ⟨r, hd, hcs⟩ := hcut
        have hjl : j < ws.length := by
          rcases Nat.lt_or_ge j ws.length with h | h
          · exact h
          · rw [List.drop_of_length_le h] at hd; cases hd
        have hl : ws[j]? = some c.data.toList := by
          have := List.drop_eq_getElem_cons hjl
          rw [hd] at this
          injection this with h1 h2
          rw [List.getElem?_eq_getElem hjl, ← h1]
        have hd1 : ws.drop (j + 1) = r := by
          have := List.drop_eq_getElem_cons hjl
          rw [hd] at this
          injection this with h1 h2
          exact h2.symm
        obtain ⟨g1, g2⟩ := goodN_lt ws j c.data.toList hj hl
        have hcsz := HM.out c.data.toList (List.mem_of_getElem? hl)
        rw [← Lib.size_eq] at hcsz
        have h1 := refOne_any c (by omega)
        have hcn : Lib.runeCount c ≤ c.size := Lib.runeCount_le c
        have hrc : (Lib.runeCount c : Int) ≤ 1000 := by omega
        have hcc := refCount_any c (by omega)
        have hcd : cnt c.data.toList = Lib.runeCount c := by unfold cnt; rw [arr_id]
        have hlen : ((ws.take j).map evOf).length ≤ 1000 := by rw [List.length_map, List.length_take]; omega
        have HL := Lib.hid hl
        have HD1 := Lib.hid hd1
        have HCD := Lib.hid hcd
        have hgo : (i < s.size ∧ s.data.toList[i]? = some 32) ∨ i = s.size := by rcases hcs with ⟨a, b, _⟩ | ⟨a, _⟩; exact .inl ⟨a, b⟩; exact .inr a
        have HCS := Lib.hid hcs
        have htst : (∃ h : i < s.size, (s[i].toNat : Int) = 32) ∨ ¬ i < s.size := by
          rcases hgo with ⟨a, b⟩ | a
          · left
            refine ⟨a, ?_⟩
            have h0 : s.data.toList[i]? = some s[i] := by rw [List.getElem?_eq_getElem (by rw [← Lib.size_eq]; exact a)]; rfl
            rw [b] at h0
            rw [← Option.some.inj h0]
            rfl
          · right; omega
        have hiI : (i : Int) ≤ s.size := by omega
        clear hw hb hl hd hd1 hcd hcs hgo
        cases hwd : isWord c.data.toList with
        | true =>
          rw [hwd] at h1
          simp only [evV] at h1
          have hj1 := g1 hwd
          clear g1 g2 hwd
          rcases htst with ⟨his, htst⟩ | his
          all_goals
            go_wp2_with fail
            refine (h1 _).mono ?_
            rintro e w2 ⟨x, rfl, hx, hb⟩
            have HX := Lib.hid (hx trivial)
            have o2 := own_below (own_below HO.out hb) ((Below.refl _ w2).alloc (Nat.le_refl _) (.cells #[.int .i64 x.k, .int .i64 x.g, .int .i64 x.m, .int .i64 x.p, .int .i64 x.v] 42))
            have J2 := K.trans (hb.mono K.size)
            have J3 := J2.alloc J2.size (.cells #[.int .i64 x.k, .int .i64 x.g, .int .i64 x.m, .int .i64 x.p, .int .i64 x.v] 42)
            obtain ⟨w3, hw3⟩ : ∃ w3 : World, w3 = w2.alloc (.cells #[.int .i64 x.k, .int .i64 x.g, .int .i64 x.m, .int .i64 x.p, .int .i64 x.v] 42) := ⟨_, rfl⟩
            have hx3 : w3.heap[w2.heap.size]? = some (.cells #[.int .i64 x.k, .int .i64 x.g, .int .i64 x.m, .int .i64 x.p, .int .i64 x.v] 42 (0, 0)) := by
              rw [hw3]
              show (w2.heap.push _)[w2.heap.size]? = _
              simp
            have o4 := own_below o2 ((Below.refl _ (w2.alloc (.cells #[.int .i64 x.k, .int .i64 x.g, .int .i64 x.m, .int .i64 x.p, .int .i64 x.v] 42))).alloc (Nat.le_refl _) (.cells #[.int .i64 x.k, .int .i64 x.g, .int .i64 x.m, .int .i64 x.p, .int .i64 x.v] 42))
            have hx4 : ((w2.alloc (.cells #[.int .i64 x.k, .int .i64 x.g, .int .i64 x.m, .int .i64 x.p, .int .i64 x.v] 42)).alloc (.cells #[.int .i64 x.k, .int .i64 x.g, .int .i64 x.m, .int .i64 x.p, .int .i64 x.v] 42)).heap[w2.heap.size + 1]? = some (.cells #[.int .i64 x.k, .int .i64 x.g, .int .i64 x.m, .int .i64 x.p, .int .i64 x.v] 42 (0, 0)) := by
              show ((w2.heap.push _).push _)[w2.heap.size + 1]? = _
              rw [show w2.heap.size + 1 = (w2.heap.push (.cells #[.int .i64 x.k, .int .i64 x.g, .int .i64 x.m, .int .i64 x.p, .int .i64 x.v] 42)).size by simp, Array.getElem?_push_size]
            have J4 := J3.alloc (by have := J2.size; simp; omega) (.cells #[.int .i64 x.k, .int .i64 x.g, .int .i64 x.m, .int .i64 x.p, .int .i64 x.v] 42)
            have O4 := Lib.hid o4
            have HX4 := Lib.hid hx4
            clear hx hb K J2 J3 h1 o2 o4 hx4 hx3 hw3 HO
            go_wp2_with (at_builtin; refine append_ref rfl _ _ rfl w.heap.size _ ((ws.take j).map evOf) rfl O4.out _ x rfl HX4.out (by omega) J4.size ?_)
            intro v3 w5 o5 b5
            have K := J4.trans b5
            have O5 := Lib.hid o5
            clear J4 b5 O4 HX4 o5
            go_wp2_with (go_at_call 14; refine (hcc _).mono ?_; rintro e w6 ⟨rfl, hb⟩)
            go_roundw
            case rel =>
              have et : ws.take (j + 1) = ws.take j ++ [c.data.toList] := by rw [List.take_add_one, HL.out]; rfl
              refine ⟨i + 1, j + 1, ⟨#[]⟩, by simp, hj1, rfl, Nat.zero_le _, ?_, ?_, ?_, K.trans (hb.mono K.size)⟩
              · rw [et, sumAt_snoc, HCD.out]
                congr 1
              · rcases HCS.out with ⟨a, _, hr⟩ | ⟨a, hr⟩
                · exact .inl ⟨by omega, by rw [HD1.out, hr]⟩
                · refine .inr ⟨by omega, ?_⟩
                  have h0 := HD1.out
                  rw [hr, List.drop_eq_nil_iff] at h0
                  omega
              · rw [et, List.map_append, List.map_cons, List.map_nil, ← HX.out]
                simpa using own_below O5.out hb
            case measure => simp only [iOf_int]; omega
        | false =>
          rw [hwd] at h1
          simp only [evV] at h1
          have hjg := Lib.hid (g2 hwd)
          clear g1 g2 hwd
          rcases htst with ⟨his, htst⟩ | his
          all_goals
            go_wp2_with fail
            refine (h1 _).mono ?_
            rintro e w2 ⟨x, rfl, _, hb⟩
            have J2 := K.trans (hb.mono K.size)
            have o2 := own_below HO.out hb
            have O2 := Lib.hid o2
            clear o2 hb K h1 HO
            go_wp2
            go_returns
            exact RRes.bad hjg.out hjl (own_below O2.out ((Below.refl _ w2).alloc (Nat.le_refl _) _)) (J2.alloc J2.size _)
    · have hg : goodN ws = ws.length := by omega
      have HG := Lib.hid hg
      have HJ := Lib.hid hjl
      have hiI : (s.size : Int) < i := by omega
      clear hg hjl hi
      go_wp2
      go_returns
      exact RRes.ok HJ.out HG.out HO.out K

set_option maxHeartbeats 8000000 in
set_option maxRecDepth 100000 in
theorem rparse_empty (w : World) :
    Calls Tryd.prog 24 #[.string ⟨#[]⟩] w fun r w' => r = .returned (.tuple #[.slice none 0 0, .int .i64 (-1)]) ∧ w' = w := by
  go_enter Tryd.func24, Tryd.ntmps24
  go_wp2
  go_returns
  exact ⟨rfl, rfl⟩
theorem no_bytes (s : ByteArray) (h0 : s.size = 0) : s = ⟨#[]⟩ := by
  apply ByteArray.ext
  apply Array.ext'
  rw [Lib.size_eq] at h0
  exact List.length_eq_zero_iff.1 h0
/-- The document's parse, of any text. -/
theorem rparse_any (s : ByteArray) (hs : s.size ≤ 400) (w : World) :
    Calls Tryd.prog 24 #[.string s] w fun r w' => ∃ v, r = .returned (.tuple #[v, .int .i64 (if pOk s.data.toList then -1 else (pWrong s.data.toList : Int))]) ∧ RfArg w' v (pEvs s.data.toList) ∧ Below w.heap.size w w' := by
  by_cases h0 : s.size = 0
  · obtain rfl := no_bytes s h0
    refine (rparse_empty w).mono ?_
    rintro r w' ⟨rfl, rfl⟩
    exact ⟨_, by simp [pOk], .inl ⟨rfl, by simp [pEvs]⟩, Below.refl _ _⟩
  · have hl0 : s.data.toList ≠ [] := by intro h; apply h0; rw [Lib.size_eq, h]; rfl
    have eE : pEvs s.data.toList = ((wordsA [] s.data.toList).take (goodN (wordsA [] s.data.toList))).map evOf := by unfold pEvs; rw [if_neg hl0]
    have eO : pOk s.data.toList = decide (goodN (wordsA [] s.data.toList) = (wordsA [] s.data.toList).length) := by unfold pOk; rw [Bool.eq_iff_iff]; simp [hl0]
    have eW : pWrong s.data.toList = sumAt ((wordsA [] s.data.toList).take (goodN (wordsA [] s.data.toList))) := rfl
    rw [eE, eO, eW]
    simp only [decide_eq_true_eq]
    refine (refParse_words s hs h0 w).mono ?_
    rintro r w' ⟨v, hr, ho, hb⟩
    exact ⟨v, hr, own_ref ho, hb⟩
end Go.Proofs.YtnkbddebafcjbaaDoor
