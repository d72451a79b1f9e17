/-
  glyph.number: what is read behind a sign.
-/
import Derived.BigQuiet
import Derived.Deep.QuietTactic
import Derived.Test.YtnkbddebafcjbaaDoorGlCut
import Derived.Test.YtnkbddebafcjbaaDoorGlNum2
import Derived.Test.YtnkbddebafcjbaaDoorGlJoins1
namespace Go.Proofs.YtnkbddebafcjbaaDoor
open Go Go.RowKit Go.Proofs

/-- The two errors that strconv hands on hold something. -/
structure ErrsAt (w : World) : Prop where
  syn : ∃ tp p, w.var? Tryd.prog "strconv.ErrSyntax" = some #[.iface tp p]
  rng : ∃ tp p, w.var? Tryd.prog "strconv.ErrRange" = some #[.iface tp p]
theorem gSyn : Tryd.prog.globalNamed "strconv.ErrSyntax" = some 7 := by kernel_rfl
theorem gRng : Tryd.prog.globalNamed "strconv.ErrRange" = some 8 := by kernel_rfl
theorem var_below {n : String} {g : Nat} (hg : Tryd.prog.globalNamed n = some g) {w w' : World} {cs : Array Value} (h : w.var? Tryd.prog n = some cs) (hb : Below w.heap.size w w') : w'.var? Tryd.prog n = some cs := by
  unfold World.var? at h ⊢
  rw [hg] at h ⊢
  simp only [Option.bind_some] at h ⊢
  have hlt : g < w.heap.size := by
    rcases Nat.lt_or_ge g w.heap.size with h' | h'
    · exact h'
    · simp [Array.getElem?_eq_none h'] at h
  rw [below_heap hb hlt]
  exact h
theorem ErrsAt.below {w w' : World} (h : ErrsAt w) (hb : Below w.heap.size w w') : ErrsAt w' := by
  obtain ⟨⟨t1, p1, h1⟩, ⟨t2, p2, h2⟩⟩ := h
  exact ⟨⟨t1, p1, var_below gSyn h1 hb⟩, ⟨t2, p2, var_below gRng h2 hb⟩⟩

/-- strconv.ParseInt at base 10, 64 bits. -/
theorem parse_ok (s : ByteArray) (hs : s.size ≤ 100000) (v : Int) (h : Lib.parseIntB 64 s.data.toList = .ok v) (w : World) :
    Calls Tryd.prog 63 #[.string s, .int .i64 10, .int .i64 64] w fun e w' => e = .returned (.tuple #[.int .i64 v, .nilIface]) ∧ Below w.heap.size w w' := by
  refine (Tryd.strconv_ParseInt_10_at64_ok s (by omega) v h w).mono ?_
  rintro e w' ⟨rfl, hw⟩
  refine ⟨rfl, ?_⟩
  rcases hw with rfl | ⟨t, rfl⟩
  · exact Below.refl _ _
  · exact Lib.bytesWorld_below _ _ _
theorem parse_no (s : ByteArray) (hs : s.size ≤ 100000) (h : ∀ v, Lib.parseIntB 64 s.data.toList ≠ .ok v) (w : World) (hE : ErrsAt w) :
    Calls Tryd.prog 63 #[.string s, .int .i64 10, .int .i64 64] w fun e w' => ∃ x t p, e = .returned (.tuple #[.int .i64 x, .iface t p]) ∧ Below w.heap.size w w' := by
  obtain ⟨⟨t1, p1, h1⟩, ⟨t2, p2, h2⟩⟩ := hE
  rcases hc : Lib.parseIntB 64 s.data.toList with v | _ | _
  · exact absurd hc (h v)
  · refine (Any.strconv_ParseInt_10_at64_syntax_var Tryd.laysC174 s (by omega) hc t1 p1 w h1).mono ?_
    rintro e w' ⟨N, rfl, _, _, hb⟩
    exact ⟨_, _, _, rfl, hb⟩
  · refine (Tryd.strconv_ParseInt_10_at64_range_var s (by omega) hc t2 p2 w h2).mono ?_
    rintro e w' ⟨N, rfl, _, _, hb⟩
    exact ⟨_, _, _, rfl, hb⟩

/-- A byte that is read by the loop, at a place. -/
def takes (b : UInt8) (j : Nat) : Bool := isDig b || (j == 0 && b == 45)
theorem takes_lt (l : List UInt8) (j : Nat) (hj : j ≤ numLen l) (b : UInt8) (hb : l[j]? = some b) : takes b j = decide (j < numLen l) := by
  cases l with
  | nil => simp at hb
  | cons a r =>
    rw [numLen] at hj ⊢
    by_cases ha : a = 45
    · subst ha
      rw [if_pos rfl] at hj ⊢
      cases j with
      | zero => simp at hb; subst hb; simp [takes]
      | succ j =>
        have hb : r[j]? = some b := by simpa using hb
        by_cases hd : j < digLen r
        · obtain ⟨b', h1, h2⟩ := digLen_at r j hd
          rw [h1] at hb
          obtain rfl := Option.some.inj hb
          have : isDig b' = true := by unfold isDig; rw [decide_eq_true_eq]; exact h2
          simp [takes, this, hd]
        · obtain rfl : j = digLen r := by omega
          have := digLen_end r b hb
          simp [takes, this]
    · rw [if_neg ha] at hj ⊢
      by_cases hd : j < digLen (a :: r)
      · obtain ⟨b', h1, h2⟩ := digLen_at (a :: r) j hd
        rw [h1] at hb
        obtain rfl := Option.some.inj hb
        have : isDig b' = true := by unfold isDig; rw [decide_eq_true_eq]; exact h2
        simp [takes, this, hd]
      · obtain rfl : j = digLen (a :: r) := by omega
        have := digLen_end (a :: r) b hb
        cases hl : digLen (a :: r) with
        | zero =>
          rw [hl] at hb
          simp at hb
          subst hb
          simp [takes, this, ha]
        | succ n => simp [takes, this]
/-- The rune at a place, against the byte there. -/
theorem rune_byte (s : ByteArray) (j : Nat) (h : j < s.size) : ∃ b, s.data.toList[j]? = some b ∧ ((b.toNat < 128 ∧ Utf8.decode s j = (b.toNat, 1)) ∨ (128 ≤ b.toNat ∧ 128 ≤ (Utf8.decode s j).1)) := by
  have hl : j < s.data.toList.length := by rw [Array.length_toList]; exact h
  refine ⟨s.data.toList[j], List.getElem?_eq_getElem hl, ?_⟩
  have hg : s.data.toList.getD j 0 = s.data.toList[j] := by simp [List.getD_eq_getElem?_getD, List.getElem?_eq_getElem hl]
  rw [Lib.decode_N, hg]
  generalize s.data.toList[j] = b
  by_cases hb : b.toNat < 128
  · left
    refine ⟨hb, ?_⟩
    unfold Lib.decodeN
    rw [if_pos hb]
  · right
    refine ⟨by omega, ?_⟩
    unfold Lib.decodeN
    rw [if_neg hb]
    repeat' split
    all_goals simp only []
    all_goals omega
theorem isDig_lt {b : UInt8} (h : isDig b = true) : b.toNat < 128 := by
  unfold isDig at h
  rw [decide_eq_true_eq] at h
  omega

set_option maxHeartbeats 8000000 in
set_option maxRecDepth 100000 in
theorem number_any (s sign : ByteArray) (x : Int) (hs : s.size ≤ 20000) (w : World) (hE : ErrsAt w) :
    Calls Tryd.prog 48 #[.string s, .string sign, .int .i64 x] w fun e w' => ∃ r : ByteArray, e = .returned (.tuple #[.int .i64 (numV s.data.toList sign.data.toList x), .string r]) ∧ r.data.toList = numR s.data.toList sign.data.toList ∧ Below w.heap.size w w' := by
  cases hp : Lib.hasPrefix s.data.toList sign.data.toList with
  | false =>
    have e1 : numV s.data.toList sign.data.toList x = x := by unfold numV; rw [hp]; rfl
    have e2 : numR s.data.toList sign.data.toList = s.data.toList := by unfold numR; rw [hp]; rfl
    rw [e1, e2]
    clear e1 e2
    have hc := Tryd.strings_CutPrefix s sign
    rw [hp] at hc
    clear hp
    go_enter Tryd.func48, Tryd.ntmps48
    go_wp2_with (go_at_call 62; refine (hc _).mono ?_; rintro e w1 ⟨rfl, rfl⟩)
    go_returns
    exact ⟨s, rfl, rfl, Below.refl _ _⟩
  | true =>
    have hc := Tryd.strings_CutPrefix s sign
    rw [hp] at hc
    have ht := trim_le s.data.toList sign.data.toList
    rw [← Lib.size_eq] at ht
    have V : numV s.data.toList sign.data.toList x = (match Lib.parseIntB 64 ((Lib.trimPrefix s.data.toList sign.data.toList).take (numLen (Lib.trimPrefix s.data.toList sign.data.toList))) with | .ok v => v | _ => 0) := by unfold numV; rw [hp]; rfl
    have R : numR s.data.toList sign.data.toList = (match Lib.parseIntB 64 ((Lib.trimPrefix s.data.toList sign.data.toList).take (numLen (Lib.trimPrefix s.data.toList sign.data.toList))) with | .ok _ => (Lib.trimPrefix s.data.toList sign.data.toList).drop (numLen (Lib.trimPrefix s.data.toList sign.data.toList)) | _ => [63]) := by unfold numR; rw [hp]; rfl
    rw [V, R]
    clear V R hp
    revert hc ht
    generalize Lib.trimPrefix s.data.toList sign.data.toList = tl
    intro hc ht
    obtain ⟨t, htl⟩ : ∃ t : ByteArray, t = ⟨tl.toArray⟩ := ⟨_, rfl⟩
    obtain rfl : tl = t.data.toList := by rw [htl]
    rw [← htl] at hc
    rw [← Lib.size_eq] at ht
    clear htl
    have hnl := numLen_le t.data.toList
    rw [← Lib.size_eq] at hnl
    obtain ⟨n, hn⟩ : ∃ n, n = numLen t.data.toList := ⟨_, rfl⟩
    have HN := Lib.hid hn
    rw [← hn] at hnl ⊢
    clear hn
    have e1 := Lib.extract_from_zero t n
    have e2 := Lib.extract_to_end t n
    have hP : (∃ v, Lib.parseIntB 64 (t.data.toList.take n) = .ok v) ∨ ∀ v, Lib.parseIntB 64 (t.data.toList.take n) ≠ .ok v := by
      by_cases h : ∃ v, Lib.parseIntB 64 (t.data.toList.take n) = .ok v
      · exact .inl h
      · exact .inr fun v hv => h ⟨v, hv⟩
    have hsz : (t.extract 0 n).size ≤ 100000 := by rw [Lib.size_eq, e1, List.length_take]; omega
    have E1 := Lib.hid e1
    have E2 := Lib.hid e2
    clear e1 e2
    rcases hP with ⟨v, hv⟩ | hv
    · have HV : Hid ((match Lib.parseIntB 64 (t.data.toList.take n) with | .ok v => v | _ => 0) = v ∧ (match Lib.parseIntB 64 (t.data.toList.take n) with | .ok _ => t.data.toList.drop n | _ => [63]) = t.data.toList.drop n) := Lib.hid (by rw [hv]; exact ⟨rfl, rfl⟩)
      have hn0 : 0 < n := by
        rcases Nat.eq_zero_or_pos n with h | h
        · rw [h] at hv; cases hv
        · exact h
      rw [HV.out.1, HV.out.2]
      clear HV
      have HV := Lib.hid hv
      clear hv
      go_enter Tryd.func48, Tryd.ntmps48
      go_wp2_with (go_at_call 62; refine (hc _).mono ?_; rintro e w1 ⟨rfl, rfl⟩)
      clear hc
      go_loopw [10] (fun nv wr => ∃ j : Nat, nv = .int .i64 (j : Int) ∧ j ≤ n ∧ wr.heap[w1.heap.size]? = some (.stringIter t j) ∧ Below w1.heap.size w1 wr) (fun nv _ => t.size + 1 - iOf nv)
      case atStart =>
        refine ⟨0, rfl, by omega, ?_, (Below.refl _ w1).alloc (Nat.le_refl _) _⟩
        exact World.iter_heap w1 t 0
      case round =>
        obtain ⟨j, rfl, hj, hit, K⟩ := hrel
        by_cases hp : j < t.size
        · have hnx : ∀ ty, (Instr.next (.pointer (some ⟨w1.heap.size, 0, none⟩)) true ty).run Tryd.prog wr = _ := fun ty => Lib.run_next_any_at wr w1.heap.size t j ty hit hp
          have K := Lib.below_iterAt K (k := w1.heap.size) (Nat.le_refl _) t (j + (Utf8.decode t j).2)
          have hit := Lib.iterAt_heap wr w1.heap.size t j (j + (Utf8.decode t j).2) hit
          obtain ⟨b, hb, hr⟩ := rune_byte t j hp
          have htk := takes_lt t.data.toList j (by rw [← HN.out]; exact hj) b hb
          rw [← HN.out] at htk
          clear hb
          by_cases hjn : j < n
          · have hcs : (48 ≤ (b.toNat : Int) ∧ (b.toNat : Int) ≤ 57) ∨ (j = 0 ∧ b.toNat = 45) := by
              rw [decide_eq_true hjn] at htk
              simp only [takes, isDig, Bool.or_eq_true, Bool.and_eq_true, beq_iff_eq, decide_eq_true_eq] at htk
              rcases htk with h | ⟨h, rfl⟩
              · left; omega
              · right; exact ⟨h, rfl⟩
            have hd : Utf8.decode t j = (b.toNat, 1) := by rcases hr with h | h; exact h.2; exfalso; omega
            rw [hd] at hnx K hit
            clear hr htk hd
            rcases hcs with ⟨c1, c2⟩ | ⟨rfl, c1⟩
            · go_wp2
              go_roundw
              case rel => exact ⟨j + 1, by simp, by omega, hit, K⟩
              case measure => simp only [iOf_int]; omega
            · rw [c1] at hnx
              go_wp2
              go_roundw
              case rel => exact ⟨1, by simp, by omega, hit, K⟩
              case measure => simp only [iOf_int]; omega
          · obtain rfl : j = n := by omega
            have hcs : ((Utf8.decode t j).1 : Int) < 48 ∧ (0 < (j : Int) ∨ (¬ 0 < (j : Int) ∧ ¬ ((Utf8.decode t j).1 : Int) = 45)) ∨ 57 < ((Utf8.decode t j).1 : Int) ∧ (0 < (j : Int) ∨ (¬ 0 < (j : Int) ∧ ¬ ((Utf8.decode t j).1 : Int) = 45)) := by
              rcases hr with ⟨h1, h2⟩ | ⟨h1, h2⟩
              · rw [h2]
                rw [decide_eq_false hjn] at htk
                simp only [takes, isDig, Bool.or_eq_false_iff, Bool.and_eq_false_iff, beq_eq_false_iff_ne, decide_eq_false_iff_not] at htk
                dsimp only
                have h45 : b ≠ 45 → b.toNat ≠ 45 := fun h e => h (UInt8.toNat_inj.1 e)
                rcases htk.2 with h | h
                · omega
                · have := h45 h
                  omega
              · right; omega
            clear hr htk
            revert hnx K hit hcs
            generalize Utf8.decode t j = d
            obtain ⟨r, k⟩ := d
            intro hnx K hit hcs
            dsimp only at hnx K hit hcs
            rcases hcs with ⟨c1, c2 | ⟨c2, c3⟩⟩ | ⟨c1, c2 | ⟨c2, c3⟩⟩
            · go_wp2_with fail
              refine (parse_ok _ hsz v (by rw [E1.out]; exact HV.out) _).mono ?_
              rintro e W ⟨rfl, hb⟩
              have K := K.trans (hb.mono K.size)
              clear hb hnx
              try clear c1 c2 hit
              go_wp2
              go_quiet (fail)
              go_wp2
              go_returns
              exact ⟨_, rfl, E2.out, below_drewN K _⟩
            · exfalso
              omega
            · go_wp2_with fail
              refine (parse_ok _ hsz v (by rw [E1.out]; exact HV.out) _).mono ?_
              rintro e W ⟨rfl, hb⟩
              have K := K.trans (hb.mono K.size)
              clear hb hnx
              try clear c1 c2 hit
              go_wp2
              go_quiet (fail)
              go_wp2
              go_returns
              exact ⟨_, rfl, E2.out, below_drewN K _⟩
            · exfalso
              omega
        · obtain rfl : j = n := by omega
          have hnx : ∀ ty, (Instr.next (.pointer (some ⟨w1.heap.size, 0, none⟩)) true ty).run Tryd.prog wr = _ := fun ty => Lib.run_next_end_at wr w1.heap.size t j ty hit hp
          go_wp2_with fail
          refine (parse_ok _ hsz v (by rw [E1.out]; exact HV.out) _).mono ?_
          rintro e W ⟨rfl, hb⟩
          have K := K.trans (hb.mono K.size)
          clear hb hnx
          try clear c1 c2 hit
          go_wp2
          go_quiet (fail)
          go_wp2
          go_returns
          exact ⟨_, rfl, E2.out, below_drewN K _⟩
    · have HV : Hid ((match Lib.parseIntB 64 (t.data.toList.take n) with | .ok v => v | _ => 0) = (0 : Int) ∧ (match Lib.parseIntB 64 (t.data.toList.take n) with | .ok _ => t.data.toList.drop n | _ => [63]) = [63]) := Lib.hid (by
        rcases hc : Lib.parseIntB 64 (t.data.toList.take n) with v | _ | _
        · exact absurd hc (hv v)
        · exact ⟨rfl, rfl⟩
        · exact ⟨rfl, rfl⟩)
      rw [HV.out.1, HV.out.2]
      clear HV
      have HV := Lib.hid hv
      clear hv
      go_enter Tryd.func48, Tryd.ntmps48
      go_wp2_with (go_at_call 62; refine (hc _).mono ?_; rintro e w1 ⟨rfl, rfl⟩)
      clear hc
      go_loopw [10] (fun nv wr => ∃ j : Nat, nv = .int .i64 (j : Int) ∧ j ≤ n ∧ wr.heap[w1.heap.size]? = some (.stringIter t j) ∧ Below w1.heap.size w1 wr) (fun nv _ => t.size + 1 - iOf nv)
      case atStart =>
        refine ⟨0, rfl, by omega, ?_, (Below.refl _ w1).alloc (Nat.le_refl _) _⟩
        exact World.iter_heap w1 t 0
      case round =>
        obtain ⟨j, rfl, hj, hit, K⟩ := hrel
        by_cases hp : j < t.size
        · have hnx : ∀ ty, (Instr.next (.pointer (some ⟨w1.heap.size, 0, none⟩)) true ty).run Tryd.prog wr = _ := fun ty => Lib.run_next_any_at wr w1.heap.size t j ty hit hp
          have K := Lib.below_iterAt K (k := w1.heap.size) (Nat.le_refl _) t (j + (Utf8.decode t j).2)
          have hit := Lib.iterAt_heap wr w1.heap.size t j (j + (Utf8.decode t j).2) hit
          obtain ⟨b, hb, hr⟩ := rune_byte t j hp
          have htk := takes_lt t.data.toList j (by rw [← HN.out]; exact hj) b hb
          rw [← HN.out] at htk
          clear hb
          by_cases hjn : j < n
          · have hcs : (48 ≤ (b.toNat : Int) ∧ (b.toNat : Int) ≤ 57) ∨ (j = 0 ∧ b.toNat = 45) := by
              rw [decide_eq_true hjn] at htk
              simp only [takes, isDig, Bool.or_eq_true, Bool.and_eq_true, beq_iff_eq, decide_eq_true_eq] at htk
              rcases htk with h | ⟨h, rfl⟩
              · left; omega
              · right; exact ⟨h, rfl⟩
            have hd : Utf8.decode t j = (b.toNat, 1) := by rcases hr with h | h; exact h.2; exfalso; omega
            rw [hd] at hnx K hit
            clear hr htk hd
            rcases hcs with ⟨c1, c2⟩ | ⟨rfl, c1⟩
            · go_wp2
              go_roundw
              case rel => exact ⟨j + 1, by simp, by omega, hit, K⟩
              case measure => simp only [iOf_int]; omega
            · rw [c1] at hnx
              go_wp2
              go_roundw
              case rel => exact ⟨1, by simp, by omega, hit, K⟩
              case measure => simp only [iOf_int]; omega
          · obtain rfl : j = n := by omega
            have hcs : ((Utf8.decode t j).1 : Int) < 48 ∧ (0 < (j : Int) ∨ (¬ 0 < (j : Int) ∧ ¬ ((Utf8.decode t j).1 : Int) = 45)) ∨ 57 < ((Utf8.decode t j).1 : Int) ∧ (0 < (j : Int) ∨ (¬ 0 < (j : Int) ∧ ¬ ((Utf8.decode t j).1 : Int) = 45)) := by
              rcases hr with ⟨h1, h2⟩ | ⟨h1, h2⟩
              · rw [h2]
                rw [decide_eq_false hjn] at htk
                simp only [takes, isDig, Bool.or_eq_false_iff, Bool.and_eq_false_iff, beq_eq_false_iff_ne, decide_eq_false_iff_not] at htk
                dsimp only
                have h45 : b ≠ 45 → b.toNat ≠ 45 := fun h e => h (UInt8.toNat_inj.1 e)
                rcases htk.2 with h | h
                · omega
                · have := h45 h
                  omega
              · right; omega
            clear hr htk
            revert hnx K hit hcs
            generalize Utf8.decode t j = d
            obtain ⟨r, k⟩ := d
            intro hnx K hit hcs
            dsimp only at hnx K hit hcs
            rcases hcs with ⟨c1, c2 | ⟨c2, c3⟩⟩ | ⟨c1, c2 | ⟨c2, c3⟩⟩
            · go_wp2_with fail
              refine (parse_no _ hsz (by rw [E1.out]; exact HV.out) _ (hE.below K)).mono ?_
              rintro e W ⟨x, t2, p2, rfl, hb⟩
              have K := K.trans (hb.mono K.size)
              clear hb hnx
              try clear c1 c2 hit
              go_wp2
              go_returns
              exact ⟨_, rfl, rfl, K⟩
            · obtain rfl : j = 0 := by omega
              go_wp2_with fail
              refine (parse_no ByteArray.empty (by decide) (fun v h => by cases h) _ (hE.below (by simpa using K))).mono ?_
              rintro e W ⟨x, t2, p2, rfl, hb⟩
              have K := (show Below w1.heap.size w1 (wr.iterAt w1.heap.size t k) by simpa using K)
              have K := K.trans (hb.mono K.size)
              clear hb hnx
              try clear c1 c2 hit
              go_wp2
              go_returns
              exact ⟨_, rfl, rfl, K⟩
            · go_wp2_with fail
              refine (parse_no _ hsz (by rw [E1.out]; exact HV.out) _ (hE.below K)).mono ?_
              rintro e W ⟨x, t2, p2, rfl, hb⟩
              have K := K.trans (hb.mono K.size)
              clear hb hnx
              try clear c1 c2 hit
              go_wp2
              go_returns
              exact ⟨_, rfl, rfl, K⟩
            · obtain rfl : j = 0 := by omega
              go_wp2_with fail
              refine (parse_no ByteArray.empty (by decide) (fun v h => by cases h) _ (hE.below (by simpa using K))).mono ?_
              rintro e W ⟨x, t2, p2, rfl, hb⟩
              have K := (show Below w1.heap.size w1 (wr.iterAt w1.heap.size t k) by simpa using K)
              have K := K.trans (hb.mono K.size)
              clear hb hnx
              try clear c1 c2 hit
              go_wp2
              go_returns
              exact ⟨_, rfl, rfl, K⟩
        · obtain rfl : j = n := by omega
          have hnx : ∀ ty, (Instr.next (.pointer (some ⟨w1.heap.size, 0, none⟩)) true ty).run Tryd.prog wr = _ := fun ty => Lib.run_next_end_at wr w1.heap.size t j ty hit hp
          go_wp2_with fail
          refine (parse_no _ hsz (by rw [E1.out]; exact HV.out) _ (hE.below K)).mono ?_
          rintro e W ⟨x, t2, p2, rfl, hb⟩
          have K := K.trans (hb.mono K.size)
          clear hb hnx
          try clear c1 c2 hit
          go_wp2
          go_returns
          exact ⟨_, rfl, rfl, K⟩
end Go.Proofs.YtnkbddebafcjbaaDoor
