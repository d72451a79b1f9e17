/-
  glyph.Word: the text of an event.
-/
import Derived.Sort.Grow
import Derived.Lib.ItoaLen
import Derived.Test.YtnkbddebafcjbaaDoorGlRight
namespace Go.Proofs.YtnkbddebafcjbaaDoor
open Go Go.RowKit Go.Proofs

theorem bldAt_below {T e : TypeId} {B b : Nat} {p : Value} {bs : List Value} {W W' : World} (h : Lib.BuilderAtF T e B b p bs W) (hb : Below W.heap.size W W') : Lib.BuilderAtF T e B b p bs W' := by
  obtain ⟨hB, v, hbk, hown, hne⟩ := h
  refine ⟨hB, v, (below_heap hb (box_lt hbk)).trans hbk, ⟨hown.1, ?_⟩, hne⟩
  rcases hown.2 with hn | ⟨g, cap, cur, fz, hv, hbg, hg, rest⟩
  · exact .inl hn
  · exact .inr ⟨g, cap, cur, fz, hv, hbg, (below_heap hb (box_lt hg)).trans hg, rest⟩
theorem bld_below {T e : TypeId} {B b : Nat} {bs : List Value} {W W' : World} (h : Lib.IsBuilderF T e B b bs W) (hb : Below W.heap.size W W') : Lib.IsBuilderF T e B b bs W' :=
  h.elim (fun x => .inl (bldAt_below x hb)) (fun x => .inr (bldAt_below x hb))
theorem below_grow (w : World) (n : Nat) (os : Array Obj) : Below w.heap.size w (Sort.grow (w.drewN n) os) :=
  ⟨rfl, rfl, rfl, by simp [Sort.grow, World.drewN], fun k hk => by simp [Sort.grow, World.drewN, Array.getElem?_append_left, hk]⟩

abbrev TabAt (w : World) : Prop := Lib.TabIs Tryd.prog w "internal/strconv.uint64pow10" .u64 Lib.pow10Tab
theorem gPow : Tryd.prog.globalNamed "internal/strconv.uint64pow10" = some 1 := by kernel_rfl
theorem tab_below {w w' : World} (h : TabAt w) (hb : Below w.heap.size w w') : TabAt w' := by
  unfold TabAt Lib.TabIs World.var? at h ⊢
  rw [gPow] at h ⊢
  simp only [Option.bind_some] at h ⊢
  have hlt : 1 < w.heap.size := by
    rcases Nat.lt_or_ge 1 w.heap.size with h' | h'
    · exact h'
    · simp [Array.getElem?_eq_none h'] at h
  rw [below_heap hb hlt]
  exact h

theorem itoa_any (n : Int) (h0 : -9223372036854775808 ≤ n) (h1 : n ≤ 9223372036854775807) (w : World) (ht : TabAt w) :
    Calls Tryd.prog 31 #[.int .i64 n] w fun e w' => e = .returned (.string ⟨(Lib.itoa n).toArray⟩) ∧ Below w.heap.size w w' := by
  refine (Tryd.strconv_Itoa n h0 h1 w ht).mono ?_
  rintro e w' ⟨rfl, k, os, rfl⟩
  exact ⟨rfl, below_grow w k os⟩
theorem fmt_any (n : Int) (h0 : -9223372036854775808 ≤ n) (h1 : n ≤ 9223372036854775807) (w : World) (ht : TabAt w) :
    Calls Tryd.prog 32 #[.int .i64 n, .int .i64 10] w fun e w' => e = .returned (.string ⟨(Lib.itoa n).toArray⟩) ∧ Below w.heap.size w w' := by
  refine (Tryd.strconv_FormatInt_10 n h0 h1 w ht).mono ?_
  rintro e w' ⟨rfl, k, os, rfl⟩
  exact ⟨rfl, below_grow w k os⟩
abbrev BldAt (b : Nat) (acc : List UInt8) (w : World) : Prop := Lib.IsBuilderF 62 5 b b (Lib.byteCells acc) w
theorem wStr (b : Nat) (acc : List UInt8) (s : ByteArray) (w : World) (h : BldAt b acc w) (hlen : acc.length + s.size ≤ 1000) (hb : b ≤ w.heap.size) :
    Calls Tryd.prog 30 #[.pointer (some ⟨b, 0, none⟩), .string s] w fun e w' => e = .returned (.tuple #[.int .i64 s.size, .nilIface]) ∧ BldAt b (acc ++ s.data.toList) w' ∧ Below b w w' := by
  refine (writeString b b _ s w h (by rw [Lib.byteCells_length]; omega) hb).mono ?_
  rintro e w' ⟨rfl, h1, h2, _⟩
  exact ⟨rfl, Or.inr (by rw [Lib.byteCells_append]; exact h1), h2⟩
theorem wRune (b : Nat) (acc : List UInt8) (r : Int) (hr0 : -2147483648 ≤ r) (hr1 : r ≤ 2147483647) (w : World) (h : BldAt b acc w) (hlen : acc.length ≤ 1000) (hb : b ≤ w.heap.size) :
    Calls Tryd.prog 29 #[.pointer (some ⟨b, 0, none⟩), .int .i32 r] w fun e w' => e = .returned (.tuple #[.int .i64 (Lib.runeCells r).length, .nilIface]) ∧ BldAt b (acc ++ Lib.encodeRune r) w' ∧ Below b w w' := by
  refine (writeRune b b _ r hr0 hr1 w h (by rw [Lib.byteCells_length]; omega) hb).mono ?_
  rintro e w' ⟨rfl, h1, h2, _⟩
  exact ⟨rfl, Or.inr (by rw [Lib.byteCells_append, Lib.byteCells_encodeRune]; exact h1), h2⟩
theorem wGet (b : Nat) (acc : List UInt8) (w : World) (h : BldAt b acc w) (hb : b ≤ w.heap.size) :
    Calls Tryd.prog 33 #[.pointer (some ⟨b, 0, none⟩)] w fun e w' => e = .returned (.string ⟨acc.toArray⟩) ∧ Below b w w' := by
  refine (Tryd.Builder_String_any_k b b acc w h hb).mono ?_
  rintro e w' ⟨rfl, _, h2, _⟩
  exact ⟨rfl, h2⟩
theorem szA (l : List UInt8) : (⟨l.toArray⟩ : ByteArray).size = l.length := by simp [ByteArray.size]
theorem runeOf_le (k : Int) : 0 ≤ runeOf k ∧ runeOf k ≤ 10013 := by
  unfold runeOf
  split
  · rename_i h
    obtain ⟨n, rfl⟩ : ∃ n : Nat, k = n := ⟨k.toNat, by omega⟩
    have : ∀ n < 8, kRune n ≤ 10013 := by decide
    have := this n (by omega)
    simp only [Int.toNat_natCast]
    omega
  · omega
theorem encodeRune_le (r : Int) : (Lib.encodeRune r).length ≤ 4 := by
  rw [← Lib.runeCells_length]; exact (Lib.runeCells_le r).2

def wordOf (e : Ev) : List UInt8 :=
  Lib.encodeRune (runeOf e.k) ++ Lib.itoa e.g ++ (if 0 ≤ e.m then 109 :: Lib.itoa e.m else []) ++ (if 0 ≤ e.p then 112 :: Lib.itoa e.p else []) ++ (if e.v ≠ 0 then 61 :: Lib.itoa e.v else [])

set_option maxHeartbeats 4000000 in
set_option maxRecDepth 100000 in
theorem word_bad (e : Ev) (he : rightOf e = false) (w : World) (h : KindsAt w) :
    Calls Tryd.prog 18 #[evV e] w fun r w' => r = .returned (.tuple #[.string ⟨#[]⟩, .int .i64 1]) ∧ Below w.heap.size w w' := by
  obtain ⟨k, g, m, p, v⟩ := e
  have hr := fun w h => right_any ⟨k, g, m, p, v⟩ w h
  simp only [evV, he] at hr ⊢
  go_enter Tryd.func18, Tryd.ntmps18
  go_wp2_with (go_at_call 28; refine (hr _ (h.alloc _)).mono ?_; rintro e w1 ⟨rfl, hb⟩)
  go_returns
  exact ⟨rfl, ((Below.refl _ w).alloc (Nat.le_refl _) _).trans (hb.mono (by simp))⟩

set_option maxHeartbeats 8000000 in
set_option maxRecDepth 100000 in
theorem word_ok (e : Ev) (he : rightOf e = true) (hv0 : -9223372036854775808 ≤ e.v) (hv1 : e.v ≤ 9223372036854775807) (w : World) (h : KindsAt w) (ht : TabAt w) :
    Calls Tryd.prog 18 #[evV e] w fun r w' => r = .returned (.tuple #[.string ⟨(wordOf e).toArray⟩, .int .i64 0]) ∧ Below w.heap.size w w' := by
  obtain ⟨k, g, m, p, v⟩ := e
  have hr := fun w h => right_any ⟨k, g, m, p, v⟩ w h
  simp only [evV, he] at hr hv0 hv1 ⊢
  have hq := he
  simp only [rightOf, decide_eq_true_eq] at hq
  obtain ⟨k0, k1, g0, g1, m0, m1, p0, p1, _⟩ := hq
  go_enter Tryd.func18, Tryd.ntmps18
  go_wp2_with (go_at_call 28; refine (hr _ (h.alloc _)).mono ?_)
  rintro e w1 ⟨rfl, hb⟩
  have hx := below_box hb
  have hlt := box_lt hx
  have hb0 : Below w.heap.size w w1 := ((Below.refl _ w).alloc (Nat.le_refl _) _).trans (hb.mono (by simp))
  have t1 := tab_below ht hb0
  have d1 := box_cell hx 1
  have d2 := box_cell hx 2
  have d3 := box_cell hx 3
  have d4 := box_cell hx 4
  have c0 := box_cell hx 0
  simp only [List.getElem?_toArray, List.getElem?_cons_zero, List.getElem?_cons_succ] at c0 d1 d2 d3 d4
  clear hb hr hx
  have D1 := Lib.hid d1
  have D2 := Lib.hid d2
  have D3 := Lib.hid d3
  have D4 := Lib.hid d4
  have HB := Lib.hid hb0
  have T1 := Lib.hid t1
  clear d1 d2 d3 d4 hb0 t1 h ht
  have B0 : BldAt w1.heap.size [] (w1.alloc (.cells #[.pointer none, .slice none 0 0] 62)) := Lib.IsBuilderF.of (Lib.fresh_isBuilder 62 5 w1)
  obtain ⟨r0, r1⟩ := runeOf_le k
  have l0 := encodeRune_le (runeOf k)
  have lg := Lib.itoa_length_le g (by omega) (by omega)
  have lm := Lib.itoa_length_le m (by omega) (by omega)
  have lp := Lib.itoa_length_le p (by omega) (by omega)
  have lv := Lib.itoa_length_le v (by omega) (by omega)
  go_wp2_with (go_at_call 9; refine (rune_any k _).mono ?_)
  rintro e w2 ⟨rfl, hb⟩
  have K : Below w1.heap.size w1 w2 := ((Below.refl _ w1).alloc (Nat.le_refl _) _).trans (hb.mono (by simp))
  have I := bld_below B0 hb
  clear hb B0 c0
  go_wp2_with (go_at_call 29; refine (wRune w1.heap.size _ _ (by omega) (by omega) _ I (by simp) K.size).mono ?_)
  rintro e w3 ⟨rfl, I, hb⟩
  have K := K.trans hb
  have c1 := (below_cell K hlt).trans D1.out
  clear hb
  go_wp2_with (go_at_call 31; refine (itoa_any g (by omega) (by omega) _ (tab_below T1.out K)).mono ?_)
  rintro e w4 ⟨rfl, hb⟩
  have I := bld_below I hb
  have K := K.trans (hb.mono K.size)
  clear hb c1
  by_cases hm : 0 ≤ m <;> by_cases hp : 0 ≤ p <;> by_cases hv : v = 0
  all_goals try subst hv
  · go_wp2_with (first
      | (go_at_call 30; refine (wStr w1.heap.size _ _ _ I (by simp [szA]; omega) K.size).mono ?_; rintro e W ⟨rfl, I, hb⟩; have K := K.trans hb; have c2 := (below_cell K hlt).trans D2.out; have c3 := (below_cell K hlt).trans D3.out; have c4 := (below_cell K hlt).trans D4.out; clear hb)
      | (go_at_call 31; refine (itoa_any _ (by omega) (by omega) _ (tab_below T1.out K)).mono ?_; rintro e W ⟨rfl, hb⟩; have I := bld_below I hb; have K := K.trans (hb.mono K.size); clear hb)
      | (go_at_call 32; refine (fmt_any _ (by omega) (by omega) _ (tab_below T1.out K)).mono ?_; rintro e W ⟨rfl, hb⟩; have I := bld_below I hb; have K := K.trans (hb.mono K.size); clear hb)
      | (go_at_call 33; refine (wGet w1.heap.size _ _ I K.size).mono ?_; rintro e W ⟨rfl, hb⟩; have K := K.trans hb; clear hb))
    go_returns
    exact ⟨by simp [wordOf, hm, hp], HB.out.trans (K.mono HB.out.size)⟩
  · go_wp2_with (first
      | (go_at_call 30; refine (wStr w1.heap.size _ _ _ I (by simp [szA]; omega) K.size).mono ?_; rintro e W ⟨rfl, I, hb⟩; have K := K.trans hb; have c2 := (below_cell K hlt).trans D2.out; have c3 := (below_cell K hlt).trans D3.out; have c4 := (below_cell K hlt).trans D4.out; clear hb)
      | (go_at_call 31; refine (itoa_any _ (by omega) (by omega) _ (tab_below T1.out K)).mono ?_; rintro e W ⟨rfl, hb⟩; have I := bld_below I hb; have K := K.trans (hb.mono K.size); clear hb)
      | (go_at_call 32; refine (fmt_any _ (by omega) (by omega) _ (tab_below T1.out K)).mono ?_; rintro e W ⟨rfl, hb⟩; have I := bld_below I hb; have K := K.trans (hb.mono K.size); clear hb)
      | (go_at_call 33; refine (wGet w1.heap.size _ _ I K.size).mono ?_; rintro e W ⟨rfl, hb⟩; have K := K.trans hb; clear hb))
    go_returns
    exact ⟨by simp [wordOf, hm, hp, hv], HB.out.trans (K.mono HB.out.size)⟩
  · go_wp2_with (first
      | (go_at_call 30; refine (wStr w1.heap.size _ _ _ I (by simp [szA]; omega) K.size).mono ?_; rintro e W ⟨rfl, I, hb⟩; have K := K.trans hb; have c2 := (below_cell K hlt).trans D2.out; have c3 := (below_cell K hlt).trans D3.out; have c4 := (below_cell K hlt).trans D4.out; clear hb)
      | (go_at_call 31; refine (itoa_any _ (by omega) (by omega) _ (tab_below T1.out K)).mono ?_; rintro e W ⟨rfl, hb⟩; have I := bld_below I hb; have K := K.trans (hb.mono K.size); clear hb)
      | (go_at_call 32; refine (fmt_any _ (by omega) (by omega) _ (tab_below T1.out K)).mono ?_; rintro e W ⟨rfl, hb⟩; have I := bld_below I hb; have K := K.trans (hb.mono K.size); clear hb)
      | (go_at_call 33; refine (wGet w1.heap.size _ _ I K.size).mono ?_; rintro e W ⟨rfl, hb⟩; have K := K.trans hb; clear hb))
    go_returns
    exact ⟨by simp [wordOf, hm, hp], HB.out.trans (K.mono HB.out.size)⟩
  · go_wp2_with (first
      | (go_at_call 30; refine (wStr w1.heap.size _ _ _ I (by simp [szA]; omega) K.size).mono ?_; rintro e W ⟨rfl, I, hb⟩; have K := K.trans hb; have c2 := (below_cell K hlt).trans D2.out; have c3 := (below_cell K hlt).trans D3.out; have c4 := (below_cell K hlt).trans D4.out; clear hb)
      | (go_at_call 31; refine (itoa_any _ (by omega) (by omega) _ (tab_below T1.out K)).mono ?_; rintro e W ⟨rfl, hb⟩; have I := bld_below I hb; have K := K.trans (hb.mono K.size); clear hb)
      | (go_at_call 32; refine (fmt_any _ (by omega) (by omega) _ (tab_below T1.out K)).mono ?_; rintro e W ⟨rfl, hb⟩; have I := bld_below I hb; have K := K.trans (hb.mono K.size); clear hb)
      | (go_at_call 33; refine (wGet w1.heap.size _ _ I K.size).mono ?_; rintro e W ⟨rfl, hb⟩; have K := K.trans hb; clear hb))
    go_returns
    exact ⟨by simp [wordOf, hm, hp, hv], HB.out.trans (K.mono HB.out.size)⟩
  · go_wp2_with (first
      | (go_at_call 30; refine (wStr w1.heap.size _ _ _ I (by simp [szA]; omega) K.size).mono ?_; rintro e W ⟨rfl, I, hb⟩; have K := K.trans hb; have c2 := (below_cell K hlt).trans D2.out; have c3 := (below_cell K hlt).trans D3.out; have c4 := (below_cell K hlt).trans D4.out; clear hb)
      | (go_at_call 31; refine (itoa_any _ (by omega) (by omega) _ (tab_below T1.out K)).mono ?_; rintro e W ⟨rfl, hb⟩; have I := bld_below I hb; have K := K.trans (hb.mono K.size); clear hb)
      | (go_at_call 32; refine (fmt_any _ (by omega) (by omega) _ (tab_below T1.out K)).mono ?_; rintro e W ⟨rfl, hb⟩; have I := bld_below I hb; have K := K.trans (hb.mono K.size); clear hb)
      | (go_at_call 33; refine (wGet w1.heap.size _ _ I K.size).mono ?_; rintro e W ⟨rfl, hb⟩; have K := K.trans hb; clear hb))
    go_returns
    exact ⟨by simp [wordOf, hm, hp], HB.out.trans (K.mono HB.out.size)⟩
  · go_wp2_with (first
      | (go_at_call 30; refine (wStr w1.heap.size _ _ _ I (by simp [szA]; omega) K.size).mono ?_; rintro e W ⟨rfl, I, hb⟩; have K := K.trans hb; have c2 := (below_cell K hlt).trans D2.out; have c3 := (below_cell K hlt).trans D3.out; have c4 := (below_cell K hlt).trans D4.out; clear hb)
      | (go_at_call 31; refine (itoa_any _ (by omega) (by omega) _ (tab_below T1.out K)).mono ?_; rintro e W ⟨rfl, hb⟩; have I := bld_below I hb; have K := K.trans (hb.mono K.size); clear hb)
      | (go_at_call 32; refine (fmt_any _ (by omega) (by omega) _ (tab_below T1.out K)).mono ?_; rintro e W ⟨rfl, hb⟩; have I := bld_below I hb; have K := K.trans (hb.mono K.size); clear hb)
      | (go_at_call 33; refine (wGet w1.heap.size _ _ I K.size).mono ?_; rintro e W ⟨rfl, hb⟩; have K := K.trans hb; clear hb))
    go_returns
    exact ⟨by simp [wordOf, hm, hp, hv], HB.out.trans (K.mono HB.out.size)⟩
  · go_wp2_with (first
      | (go_at_call 30; refine (wStr w1.heap.size _ _ _ I (by simp [szA]; omega) K.size).mono ?_; rintro e W ⟨rfl, I, hb⟩; have K := K.trans hb; have c2 := (below_cell K hlt).trans D2.out; have c3 := (below_cell K hlt).trans D3.out; have c4 := (below_cell K hlt).trans D4.out; clear hb)
      | (go_at_call 31; refine (itoa_any _ (by omega) (by omega) _ (tab_below T1.out K)).mono ?_; rintro e W ⟨rfl, hb⟩; have I := bld_below I hb; have K := K.trans (hb.mono K.size); clear hb)
      | (go_at_call 32; refine (fmt_any _ (by omega) (by omega) _ (tab_below T1.out K)).mono ?_; rintro e W ⟨rfl, hb⟩; have I := bld_below I hb; have K := K.trans (hb.mono K.size); clear hb)
      | (go_at_call 33; refine (wGet w1.heap.size _ _ I K.size).mono ?_; rintro e W ⟨rfl, hb⟩; have K := K.trans hb; clear hb))
    go_returns
    exact ⟨by simp [wordOf, hm, hp], HB.out.trans (K.mono HB.out.size)⟩
  · go_wp2_with (first
      | (go_at_call 30; refine (wStr w1.heap.size _ _ _ I (by simp [szA]; omega) K.size).mono ?_; rintro e W ⟨rfl, I, hb⟩; have K := K.trans hb; have c2 := (below_cell K hlt).trans D2.out; have c3 := (below_cell K hlt).trans D3.out; have c4 := (below_cell K hlt).trans D4.out; clear hb)
      | (go_at_call 31; refine (itoa_any _ (by omega) (by omega) _ (tab_below T1.out K)).mono ?_; rintro e W ⟨rfl, hb⟩; have I := bld_below I hb; have K := K.trans (hb.mono K.size); clear hb)
      | (go_at_call 32; refine (fmt_any _ (by omega) (by omega) _ (tab_below T1.out K)).mono ?_; rintro e W ⟨rfl, hb⟩; have I := bld_below I hb; have K := K.trans (hb.mono K.size); clear hb)
      | (go_at_call 33; refine (wGet w1.heap.size _ _ I K.size).mono ?_; rintro e W ⟨rfl, hb⟩; have K := K.trans hb; clear hb))
    go_returns
    exact ⟨by simp [wordOf, hv, show ¬ 0 ≤ m by omega, show ¬ 0 ≤ p by omega], HB.out.trans (K.mono HB.out.size)⟩
end Go.Proofs.YtnkbddebafcjbaaDoor
