/-
  Contracts of what a machine has in hand: found, one, hold; a row laid anew.
-/
import Derived.Test.YtfjepdcnikgjeaaGreatDoorTab
import Derived.Test.YtfjepdcnikgjeaaGreatDoorRing3
import Derived.Deep.RegionHeld3
set_option linter.unusedVariables false
set_option linter.unusedSimpArgs false
set_option linter.unusedSectionVars false
namespace Go.Proofs.YtfjepdcnikgjeaaGreatDoor
open Go Go.RowKit Hst Go.Proofs

section
variable {F : Fix} {V : Vol} {ow0 ow : Nat → Nat} {w0 w : World} {p : Wd}

/-- New blocks, whosever they are. -/
theorem On.belowK (h : On F V ow0 w0 ow w p) {w' : World} (b : Below w.heap.size w w') (k : Nat) : On F V ow0 w0 (grow ow w.heap.size k) w' p :=
  ⟨h.at_.same _ (fun _ hb => grow_lt hb) ⟨b.size, fun x hx _ => b.block x hx⟩, h.st.trans ⟨b.os, b.tape, b.output, b.size, fun _ hb => grow_lt hb, fun x hx _ => b.block x hx⟩⟩

theorem ownsRow_far {w : World} {base e size n : Nat} {v : Value} {xs : List Value} {b o : Nat} {u : Value} (h : w.ownsRow base e size v n xs) (hb : v.ownBlock ≠ some b) : (w.setCell ⟨b, o, none⟩ u).ownsRow base e size v n xs := by
  refine ⟨h.1, ?_⟩
  rcases h.2 with hn | ⟨g, cap, cur, rfl, hbg, hg, rest⟩
  · exact .inl hn
  · refine .inr ⟨g, cap, cur, rfl, hbg, ?_, rest⟩
    rw [heap_far (fun e => hb (by simp [Value.ownBlock, e]))]
    exact hg

/-- A machine's row is laid anew. -/
theorem WAt.setRest (h : WAt F V ow w p) {i : Nat} (hi : i < p.M) (v : Value) (l : List Int) (hown : w.ownsRow 0 3 1 v l.length (ints l)) (hin : RowIn (ow · = 1000 + i) v) :
    WAt F { V with rest := fun j => if j = i then v else V.rest j } ow (w.setCell ⟨F.all, i * 18 + 9, none⟩ v) (p.setM i { p.mach i with rest := l }) := by
  obtain ⟨o1, o2, o3, o4, o5, o9, o10, oq⟩ := h.own
  obtain ⟨l1, l2, l3, l4, l5⟩ := h.lens
  have hmach : ∀ j, (p.setM i { p.mach i with rest := l }).mach j = if j = i then { p.mach i with rest := l } else p.mach j := fun j => mach_setM p i j _ (by omega)
  have hvb : v.ownBlock ≠ some F.all := fun e => by have := hin _ e; omega
  refine h.upd (fun k => k = 9 ∨ k = 1000 + i) ⟨rfl, rfl, rfl⟩ ⟨l1, l2, by simpa [Wd.setM] using l3, l4, l5⟩ (fun _ _ => rfl) ((agree_set o9 _ _).mono fun x _ hx => ⟨hx.1, fun e => hx.2 (.inl e)⟩) (.inl ⟨by omega, rfl⟩) (.inl ⟨by omega, rfl⟩) (.inl ⟨by omega, rfl⟩) (by omega) (fun q hq => .inl ⟨by have := h.dim; unfold dims at this; omega, rfl⟩)
    (.inl ⟨by omega, rfl⟩) (.inl ⟨by omega, rfl⟩) (.inl ⟨by omega, rfl⟩) (.inl ⟨by omega, rfl⟩) (.inr ?_) (fun j hj => ?_) (.inl ⟨by omega, rfl⟩) (.inl ⟨by omega, rfl, rfl⟩)
  · refine (h.call.set (i * 18 + 9) (by omega) v).ext fun c hc => ?_
    unfold allCell
    rw [hmach]
    dsimp only
    by_cases e : c / 18 = i
    · rw [if_pos e, if_pos e]
      have hc18 : c % 18 < 18 := Nat.mod_lt _ (by decide)
      by_cases e2 : c % 18 = 9
      · rw [if_pos (by omega), e2]; rfl
      · rw [if_neg (by omega), e]
        rcases lt18 hc18 with h | h | h | h | h | h | h | h | h | h | h | h | h | h | h | h | h | h <;> first | (rw [h]; rfl) | (exact absurd h e2)
    · rw [if_neg (by omega), if_neg e, if_neg e]
  · by_cases e : j = i
    · subst e
      refine .inr ?_
      rw [hmach, if_pos rfl]
      simp only [if_true]
      exact ⟨ownsRow_far hown hvb, hin⟩
    · refine .inl ⟨by omega, ?_, ?_⟩
      · rw [hmach, if_neg e]
      · simp only [if_neg e]

theorem On.s_rest (h : On F V ow0 w0 ow w p) {i : Nat} (hi : i < p.M) (v : Value) (l : List Int) (hown : w.ownsRow 0 3 1 v l.length (ints l)) (hin : RowIn (ow · = 1000 + i) v) :
    On F { V with rest := fun j => if j = i then v else V.rest j } ow0 w0 ow (w.setCell ⟨F.all, i * 18 + 9, none⟩ v) (p.setM i { p.mach i with rest := l }) :=
  ⟨h.at_.setRest hi v l hown hin, h.st.trans (stp_set h.at_.own.2.2.2.2.2.1 (by decide) _ _)⟩
theorem OnM.s_rest {i : Nat} {m : Mach} (h : OnM F V ow0 w0 ow w p i m) (v : Value) (l : List Int) (hown : w.ownsRow 0 3 1 v l.length (ints l)) (hin : RowIn (ow · = 1000 + i) v) :
    OnM F { V with rest := fun j => if j = i then v else V.rest j } ow0 w0 ow (w.setCell ⟨F.all, i * 18 + 9, none⟩ v) p i { m with rest := l } :=
  ⟨(h.on.s_rest h.hi v l hown hin).cast (by rw [mach_self p i m h.len, setM_setM]), h.hi⟩
theorem OnM.belowK {i : Nat} {m : Mach} (h : OnM F V ow0 w0 ow w p i m) {w' : World} (b : Below w.heap.size w w') (k : Nat) : OnM F V ow0 w0 (grow ow w.heap.size k) w' p i m := ⟨h.on.belowK b k, h.hi⟩
end

theorem ownsRow_base {w : World} {base base' e size n : Nat} {v : Value} {xs : List Value} (h : w.ownsRow base e size v n xs) (hb : base' ≤ base) : w.ownsRow base' e size v n xs := by
  refine ⟨h.1, ?_⟩
  rcases h.2 with h2 | ⟨g, cap, cur, hv, hg, rest⟩
  · exact .inl h2
  · exact .inr ⟨g, cap, cur, hv, Nat.le_trans hb hg, rest⟩
theorem rowIn_grow {ow : Nat → Nat} {w : World} {s k base : Nat} {e size n : Nat} {v : Value} {xs : List Value} (h : w.ownsRow base e size v n xs) (hs : s ≤ base) : RowIn (grow ow s k · = k) v := fun g hg => by
  have := h.lt g hg
  exact grow_ge (by omega)

set_option maxRecDepth 100000 in
set_option maxHeartbeats 1600000 in
theorem found_on {F : Fix} {V : Vol} {ow : Nat → Nat} {w : World} {p : Wd} (h : WAt F V ow w p) (i base : Nat) (hi : i < p.M) (v : Value) (l : List Int) (hv : w.ownsRow base 3 1 v l.length (ints l)) (hbig : l.length ≤ 4294967296) (hne : ∀ g, v.ownBlock = some g → ow g ≠ 9 ∧ ow g ≠ 10) :
    Calls Tryz.prog 211 #[.pointer (some ⟨F.W, 0, none⟩), .int .i64 i, v] w fun e w' => e = .returned (.tuple #[]) ∧ ∃ V' ow', V'.logV = V.logV ∧ On F V' ow w ow' w' (p.found i l) := by
  have c10 := h.cW_all
  have c11 := h.cW_flag
  have cA4 := h.cA_got hi
  have cA9 := h.cA_rest hi
  have cf := h.cF hi
  have fA := h.call.2
  have fF := h.cflag.2
  have hM := h.dim
  have hcap := h.own_cap.2
  have o9 := h.own.2.2.2.2.2.1
  have o10 := h.own.2.2.2.2.2.2.1
  obtain ⟨n1, n2, n3, n4, n5, n6, n7, n8, n9, n10, n11, n12, n13, n14, n15, n16, n17, n18⟩ := h.own.ne
  unfold dims at hM
  have H := Lib.hid h
  clear h
  rcases Nat.eq_zero_or_pos l.length with h0 | h0
  · have hl : l = [] := List.eq_nil_of_length_eq_zero h0
    subst hl
    obtain ⟨a, c, rfl⟩ := ownsRow_slice hv
    clear hv hne
    go_enter Tryz.func211, Tryz.ntmps211
    go_wp2
    go_returns
    exact ⟨rfl, V, _, rfl, (On.start H.out).s_flag hi false⟩
  · obtain ⟨g, cap, rfl, hgb, hgl, hcp⟩ := ownsRow_some hv h0
    have hcell : ∀ j, j < l.length → w.cell? ⟨g, j, none⟩ = some (.int .i64 (l.getD j 0)) := fun j hj => by
      rw [hv.cellAt j (by simpa using hj)]; simp [ints, List.getD_eq_getElem?_getD, List.getElem?_eq_getElem hj]
    obtain ⟨g0, t, rfl⟩ := getD_eq l h0
    have hgn := hne g rfl
    have hg9 : F.all ≠ g := fun e => hgn.1 (by rw [← e]; exact o9)
    have hg10 : F.flag ≠ g := fun e => hgn.2 (by rw [← e]; exact o10)
    have hc0 := hcell 0 h0
    simp only [List.getD_cons_zero] at hc0
    clear hv hne hgn
    have Hc := Lib.hid hcell
    clear hcell
    have hpos : (0 : Int) < ((g0 :: t).length : Int) := by omega
    have hl1 : (g0 :: t).length = t.length + 1 := rfl
    obtain ⟨n, hn⟩ : ∃ n, n = (g0 :: t).length := ⟨_, rfl⟩
    rw [← hn] at h0 hcp hbig hpos hl1 ⊢
    have Hn := Lib.hid hn
    have Hl := Lib.hid hl1
    clear hn hl1
    by_cases hc1 : cap = 1
    · subst hc1
      have hn1 : n = 1 := by omega
      subst hn1
      have ht : t = [] := List.eq_nil_of_length_eq_zero (by have := Hl.out; omega)
      have Ht := Lib.hid ht
      clear ht
      go_enter Tryz.func211, Tryz.ntmps211
      go_wp2
      have h2 := (On.start H.out).s_flag hi true
      have hx : (w.setCell ⟨F.flag, i, none⟩ (.bool true)).cell? ⟨g, 0, none⟩ = some (.int .i64 g0) := by rw [cell_far hg10]; exact hc0
      have hy : ∀ j, j < (g0 :: t).length → (w.setCell ⟨F.flag, i, none⟩ (.bool true)).cell? ⟨g, j, none⟩ = some (.int .i64 ((g0 :: t).getD j 0)) := fun j hj => by rw [cell_far hg10]; exact Hc.out j hj
      have Hy := Lib.hid hy
      have lg : g < (w.setCell ⟨F.flag, i, none⟩ (.bool true)).heap.size := by simpa using hgl
      clear hy
      generalize w.setCell ⟨F.flag, i, none⟩ (.bool true) = w2 at *
      go_region_held3 (fun w' => w'.cell? ⟨g, 0, none⟩ = some (.int .i64 g0)) (first | exact hx | exact kx | (rw [cell_far hg9]; exact kx) | (rw [cell_far hg9, cell_far hg9]; exact kx)) (first | (go_at_call 155; refine ((Tryz.slices_Clone_int_zero ⟨g, 0, none⟩ 0 _)).mono ?_; rintro e w1 ⟨v1, rfl, hown, _, hb⟩; have hown : w1.ownsRow w2.drew.heap.size 3 1 v1 t.length (ints t) := (by rw [Ht.out]; exact hown); obtain ⟨va, vc, rfl⟩ := ownsRow_slice hown; have kx : w1.cell? ⟨g, 0, none⟩ = some (.int .i64 g0) := (hb.cell (p := ⟨g, 0, none⟩) lg).trans hx; have h1 := h2.drew.belowK hb (1000 + i); have k4 := h1.at_.cA_got hi; have k9 := h1.at_.cA_rest hi; have kf := h1.at_.call.2; have H1 := Lib.hid h1; clear h1))
      go_wp2
      go_returns
      have hin := rowIn_grow (ow := ow) (k := 1000 + i) hown (Nat.le_refl w2.drew.heap.size)
      have hv1 : Value.ownBlock (.slice va t.length vc) ≠ some F.all := fun e => by have := hown.lt _ e; have := h2.at_.call.lt (by have := hM; show 0 < p.M * 18; omega); have e4 : w2.drew.heap.size = w2.heap.size := rfl; omega
      have h3 := ((OnM.of_on H1.out hi).s_got g0).s_rest _ t (ownsRow_far (ownsRow_base hown (Nat.zero_le _)) hv1) hin
      refine ⟨rfl, _, _, ?_, h3.fin rfl⟩
      rfl
    · have hn1 : 1 < cap := by omega
      have hn2 : (1 : Int) ≤ (n : Int) := by omega
      have hn3 : (n : Int) ≤ (cap : Int) := by omega
      go_enter Tryz.func211, Tryz.ntmps211
      go_wp2
      have h2 := (On.start H.out).s_flag hi true
      have hx : (w.setCell ⟨F.flag, i, none⟩ (.bool true)).cell? ⟨g, 0, none⟩ = some (.int .i64 g0) := by rw [cell_far hg10]; exact hc0
      have hy : ∀ j, j < (g0 :: t).length → (w.setCell ⟨F.flag, i, none⟩ (.bool true)).cell? ⟨g, j, none⟩ = some (.int .i64 ((g0 :: t).getD j 0)) := fun j hj => by rw [cell_far hg10]; exact Hc.out j hj
      have Hy := Lib.hid hy
      have lg : g < (w.setCell ⟨F.flag, i, none⟩ (.bool true)).heap.size := by simpa using hgl
      clear hy
      generalize w.setCell ⟨F.flag, i, none⟩ (.bool true) = w2 at *
      go_region_held3 (fun w' => w'.cell? ⟨g, 0, none⟩ = some (.int .i64 g0)) (first | exact hx | exact kx | (rw [cell_far hg9]; exact kx) | (rw [cell_far hg9, cell_far hg9]; exact kx)) (first | (go_at_call 155; refine ((clone_rest g 1 n (cap - 1) (g0 :: t) w2.drew h0 Hn.out.symm (by omega) (fun j hj => Hy.out j (by have := Hn.out; omega)) 1 (fun _ => rfl))).mono ?_; rintro e w1 ⟨v1, rfl, hown, hb⟩; obtain ⟨va, vc, rfl⟩ := ownsRow_slice hown; have kx : w1.cell? ⟨g, 0, none⟩ = some (.int .i64 g0) := (hb.cell (p := ⟨g, 0, none⟩) lg).trans hx; have h1 := h2.drew.belowK hb (1000 + i); have k4 := h1.at_.cA_got hi; have k9 := h1.at_.cA_rest hi; have kf := h1.at_.call.2; have H1 := Lib.hid h1; clear h1))
      go_wp2
      go_returns
      have hin := rowIn_grow (ow := ow) (k := 1000 + i) hown (Nat.le_refl w2.drew.heap.size)
      have hv1 : Value.ownBlock (.slice va t.length vc) ≠ some F.all := fun e => by have := hown.lt _ e; have := h2.at_.call.lt (by have := hM; show 0 < p.M * 18; omega); have e4 : w2.drew.heap.size = w2.heap.size := rfl; omega
      have h3 := ((OnM.of_on H1.out hi).s_got g0).s_rest _ t (ownsRow_far (ownsRow_base hown (Nat.zero_le _)) hv1) hin
      refine ⟨rfl, _, _, ?_, h3.fin rfl⟩
      rfl
set_option maxRecDepth 100000 in
set_option maxHeartbeats 1600000 in
theorem one_on {F : Fix} {V : Vol} {ow : Nat → Nat} {w : World} {p : Wd} (h : WAt F V ow w p) (i : Nat) (hi : i < p.M) (g : Int) (is : Bool) :
    Calls Tryz.prog 209 #[.pointer (some ⟨F.W, 0, none⟩), .int .i64 i, .int .i64 g, .bool is] w fun e w' => e = .returned (.tuple #[]) ∧ ∃ V' ow', V'.logV = V.logV ∧ On F V' ow w ow' w' (p.one i g is) := by
  have H := Lib.hid h
  clear h
  cases is
  · go_enter Tryz.func209, Tryz.ntmps209
    go_wp2_with fail
    refine (found_on H.out i 0 hi (.slice none 0 0) [] (World.ownsRow_nil _ _ _ _) (by simp) (fun g h => by cases h)).mono ?_
    rintro e w1 ⟨rfl, V', ow1, hV, h1⟩
    go_wp2
    go_returns
    exact ⟨rfl, _, _, hV, h1⟩
  · go_enter Tryz.func209, Tryz.ntmps209
    go_wp2_with fail
    have h2 := (On.start H.out).alloc (.cells #[.int .i64 g] 3)
    have hv : (w.alloc (.cells #[.int .i64 g] 3)).ownsRow 0 3 1 (.slice (some ⟨w.heap.size, 0, none⟩) 1 1) [g].length (ints [g]) := by
      refine ⟨by simp [ints], .inr ⟨w.heap.size, 1, #[.int .i64 g], rfl, Nat.zero_le _, ?_, by simp, by decide, by simp, by simp [ints]⟩⟩
      show (w.heap.push _)[w.heap.size]? = _
      simp
    refine (found_on h2.at_ i 0 hi _ [g] hv (by simp) (fun b h => by cases h; exact ⟨by rw [grow_self]; decide, by rw [grow_self]; decide⟩)).mono ?_
    rintro e w1 ⟨rfl, V', ow1, hV, h1⟩
    go_wp2
    go_returns
    exact ⟨rfl, _, _, hV, h2.then_ h1⟩
end Go.Proofs.YtfjepdcnikgjeaaGreatDoor
