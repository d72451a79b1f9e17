/-
  glyph.Print: the text of a row of events.
-/
import Derived.Lib.Join
import Derived.Test.YtnkbddebafcjbaaDoorGlLives
namespace Go.Proofs.YtnkbddebafcjbaaDoor
open Go Go.RowKit Go.Proofs

/-- A row of events as it lies in the heap. -/
structure EvCells (w : World) (b o : Nat) (l : List Ev) : Prop where
  lt : b < w.heap.size
  ck : ∀ j e, l[j]? = some e → w.cell? ⟨b, o + j * 5, none⟩ = some (.int .i64 e.k)
  cg : ∀ j e, l[j]? = some e → w.cell? ⟨b, o + j * 5 + 1, none⟩ = some (.int .i64 e.g)
  cm : ∀ j e, l[j]? = some e → w.cell? ⟨b, o + j * 5 + 2, none⟩ = some (.int .i64 e.m)
  cp : ∀ j e, l[j]? = some e → w.cell? ⟨b, o + j * 5 + 3, none⟩ = some (.int .i64 e.p)
  cv : ∀ j e, l[j]? = some e → w.cell? ⟨b, o + j * 5 + 4, none⟩ = some (.int .i64 e.v)

theorem EvCells.below {w w' : World} {b o : Nat} {l : List Ev} (h : EvCells w b o l) {B : Nat} (hB : b < B) (hb : Below B w w') : EvCells w' b o l where
  lt := Nat.lt_of_lt_of_le h.lt hb.size
  ck j e he := (below_cell hb hB).trans (h.ck j e he)
  cg j e he := (below_cell hb hB).trans (h.cg j e he)
  cm j e he := (below_cell hb hB).trans (h.cm j e he)
  cp j e he := (below_cell hb hB).trans (h.cp j e he)
  cv j e he := (below_cell hb hB).trans (h.cv j e he)

theorem own_below {B e size n : Nat} {v : Value} {xs : List Value} {W W' : World} (h : W.ownsRow B e size v n xs) (hb : Below W.heap.size W W') : W'.ownsRow B e size v n xs := by
  refine ⟨h.1, ?_⟩
  rcases h.2 with hn | ⟨g, cap, cur, hv, hbg, hg, rest⟩
  · exact .inl hn
  · exact .inr ⟨g, cap, cur, hv, hbg, (below_heap hb (box_lt hg)).trans hg, rest⟩

def wordStr (e : Ev) : ByteArray := ⟨(wordOf e).toArray⟩
def textOf (l : List Ev) : List UInt8 := Lib.join (l.map wordOf) [32]
def strVals (l : List Ev) : List Value := l.map fun e => .string (wordStr e)
theorem infoString : (Tryd.prog.info? 9).map (fun i => (i.zero, i.size, i.bytes)) = some (some (.string ⟨#[]⟩), 1, 16) := by kernel_rfl

theorem own_cell {W : World} {g : Nat} {e : TypeId} {cur : Array Value} {xs : List Value} {n : Nat} (hg : W.heap[g]? = some (.cells cur e (0, 0))) (htk : cur.toList.take n = xs) (j : Nat) (u : Value) (hu : xs[j]? = some u) : W.cell? ⟨g, j, none⟩ = some u := by
  rw [box_cell hg, ← Array.getElem?_toList]
  rw [← htk, List.getElem?_take] at hu
  split at hu
  · exact hu
  · cases hu

theorem join_le (xs : List (List UInt8)) (B : Nat) (h : ∀ x ∈ xs, x.length ≤ B) : (Lib.join xs [32]).length ≤ xs.length * (B + 1) := by
  unfold Lib.join
  induction xs with
  | nil => simp
  | cons x r ih =>
    have hx := h x (List.mem_cons_self ..)
    have ih := ih (fun y hy => h y (List.mem_cons_of_mem _ hy))
    cases r with
    | nil => simp [List.intercalate]; omega
    | cons y r => 
      simp only [List.intercalate, List.intersperse, List.flatten_cons, List.length_append, List.length_cons, List.length_nil] at ih ⊢
      have e := Nat.succ_mul (r.length + 1) (B + 1)
      simp only [Nat.succ_eq_add_one] at e
      omega

theorem join_any (l : List Ev) (hc : l.length ≤ 1000) (hl : ∀ e ∈ l, (wordOf e).length ≤ 100) (B : Nat) (vw : Value) (w : World) (hown : w.ownsRow B 9 1 vw l.length (strVals l)) :
    Calls Tryd.prog 27 #[vw, .string ⟨#[32]⟩] w fun r w' => r = .returned (.string ⟨(textOf l).toArray⟩) ∧ Below w.heap.size w w' := by
  rcases hown.2 with ⟨rfl, h0⟩ | ⟨g, cap, cur, rfl, hbg, hg, hnc, hcm, hcs, htk⟩
  · have hl0 : l = [] := List.length_eq_zero_iff.1 h0
    subst hl0
    refine (Tryd.strings_Join_none none 0 ⟨#[32]⟩ w).mono ?_
    rintro e W ⟨rfl, rfl⟩
    exact ⟨rfl, Below.refl _ _⟩
  · have e1 : ((l.map wordStr).map fun x => x.data.toList) = l.map wordOf := by
      rw [List.map_map]
      exact List.map_congr_left fun x _ => rfl
    have e2 : (⟨#[32]⟩ : ByteArray).data.toList = [32] := rfl
    have hj := Tryd.strings_Join g 0 cap (l.map wordStr) ⟨#[32]⟩ w
    rw [e1, e2, List.length_map] at hj
    have hb := join_le (l.map wordOf) 100 (fun x hx => by obtain ⟨e, he, rfl⟩ := List.mem_map.1 hx; exact hl e he)
    rw [List.length_map] at hb
    refine hj ?_ (box_lt hg) (by omega) hnc (by omega)
    intro j x hx
    rw [Nat.zero_add]
    refine own_cell hg htk j _ ?_
    rw [List.getElem?_map, Option.map_eq_some_iff] at hx
    obtain ⟨e, he, rfl⟩ := hx
    simp [strVals, he]

theorem wordOf_le (e : Ev) (he : rightOf e = true) (h0 : -9223372036854775808 ≤ e.v) (h1 : e.v ≤ 9223372036854775807) : (wordOf e).length ≤ 100 := by
  have hq := he
  simp only [rightOf, decide_eq_true_eq] at hq
  obtain ⟨k0, k1, g0, g1, m0, m1, p0, p1, _⟩ := hq
  have l0 := encodeRune_le (runeOf e.k)
  have lg := Lib.itoa_length_le e.g (by omega) (by omega)
  have lm := Lib.itoa_length_le e.m (by omega) (by omega)
  have lp := Lib.itoa_length_le e.p (by omega) (by omega)
  have lv := Lib.itoa_length_le e.v (by omega) (by omega)
  unfold wordOf
  simp only [List.length_append]
  split <;> split <;> split <;> simp <;> omega

set_option maxHeartbeats 8000000 in
set_option maxRecDepth 1000000 in
theorem print_ok (b o c : Nat) (l : List Ev) (hc : l.length ≤ 1000) (hr : ∀ e ∈ l, rightOf e = true) (hv : ∀ e ∈ l, -9223372036854775808 ≤ e.v ∧ e.v ≤ 9223372036854775807) (w : World) (hE : EvCells w b o l) (h : KindsAt w) (ht : TabAt w) :
    Calls Tryd.prog 15 #[.slice (some ⟨b, o, none⟩) l.length c] w fun r w' => r = .returned (.tuple #[.string ⟨(textOf l).toArray⟩, .int .i64 0]) ∧ Below w.heap.size w w' := by
  obtain ⟨i0, hi, hz0, hz1, hz2⟩ := info_parts infoString
  go_enter Tryd.func15, Tryd.ntmps15
  go_wp2
  go_loopw [4, 11] (fun vw n wr => ∃ j : Nat, n = .int .i64 (j : Int) ∧ j ≤ l.length ∧ wr.ownsRow w.heap.size 9 1 vw j (strVals (l.take j)) ∧ Below w.heap.size w wr) (fun _ n _ => l.length - iOf n)
  case atStart =>
    exact ⟨0, rfl, by omega, ⟨by simp [strVals], .inl ⟨rfl, rfl⟩⟩, Below.refl _ w⟩
  case round =>
    obtain ⟨j, rfl, hj, hown, K⟩ := hrel
    by_cases hp : j < l.length
    · obtain ⟨e, he⟩ : ∃ e, l[j]? = some e := ⟨_, List.getElem?_eq_getElem hp⟩
      have hmem : e ∈ l := List.mem_of_getElem? he
      have hE2 := hE.below hE.lt K
      have c0 := hE2.ck j e he
      have c1 := hE2.cg j e he
      have c2 := hE2.cm j e he
      have c3 := hE2.cp j e he
      have c4 := hE2.cv j e he
      have hlt := hE2.lt
      have hw := fun w h ht => word_ok e (hr e hmem) (hv e hmem).1 (hv e hmem).2 w h ht
      simp only [evV] at hw
      have hpi : (j : Int) < l.length := by omega
      have HE := Lib.hid he
      clear he hE2
      go_wp2_with (go_at_call 18; refine (hw _ (h.below (K.alloc K.size _)) (tab_below ht (K.alloc K.size _))).mono ?_)
      rintro e2 w2 ⟨rfl, hb⟩
      have hown2 := own_below hown (((Below.refl _ wr).alloc (Nat.le_refl _) _).trans (hb.mono (by simp)))
      have K := K.trans (((Below.refl _ wr).alloc (Nat.le_refl _) _).trans (hb.mono (by simp)) |>.mono K.size)
      have hown3 := fun (u : Value) => own_below hown2 ((Below.refl _ w2).alloc (Nat.le_refl _) (.cells #[u] 9))
      clear hb hown c0 c1 c2 c3 c4 hw
      go_wp2_with (at_builtin; refine wpList_append_own _ rfl _ _ 56 rfl w.heap.size 9 i0 (.string ⟨#[]⟩) 1 16 Tryd.underlying56 hi hz0 hz1 hz2 rfl (by decide) _ j _ rfl (hown3 _) ⟨w2.heap.size, 0, none⟩ 1 1 [.string (wordStr e)] rfl rfl ?c1 ?c2 ?c3 ?c4 ?c5 ?_)
      case c1 =>
        intro k u hk
        match k, hk with
        | 0, hk => simp at hk; subst hk; simp [Addr.add]; rfl
      case c2 => intro u hu; simp at hu; subst hu; rfl
      case c3 => unfold maxLen; omega
      case c4 => omega
      case c5 => have := K.size; simp; omega
      intro v' w3 hown4 hgrow _
      have K3 : Below w.heap.size w w3 := (K.alloc K.size _).grown hgrow (by have := K.size; simp; omega) (fun k hk => (hown2.lt k hk).1)
      clear hown2 hown3 hgrow K
      go_wp2
      go_roundw
      case rel =>
        refine ⟨j + 1, by simp, by omega, ?_, K3⟩
        rw [List.take_add_one, HE.out]
        simpa [strVals] using hown4
      case measure => simp only [iOf_int]; omega
    · have hnp : (l.length : Int) ≤ j := by omega
      have ej : j = l.length := by omega
      rw [ej, List.take_length] at hown
      clear hp ej h ht hE
      go_wp2_with (go_at_call 27; refine (join_any l hc (fun e he => wordOf_le e (hr e he) (hv e he).1 (hv e he).2) _ _ _ hown).mono ?_)
      rintro e W ⟨rfl, hb⟩
      go_wp2
      go_returns
      exact ⟨rfl, K.trans (hb.mono K.size)⟩

/-- A row in which an event is not right: nothing is printed. -/
theorem bad_first (l : List Ev) (h : ∃ e ∈ l, rightOf e = false) : ∃ (j : Nat) (e : Ev), l[j]? = some e ∧ rightOf e = false ∧ ∀ (i : Nat) (x : Ev), i < j → l[i]? = some x → rightOf x = true := by
  induction l with
  | nil => obtain ⟨e, he, _⟩ := h; cases he
  | cons a r ih =>
    cases ha : rightOf a with
    | false => exact ⟨0, a, rfl, ha, fun i x hi => absurd hi (Nat.not_lt_zero _)⟩
    | true =>
      obtain ⟨e, he, hf⟩ := h
      rcases List.mem_cons.1 he with rfl | he
      · rw [ha] at hf; cases hf
      · obtain ⟨j, x, h1, h2, h3⟩ := ih ⟨e, he, hf⟩
        refine ⟨j + 1, x, h1, h2, fun i y hi hy => ?_⟩
        cases i with
        | zero => simp at hy; rw [← hy]; exact ha
        | succ i => exact h3 i y (by omega) hy
set_option maxHeartbeats 8000000 in
set_option maxRecDepth 1000000 in
theorem print_bad (b o c : Nat) (l : List Ev) (hc : l.length ≤ 1000) (j0 : Nat) (e0 : Ev) (he0 : l[j0]? = some e0) (hf : rightOf e0 = false) (hr : ∀ (i : Nat) (x : Ev), i < j0 → l[i]? = some x → rightOf x = true) (hv : ∀ e ∈ l, -9223372036854775808 ≤ e.v ∧ e.v ≤ 9223372036854775807) (w : World) (hE : EvCells w b o l) (h : KindsAt w) (ht : TabAt w) :
    Calls Tryd.prog 15 #[.slice (some ⟨b, o, none⟩) l.length c] w fun r w' => r = .returned (.tuple #[.string ⟨#[]⟩, .int .i64 1]) ∧ Below w.heap.size w w' := by
  obtain ⟨i0, hi, hz0, hz1, hz2⟩ := info_parts infoString
  have hj0 : j0 < l.length := (List.getElem?_eq_some_iff.1 he0).1
  go_enter Tryd.func15, Tryd.ntmps15
  go_wp2
  go_loopw [4, 11] (fun vw n wr => ∃ j : Nat, n = .int .i64 (j : Int) ∧ j ≤ j0 ∧ wr.ownsRow w.heap.size 9 1 vw j (strVals (l.take j)) ∧ Below w.heap.size w wr) (fun _ n _ => l.length - iOf n)
  case atStart =>
    exact ⟨0, rfl, by omega, ⟨by simp [strVals], .inl ⟨rfl, rfl⟩⟩, Below.refl _ w⟩
  case round =>
    obtain ⟨j, rfl, hj, hown, K⟩ := hrel
    have hp : j < l.length := by omega
    by_cases hq : j < j0
    · obtain ⟨e, he⟩ : ∃ e, l[j]? = some e := ⟨_, List.getElem?_eq_getElem hp⟩
      have hmem : e ∈ l := List.mem_of_getElem? he
      have hE2 := hE.below hE.lt K
      have c0 := hE2.ck j e he
      have c1 := hE2.cg j e he
      have c2 := hE2.cm j e he
      have c3 := hE2.cp j e he
      have c4 := hE2.cv j e he
      have hlt := hE2.lt
      have hw := fun w h ht => word_ok e (hr j e hq he) (hv e hmem).1 (hv e hmem).2 w h ht
      simp only [evV] at hw
      have hpi : (j : Int) < l.length := by omega
      have HE := Lib.hid he
      clear he hE2
      go_wp2_with (go_at_call 18; refine (hw _ (h.below (K.alloc K.size _)) (tab_below ht (K.alloc K.size _))).mono ?_)
      rintro e2 w2 ⟨rfl, hb⟩
      have hown2 := own_below hown (((Below.refl _ wr).alloc (Nat.le_refl _) _).trans (hb.mono (by simp)))
      have K := K.trans (((Below.refl _ wr).alloc (Nat.le_refl _) _).trans (hb.mono (by simp)) |>.mono K.size)
      have hown3 := fun (u : Value) => own_below hown2 ((Below.refl _ w2).alloc (Nat.le_refl _) (.cells #[u] 9))
      clear hb hown c0 c1 c2 c3 c4 hw
      go_wp2_with (at_builtin; refine wpList_append_own _ rfl _ _ 56 rfl w.heap.size 9 i0 (.string ⟨#[]⟩) 1 16 Tryd.underlying56 hi hz0 hz1 hz2 rfl (by decide) _ j _ rfl (hown3 _) ⟨w2.heap.size, 0, none⟩ 1 1 [.string (wordStr e)] rfl rfl ?c1 ?c2 ?c3 ?c4 ?c5 ?_)
      case c1 =>
        intro k u hk
        match k, hk with
        | 0, hk => simp at hk; subst hk; simp [Addr.add]; rfl
      case c2 => intro u hu; simp at hu; subst hu; rfl
      case c3 => unfold maxLen; omega
      case c4 => omega
      case c5 => have := K.size; simp; omega
      intro v' w3 hown4 hgrow _
      have K3 : Below w.heap.size w w3 := (K.alloc K.size _).grown hgrow (by have := K.size; simp; omega) (fun k hk => (hown2.lt k hk).1)
      clear hown2 hown3 hgrow K
      go_wp2
      go_roundw
      case rel =>
        refine ⟨j + 1, by simp, by omega, ?_, K3⟩
        rw [List.take_add_one, HE.out]
        simpa [strVals] using hown4
      case measure => simp only [iOf_int]; omega
    · obtain rfl : j = j0 := by omega
      have hE2 := hE.below hE.lt K
      have c0 := hE2.ck j e0 he0
      have c1 := hE2.cg j e0 he0
      have c2 := hE2.cm j e0 he0
      have c3 := hE2.cp j e0 he0
      have c4 := hE2.cv j e0 he0
      have hlt := hE2.lt
      have hw := fun w h => word_bad e0 hf w h
      simp only [evV] at hw
      have hpi : (j : Int) < l.length := by omega
      clear he0 hE2
      go_wp2_with (go_at_call 18; refine (hw _ (h.below (K.alloc K.size _))).mono ?_)
      rintro e2 w2 ⟨rfl, hb⟩
      have K := (K.alloc K.size _).trans (hb.mono (K.alloc K.size _).size)
      clear hb hown c0 c1 c2 c3 c4 hw
      go_wp2
      go_returns
      exact ⟨rfl, K⟩

end Go.Proofs.YtnkbddebafcjbaaDoor
