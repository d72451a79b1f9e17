/-
  Events as the document has them: Ref, Refs, their text; are two rows the same?
-/
import Derived.Test.YtnkbddebafcjbaaDoorGlRef2
import Derived.Test.YtnkbddebafcjbaaDoorGlParse
namespace Go.Proofs.YtnkbddebafcjbaaDoor
open Go Go.RowKit Go.Proofs

set_option maxHeartbeats 4000000 in
set_option maxRecDepth 100000 in
theorem ref_any (e : Ev) (w : World) :
    Calls Tryd.prog 17 #[evV e] w fun r w' => r = .returned (evV e) ∧ Below w.heap.size w w' := by
  obtain ⟨k, g, m, p, v⟩ := e
  simp only [evV]
  go_enter Tryd.func17, Tryd.ntmps17
  go_wp2
  refine bodyPost_ret (v := .agg #[.int .i64 k, .int .i64 g, .int .i64 m, .int .i64 p, .int .i64 v]) (by simp [results, Tryd.results17, go_sem]) rfl ⟨rfl, by go_grown⟩

/-- A row of the document's events is an argument. -/
theorem infoRef : (Tryd.prog.info? 42).map (fun i => (i.zero, i.size, i.bytes)) = some (some (.agg #[.int .i64 0, .int .i64 0, .int .i64 0, .int .i64 0, .int .i64 0]), 5, 40) := by kernel_rfl
theorem flat_one1 (e : Ev) : flat [e] = [.int .i64 e.k, .int .i64 e.g, .int .i64 e.m, .int .i64 e.p, .int .i64 e.v] := rfl

theorem append_ref {w : World} {ops : Array Oper} {rest : List Oper} {o : Oper} {a : Act} {Q : Exit → Act → World → Prop} (hgd : o.guard = none) (s x : Operand)
    (ho : o.op = .call { callee := .builtin .append, args := #[s, x], argTypes := #[49, 49] })
    (base : Nat) (v : Value) (k : List Ev) (hs : a.eval s = v) (hown : w.ownsRow base 42 5 v k.length (flat k)) (b : Nat) (e : Ev) (hx : a.eval x = .slice (some ⟨b, 0, none⟩) 1 1)
    (hE : w.heap[b]? = some (.cells #[.int .i64 e.k, .int .i64 e.g, .int .i64 e.m, .int .i64 e.p, .int .i64 e.v] 42 (0, 0))) (hlen : k.length ≤ 1000000) (hbase : base ≤ w.heap.size)
    (h : ∀ v' w', w'.ownsRow base 42 5 v' (k ++ [e]).length (flat (k ++ [e])) → Below base w w' → wpList Tryd.prog ops Q rest (a.put o.dst v') w') : wpList Tryd.prog ops Q (o :: rest) a w := by
  obtain ⟨i0, hi, hz0, hz1, hz2⟩ := info_parts infoRef
  refine wpList_append_own w hgd s x 49 ho base 42 i0 _ 5 40 Tryd.underlying49 hi hz0 hz1 hz2 rfl (by decide) v k.length (flat k) hs hown ⟨b, 0, none⟩ 1 1 (flat [e]) hx (flat_length [e]) ?_ (flat_one [e]) (by unfold maxLen; omega) (by omega) hbase ?_
  · intro j u hu
    rw [show (⟨b, 0, none⟩ : Addr).add j = ⟨b, 0 + j, none⟩ by simp [Addr.add]; omega]
    rw [Nat.zero_add, box_cell hE]
    rw [flat_one1] at hu
    rw [← hu, List.getElem?_toArray]
  · intro v' w' h2 h3 _
    exact h v' w' (by rw [List.length_append, flat_append]; exact h2) ((Below.refl base w).grown h3 hbase (fun k hk => (hown.lt k hk).1))

/-- A row of the document's events, as it lies. -/
def RfArg (w : World) (v : Value) (l : List Ev) : Prop :=
  (v = .slice none 0 0 ∧ l = []) ∨ ∃ b c, v = .slice (some ⟨b, 0, none⟩) l.length c ∧ EvCells w b 0 l
theorem RfArg.below {w w' : World} {v : Value} {l : List Ev} (h : RfArg w v l) (hb : Below w.heap.size w w') : RfArg w' v l := by
  rcases h with h | ⟨b, c, rfl, h⟩
  · exact .inl h
  · exact .inr ⟨b, c, rfl, h.below h.lt hb⟩
theorem own_ref {w : World} {B : Nat} {v : Value} {l : List Ev} (h : w.ownsRow B 42 5 v l.length (flat l)) : RfArg w v l := by
  rcases h.2 with ⟨rfl, h0⟩ | ⟨g, cap, cur, rfl, hbg, hg, hnc, hcm, hcs, htk⟩
  · exact .inl ⟨rfl, List.length_eq_zero_iff.1 h0⟩
  · refine .inr ⟨g, cap, rfl, box_lt hg, ?_, ?_, ?_, ?_, ?_⟩
    · intro j e he; rw [Nat.zero_add]; exact own_cell hg htk _ _ (flat_at l j e he).1
    · intro j e he; rw [Nat.zero_add]; exact own_cell hg htk _ _ (flat_at l j e he).2.1
    · intro j e he; rw [Nat.zero_add]; exact own_cell hg htk _ _ (flat_at l j e he).2.2.1
    · intro j e he; rw [Nat.zero_add]; exact own_cell hg htk _ _ (flat_at l j e he).2.2.2.1
    · intro j e he; rw [Nat.zero_add]; exact own_cell hg htk _ _ (flat_at l j e he).2.2.2.2

set_option maxHeartbeats 8000000 in
set_option maxRecDepth 100000 in
theorem refs_cells (b o c : Nat) (l : List Ev) (hc : l.length ≤ 100000) (w : World) (hE : EvCells w b o l) :
    Calls Tryd.prog 22 #[.slice (some ⟨b, o, none⟩) l.length c] w fun r w' => ∃ v, r = .returned v ∧ w'.ownsRow w.heap.size 42 5 v l.length (flat l) ∧ Below w.heap.size w w' := by
  go_enter Tryd.func22, Tryd.ntmps22
  go_wp2
  go_loopw [3, 8] (fun lv iv wr => ∃ j : Nat, iv = .int .i64 (j : Int) ∧ j ≤ l.length ∧ wr.ownsRow w.heap.size 42 5 lv (l.take j).length (flat (l.take j)) ∧ Below w.heap.size w wr) (fun _ iv _ => l.length + 1 - iOf iv)
  case atStart => exact ⟨0, rfl, Nat.zero_le _, ⟨by simp [flat], .inl ⟨rfl, rfl⟩⟩, Below.refl _ _⟩
  case round =>
    obtain ⟨j, rfl, hj, hown, K⟩ := hrel
    by_cases hp : j < l.length
    · obtain ⟨e, he⟩ : ∃ e, l[j]? = some e := ⟨_, List.getElem?_eq_getElem hp⟩
      have hE2 := hE.below hE.lt K
      have c0 := hE2.ck j e he
      have c1 := hE2.cg j e he
      have c2 := hE2.cm j e he
      have c3 := hE2.cp j e he
      have c4 := hE2.cv j e he
      have hlt := hE2.lt
      have hr := ref_any e
      simp only [evV] at hr
      have hpi : (j : Int) < l.length := by omega
      have hlen : (l.take j).length ≤ 100000 := by rw [List.length_take]; omega
      have HE := Lib.hid he
      have HO := Lib.hid hown
      clear he hE2 hown
      go_wp2_with fail
      refine (hr _).mono ?_
      rintro r w2 ⟨rfl, hb⟩
      have K2 := (K.alloc K.size (.cells #[.int .i64 e.k, .int .i64 e.g, .int .i64 e.m, .int .i64 e.p, .int .i64 e.v] 38)).trans (hb.mono (by have := K.size; simp; omega))
      have o2 := own_below (own_below (own_below HO.out ((Below.refl _ wr).alloc (Nat.le_refl _) _)) hb) ((Below.refl _ w2).alloc (Nat.le_refl _) (.cells #[.int .i64 e.k, .int .i64 e.g, .int .i64 e.m, .int .i64 e.p, .int .i64 e.v] 42))
      have hx : (w2.alloc (.cells #[.int .i64 e.k, .int .i64 e.g, .int .i64 e.m, .int .i64 e.p, .int .i64 e.v] 42)).heap[w2.heap.size]? = some (.cells #[.int .i64 e.k, .int .i64 e.g, .int .i64 e.m, .int .i64 e.p, .int .i64 e.v] 42 (0, 0)) := by
        show (w2.heap.push _)[w2.heap.size]? = _
        simp
      have K3 := K2.alloc K2.size (.cells #[.int .i64 e.k, .int .i64 e.g, .int .i64 e.m, .int .i64 e.p, .int .i64 e.v] 42)
      have O2 := Lib.hid o2
      have HX := Lib.hid hx
      clear o2 hx hb K K2 hr c0 c1 c2 c3 c4
      go_wp2_with (at_builtin; refine append_ref rfl _ _ rfl w.heap.size _ (l.take j) rfl O2.out _ e rfl HX.out (by omega) K3.size ?_)
      intro v3 w3 o3 b3
      have K := K3.trans b3
      have O3 := Lib.hid o3
      clear K3 b3 O2 HX o3
      go_wp2
      go_roundw
      case rel =>
        have et : l.take (j + 1) = l.take j ++ [e] := by rw [List.take_add_one, HE.out]; rfl
        refine ⟨j + 1, by simp, by omega, ?_, K⟩
        rw [et]
        have hmin : min j l.length = j := by omega
        simpa [hmin] using O3.out
      case measure => simp only [iOf_int]; omega
    · obtain rfl : j = l.length := by omega
      rw [List.take_length] at hown
      have HO := Lib.hid hown
      clear hown hp
      go_wp2
      go_returns
      exact ⟨_, rfl, HO.out, K⟩
set_option maxHeartbeats 8000000 in
set_option maxRecDepth 100000 in
theorem refs_nil (pa : Option Addr) (c : Nat) (w : World) :
    Calls Tryd.prog 22 #[.slice pa 0 c] w fun r w' => r = .returned (.slice none 0 0) ∧ w' = w := by
  go_enter Tryd.func22, Tryd.ntmps22
  go_wp2
  refine wp_loop_rounds 1 ?_
  rw [rounds_succ]
  go_wp2
  go_returns
  exact ⟨rfl, rfl⟩
theorem refs_any {w : World} {v : Value} {l : List Ev} (hA : EvArg w v l) (hc : l.length ≤ 100000) :
    Calls Tryd.prog 22 #[v] w fun r w' => ∃ u, r = .returned u ∧ RfArg w' u l ∧ Below w.heap.size w w' := by
  rcases hA with ⟨rfl, rfl⟩ | ⟨a, c, rfl, rfl⟩ | ⟨b, o, c, rfl, hE⟩
  · refine (refs_nil none 0 w).mono ?_
    rintro r w' ⟨rfl, rfl⟩
    exact ⟨_, rfl, .inl ⟨rfl, rfl⟩, Below.refl _ _⟩
  · refine (refs_nil (some a) c w).mono ?_
    rintro r w' ⟨rfl, rfl⟩
    exact ⟨_, rfl, .inl ⟨rfl, rfl⟩, Below.refl _ _⟩
  · refine (refs_cells b o c l hc w hE).mono ?_
    rintro r w' ⟨u, rfl, ho, hb⟩
    exact ⟨u, rfl, own_ref ho, hb⟩

/-! The document's text. -/
theorem text_snoc (l : List Ev) (e : Ev) : textOf (l ++ [e]) = (if l = [] then [] else textOf l ++ [32]) ++ wordOf e := by
  split
  · rename_i h; subst h; rw [List.nil_append, text_one]; rfl
  · rename_i h
    rw [text_append l [e] h (by simp), text_one]
    simp
set_option maxHeartbeats 8000000 in
set_option maxRecDepth 100000 in
theorem refText_cells (b c : Nat) (l : List Ev) (hc : l.length ≤ 40) (hr : ∀ e ∈ l, rightOf e = true) (hv : inI64 l) (w : World) (hE : EvCells w b 0 l) :
    Calls Tryd.prog 21 #[.slice (some ⟨b, 0, none⟩) l.length c] w fun r w' => r = .returned (.string ⟨(textOf l).toArray⟩) ∧ Below w.heap.size w w' := by
  go_enter Tryd.func21, Tryd.ntmps21
  go_wp2
  go_loopw [3, 8] (fun sv iv wr => ∃ j : Nat, iv = .int .i64 (j : Int) ∧ j ≤ l.length ∧ sv = .string ⟨(textOf (l.take j)).toArray⟩ ∧ Below w.heap.size w wr) (fun _ iv _ => l.length + 1 - iOf iv)
  case atStart => exact ⟨0, rfl, Nat.zero_le _, rfl, Below.refl _ _⟩
  case round =>
    obtain ⟨j, rfl, hj, rfl, K⟩ := hrel
    by_cases hp : j < l.length
    · obtain ⟨e, he⟩ : ∃ e, l[j]? = some e := ⟨_, List.getElem?_eq_getElem hp⟩
      have hmem : e ∈ l := List.mem_of_getElem? he
      have hE2 := hE.below hE.lt K
      have c0 := hE2.ck j e he
      have c1 := hE2.cg j e he
      have c2 := hE2.cm j e he
      have c3 := hE2.cp j e he
      have c4 := hE2.cv j e he
      simp only [Nat.zero_add] at c0 c1 c2 c3 c4
      have hlt := hE2.lt
      have hw := refWord_any e (hr e hmem) (hv e hmem).1 (hv e hmem).2
      simp only [evV] at hw
      have hpi : (j : Int) < l.length := by omega
      have et : l.take (j + 1) = l.take j ++ [e] := by rw [List.take_add_one, he]; rfl
      have hlw := wordOf_le e (hr e hmem) (hv e hmem).1 (hv e hmem).2
      have hlt2 := text_le (l.take j) (fun x hx => hr x (List.mem_of_mem_take hx)) (fun x hx => hv x (List.mem_of_mem_take hx))
      have hlt3 : (textOf (l.take j)).length ≤ 4040 := by rw [List.length_take] at hlt2; omega
      have ex := text_snoc (l.take j) e
      rw [← et] at ex
      have hnil : l.take j = [] ↔ j = 0 := by
        rw [List.take_eq_nil_iff]
        constructor
        · rintro (h | h)
          · exact h
          · rw [h] at hp; simp at hp
        · exact fun h => .inl h
      have EX := Lib.hid ex
      have HN := Lib.hid hnil
      clear he hE2 hlt2 et ex hnil
      by_cases h0 : j = 0
      · subst h0
        have e0 : textOf (l.take 0) = [] := rfl
        have EX1 : textOf (l.take (0 + 1)) = wordOf e := by rw [EX.out, if_pos (HN.out.2 rfl)]; rfl
        have EX1 := Lib.hid EX1
        clear EX HN
        rw [e0]
        clear e0 hlt3
        have hcat : ¬ 9223372036854775807 < 0 + (wordOf e).length := by omega
        generalize wordOf e = W at *
        go_wp2_with fail
        refine (hw _).mono ?_
        rintro r w2 ⟨rfl, hb⟩
        have K2 := (K.alloc K.size (.cells #[.int .i64 e.k, .int .i64 e.g, .int .i64 e.m, .int .i64 e.p, .int .i64 e.v] 42)).trans (hb.mono (by have := K.size; simp; omega))
        clear hb hw
        go_wp2
        go_roundw
        case rel =>
          refine ⟨1, by simp, by omega, ?_, K2⟩
          rw [EX1.out]
          congr 1
        case measure => simp only [iOf_int]; omega
      · have EX1 : textOf (l.take (j + 1)) = (textOf (l.take j) ++ [32]) ++ wordOf e := by rw [EX.out, if_neg (fun h => h0 (HN.out.1 h))]
        have EX1 := Lib.hid EX1
        clear EX HN
        have hj0 : 0 < (j : Int) := by omega
        clear h0
        generalize wordOf e = W at *
        generalize textOf (l.take j) = T at *
        go_wp2_with fail
        refine (hw _).mono ?_
        rintro r w2 ⟨rfl, hb⟩
        have K2 := (K.alloc K.size (.cells #[.int .i64 e.k, .int .i64 e.g, .int .i64 e.m, .int .i64 e.p, .int .i64 e.v] 42)).trans (hb.mono (by have := K.size; simp; omega))
        clear hb hw
        go_wp2
        go_roundw
        case rel =>
          refine ⟨j + 1, by simp, by omega, ?_, K2⟩
          rw [EX1.out, ← cat_arr, ← cat_arr]
        case measure => simp only [iOf_int]; omega
    · obtain rfl : j = l.length := by omega
      rw [List.take_length]
      clear hp
      go_wp2
      go_returns
      exact ⟨rfl, K⟩
set_option maxHeartbeats 8000000 in
set_option maxRecDepth 100000 in
theorem refText_nil (pa : Option Addr) (c : Nat) (w : World) :
    Calls Tryd.prog 21 #[.slice pa 0 c] w fun r w' => r = .returned (.string ⟨#[]⟩) ∧ w' = w := by
  go_enter Tryd.func21, Tryd.ntmps21
  go_wp2
  refine wp_loop_rounds 1 ?_
  rw [rounds_succ]
  go_wp2
  go_returns
  exact ⟨rfl, rfl⟩
theorem refText_any {w : World} {v : Value} {l : List Ev} (hA : RfArg w v l) (hc : l.length ≤ 40) (hr : ∀ e ∈ l, rightOf e = true) (hv : inI64 l) :
    Calls Tryd.prog 21 #[v] w fun r w' => r = .returned (.string ⟨(textOf l).toArray⟩) ∧ Below w.heap.size w w' := by
  rcases hA with ⟨rfl, rfl⟩ | ⟨b, c, rfl, hE⟩
  · refine (refText_nil none 0 w).mono ?_
    rintro r w' ⟨rfl, rfl⟩
    exact ⟨rfl, Below.refl _ _⟩
  · exact refText_cells b c l hc hr hv w hE
end Go.Proofs.YtnkbddebafcjbaaDoor
