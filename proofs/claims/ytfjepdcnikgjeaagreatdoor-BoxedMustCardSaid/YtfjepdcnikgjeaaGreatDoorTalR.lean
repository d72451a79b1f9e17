/-
  The tally's rows, walked.
-/
import Derived.Test.YtfjepdcnikgjeaaGreatDoorTal
set_option linter.unusedVariables false
set_option linter.unusedSimpArgs false
set_option linter.unusedSectionVars false
namespace Go.Proofs.YtfjepdcnikgjeaaGreatDoor
open Go Go.RowKit Hst Go.Proofs
open Go.Maps (Keyed)

/-- A goroutine's row, as it lies in the heap. -/
def rowC (l : List Hst.Ev) (g last : Int) : Array Value :=
  #[.int .i64 g, .int .i64 (cntK l g 0 : Nat), .int .i64 (cntK l g 1 : Nat), .int .i64 (cntK l g 2 : Nat), .int .i64 (cntK l g 3 : Nat), .int .i64 (cntK l g 4 : Nat), .int .i64 (cntK l g 5 : Nat), .int .i64 (cntK l g 6 : Nat), .int .i64 (cntK l g 7 : Nat), .int .i64 last]
theorem rowC_size (l : List Hst.Ev) (g last : Int) : (rowC l g last).size = 10 := rfl
theorem rowC_at (l : List Hst.Ev) (g last : Int) (k : Nat) (hk : k < 8) : (rowC l g last)[1 + k]? = some (.int .i64 (cntK l g k : Nat)) := by
  match k, hk with
  | 0, _ | 1, _ | 2, _ | 3, _ | 4, _ | 5, _ | 6, _ | 7, _ => rfl
theorem rowC_set9 (l : List Hst.Ev) (g last x : Int) : (rowC l g last).setIfInBounds 9 (.int .i64 x) = rowC l g x := rfl
theorem cntK_snoc (l : List Hst.Ev) (e : Hst.Ev) (g k : Int) : cntK (l ++ [e]) g k = cntK l g k + if e.g == g && e.kind == k then 1 else 0 := by
  rw [cntK_append]
  congr 1
  unfold cntK
  simp only [List.countP_cons, List.countP_nil]
  split <;> rfl
theorem rowC_same {l : List Hst.Ev} {e : Hst.Ev} {g last : Int} (h : e.g ≠ g) : rowC (l ++ [e]) g last = rowC l g last := by
  unfold rowC
  simp [cntK_snoc, h]
theorem rowC_none {l : List Hst.Ev} {e : Hst.Ev} {last : Int} (h : ¬ (0 ≤ e.kind ∧ e.kind < 8)) : rowC (l ++ [e]) e.g last = rowC l e.g last := by
  have hk : ∀ k : Int, 0 ≤ k → k < 8 → cntK (l ++ [e]) e.g k = cntK l e.g k := fun k h0 h1 => by
    rw [cntK_snoc]
    have : (e.kind == k) = false := by rw [beq_eq_false_iff_ne]; omega
    simp [this]
  unfold rowC
  rw [hk 0 (by omega) (by omega), hk 1 (by omega) (by omega), hk 2 (by omega) (by omega), hk 3 (by omega) (by omega), hk 4 (by omega) (by omega), hk 5 (by omega) (by omega), hk 6 (by omega) (by omega), hk 7 (by omega) (by omega)]
theorem rowC_more {l : List Hst.Ev} {e : Hst.Ev} {last : Int} (k : Nat) (hk : k < 8) (h : e.kind = (k : Int)) : (rowC l e.g last).setIfInBounds (1 + k) (.int .i64 ((cntK l e.g k : Nat) + 1)) = rowC (l ++ [e]) e.g last := by
  unfold rowC
  simp only [cntK_snoc, beq_self_eq_true, Bool.true_and, h]
  match k, hk with
  | 0, _ | 1, _ | 2, _ | 3, _ | 4, _ | 5, _ | 6, _ | 7, _ => rfl

/-- The rows of all goroutines that have events, as they lie in the heap. -/
def RowsIn (b : Nat) (w : World) (n : Nat) (S : Int → Bool) (C : Int → Array Value) (loc : Int → Nat) (D : DataW Unit) : Prop :=
  w.ownsMap Tryz.prog 3 ptrR b n D ∧ (∀ g, D.atKey (.int .i64 g) (.lit (.int .i64 (-1))) = .lit (.int .i64 (if S g then (loc g : Nat) else -1))) ∧
  (∀ g, S g = true → b < loc g ∧ w.heap[loc g]? = some (.cells (C g) 70 (0, 0))) ∧ (∀ g h, S g = true → S h = true → loc g = loc h → g = h)

theorem RowsIn.start (w : World) : RowsIn w.heap.size (w.alloc (.map #[] 0)) 0 (fun _ => false) (fun _ => #[]) (fun _ => 0) (.map []) :=
  ⟨World.ownsMap_made _ _ _ _, fun g => by simp [DataW.atKey], fun g h => (by cases h), fun g h h1 => (by cases h1)⟩

theorem RowsIn.below {b n : Nat} {w w' : World} {S : Int → Bool} {C : Int → Array Value} {loc : Int → Nat} {D : DataW Unit} (h : RowsIn b w n S C loc D) (hb : Below w.heap.size w w') : RowsIn b w' n S C loc D := by
  obtain ⟨h1, h2, h3, h4⟩ := h
  refine ⟨h1.kept (row := none) ⟨hb.os, hb.tape, hb.output, hb.size, fun b hl _ => hb.block b hl⟩ (by simp), h2, fun g hg => ?_, h4⟩
  obtain ⟨h5, h6⟩ := h3 g hg
  exact ⟨h5, (hb.block _ (box_lt h6)).trans h6⟩

theorem RowsIn.cong {b n n' : Nat} {w : World} {S S' : Int → Bool} {C C' : Int → Array Value} {loc : Int → Nat} {D : DataW Unit} (h : RowsIn b w n S C loc D) (hn : n ≤ n') (hS : ∀ g, S g = S' g) (hC : ∀ g, S g = true → C g = C' g) : RowsIn b w n' S' C' loc D := by
  obtain rfl : S = S' := funext hS
  obtain ⟨h1, h2, h3, h4⟩ := h
  exact ⟨h1.mono hn, h2, fun g hg => by rw [← hC g hg]; exact h3 g hg, h4⟩

/-- A new row. -/
theorem RowsIn.add {b n : Nat} {w w1 : World} {S : Int → Bool} {C : Int → Array Value} {loc : Int → Nat} {D : DataW Unit} (h : RowsIn b w n S C loc D) (g : Int) (hg : S g = false) (cs : Array Value)
    (hown : w1.ownsMap Tryz.prog 3 ptrR b (n + 1) (D.put (.int .i64 g) (.lit (.int .i64 (w.heap.size : Nat))))) (hgr : (w.alloc (.cells cs 70)).grownBy w1 (some b)) :
    RowsIn b w1 (n + 1) (fun x => S x || x == g) (fun x => if x = g then cs else C x) (fun x => if x = g then w.heap.size else loc x) (D.put (.int .i64 g) (.lit (.int .i64 (w.heap.size : Nat)))) := by
  obtain ⟨h1, h2, h3, h4⟩ := h
  have lb := h1.lt
  refine ⟨hown, fun x => ?_, fun x hx => ?_, fun x y hx hy e => ?_⟩
  · by_cases e : x = g
    · subst e
      rw [Maps.atKey_put_same h1.isMap (by trivial)]
      simp
    · rw [Maps.atKey_put_other (by intro h'; injection h' with _ h'; exact e h'), h2 x]
      have : (x == g) = false := by simpa using e
      simp [e]
  · by_cases e : x = g
    · subst e
      simp only [if_true]
      refine ⟨lb, ?_⟩
      rw [hgr.block _ (by simp) (fun e' => by have := Option.some.inj e'; omega)]
      exact heap_alloc_new w _
    · have hs : S x = true := by
        have : (x == g) = false := by simpa using e
        simpa [this] using hx
      obtain ⟨h5, h6⟩ := h3 x hs
      simp only [e, if_false]
      refine ⟨h5, ?_⟩
      have hl := box_lt h6
      rw [hgr.block _ (by simp; omega) (fun e' => by have := Option.some.inj e'; omega), Below.heap_alloc _ _ _ hl]
      exact h6
  · by_cases ex : x = g <;> by_cases ey : y = g
    · rw [ex, ey]
    · have hs : S y = true := by
        have : (y == g) = false := by simpa using ey
        simpa [this] using hy
      have := box_lt (h3 y hs).2
      simp only [ex, ey, if_true, if_false] at e
      omega
    · have hs : S x = true := by
        have : (x == g) = false := by simpa using ex
        simpa [this] using hx
      have := box_lt (h3 x hs).2
      simp only [ex, ey, if_true, if_false] at e
      omega
    · have hs : S x = true := by
        have : (x == g) = false := by simpa using ex
        simpa [this] using hx
      have hs2 : S y = true := by
        have : (y == g) = false := by simpa using ey
        simpa [this] using hy
      simp only [ex, ey, if_false] at e
      exact h4 x y hs hs2 e

/-- A store into a row. -/
theorem RowsIn.set {b n : Nat} {w : World} {S : Int → Bool} {C : Int → Array Value} {loc : Int → Nat} {D : DataW Unit} (h : RowsIn b w n S C loc D) (g : Int) (hg : S g = true) (o : Nat) (v : Value) :
    RowsIn b (w.setCell ⟨loc g, o, none⟩ v) n S (fun x => if x = g then (C g).setIfInBounds o v else C x) loc D := by
  obtain ⟨h1, h2, h3, h4⟩ := h
  obtain ⟨h5, h6⟩ := h3 g hg
  refine ⟨h1.setCell (by simp; omega) v, h2, fun x hx => ?_, h4⟩
  obtain ⟨h7, h8⟩ := h3 x hx
  refine ⟨h7, ?_⟩
  by_cases e : x = g
  · subst e
    simp only [if_true]
    exact heap_setCell_same w (loc x) o _ _ v h8
  · simp only [e, if_false]
    rw [heap_far (fun e' => e (h4 x g hx hg e'))]
    exact h8
theorem RowsIn.heap {b n : Nat} {w w' : World} {S : Int → Bool} {C : Int → Array Value} {loc : Int → Nat} {D : DataW Unit} (h : RowsIn b w n S C loc D) (e : w'.heap = w.heap) : RowsIn b w' n S C loc D := by
  obtain ⟨⟨es, clock, hb, r⟩, h2, h3, h4⟩ := h
  exact ⟨⟨es, clock, by rw [e]; exact hb, r⟩, h2, fun g hg => by rw [e]; exact h3 g hg, h4⟩

theorem lawInt : Keyed Tryz.prog 3 := Maps.int_keyed Tryz.underlying3
theorem zeroRow (w : World) : (zeroValue 163).run Tryz.prog w = .ok (.pointer none) w := by kernel_rfl
theorem wf64 {x : Int} (h : i64I x) : (Lit.int .i64 x).wf = true := WalkArith.wf_i64 h
theorem seenG_take {l : List Hst.Ev} {j : Nat} {e : Hst.Ev} (h : l[j]? = some e) (g : Int) : seenG (l.take (j + 1)) g = (seenG (l.take j) g || g == e.g) := by
  rw [take_at h, seenG_append]
  congr 1
  simp only [seenG, List.any_cons, List.any_nil, Bool.or_false]
  exact Bool.eq_iff_iff.2 ⟨fun h => by simp at h ⊢; exact h.symm, fun h => by simp at h ⊢; exact h.symm⟩

/-- All rows, in block b. -/
def RowsAt (b : Nat) (w : World) (m : Nat) (l : List Hst.Ev) : Prop := ∃ n D loc, n ≤ m ∧ RowsIn b w n (seenG l) (fun g => rowC l g (lastG l g)) loc D

/-- All rows, with one more, behind which a goroutine's has yet to be brought up to date. -/
def Mid (b : Nat) (w : World) (n : Nat) (l : List Hst.Ev) (g : Int) (loc : Int → Nat) (D : DataW Unit) : Prop :=
  ∃ z, RowsIn b w n (fun x => seenG l x || x == g) (fun x => if x = g then rowC l g z else rowC l x (lastG l x)) loc D
theorem mid_seen {b n : Nat} {w : World} {l : List Hst.Ev} {g : Int} {loc : Int → Nat} {D : DataW Unit} (h : RowsIn b w n (seenG l) (fun g => rowC l g (lastG l g)) loc D) (hs : seenG l g = true) : Mid b w n l g loc D := by
  refine ⟨lastG l g, h.cong (Nat.le_refl _) (fun x => ?_) (fun x _ => ?_)⟩
  · by_cases e : x = g
    · subst e; simp [hs]
    · have : (x == g) = false := by simpa using e
      simp [this]
  · by_cases e : x = g
    · subst e; simp
    · simp [e]
theorem rowC_new {l : List Hst.Ev} {g : Int} (hs : seenG l g = false) : rowC l g 0 = #[.int .i64 g, .int .i64 0, .int .i64 0, .int .i64 0, .int .i64 0, .int .i64 0, .int .i64 0, .int .i64 0, .int .i64 0, .int .i64 0] := by
  unfold rowC
  simp only [cntK_unseen hs]
  rfl
theorem mid_new {b n : Nat} {w w1 : World} {l : List Hst.Ev} {g : Int} {loc : Int → Nat} {D : DataW Unit} (h : RowsIn b w n (seenG l) (fun g => rowC l g (lastG l g)) loc D) (hs : seenG l g = false)
    (hown : w1.ownsMap Tryz.prog 3 ptrR b (n + 1) (D.put (.int .i64 g) (.lit (.int .i64 (w.heap.size : Nat)))))
    (hgr : (w.alloc (.cells #[.int .i64 g, .int .i64 0, .int .i64 0, .int .i64 0, .int .i64 0, .int .i64 0, .int .i64 0, .int .i64 0, .int .i64 0, .int .i64 0] 70)).grownBy w1 (some b)) :
    Mid b w1 (n + 1) l g (fun x => if x = g then w.heap.size else loc x) (D.put (.int .i64 g) (.lit (.int .i64 (w.heap.size : Nat)))) := by
  rw [← rowC_new hs] at hgr
  exact ⟨0, h.add g hs _ hown hgr⟩
theorem mid_fin {b n m : Nat} {w' : World} {l : List Hst.Ev} {e : Hst.Ev} {loc : Int → Nat} {D : DataW Unit} (hn : n ≤ m) (h : RowsIn b w' n (fun x => seenG l x || x == e.g) (fun x => if x = e.g then rowC (l ++ [e]) e.g l.length else rowC l x (lastG l x)) loc D) : RowsAt b w' m (l ++ [e]) := by
  refine ⟨n, D, loc, hn, h.cong (Nat.le_refl _) (fun x => ?_) (fun x _ => ?_)⟩
  · rw [seenG_append]
    congr 1
    simp only [seenG, List.any_cons, List.any_nil, Bool.or_false]
    exact Bool.eq_iff_iff.2 ⟨fun h => by simp at h ⊢; exact h.symm, fun h => by simp at h ⊢; exact h.symm⟩
  · rw [lastG_snoc]
    by_cases ex : x = e.g
    · subst ex; simp
    · simp only [ex, if_false]
      rw [if_neg (fun h => ex h.symm), rowC_same (fun h => ex h.symm)]
theorem mid_more {b n m p : Nat} {w : World} {l : List Hst.Ev} {e : Hst.Ev} {loc : Int → Nat} {D : DataW Unit} (hn : n ≤ m) (h : Mid b w n l e.g loc D) (hp : p = loc e.g) (k : Nat) (hk : k < 8) (hke : e.kind = (k : Int)) :
    RowsAt b ((w.setCell ⟨p, 1 + k, none⟩ (.int .i64 ((cntK l e.g k : Nat) + 1))).setCell ⟨p, 9, none⟩ (.int .i64 (l.length : Nat))) m (l ++ [e]) := by
  obtain ⟨z, h⟩ := h
  subst hp
  have h1 := (h.set e.g (by simp) (1 + k) (.int .i64 ((cntK l e.g k : Nat) + 1))).set e.g (by simp) 9 (.int .i64 (l.length : Nat))
  refine mid_fin hn (h1.cong (Nat.le_refl _) (fun _ => rfl) (fun x _ => ?_))
  by_cases ex : x = e.g
  · subst ex
    simp only [if_true]
    rw [rowC_more k hk hke, rowC_set9]
  · simp only [ex, if_false]
theorem mid_out {b n m p : Nat} {w : World} {l : List Hst.Ev} {e : Hst.Ev} {loc : Int → Nat} {D : DataW Unit} (hn : n ≤ m) (h : Mid b w n l e.g loc D) (hp : p = loc e.g) (hke : ¬ (0 ≤ e.kind ∧ e.kind < 8)) :
    RowsAt b (w.setCell ⟨p, 9, none⟩ (.int .i64 (l.length : Nat))) m (l ++ [e]) := by
  obtain ⟨z, h⟩ := h
  subst hp
  have h1 := h.set e.g (by simp) 9 (.int .i64 (l.length : Nat))
  refine mid_fin hn (h1.cong (Nat.le_refl _) (fun _ => rfl) (fun x _ => ?_))
  by_cases ex : x = e.g
  · subst ex
    simp only [if_true]
    rw [rowC_set9, rowC_none hke]
  · simp only [ex, if_false]
theorem two_at (w : World) (o o2 : Obj) : ((w.alloc o).alloc o2).heap[w.heap.size]? = some o ∧ ((w.alloc o).alloc o2).heap[w.heap.size + 1]? = some o2 := by
  constructor
  · rw [Below.heap_alloc _ _ _ (by simp)]; exact heap_alloc_new w o
  · have e := heap_alloc_new (w.alloc o) o2; simpa using e
theorem mid_new2 {b n q : Nat} {w w1 : World} {l : List Hst.Ev} {g : Int} {loc : Int → Nat} {D : DataW Unit} (h : RowsIn b w n (seenG l) (fun g => rowC l g (lastG l g)) loc D) (hs : seenG l g = false) {o : Obj} (hq : q = w.heap.size + 1)
    (hown : w1.ownsMap Tryz.prog 3 ptrR b (n + 1) (D.put (.int .i64 g) (.lit (.int .i64 (q : Nat)))))
    (hgr : ((w.alloc o).alloc (.cells #[.int .i64 g, .int .i64 0, .int .i64 0, .int .i64 0, .int .i64 0, .int .i64 0, .int .i64 0, .int .i64 0, .int .i64 0, .int .i64 0] 70)).grownBy w1 (some b)) :
    Mid b w1 (n + 1) l g (fun x => if x = g then q else loc x) (D.put (.int .i64 g) (.lit (.int .i64 (q : Nat)))) ∧ w1.heap[w.heap.size]? = some o ∧ w1.heap[q]? = some (.cells #[.int .i64 g, .int .i64 0, .int .i64 0, .int .i64 0, .int .i64 0, .int .i64 0, .int .i64 0, .int .i64 0, .int .i64 0, .int .i64 0] 70 (0, 0)) := by
  have hbl := h.1.lt
  have e : q = (w.alloc o).heap.size := by simp [hq]
  refine ⟨?_, ?_, ?_⟩
  · rw [e] at hown ⊢
    exact mid_new (h.below (below_alloc w o)) hs hown hgr
  · exact (hgr.block w.heap.size (by simp; omega) (fun h => by have := Option.some.inj h; omega)).trans (two_at w _ _).1
  · rw [hq]
    exact (hgr.block (w.heap.size + 1) (by simp) (fun h => by have := Option.some.inj h; omega)).trans (two_at w _ _).2
theorem zero_at (g : Int) (k : Nat) (hk : k < 8) : (#[Value.int .i64 g, .int .i64 0, .int .i64 0, .int .i64 0, .int .i64 0, .int .i64 0, .int .i64 0, .int .i64 0, .int .i64 0, .int .i64 0] : Array Value)[1 + k]? = some (.int .i64 0) := by
  match k, hk with
  | 0, _ | 1, _ | 2, _ | 3, _ | 4, _ | 5, _ | 6, _ | 7, _ => rfl
theorem RowsAt.below {b m : Nat} {w w' : World} {l : List Hst.Ev} (h : RowsAt b w m l) (hb : Below w.heap.size w w') : RowsAt b w' m l := by
  obtain ⟨n, D, loc, hn, h⟩ := h
  exact ⟨n, D, loc, hn, h.below hb⟩
theorem RowsAt.heap {b m : Nat} {w w' : World} {l : List Hst.Ev} (h : RowsAt b w m l) (e : w'.heap = w.heap) : RowsAt b w' m l := by
  obtain ⟨n, D, loc, hn, h⟩ := h
  exact ⟨n, D, loc, hn, h.heap e⟩

set_option maxHeartbeats 3200000 in
set_option maxRecDepth 100000 in
theorem rows_any {w : World} {v : Value} {l : List Hst.Ev} (hA : EvArg w v l) (hc : l.length ≤ 100000) (h64 : inI64 l) :
    Calls Tryz.prog 89 #[v] w fun e w' => e = .returned (.map (some w.heap.size)) ∧ RowsAt w.heap.size w' l.length l ∧ Below w.heap.size w w' := by
  obtain ⟨a, c, rfl, hE⟩ := evArg_slice hA
  have hmm := @run_makeMap Tryz.prog
  clear hA
  go_enter Tryz.func89, Tryz.ntmps89
  go_wp2
  go_loopw [10] (fun i wr => ∃ j : Nat, i = .int .i64 (j : Int) ∧ j ≤ l.length ∧ RowsAt w.heap.size wr j (l.take j) ∧ Below w.heap.size w wr) (fun i _ => l.length - (intOf i).toNat)
  case atStart => exact ⟨0, rfl, by omega, ⟨0, _, _, Nat.le_refl _, (RowsIn.start w).cong (Nat.le_refl _) (fun g => by simp [seenG]) (fun g h => by cases h)⟩, below_alloc _ _⟩
  case round =>
    obtain ⟨j, rfl, hj, ⟨n, D, loc, hn, hR⟩, K⟩ := hrel
    by_cases hp : j < l.length
    · rcases hE with rfl | ⟨b, o, rfl, hE⟩
      · simp at hp
      obtain ⟨e, he⟩ : ∃ e, l[j]? = some e := ⟨_, List.getElem?_eq_getElem hp⟩
      have hE2 := hE.below hE.lt K
      have c0 := hE2.ck j e he
      have c1 := hE2.cg j e he
      have c2 := hE2.cm j e he
      have c3 := hE2.cp j e he
      have c4 := hE2.cv j e he
      have hlt := hE2.lt
      have hpi : (j : Int) < l.length := by omega
      have hwg := wf64 (h64 e (List.mem_of_getElem? he)).2.1
      have hkey := Maps.keyOf_int_mk Tryz.underlying3 hwg
      have hR1 := fun o => hR.below (below_alloc wr o)
      have hcnt : ∀ k : Int, (cntK (l.take j) e.g k : Int) ≤ 100000 := fun k => by have := cntK_le (l.take j) e.g k; rw [List.length_take] at this; omega
      have HE := Lib.hid he
      have HR := Lib.hid hR
      clear he hE hE2 hwg
      by_cases hs : seenG (l.take j) e.g = true
      · obtain ⟨p, hpp⟩ : ∃ p, p = loc e.g := ⟨_, rfl⟩
        have hv0 : ∀ v ps, ptrR v = some (D.atKey (.int .i64 e.g) (.lit (.int .i64 (-1))), ps) → v = .pointer (some ⟨p, 0, none⟩) := by
          rw [hR.2.1, hs, if_pos rfl, hpp]; exact fun v ps h => ptrR_some h
        obtain ⟨hp1, hp2⟩ := hR.2.2.1 e.g hs
        rw [← hpp] at hp1 hp2
        have hlp := box_lt hp2
        have fp : ∀ o, wr.frozen? ⟨p, o, none⟩ = false := fun o => Lib.frozen_of_heap hp2 o
        have cp : ∀ o, wr.cell? ⟨p, o, none⟩ = (rowC (l.take j) e.g (lastG (l.take j) e.g))[o]? := fun o => box_cell hp2 o
        have cp9 := cp 9
        have HP := Lib.hid hpp
        have HS := Lib.hid hs
        clear hpp hs hp2 hR
        by_cases hk : 0 ≤ e.kind ∧ e.kind < 8
        · obtain ⟨k, hk8, hke⟩ : ∃ k : Nat, k < 8 ∧ e.kind = (k : Int) := ⟨e.kind.toNat, by omega, by omega⟩
          have cpk := (cp (1 + k)).trans (rowC_at _ _ _ k hk8)
          have hck := hcnt k
          rw [hke] at c0
          have HK := Lib.hid hke
          clear hk hke cp hcnt
          go_wp2_with (first | (at_lookup; refine wpList_lookup_known _ rfl _ _ 164 rfl 3 163 lawInt Tryz.underlying164 ptrR (zeroRow _) _ [] rfl w.heap.size n D rfl (hR1 _).1 _ _ rfl hkey _ hv0 ?_))
          have hkb : (0 : Int) ≤ (k : Int) ∧ (k : Int) < 8 := by omega
          have hk1 : (k : Int) < 8 := by omega
          go_region
          go_wp2
          go_roundw
          case rel => exact ⟨j + 1, by go_num, hp, by
            rw [take_at HE.out]
            have hm := mid_more (m := j + 1) (Nat.le_succ_of_le hn) (mid_seen HR.out HS.out) HP.out k hk8 HK.out
            rw [List.length_take, Nat.min_eq_left hj] at hm
            exact (hm.below (below_alloc _ _)).heap rfl, by go_grown⟩
          case measure => simp [intOf]; omega
        · have HK := Lib.hid hk
          clear cp hcnt
          by_cases hk0 : 0 ≤ e.kind
          · have hk8 : ¬ e.kind < 8 := fun h => hk ⟨hk0, h⟩
            clear hk
            go_wp2_with (first | (at_lookup; refine wpList_lookup_known _ rfl _ _ 164 rfl 3 163 lawInt Tryz.underlying164 ptrR (zeroRow _) _ [] rfl w.heap.size n D rfl (hR1 _).1 _ _ rfl hkey _ hv0 ?_))
            go_roundw
            case rel => exact ⟨j + 1, by go_num, hp, by
              rw [take_at HE.out]
              have hm := mid_out (m := j + 1) (Nat.le_succ_of_le hn) (mid_seen HR.out HS.out) HP.out HK.out
              rw [List.length_take, Nat.min_eq_left hj] at hm
              exact (hm.below (below_alloc _ _)).heap rfl, by go_grown⟩
            case measure => simp [intOf]; omega
          · clear hk
            go_wp2_with (first | (at_lookup; refine wpList_lookup_known _ rfl _ _ 164 rfl 3 163 lawInt Tryz.underlying164 ptrR (zeroRow _) _ [] rfl w.heap.size n D rfl (hR1 _).1 _ _ rfl hkey _ hv0 ?_))
            go_roundw
            case rel => exact ⟨j + 1, by go_num, hp, by
              rw [take_at HE.out]
              have hm := mid_out (m := j + 1) (Nat.le_succ_of_le hn) (mid_seen HR.out HS.out) HP.out HK.out
              rw [List.length_take, Nat.min_eq_left hj] at hm
              exact (hm.below (below_alloc _ _)).heap rfl, by go_grown⟩
            case measure => simp [intOf]; omega
      · have hs : seenG (l.take j) e.g = false := by simpa using hs
        have hv0 : ∀ v ps, ptrR v = some (D.atKey (.int .i64 e.g) (.lit (.int .i64 (-1))), ps) → v = .pointer none := by
          rw [hR.2.1, hs, if_neg (by simp)]; exact fun v ps h => ptrR_nil h
        have hnew := fun o w1 => mid_new2 (w1 := w1) (o := o) hR hs rfl
        have hown2 := fun o o2 => ((hR1 o).below (below_alloc _ o2)).1
        have hcz : ∀ k : Int, cntK (l.take j) e.g k = 0 := fun k => cntK_unseen hs
        have HN := Lib.hid hnew
        have HZ := Lib.hid hcz
        have hbl := hR.1.lt
        have HL := Lib.hid (show ∀ o : Obj, w.heap.size ≤ (wr.alloc o).heap.size from fun o => by simp; omega)
        have HL2 := Lib.hid (show ∀ o o2 : Obj, w.heap.size ≤ ((wr.alloc o).alloc o2).heap.size from fun o o2 => by simp; omega)
        clear hnew hcz hR hs hcnt
        by_cases hk : 0 ≤ e.kind ∧ e.kind < 8
        · obtain ⟨k, hk8, hke⟩ : ∃ k : Nat, k < 8 ∧ e.kind = (k : Int) := ⟨e.kind.toNat, by omega, by omega⟩
          rw [hke] at c0
          have HK := Lib.hid hke
          have hkb : (0 : Int) ≤ (k : Int) ∧ (k : Int) < 8 := by omega
          have hk1 : (k : Int) < 8 := by omega
          clear hk hke
          go_wp2_with (first
            | (at_lookup; refine wpList_lookup_known _ rfl _ _ 164 rfl 3 163 lawInt Tryz.underlying164 ptrR (zeroRow _) _ [] rfl w.heap.size n D rfl (hR1 _).1 _ _ rfl hkey _ hv0 ?_)
            | (at_mapUpdate; refine wpList_mapUpdate_own _ rfl _ _ _ 164 rfl 3 163 lawInt Tryz.underlying164 _ w.heap.size n _ rfl (hown2 _ _) (by unfold maxLen; omega) _ _ _ rfl rfl hkey _ [] rfl ?_; intro w1 hown1 hgrow1; obtain ⟨hm, hx, hy⟩ := HN.out _ _ hown1 hgrow1; have x0 := box_cell hx 0; have x1 := box_cell hx 1; have y9 := box_cell hy 9; have yk := fun k hk => (box_cell hy (1 + k)).trans (zero_at e.g k hk); have fy : ∀ o, w1.frozen? ⟨wr.heap.size + 1, o, none⟩ = false := fun o => Lib.frozen_of_heap hy o; have K1 := ((K.alloc K.size _).alloc (HL.out _) _).grown hgrow1 (HL2.out _ _) (fun k hk => Nat.le_of_eq (Option.some.inj hk)); have HM := Lib.hid hm; have hwl := K1.size; have ykk := yk k hk8; clear yk; clear hx hy hm hown1 hgrow1 hown2 hR1 c0 c1 c2 c3 c4 K))
          go_region
          go_wp2
          go_roundw
          case rel => exact ⟨j + 1, by go_num, hp, by
            rw [take_at HE.out]
            have hm2 := mid_more (m := j + 1) (p := wr.heap.size + 1) (Nat.succ_le_succ hn) HM.out (by simp) k hk8 HK.out
            rw [List.length_take, Nat.min_eq_left hj, HZ.out] at hm2
            exact hm2.heap rfl, by go_grown⟩
          case measure => simp [intOf]; omega
        · have HK := Lib.hid hk
          by_cases hk0 : 0 ≤ e.kind
          · have hk8 : ¬ e.kind < 8 := fun h => hk ⟨hk0, h⟩
            clear hk
            go_wp2_with (first
            | (at_lookup; refine wpList_lookup_known _ rfl _ _ 164 rfl 3 163 lawInt Tryz.underlying164 ptrR (zeroRow _) _ [] rfl w.heap.size n D rfl (hR1 _).1 _ _ rfl hkey _ hv0 ?_)
            | (at_mapUpdate; refine wpList_mapUpdate_own _ rfl _ _ _ 164 rfl 3 163 lawInt Tryz.underlying164 _ w.heap.size n _ rfl (hown2 _ _) (by unfold maxLen; omega) _ _ _ rfl rfl hkey _ [] rfl ?_; intro w1 hown1 hgrow1; obtain ⟨hm, hx, hy⟩ := HN.out _ _ hown1 hgrow1; have x0 := box_cell hx 0; have x1 := box_cell hx 1; have y9 := box_cell hy 9; have yk := fun k hk => (box_cell hy (1 + k)).trans (zero_at e.g k hk); have fy : ∀ o, w1.frozen? ⟨wr.heap.size + 1, o, none⟩ = false := fun o => Lib.frozen_of_heap hy o; have K1 := ((K.alloc K.size _).alloc (HL.out _) _).grown hgrow1 (HL2.out _ _) (fun k hk => Nat.le_of_eq (Option.some.inj hk)); have HM := Lib.hid hm; have hwl := K1.size; clear yk; clear hx hy hm hown1 hgrow1 hown2 hR1 c0 c1 c2 c3 c4 K))
            go_roundw
            case rel => exact ⟨j + 1, by go_num, hp, by
              rw [take_at HE.out]
              have hm2 := mid_out (m := j + 1) (p := wr.heap.size + 1) (Nat.succ_le_succ hn) HM.out (by simp) HK.out
              rw [List.length_take, Nat.min_eq_left hj] at hm2
              exact hm2.heap rfl, by go_grown⟩
            case measure => simp [intOf]; omega
          · clear hk
            go_wp2_with (first
            | (at_lookup; refine wpList_lookup_known _ rfl _ _ 164 rfl 3 163 lawInt Tryz.underlying164 ptrR (zeroRow _) _ [] rfl w.heap.size n D rfl (hR1 _).1 _ _ rfl hkey _ hv0 ?_)
            | (at_mapUpdate; refine wpList_mapUpdate_own _ rfl _ _ _ 164 rfl 3 163 lawInt Tryz.underlying164 _ w.heap.size n _ rfl (hown2 _ _) (by unfold maxLen; omega) _ _ _ rfl rfl hkey _ [] rfl ?_; intro w1 hown1 hgrow1; obtain ⟨hm, hx, hy⟩ := HN.out _ _ hown1 hgrow1; have x0 := box_cell hx 0; have x1 := box_cell hx 1; have y9 := box_cell hy 9; have yk := fun k hk => (box_cell hy (1 + k)).trans (zero_at e.g k hk); have fy : ∀ o, w1.frozen? ⟨wr.heap.size + 1, o, none⟩ = false := fun o => Lib.frozen_of_heap hy o; have K1 := ((K.alloc K.size _).alloc (HL.out _) _).grown hgrow1 (HL2.out _ _) (fun k hk => Nat.le_of_eq (Option.some.inj hk)); have HM := Lib.hid hm; have hwl := K1.size; clear yk; clear hx hy hm hown1 hgrow1 hown2 hR1 c0 c1 c2 c3 c4 K))
            go_roundw
            case rel => exact ⟨j + 1, by go_num, hp, by
              rw [take_at HE.out]
              have hm2 := mid_out (m := j + 1) (p := wr.heap.size + 1) (Nat.succ_le_succ hn) HM.out (by simp) HK.out
              rw [List.length_take, Nat.min_eq_left hj] at hm2
              exact hm2.heap rfl, by go_grown⟩
            case measure => simp [intOf]; omega
    · obtain rfl : j = l.length := by omega
      rw [List.take_length] at hR
      have hpi : ¬ (l.length : Int) < l.length := by omega
      have HO := Lib.hid hR
      clear hR
      go_wp2
      go_returns
      exact ⟨rfl, ⟨n, D, loc, hn, HO.out⟩, K⟩
end Go.Proofs.YtfjepdcnikgjeaaGreatDoor
