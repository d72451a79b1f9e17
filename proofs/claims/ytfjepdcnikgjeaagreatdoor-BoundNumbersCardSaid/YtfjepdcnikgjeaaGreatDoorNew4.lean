/-
  A world made: world.New.
-/
import Derived.Test.YtfjepdcnikgjeaaGreatDoorNew3
set_option linter.unusedVariables false
set_option linter.unusedSimpArgs false
set_option linter.unusedSectionVars false
namespace Go.Proofs.YtfjepdcnikgjeaaGreatDoor
open Go Go.RowKit Hst Go.Proofs

/-- What is known of a world behind its new blocks. -/
theorem NewInv.setW {wb w : World} {P M : Nat} {ow : Nat → Nat} {f17 f20 f23 f26 f31 : Option Value} (h : NewInv wb P M ow w f17 f20 f23 f26 f31) (hP : 0 < P) (hM : 0 < M) {b : Nat} (hb : ow b = 1) (o : Nat) (v : Value) : NewInv wb P M ow (w.setCell ⟨b, o, none⟩ v) f17 f20 f23 f26 f31 := by
  have ag : ∀ j, j ≠ 1 → Agree (ow · = j) w (w.setCell ⟨b, o, none⟩ v) := fun j hj => ⟨by simp, fun x _ hx => heap_far (fun e => hj (by rw [← hx, e]; exact hb)) v⟩
  have hbl : wb.heap.size ≤ b := by
    rcases Nat.lt_or_ge b wb.heap.size with hl | hl
    · have := h.low b hl; omega
    · exact hl
  refine ⟨h.low, h.frame.setCell hbl v, fun v e => ?_, fun v e => ?_, fun v e => ?_, fun v e => ?_, fun v e => ?_⟩
  · obtain ⟨x, e1, e2, e3⟩ := h.turns v e
    exact ⟨x, e1, e2, e3.congr (ag 5 (by decide)) e2 (e3.lt hP)⟩
  · obtain ⟨x, e1, e2, e3⟩ := h.flag v e
    exact ⟨x, e1, e2, e3.congr (ag 10 (by decide)) e2 (e3.lt hM)⟩
  · obtain ⟨x, e1, e2⟩ := h.glob v e
    exact ⟨x, e1, e2.agree (ag 6 (by decide)) fun _ _ e => e⟩
  · obtain ⟨x, e1, e2⟩ := h.src v e
    exact ⟨x, e1, e2.agree (ag 7 (by decide)) fun _ _ e => e⟩
  · obtain ⟨x, e1, e2⟩ := h.idle v e
    exact ⟨x, e1, e2.agree (ag 8 (by decide)) fun _ _ e => e⟩

theorem NewInv.more2 {wb w w' : World} {P M : Nat} {ow ow' : Nat → Nat} {f17 f20 f23 f26 f31 : Option Value} (h : NewInv wb P M ow w f17 f20 f23 f26 f31) (hP : 0 < P) (hM : 0 < M) (em0 : ∀ x, x < w.heap.size → ow' x = ow x) (b : Below w.heap.size w w') : NewInv wb P M ow' w' f17 f20 f23 f26 f31 := by
  have hs := h.frame.size
  have ag : ∀ j, Agree (ow · = j) w w' := fun j => ⟨b.size, fun x hx _ => b.block x hx⟩
  have em : ∀ j x, x < w.heap.size → ow x = j → ow' x = j := fun j x hx e => (em0 x hx).trans e
  refine ⟨fun x hx => (em0 x (by have := h.frame.size; omega)).trans (h.low x hx), h.frame.trans (b.mono hs), fun v e => ?_, fun v e => ?_, fun v e => ?_, fun v e => ?_, fun v e => ?_⟩
  · obtain ⟨x, e1, e2, e3⟩ := h.turns v e
    exact ⟨x, e1, em 5 x (e3.lt hP) e2, e3.congr (ag 5) e2 (e3.lt hP)⟩
  · obtain ⟨x, e1, e2, e3⟩ := h.flag v e
    exact ⟨x, e1, em 10 x (e3.lt hM) e2, e3.congr (ag 10) e2 (e3.lt hM)⟩
  · obtain ⟨x, e1, e2⟩ := h.glob v e
    exact ⟨x, e1, e2.agree (ag 6) (em 6)⟩
  · obtain ⟨x, e1, e2⟩ := h.src v e
    exact ⟨x, e1, e2.agree (ag 7) (em 7)⟩
  · obtain ⟨x, e1, e2⟩ := h.idle v e
    exact ⟨x, e1, e2.agree (ag 8) (em 8)⟩

theorem Tryz.infoPR : (Tryz.prog.info? 183).map (fun i => (i.zero, i.size, i.bytes)) = some (some (.pointer none), 1, 8) := by kernel_rfl
theorem Tryz.infoMach : (Tryz.prog.info? 107).map (fun i => (i.zero, i.size, i.bytes)) = some (some (.agg zeroMach), 18, 152) := by kernel_rfl

theorem ptrs_succ (F : Fix) (n : Nat) : ptrs F (n + 1) = ptrs F n ++ [ptr (F.ring n)] := by unfold ptrs; rw [List.range_succ, List.map_append]; rfl
theorem half_row {F : Fix} {wb w : World} {P M G : Nat} {ow : Nat → Nat} {nr nk : Nat} {vr : Value} {idl : Hst.Idle} {nm : Nat} {va : Value} (h : Half F wb P M G ow w nr nk vr idl nm va) : ∀ g, vr.ownBlock = some g → g ≠ F.W := fun g hg e => by
  have a1 : ow g = 4 := h.row.2 g hg
  have a2 := h.own.1
  rw [e] at a1; omega
theorem half_all {F : Fix} {wb w : World} {P M G : Nat} {ow : Nat → Nat} {nr nk : Nat} {vr : Value} {idl : Hst.Idle} {nm : Nat} {va : Value} (h : Half F wb P M G ow w nr nk vr idl nm va) : ∀ g, va.ownBlock = some g → g ≠ F.W := fun g hg e => by
  have a1 : ow g = 9 := h.all.2 g hg
  have a2 := h.own.1
  rw [e] at a1; omega
theorem newS_frame {b P M G : Nat} {wb w : World} (hw : newS b P M G wb) (hb : b < wb.heap.size) (h : Below wb.heap.size wb w) : newS b P M G w := by
  obtain ⟨k0, k1, k2⟩ := hw
  exact ⟨(h.cell (p := ⟨b, 0, none⟩) hb).trans k0, (h.cell (p := ⟨b, 1, none⟩) hb).trans k1, (h.cell (p := ⟨b, 2, none⟩) hb).trans k2⟩
theorem IdleH_mono {S T : Nat → Prop} {b mk mw n m : Nat} {w : World} {x : Hst.Idle} (h : IdleH S b mk mw w n m x) (hs : ∀ y, S y → T y) : IdleH T b mk mw w n m x := by
  obtain ⟨s0, s1, s2⟩ := h.inS
  obtain ⟨pv, mv, r1, r2, r3, r4, r5, r6, r7⟩ := h.rows
  exact ⟨⟨hs _ s0, hs _ s1, hs _ s2⟩, h.ne, h.c0, ⟨pv, mv, r1, r2, r3, r4, fun g e => hs _ (r5 g e), fun g e => hs _ (r6 g e), r7⟩, h.c3, h.c4, h.k0, h.k1, h.kw, h.fr, h.bits, h.n_le⟩

set_option maxRecDepth 100000 in
theorem fresh_any (w : World) : Calls Tryz.prog 107 #[] w fun e w' => e = .returned (.agg #[.int .i64 16, .int .i64 (-1), .int .i64 (-1), .int .i64 (-1), .int .i64 (-1), .int .i64 (-1), .int .i64 0, .bool false, .bool false, .slice none 0 0, .int .i64 0, .int .i64 0, .int .i64 0, .int .i64 0, .int .i64 0, .int .i64 0, .int .u64 0, .int .i64 0]) ∧ Below w.heap.size w w' := by
  have HX := Lib.hid (show (w.alloc (.cells zeroMach 107)).heap[w.heap.size]? = some (.cells zeroMach 107 (0, 0)) from heap_alloc_new w _)
  go_enter Tryz.func107, Tryz.ntmps107
  go_wp2_with (first | (refine wpList_store_row rfl 107 _ _ rfl w.heap.size _ rfl rfl 107 _ HX.out (by kernel_rfl) rfl (by simp [Value.oneCell']) ?_))
  apply bodyPost_ret (v := .agg #[.int .i64 16, .int .i64 (-1), .int .i64 (-1), .int .i64 (-1), .int .i64 (-1), .int .i64 (-1), .int .i64 0, .bool false, .bool false, .slice none 0 0, .int .i64 0, .int .i64 0, .int .i64 0, .int .i64 0, .int .i64 0, .int .i64 0, .int .u64 0, .int .i64 0])
  · exact results_cell_row rfl _ _ w.heap.size 107 _ (0, 0) _ rfl (setRow_heap _ _ _ _ _ _ HX.out) Tryz.underlying107 rfl (by kernel_rfl)
  · rfl
  have hB := below_alloc w (.cells zeroMach 107)
  exact ⟨rfl, ⟨hB.os, hB.tape, hB.output, by simp, fun k hk => (setRow_other _ _ _ _ (by omega)).trans (hB.block k hk)⟩⟩
theorem rep_succ (n : Nat) (l : List Value) : (List.replicate (n + 1) l).flatten = (List.replicate n l).flatten ++ l := by rw [List.replicate_succ', List.flatten_append]; simp
theorem idl12 (P : Nat) (hP : 1 ≤ P) : idl1 P = idl2 P 0 := by unfold idl1 idl2; rw [show max P 1 = P by omega]; rfl
theorem idl2_01 (P : Nat) : idl2 P 0 = idl2 P 1 := by unfold idl2; rfl

/-- The world's own cells, as they lie behind what is reckoned. -/
def wLit (P M G _a : Nat) (mem : Value) (x17 x20 x23 x26 x31 : Nat) : Array Value :=
  #[.int .i64 P, .int .i64 M, .int .i64 G, mem, .int .i64 (2 * ((P : Int) + 2)), .int .i64 (2 * ((P : Int) + 2) + 1), .int .i64 (2 * ((P : Int) + 2) + 1 + (M : Int)), .int .i64 G, .slice none 0 0, .slice (some ⟨x17, 0, none⟩) P P, .pointer (some ⟨x23, 0, none⟩), .pointer (some ⟨x26, 0, none⟩), .pointer (some ⟨x31, 0, none⟩), .slice none 0 0, .slice (some ⟨x20, 0, none⟩) M M, .slice none 0 0]

theorem half_start {w1 w4 : World} {P M G : Nat} {ow4 : Nat → Nat} {W mb r x17 x20 x23 x26 x31 : Nat} {w5 : World} (hP : 0 < P) (hM : 0 < M)
    (hI : NewInv w1 P M ow4 w4 (some (.slice (some ⟨x17, 0, none⟩) P P)) (some (.slice (some ⟨x20, 0, none⟩) M M)) (some (.pointer (some ⟨x23, 0, none⟩))) (some (.pointer (some ⟨x26, 0, none⟩))) (some (.pointer (some ⟨x31, 0, none⟩))))
    (hW : w4.heap[W]? = some (.cells (wLit P M G 0 (.pointer none) x17 x20 x23 x26 x31) 153 (0, 0))) (oW : ow4 W = 1)
    (h1 : w4.heap.size ≤ mb) (h2 : w4.heap.size ≤ r) (h3 : mb ≠ r) (c0 : w5.cell? ⟨mb, 0, none⟩ = some (.slice (some ⟨r, 0, none⟩) (nWords P M G) (nWords P M G))) (c1 : w5.cell? ⟨mb, 1, none⟩ = some (.int .i64 0))
    (cw : ∀ a, a < nWords P M G → w5.cell? ⟨r, a, none⟩ = some (.int .u64 0)) (f1 : ∀ o, w5.frozen? ⟨mb, o, none⟩ = false) (f2 : ∀ o, w5.frozen? ⟨r, o, none⟩ = false) (hb : Below w4.heap.size w4 w5) :
    ∃ ow F, Half F w1 P M G ow (w5.setCell ⟨W, 3, none⟩ (.pointer (some ⟨mb, 0, none⟩))) 0 0 (.slice none 0 0) (idl1 0) 0 (.slice none 0 0) ∧ F.W = W := by
  have lW := box_lt hW
  refine ⟨fun x => if x < w4.heap.size then ow4 x else if x = r then 3 else 2, { W := W, mem := mb, ws := r, rs := 0, rsCap := 0, ring := fun _ => 0, turns := x17, glob := x23, src := x26, idle := x31, all := 0, allCap := 0, flag := x20 }, ?_, rfl⟩
  have hI5 := hI.more2 (ow' := fun x => if x < w4.heap.size then ow4 x else if x = r then 3 else 2) hP hM (fun x hx => if_pos hx) hb
  have hI6 := hI5.setW hP hM (b := W) (by show (if W < w4.heap.size then ow4 W else _) = 1; rw [if_pos lW]; exact oW) 3 (.pointer (some ⟨mb, 0, none⟩))
  have hW5 : w5.heap[W]? = some (.cells (wLit P M G 0 (.pointer none) x17 x20 x23 x26 x31) 153 (0, 0)) := (hb.block W lW).trans hW
  have hW6 := heap_setCell_same w5 W 3 _ _ (.pointer (some ⟨mb, 0, none⟩)) hW5
  obtain ⟨y17, e17, o17, t17⟩ := hI6.turns _ rfl
  obtain ⟨y20, e20, o20, t20⟩ := hI6.flag _ rfl
  obtain ⟨y23, e23, t23⟩ := hI6.glob _ rfl
  obtain ⟨y26, e26, t26⟩ := hI6.src _ rfl
  obtain ⟨y31, e31, t31⟩ := hI6.idle _ rfl
  obtain rfl : x17 = y17 := by simpa [sli] using e17
  obtain rfl : x20 = y20 := by simpa [sli] using e20
  obtain rfl : x23 = y23 := by simpa [ptr] using e23
  obtain rfl : x26 = y26 := by simpa [ptr] using e26
  obtain rfl : x31 = y31 := by simpa [ptr] using e31
  have nm : W ≠ mb := by omega
  have nr : W ≠ r := by omega
  refine ⟨hI6.low, hI6.frame, ⟨?_, ?_, ?_, o17, o20⟩, ⟨hP, hM⟩, ⟨fun k hk => ?_, fun o => Lib.frozen_of_heap hW6 o⟩, ⟨fun k hk => ?_, fun o => (World.frozen?_setCell _ _ _ _).trans (f1 o)⟩, ⟨fun k hk => (cell_far nr _).trans (cw k hk), fun o => (World.frozen?_setCell _ _ _ _).trans (f2 o)⟩, t17, t20, t23, t26, ?_, fun q hq => by omega, ⟨World.ownsRow_nil _ _ _ _, fun g hg => by cases hg⟩, ⟨World.ownsRow_nil _ _ _ _, fun g hg => by cases hg⟩⟩
  · show (if W < w4.heap.size then ow4 W else _) = 1
    rw [if_pos lW]; exact oW
  · show (if mb < w4.heap.size then _ else if mb = r then 3 else 2) = 2
    rw [if_neg (by omega), if_neg h3]
  · show (if r < w4.heap.size then _ else if r = r then 3 else 2) = 3
    rw [if_neg (by omega), if_pos rfl]
  · rcases (show k = 0 ∨ k = 1 ∨ k = 2 ∨ k = 3 ∨ k = 4 ∨ k = 5 ∨ k = 6 ∨ k = 7 ∨ k = 8 ∨ k = 9 ∨ k = 10 ∨ k = 11 ∨ k = 12 ∨ k = 13 ∨ k = 14 ∨ k = 15 by omega) with h | h | h | h | h | h | h | h | h | h | h | h | h | h | h | h
    all_goals subst h
    all_goals refine (box_cell hW6 _).trans ?_
    all_goals first | rfl | (show some (Value.int .i64 _) = some (Value.int .i64 _); congr 2; omega)
  · rcases (show k = 0 ∨ k = 1 by omega) with h | h
    · subst h; exact (cell_far nm _).trans c0
    · subst h; exact (cell_far nm _).trans c1
  · exact t31

/-- A world at first, but for what its first steps turn. -/
def halfW (P M G : Nat) : Wd :=
  { P := P, M := M, G := G, ws := List.replicate (nWords P M G) 0, cnt := 0, rings := List.replicate P Hst.Ring.new, turns := List.replicate P 0, glob := [], src := Src.new, idle := idl2 P M, all := List.replicate M Mach.fresh, flag := List.replicate M false, log := [] }
theorem getD_rep {α : Type} (n k : Nat) (x d : α) (h : k < n) : (List.replicate n x).getD k d = x := by simp [List.getD_eq_getElem?_getD, h]
theorem rep_at (l : List Value) (hl : 0 < l.length) : ∀ (n k : Nat), k < n * l.length → (List.replicate n l).flatten[k]? = l[k % l.length]?
  | 0, k, h => by omega
  | n + 1, k, h => by
    rw [List.replicate_succ, List.flatten_cons]
    by_cases hk : k < l.length
    · rw [List.getElem?_append_left hk, Nat.mod_eq_of_lt hk]
    · have h2 : k < n * l.length + l.length := by rw [Nat.add_mul, Nat.one_mul] at h; exact h
      rw [List.getElem?_append_right (by omega), rep_at l hl n (k - l.length) (by omega)]
      congr 1
      exact (Nat.mod_eq_sub_mod (by omega)).symm

theorem row_cells {w : World} {base e size n g cap : Nat} {xs : List Value} (h : w.ownsRow base e size (.slice (some ⟨g, 0, none⟩) n cap) n xs) (_hn : 0 < n) : ∀ o, w.frozen? ⟨g, o, none⟩ = false := by
  rcases h.2 with ⟨h0, _⟩ | ⟨g', cap', cur, hv, _, hg, _⟩
  · cases h0
  · simp only [Value.slice.injEq, Option.some.injEq, Addr.mk.injEq, and_true, true_and] at hv
    obtain ⟨rfl, rfl⟩ := hv
    exact fun o => Lib.frozen_of_heap hg o

theorem half_world {F : Fix} {wb w : World} {P M G : Nat} {ow : Nat → Nat} {vr va : Value} (h : Half F wb P M G ow w P P vr (idl2 P M) M va) (hd : dims P M G) : ∃ F' V, WAt F' V ow w (halfW P M G) ∧ F'.W = F.W := by
  obtain ⟨g, cap, rfl, _, _, hcap⟩ := ownsRow_some h.row.1 h.pos.1
  obtain ⟨g2, cap2, rfl, _, _, hcap2⟩ := ownsRow_some h.all.1 h.pos.2
  obtain ⟨o1, o2, o3, o5, o10⟩ := h.own
  refine ⟨{ F with rs := g, rsCap := cap, all := g2, allCap := cap2 }, { logV := .slice none 0 0, rest := fun _ => .slice none 0 0 }, ?_, rfl⟩
  have hfl : freshC.length = 18 := rfl
  refine ⟨hd, ⟨by simp [halfW], by simp [halfW], by simp [halfW], by simp [halfW], by simp [halfW]⟩, fun a => ?_, ⟨o1, o2, o3, h.row.2 g rfl, o5, h.all.2 g2 rfl, o10, fun q hq => (h.rings q hq).2⟩, ⟨hcap, hcap2⟩, ?_, h.cmem, ?_, ⟨fun q hq => ?_, row_cells h.row.1 h.pos.1⟩, fun q hq => ?_, ?_, h.cglob, h.csrc, h.cidle, ⟨fun k hk => ?_, row_cells h.all.1 h.pos.2⟩, fun i hi => ?_, ?_, World.ownsRow_nil _ _ _ _, fun x hx => by cases hx⟩
  · show (List.replicate (nWords P M G) 0).getD a 0 < _
    rw [List.getD_eq_getElem?_getD, List.getElem?_replicate]; split <;> simp
  · refine h.cw.ext fun k hk => ?_
    rcases (show k = 0 ∨ k = 1 ∨ k = 2 ∨ k = 3 ∨ k = 4 ∨ k = 5 ∨ k = 6 ∨ k = 7 ∨ k = 8 ∨ k = 9 ∨ k = 10 ∨ k = 11 ∨ k = 12 ∨ k = 13 ∨ k = 14 ∨ k = 15 by omega) with h | h | h | h | h | h | h | h | h | h | h | h | h | h | h | h
    all_goals subst h
    all_goals rfl
  · refine h.cws.ext fun k hk => ?_
    show _ = Value.int .u64 (((List.replicate (nWords P M G) 0).getD k 0 : Nat) : Int)
    rw [getD_rep _ _ _ _ hk]; rfl
  · have hq' : q < P := hq
    rw [h.row.1.cellAt q (by omega)]
    simp [ptrs, hq']
  · have e : (halfW P M G).ring q = Hst.Ring.new := getD_rep _ _ _ _ hq
    rw [e]; exact (h.rings q hq).1
  · refine h.cturns.ext fun k hk => ?_
    show _ = Value.int .i64 ((List.replicate P (0 : Int)).getD k 0)
    rw [getD_rep _ _ _ _ hk]
  · have hk' : k < M * freshC.length := by rw [hfl]; exact hk
    rw [h.all.1.cellAt k hk, rep_at freshC (by decide) M k hk']
    unfold allCell
    have e : (halfW P M G).mach (k / 18) = Mach.fresh := getD_rep _ _ _ _ (by show k / 18 < M; have : k < M * 18 := hk; omega)
    rw [e, hfl]
    have h18 : k % 18 < 18 := Nat.mod_lt _ (by decide)
    generalize k % 18 = j at *
    rcases lt18 h18 with rfl | rfl | rfl | rfl | rfl | rfl | rfl | rfl | rfl | rfl | rfl | rfl | rfl | rfl | rfl | rfl | rfl | rfl <;> rfl
  · have e : (halfW P M G).mach i = Mach.fresh := getD_rep _ _ _ _ hi
    rw [e]
    exact ⟨World.ownsRow_nil _ _ _ _, fun x hx => by cases hx⟩
  · refine h.cflag.ext fun k hk => ?_
    show _ = Value.bool ((List.replicate M false).getD k false)
    rw [getD_rep _ _ _ _ hk]
end Go.Proofs.YtfjepdcnikgjeaaGreatDoor
