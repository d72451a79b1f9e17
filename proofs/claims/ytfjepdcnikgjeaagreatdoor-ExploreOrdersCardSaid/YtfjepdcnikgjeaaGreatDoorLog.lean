/-
  Contracts of the log: one event more.
-/
import Derived.Test.YtfjepdcnikgjeaaGreatDoorFound
import Derived.Deep.RegionLaw
import Derived.StillTailTactics
import Derived.Deep.AppendLies
set_option linter.unusedVariables false
set_option linter.unusedSimpArgs false
set_option linter.unusedSectionVars false
namespace Go.Proofs.YtfjepdcnikgjeaaGreatDoor
open Go Go.RowKit Hst Go.Proofs

theorem encEs_len (l : List Hst.Ev) : (encEs l).length = l.length * 5 := by
  induction l with
  | nil => rfl
  | cons e t ih => simp [encEs, encE] at ih ⊢; omega
theorem encEs_append (l m : List Hst.Ev) : encEs (l ++ m) = encEs l ++ encEs m := by simp [encEs]

section
variable {F : Fix} {V : Vol} {ow0 ow : Nat → Nat} {w0 w : World} {p : Wd}

theorem On.appLog (h : On F V ow0 w0 ow w p) {w' : World} {v' : Value} {l : List Hst.Ev} (hg : w.grownBy w' V.logV.ownBlock) (hown : w'.ownsRow 0 43 5 v' l.length (encEs l)) (hat : v'.ownBlock = V.logV.ownBlock ∨ v'.ownBlock = some w.heap.size) :
    On F { V with logV := v' } ow0 w0 (grow ow w.heap.size 11) (w'.setCell ⟨F.W, 15, none⟩ v') { p with log := l } := by
  obtain ⟨ha, hst⟩ := h
  obtain ⟨o1, o2, o3, o4, o5, o9, o10, oq⟩ := ha.own
  obtain ⟨l1, l2, l3, l4, l5⟩ := ha.lens
  have lW := ha.cw.lt (by decide)
  have hin := ha.clog.2
  have hvW : V.logV.ownBlock ≠ some F.W := fun e => by have := hin _ e; omega
  have hvW' : v'.ownBlock ≠ some F.W := by
    rcases hat with e | e
    · rw [e]; exact hvW
    · rw [e]; intro e2; have := Option.some.inj e2; omega
  have hblk : ∀ b, b < w.heap.size → ow b ≠ 1 → ow b ≠ 11 → (w'.setCell ⟨F.W, 15, none⟩ v').heap[b]? = w.heap[b]? := fun b hb h1 h2 => by
    rw [heap_far (fun e => h1 (by rw [e]; exact o1))]
    exact hg.block b hb (fun e => h2 (hin b e.symm))
  have hcw' : Cells F.W 16 (wCells F V p.P p.M p.G) w' := by
    refine ha.cw.congr (S := fun b => ow b = 1) ⟨hg.size, fun b hb e => hg.block b hb (fun e2 => ?_)⟩ o1 lW
    have e3 : ow b = 11 := hin b e2.symm
    omega
  have hsz : w.heap.size ≤ (w'.setCell ⟨F.W, 15, none⟩ v').heap.size := by have := hg.size; simpa using this
  refine ⟨ha.upd (fun k => k = 1 ∨ k = 11) ⟨rfl, rfl, rfl⟩ ⟨l1, l2, l3, l4, l5⟩ (fun b hb => grow_lt hb) ⟨hsz, fun b hb hx => hblk b hb (fun e => hx.2 (.inl e)) (fun e => hx.2 (.inr e))⟩
    (.inr ?_) (.inl ⟨by omega, rfl⟩) (.inl ⟨by omega, rfl⟩) (by omega) (fun q hq => .inl ⟨by rintro (h | h) <;> omega, rfl⟩)
    (.inl ⟨by omega, rfl⟩) (.inl ⟨by omega, rfl⟩) (.inl ⟨by omega, rfl⟩) (.inl ⟨by omega, rfl⟩) (.inl ⟨by omega, rfl, rfl⟩) (fun j hj => .inl ⟨by rintro (h | h) <;> omega, rfl, rfl⟩) (.inl ⟨by omega, rfl⟩) (.inr ⟨ownsRow_far hown hvW', ?_⟩), hst.trans ⟨?_, ?_, ?_, hsz, fun b hb => grow_lt hb, fun b hb e => hblk b hb (by omega) (by omega)⟩⟩
  · refine (hcw'.set 15 (by decide) v').ext fun c hc => ?_
    by_cases e : c = 15
    · subst e; rfl
    · rw [if_neg e]
      rcases (show c = 0 ∨ c = 1 ∨ c = 2 ∨ c = 3 ∨ c = 4 ∨ c = 5 ∨ c = 6 ∨ c = 7 ∨ c = 8 ∨ c = 9 ∨ c = 10 ∨ c = 11 ∨ c = 12 ∨ c = 13 ∨ c = 14 by omega) with rfl | rfl | rfl | rfl | rfl | rfl | rfl | rfl | rfl | rfl | rfl | rfl | rfl | rfl | rfl <;> rfl
  · intro g hgv
    rcases hat with e | e
    · have h2 := hin g (by rw [← e]; exact hgv)
      have h3 := ha.clog.1.lt g (by rw [← e]; exact hgv)
      show grow ow w.heap.size 11 g = 11
      rw [grow_lt (by omega)]; exact h2
    · rw [e] at hgv; cases hgv; exact grow_ge (Nat.le_refl _)
  · exact hg.os
  · exact hg.tape
  · exact hg.output
end

theorem Tryz.infoEvent : (Tryz.prog.info? 43).map (fun i => (i.zero, i.size, i.bytes)) = some (some (.agg #[.int .i64 0, .int .i64 0, .int .i64 0, .int .i64 0, .int .i64 0]), 5, 40) := by kernel_rfl

set_option maxRecDepth 100000 in
set_option maxHeartbeats 1600000 in
theorem logadd_on {N : Nat} {F : Fix} {V : Vol} {ow : Nat → Nat} {w : World} {p : Wd} (h : WAt F V ow w p) (E : Env N ow w) (e : Hst.Ev) (hr : rightOf e = true) (hbig : p.log.length < 4294967296) :
    Calls Tryz.prog 110 #[.pointer (some ⟨F.W, 15, none⟩), evV e] w fun r w' => r = .returned (.bool true) ∧ ∃ V' ow', V'.rest = V.rest ∧ On F V' ow w ow' w' { p with log := p.log ++ [e] } := by
  obtain ⟨k, g, m, pp, v⟩ := e
  have hR := fun w h => right_any ⟨k, g, m, pp, v⟩ w N h
  simp only [evV, hr] at hR ⊢
  obtain ⟨i0, hi, hz0, hz1, hz2⟩ := info_parts Tryz.infoEvent
  have HR := Lib.hid hR
  have H := Lib.hid h
  have HE := Lib.hid E
  clear h E hR hr
  go_enter Tryz.func110, Tryz.ntmps110
  go_wp2_with fail
  refine (HR.out _ (HE.out.tabs.alloc _)).mono ?_
  rintro r w1 ⟨rfl, hb⟩
  have hx := below_box hb
  have hlt := box_lt hx
  have c0 := box_cell hx 0
  have c1 := box_cell hx 1
  have c2 := box_cell hx 2
  have c3 := box_cell hx 3
  have c4 := box_cell hx 4
  simp only [List.getElem?_toArray, List.getElem?_cons_zero, List.getElem?_cons_succ] at c0 c1 c2 c3 c4
  have h1 := ((On.start H.out).alloc (.cells #[.int .i64 k, .int .i64 g, .int .i64 m, .int .i64 pp, .int .i64 v] 43)).below hb
  have cL := h1.at_.cW_log
  have fW := h1.at_.cw.2
  have lW := h1.at_.cw.lt (by decide)
  have H1 := Lib.hid h1
  clear h1 hx hb
  have h2 := (H1.out.alloc (.cells #[.int .i64 k, .int .i64 g, .int .i64 m, .int .i64 pp, .int .i64 v] 43)).drew
  have H2 := Lib.hid h2
  have hW : ∀ gg, V.logV.ownBlock = some gg → gg ≠ F.W := fun gg hg e => by
    have a1 := h2.at_.clog.2 gg hg
    have a2 := h2.at_.own.1
    rw [e] at a1; omega
  have HW := Lib.hid hW
  clear h2 hW
  go_wp2
  go_region_law (first | (refine step_append_lies _ (by rfl) _ _ _ (by rfl) 0 43 i0 _ 5 40 Tryz.underlying60 hi hz0 hz1 hz2 rfl (by omega) _ p.log.length _ (by rfl) H2.out.at_.clog.1 ⟨w1.heap.size, 0, none⟩ 1 1 [.int .i64 k, .int .i64 g, .int .i64 m, .int .i64 pp, .int .i64 v] (by rfl) (by rfl) (World.news_of_block (cs := #[.int .i64 k, .int .i64 g, .int .i64 m, .int .i64 pp, .int .i64 v]) (t := 43) (fr := (0, 0)) (heap_alloc_new w1 _)) (by simp [Value.oneCell']) (by omega) (by unfold maxLen; omega) (by omega) (by simp) (w1.heap.size + 1) (by simp) ?_; intro gg cap w3 hown3 hgrow hat hlt4; have k15 := hgrow.cell H2.out.at_.cW_log (fun e => HW.out _ e.symm rfl); have kf := fun o => (hgrow.frozen_far ⟨F.W, o, none⟩ (by simp; omega) (fun e => HW.out _ e.symm rfl)).trans (H2.out.at_.cw.2 o)))
  all_goals (
    go_wp2
    go_returns
    have hown4 : w3.ownsRow 0 43 5 (.slice (some ⟨gg, 0, none⟩) (p.log.length + 1) cap) (p.log ++ [(⟨k, g, m, pp, v⟩ : Hst.Ev)]).length (encEs (p.log ++ [(⟨k, g, m, pp, v⟩ : Hst.Ev)])) := by
      rw [encEs_append, List.length_append]; exact hown3
    refine ⟨rfl, _, _, ?_, H2.out.appLog hgrow hown4 (by rcases hat with e | e; exact .inl e.symm; exact .inr (by rw [e]; simp [Value.ownBlock]))⟩
    rfl)

set_option maxRecDepth 100000 in
set_option maxHeartbeats 1600000 in
/-- An event of a machine. -/
theorem add_on {N : Nat} {F : Fix} {V : Vol} {ow : Nat → Nat} {w : World} {p : Wd} (h : WAt F V ow w p) (E : Env N ow w) (i : Nat) (hi : i < p.M) (k g v : Int) (hr : rightOf ⟨k, g, i, (p.mach i).p, v⟩ = true) (hbig : p.log.length < 4294967296) :
    Calls Tryz.prog 180 #[.pointer (some ⟨F.W, 0, none⟩), .int .i64 i, .int .i64 k, .int .i64 g, .int .i64 v] w fun r w' => r = .returned (.tuple #[]) ∧ ∃ V' ow', V'.rest = V.rest ∧ On F V' ow w ow' w' (p.add i k g v) := by
  have c13 := h.cW_all
  have cA1 := h.cA_p hi
  have hM := h.dim
  have hcap := h.own_cap.2
  have hL := logadd_on ((On.start h).drew).at_ (E.on (On.start h).drew) ⟨k, g, i, (p.mach i).p, v⟩ hr hbig
  simp only [evV] at hL
  unfold dims at hM
  have HL := Lib.hid hL
  have H := Lib.hid h
  clear h E hr hbig hL
  go_enter Tryz.func180, Tryz.ntmps180
  go_wp2
  go_still_tail 16, (by kernel_rfl)
  change wpList _ _ _ _ _ w.drew
  go_wp2_with fail
  refine HL.out.mono ?_
  rintro e w1 ⟨rfl, V', ow1, hV, h1⟩
  go_wp2
  go_returns
  exact ⟨rfl, V', _, hV, ((On.start H.out).drew).then_ h1⟩
end Go.Proofs.YtfjepdcnikgjeaaGreatDoor
