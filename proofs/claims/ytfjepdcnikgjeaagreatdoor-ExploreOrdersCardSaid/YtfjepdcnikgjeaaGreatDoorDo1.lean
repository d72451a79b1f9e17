/-
  What a machine does with its lock held: at the places One, Local, Global.
-/
import Derived.Test.YtfjepdcnikgjeaaGreatDoorLocked
import Derived.Test.YtfjepdcnikgjeaaGreatDoorGlob3
set_option linter.unusedVariables false
set_option linter.unusedSimpArgs false
set_option linter.unusedSectionVars false
namespace Go.Proofs.YtfjepdcnikgjeaaGreatDoor
open Go Go.RowKit Hst Go.Proofs

section
variable {F : Fix} {V : Vol} {ow0 ow : Nat → Nat} {w0 w : World} {p : Wd}

theorem Mod.agree {S : Nat → Prop} {w w' : World} (h : Mod S w w') {k : Nat} {ow : Nat → Nat} (hs : ∀ x, x < w.heap.size → S x → ow x = k) : Agree (fun b => ow b ≠ 0 ∧ ¬ ow b = k) w w' :=
  ⟨h.size, fun b hb hx => h.block b hb (fun e => hx.2 (hs b hb e))⟩
theorem Mod.stp {S : Nat → Prop} {w w' : World} (h : Mod S w w') {k : Nat} {ow : Nat → Nat} (hs : ∀ x, x < w.heap.size → S x → ow x = k) (hk : k ≠ 0) (n : Nat) : Stp ow (grow ow w.heap.size n) w w' :=
  ⟨h.os, h.tape, h.output, h.size, fun b hb => grow_lt hb, fun b hb e => h.block b hb (fun e2 => by have := hs b hb e2; omega)⟩

/-- Behind a call on a ring. -/
theorem On.ringMod (h : On F V ow0 w0 ow w p) {q : Nat} (hq : q < p.P) {w' : World} {r' : Hst.Ring} (hr : RingAt (F.ring q) w' r') (hm : Mod (· = F.ring q) w w') : On F V ow0 w0 (grow ow w.heap.size 0) w' (p.setR q r') := by
  obtain ⟨ha, hst⟩ := h
  obtain ⟨o1, o2, o3, o4, o5, o9, o10, oq⟩ := ha.own
  obtain ⟨l1, l2, l3, l4, l5⟩ := ha.lens
  have hs : ∀ x, x < w.heap.size → x = F.ring q → ow x = 100 + q := fun x _ e => by rw [e]; exact oq q hq
  have hd := ha.dim
  unfold dims at hd
  refine ⟨ha.upd (· = 100 + q) ⟨rfl, rfl, rfl⟩ ⟨by simpa [Wd.setR] using l1, l2, l3, l4, l5⟩ (fun b hb => grow_lt hb) (hm.agree hs)
    (.inl ⟨by omega, rfl⟩) (.inl ⟨by omega, rfl⟩) (.inl ⟨by omega, rfl⟩) (by omega) (fun k hk => ?_)
    (.inl ⟨by omega, rfl⟩) (.inl ⟨by omega, rfl⟩) (.inl ⟨by omega, rfl⟩) (.inl ⟨by omega, rfl⟩) (.inl ⟨by omega, rfl, rfl⟩) (fun j hj => .inl ⟨by omega, rfl, rfl⟩) (.inl ⟨by omega, rfl⟩) (.inl ⟨by omega, rfl, rfl⟩), hst.trans (hm.stp hs (by omega) 0)⟩
  by_cases e : k = q
  · subst e
    refine .inr ?_
    have e2 : (p.setR k r').ring k = r' := by unfold Wd.setR Wd.ring; rw [getD_set _ _ _ _ _ (by omega), if_pos rfl]
    rw [e2]; exact hr
  · refine .inl ⟨by omega, ?_⟩
    unfold Wd.setR Wd.ring; rw [getD_set _ _ _ _ _ (by omega), if_neg e]

/-- Behind a call on the queue; its new blocks are k's. -/
theorem On.globMod (h : On F V ow0 w0 ow w p) (k : Nat) {w' : World} {l' : List Int} (hg : GlobAt (grow ow w.heap.size k · = 6) F.glob w' p.P l') (hm : Mod (fun x => ow x = 6 ∧ x < w.heap.size) w w') : On F V ow0 w0 (grow ow w.heap.size k) w' { p with glob := l' } := by
  obtain ⟨ha, hst⟩ := h
  obtain ⟨l1, l2, l3, l4, l5⟩ := ha.lens
  have hs : ∀ x, x < w.heap.size → (ow x = 6 ∧ x < w.heap.size) → ow x = 6 := fun _ _ e => e.1
  exact ⟨ha.upd (· = 6) ⟨rfl, rfl, rfl⟩ ⟨l1, l2, l3, l4, l5⟩ (fun b hb => grow_lt hb) (hm.agree hs)
    (.inl ⟨by omega, rfl⟩) (.inl ⟨by omega, rfl⟩) (.inl ⟨by omega, rfl⟩) (by omega) (fun q hq => .inl ⟨by omega, rfl⟩)
    (.inl ⟨by omega, rfl⟩) (.inr hg) (.inl ⟨by omega, rfl⟩) (.inl ⟨by omega, rfl⟩) (.inl ⟨by omega, rfl, rfl⟩) (fun j hj => .inl ⟨by omega, rfl, rfl⟩) (.inl ⟨by omega, rfl⟩) (.inl ⟨by omega, rfl, rfl⟩), hst.trans (hm.stp hs (by omega) k)⟩

theorem GlobAt.mono {S T : Nat → Prop} {b n : Nat} {w : World} {l : List Int} (h : GlobAt S b w n l) (hs : ∀ x, x < w.heap.size → S x → T x) : GlobAt T b w n l := h.agree ⟨Nat.le_refl _, fun _ _ _ => rfl⟩ hs
theorem WAt.glob6 (h : WAt F V ow w p) : GlobAt (fun x => ow x = 6 ∧ x < w.heap.size) F.glob w p.P p.glob := h.cglob.mono fun x hx e => ⟨e, hx⟩
end

set_option maxRecDepth 100000 in
set_option maxHeartbeats 1600000 in
theorem do_local (N : Nat) (p : Wd) (i q : Nat) (t : Int) (hi : i < p.M) (hq : q < p.P) (hp : (p.mach i).p = (q : Int)) (hpl : (p.mach i).place = 3) : DoOK N p i t (p.doIt i t).1 (p.doIt i t).2 := by
  intro F V ow w h E
  have e : p.doIt i t = ((p.setR q (p.ring q).get.1).one i (p.ring q).get.2.1 (p.ring q).get.2.2, false) := by
    unfold Wd.doIt; simp only [hpl, hp, Int.toNat_natCast]
  rw [e]
  have c13 := h.cW_all
  have c8 := h.cW_rs
  have c0 := h.cA_place hi
  have c1 := h.cA_p hi
  have cr := h.cR hq
  have hM := h.dim
  have hcap := h.own_cap
  rw [hpl] at c0
  rw [hp] at c1
  unfold dims at hM
  have H := Lib.hid h
  have HP := Lib.hid hp
  clear h E e hp
  go_enter Tryz.func176, Tryz.ntmps176
  go_wp2
  go_region_held3 (fun w' => w'.cell? ⟨F.W, 8, none⟩ = some (.slice (some ⟨F.rs, 0, none⟩) p.P F.rsCap) ∧ w'.cell? ⟨F.all, i * 18 + 1, none⟩ = some (.int .i64 q) ∧ w'.cell? ⟨F.rs, q, none⟩ = some (.pointer (some ⟨F.ring q, 0, none⟩)))
    (first | exact ⟨c8, c1, cr⟩ | exact ⟨c8', c1', cr'⟩)
    (first | (go_at_call 210; refine (get_any (F.ring q) (p.ring q) w.drew ((On.start H.out).drew.at_.cring q hq)).mono ?_; rintro e w1 ⟨rfl, hr, hm⟩; have h1 := (On.start H.out).drew.ringMod hq hr hm; have c8' : w1.cell? ⟨F.W, 8, none⟩ = some (.slice (some ⟨F.rs, 0, none⟩) p.P F.rsCap) := h1.at_.cW_rs; have c1' : w1.cell? ⟨F.all, i * 18 + 1, none⟩ = some (.int .i64 q) := (h1.at_.cA_p hi).trans (by show some (Value.int .i64 (p.mach i).p) = _; rw [HP.out]); have cr' : w1.cell? ⟨F.rs, q, none⟩ = some (.pointer (some ⟨F.ring q, 0, none⟩)) := h1.at_.cR hq; have H1 := Lib.hid h1; clear h1 hr hm))
  go_wp2_with fail
  refine (one_on H1.out.at_ i hi _ _).mono ?_
  rintro e w2 ⟨rfl, V2, ow2, _, h2⟩
  go_wp2
  go_returns
  exact ⟨rfl, _, _, H1.out.then_ h2⟩

set_option maxRecDepth 100000 in
set_option maxHeartbeats 1600000 in
theorem do_one (N : Nat) (p : Wd) (i : Nat) (t : Int) (hi : i < p.M) (hpl : (p.mach i).place = 2) (hbig : p.glob.length ≤ 4294967296) : DoOK N p i t (p.doIt i t).1 (p.doIt i t).2 := by
  intro F V ow w h E
  have e : p.doIt i t = (({ p with glob := p.glob.tail } : Wd).one i (p.glob.headD 0) (!p.glob.isEmpty), false) := by
    unfold Wd.doIt; simp only [hpl]
  rw [e]
  have c13 := h.cW_all
  have c10 := h.cW_glob
  have c0 := h.cA_place hi
  have hM := h.dim
  have hcap := h.own_cap
  rw [hpl] at c0
  unfold dims at hM
  have hone := gone_any _ F.glob p.P p.glob w h.glob6 hbig
  have H := Lib.hid h
  have HO := Lib.hid hone
  clear h E e hone
  go_enter Tryz.func176, Tryz.ntmps176
  go_wp2_with fail
  refine HO.out.mono ?_
  rintro e w1 ⟨rfl, hg, hm⟩
  have h1 := (On.start H.out).globMod 0 (hg.mono fun x _ e => by rw [grow_lt e.2]; exact e.1) hm
  have H1 := Lib.hid h1
  clear h1 hg hm HO
  go_wp2_with fail
  refine (one_on H1.out.at_ i hi _ _).mono ?_
  rintro e w2 ⟨rfl, V2, ow2, _, h2⟩
  have e3 : p.glob.head?.getD 0 = p.glob.headD 0 := by cases p.glob <;> rfl
  rw [e3] at h2
  go_wp2
  go_returns
  exact ⟨rfl, _, _, H1.out.then_ h2⟩

set_option maxRecDepth 100000 in
set_option maxHeartbeats 1600000 in
theorem do_global (N : Nat) (p : Wd) (i : Nat) (t : Int) (hi : i < p.M) (hpl : (p.mach i).place = 4) (hbig : p.glob.length ≤ 4294967296) : DoOK N p i t (p.doIt i t).1 (p.doIt i t).2 := by
  intro F V ow w h E
  have e : p.doIt i t = (p.takeShare.1.found i p.takeShare.2, false) := by
    unfold Wd.doIt; simp only [hpl]
  rw [e]
  have c13 := h.cW_all
  have c10 := h.cW_glob
  have c0 := h.cA_place hi
  have hM := h.dim
  have hcap := h.own_cap
  rw [hpl] at c0
  unfold dims at hM
  have hone := gtake_any _ F.glob p.P p.glob w h.glob6 hM.1 (by omega) hbig p.share rfl
  have hsl : p.share ≤ p.glob.length := by unfold Wd.share; omega
  have hlen : (p.glob.take p.share).length = p.share := by simp; omega
  have H := Lib.hid h
  have HO := Lib.hid hone
  have HL := Lib.hid hlen
  clear h E e hone hlen hsl
  go_enter Tryz.func176, Tryz.ntmps176
  go_wp2_with fail
  refine HO.out.mono ?_
  rintro e w1 ⟨v, rfl, hown, hg, hm⟩
  have h1 := (On.start H.out).globMod 0 (hg.mono fun x _ e => by rw [grow_lt e.2]; exact e.1) hm
  have hown2 : w1.ownsRow w.heap.size 3 1 v p.takeShare.2.length (ints p.takeShare.2) := by
    show w1.ownsRow w.heap.size 3 1 v (p.glob.take p.share).length (ints (p.glob.take p.share))
    rw [HL.out]; exact hown
  have H1 := Lib.hid h1
  have HW := Lib.hid hown2
  clear h1 hg hm HO hown hown2
  go_wp2_with fail
  refine (found_on H1.out.at_ i w.heap.size hi v p.takeShare.2 HW.out (by have := HL.out; show (p.glob.take p.share).length ≤ _; unfold Wd.share at this ⊢; omega) (fun g hg => by have := HW.out.lt g hg; rw [grow_ge this.1]; decide)).mono ?_
  rintro e w2 ⟨rfl, V2, ow2, _, h2⟩
  go_wp2
  go_returns
  exact ⟨rfl, _, _, H1.out.then_ h2⟩
end Go.Proofs.YtfjepdcnikgjeaaGreatDoor
