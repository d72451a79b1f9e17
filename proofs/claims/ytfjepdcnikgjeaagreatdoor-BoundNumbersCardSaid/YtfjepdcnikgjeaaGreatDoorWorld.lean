/-
  What it is that a heap holds a world: part by part; what a call may turn of it.
-/
import Derived.Test.YtfjepdcnikgjeaaGreatDoorNews
set_option linter.unusedVariables false
set_option linter.unusedSimpArgs false
set_option linter.unusedSectionVars false
namespace Go.Proofs.YtfjepdcnikgjeaaGreatDoor
open Go Go.RowKit Hst Go.Proofs

/-- Where the blocks of S agree. -/
def Agree (S : Nat → Prop) (w w' : World) : Prop := w.heap.size ≤ w'.heap.size ∧ ∀ b, b < w.heap.size → S b → w'.heap[b]? = w.heap[b]?
theorem Agree.mono {S T : Nat → Prop} {w w' : World} (h : Agree S w w') (hs : ∀ x, x < w.heap.size → T x → S x) : Agree T w w' := ⟨h.1, fun b hb ht => h.2 b hb (hs b hb ht)⟩
theorem Agree.of_mod {S T : Nat → Prop} {w w' : World} (h : Mod S w w') (hs : ∀ x, x < w.heap.size → T x → ¬ S x) : Agree T w w' := ⟨h.size, fun b hb ht => h.block b hb (hs b hb ht)⟩
theorem Agree.cell {S : Nat → Prop} {w w' : World} (h : Agree S w w') {b o : Nat} {v : Value} (hs : S b) (hc : w.cell? ⟨b, o, none⟩ = some v) : w'.cell? ⟨b, o, none⟩ = some v :=
  (World.cell?_of_block (w := w) (a := ⟨b, o, none⟩) (h.2 b (World.block_lt_of_cell? w _ hc) hs)).trans hc
theorem Agree.fr {S : Nat → Prop} {w w' : World} (h : Agree S w w') {b : Nat} (hs : S b) (hb : b < w.heap.size) (hf : ∀ o, w.frozen? ⟨b, o, none⟩ = false) : ∀ o, w'.frozen? ⟨b, o, none⟩ = false := fun o =>
  (World.frozen?_of_block (w := w) (a := ⟨b, o, none⟩) (h.2 b hb hs)).trans (hf o)
theorem Agree.row {S : Nat → Prop} {w w' : World} (h : Agree S w w') {e size n : Nat} {v : Value} {xs : List Value} (hs : RowIn S v) (ho : w.ownsRow 0 e size v n xs) : w'.ownsRow 0 e size v n xs := by
  refine ⟨ho.1, ?_⟩
  rcases ho.2 with hn | ⟨g, cap, cur, rfl, hbg, hg, rest⟩
  · exact .inl hn
  · exact .inr ⟨g, cap, cur, rfl, hbg, by rw [h.2 g (Array.getElem?_eq_some_iff.1 hg).1 (hs g rfl)]; exact hg, rest⟩
theorem RowIn.mono {S T : Nat → Prop} {w : World} {e size n : Nat} {v : Value} {xs : List Value} (h : RowIn S v) (ho : w.ownsRow 0 e size v n xs) (hs : ∀ x, x < w.heap.size → S x → T x) : RowIn T v := fun g hg => hs g (ho.lt g hg).2 (h g hg)

/-- A row of cells that lies in a block. -/
def Cells (b n : Nat) (f : Nat → Value) (w : World) : Prop := (∀ k, k < n → w.cell? ⟨b, k, none⟩ = some (f k)) ∧ ∀ o, w.frozen? ⟨b, o, none⟩ = false
theorem Cells.congr {S : Nat → Prop} {w w' : World} {b n : Nat} {f : Nat → Value} (h : Cells b n f w) (a : Agree S w w') (hs : S b) (hb : b < w.heap.size) : Cells b n f w' := ⟨fun k hk => a.cell hs (h.1 k hk), a.fr hs hb h.2⟩
theorem Cells.set {w : World} {b n : Nat} {f : Nat → Value} (h : Cells b n f w) (k : Nat) (hk : k < n) (v : Value) : Cells b n (fun j => if j = k then v else f j) (w.setCell ⟨b, k, none⟩ v) :=
  ⟨fun j hj => by
    rw [cell_set (h.1 k hk)]
    by_cases e : j = k
    · subst e; simp
    · simp only [e, if_false]; exact h.1 j hj, fun o => by rw [World.frozen?_setCell]; exact h.2 o⟩
theorem Cells.ext {w : World} {b n : Nat} {f g : Nat → Value} (h : Cells b n f w) (e : ∀ k, k < n → f k = g k) : Cells b n g w := ⟨fun k hk => by rw [h.1 k hk, e k hk], h.2⟩

def dims (P M G : Nat) : Prop := 1 ≤ P ∧ P ≤ 64 ∧ P ≤ M ∧ M ≤ 128 ∧ 1 ≤ G ∧ G ≤ 4096
def ptr (b : Nat) : Value := .pointer (some ⟨b, 0, none⟩)
def sli (b n c : Nat) : Value := .slice (some ⟨b, 0, none⟩) n c
/-- The world's own cells. -/
def wCells (F : Fix) (V : Vol) (P M G : Nat) : Nat → Value
  | 0 => .int .i64 P
  | 1 => .int .i64 M
  | 2 => .int .i64 G
  | 3 => ptr F.mem
  | 4 => .int .i64 (2 * (P + 2) : Nat)
  | 5 => .int .i64 (2 * (P + 2) + 1 : Nat)
  | 6 => .int .i64 (2 * (P + 2) + 1 + M : Nat)
  | 7 => .int .i64 G
  | 8 => sli F.rs P F.rsCap
  | 9 => sli F.turns P P
  | 10 => ptr F.glob
  | 11 => ptr F.src
  | 12 => ptr F.idle
  | 13 => sli F.all M F.allCap
  | 14 => sli F.flag M M
  | _ => V.logV
def nWords (P M G : Nat) : Nat := 2 * (P + 2) + 1 + M + G
def memCells (F : Fix) (n : Nat) (cnt : Int) : Nat → Value
  | 0 => sli F.ws n n
  | _ => .int .i64 cnt
def allCell (f : Nat → Mach) (r : Nat → Value) (k : Nat) : Value := (encM (f (k / 18)) (r (k / 18))).getD (k % 18) default

/-- Whose block is which: 1 the world's own, 2 the memory, 3 its words, 4 the row of rings, 5 turns, 6 the queue's, 7 the source's, 8 the idle's, 9 machines, 10 flags, 11 the log's row, 100 + q a ring, 1000 + i a machine's Rest. 0: not the world's. -/
def Owns (F : Fix) (ow : Nat → Nat) (P : Nat) : Prop :=
  ow F.W = 1 ∧ ow F.mem = 2 ∧ ow F.ws = 3 ∧ ow F.rs = 4 ∧ ow F.turns = 5 ∧ ow F.all = 9 ∧ ow F.flag = 10 ∧ ∀ q, q < P → ow (F.ring q) = 100 + q

structure WAt (F : Fix) (V : Vol) (ow : Nat → Nat) (w : World) (p : Wd) : Prop where
  dim : dims p.P p.M p.G
  lens : p.rings.length = p.P ∧ p.turns.length = p.P ∧ p.all.length = p.M ∧ p.flag.length = p.M ∧ p.ws.length = nWords p.P p.M p.G
  wsb : ∀ a, p.ws.getD a 0 < 18446744073709551616
  own : Owns F ow p.P
  own_cap : p.P ≤ F.rsCap ∧ p.M ≤ F.allCap
  cw : Cells F.W 16 (wCells F V p.P p.M p.G) w
  cmem : Cells F.mem 2 (memCells F (nWords p.P p.M p.G) p.cnt) w
  cws : Cells F.ws (nWords p.P p.M p.G) (fun a => .int .u64 (p.ws.getD a 0 : Nat)) w
  crs : Cells F.rs p.P (fun q => ptr (F.ring q)) w
  cring : ∀ q, q < p.P → RingAt (F.ring q) w (p.ring q)
  cturns : Cells F.turns p.P (fun q => .int .i64 (p.turns.getD q 0)) w
  cglob : GlobAt (ow · = 6) F.glob w p.P p.glob
  csrc : SrcAt (ow · = 7) F.src w p.src
  cidle : IdleAt (ow · = 8) F.idle w p.P p.M p.idle
  call : Cells F.all (p.M * 18) (allCell p.mach V.rest) w
  crest : ∀ i, i < p.M → w.ownsRow 0 3 1 (V.rest i) (p.mach i).rest.length (ints (p.mach i).rest) ∧ RowIn (ow · = 1000 + i) (V.rest i)
  cflag : Cells F.flag p.M (fun i => .bool (p.fl i)) w
  clog : w.ownsRow 0 43 5 V.logV p.log.length (encEs p.log) ∧ RowIn (ow · = 11) V.logV

/-- One step on: who owned what owns it still; what isn't the world's is as it was. -/
structure Stp (ow ow' : Nat → Nat) (w w' : World) : Prop where
  os : w'.os = w.os
  tape : w'.tape = w.tape
  output : w'.output = w.output
  size : w.heap.size ≤ w'.heap.size
  own : ∀ b, b < w.heap.size → ow' b = ow b
  block : ∀ b, b < w.heap.size → ow b = 0 → w'.heap[b]? = w.heap[b]?

theorem Stp.refl (ow : Nat → Nat) (w : World) : Stp ow ow w w := ⟨rfl, rfl, rfl, Nat.le_refl _, fun _ _ => rfl, fun _ _ _ => rfl⟩
theorem Stp.trans {ow ow1 ow2 : Nat → Nat} {w w1 w2 : World} (h : Stp ow ow1 w w1) (k : Stp ow1 ow2 w1 w2) : Stp ow ow2 w w2 :=
  ⟨k.os.trans h.os, k.tape.trans h.tape, k.output.trans h.output, Nat.le_trans h.size k.size, fun b hb => (k.own b (Nat.lt_of_lt_of_le hb h.size)).trans (h.own b hb),
    fun b hb e => (k.block b (Nat.lt_of_lt_of_le hb h.size) ((h.own b hb).trans e)).trans (h.block b hb e)⟩

/-- The heap holds the world p, some way. -/
def Holds_ (F : Fix) (ow : Nat → Nat) (w w' : World) (p : Wd) : Prop := ∃ V ow', WAt F V ow' w' p ∧ Stp ow ow' w w'
/-- New blocks are k's. -/
def grow (ow : Nat → Nat) (s k : Nat) : Nat → Nat := fun b => if b < s then ow b else k
theorem grow_lt {ow : Nat → Nat} {s k b : Nat} (h : b < s) : grow ow s k b = ow b := if_pos h
theorem grow_ge {ow : Nat → Nat} {s k b : Nat} (h : s ≤ b) : grow ow s k b = k := if_neg (by omega)

theorem Cells.lt {w : World} {b n : Nat} {f : Nat → Value} (h : Cells b n f w) (hn : 0 < n) : b < w.heap.size := World.block_lt_of_cell? w _ (h.1 0 hn)
theorem RowAt.agree {S T : Nat → Prop} {b o : Nat} {w w' : World} {l : List Int} (h : RowAt S b o w l) (a : Agree S w w') (hb : S b) (hs : ∀ x, x < w.heap.size → S x → T x) : RowAt T b o w' l := by
  obtain ⟨v, h1, h2, h3, h4⟩ := h
  exact ⟨v, a.cell hb h1, a.row h3 h2, h3.mono h2 hs, h4⟩
theorem GlobAt.agree {S T : Nat → Prop} {b n : Nat} {w w' : World} {l : List Int} (h : GlobAt S b w n l) (a : Agree S w w') (hs : ∀ x, x < w.heap.size → S x → T x) : GlobAt T b w' n l := by
  have hb := World.block_lt_of_cell? w _ h.cn
  exact ⟨hs b hb h.inS, h.row.agree a h.inS hs, a.cell h.inS h.cn, a.fr h.inS hb h.fr⟩
theorem IdleAt.agree {S T : Nat → Prop} {b n m : Nat} {w w' : World} {x : Hst.Idle} (h : IdleAt S b w n m x) (a : Agree S w w') (hs : ∀ x, x < w.heap.size → S x → T x) : IdleAt T b w' n m x := by
  obtain ⟨mk, mw, h⟩ := h
  have l0 := World.block_lt_of_cell? w _ h.c0
  have l1 := World.block_lt_of_cell? w _ h.k0
  have l2 := World.block_lt_of_cell? w _ h.kw
  obtain ⟨s0, s1, s2⟩ := h.inS
  obtain ⟨pv, mv, r1, r2, r3, r4, r5, r6, r7⟩ := h.rows
  exact ⟨mk, mw, ⟨hs _ l0 s0, hs _ l1 s1, hs _ l2 s2⟩, h.ne, a.cell s0 h.c0, ⟨pv, mv, a.cell s0 r1, a.cell s0 r2, a.row r5 r3, a.row r6 r4, r5.mono r3 hs, r6.mono r4 hs, r7⟩, a.cell s0 h.c3, a.cell s0 h.c4, a.cell s1 h.k0, a.cell s1 h.k1, a.cell s2 h.kw,
    ⟨a.fr s0 l0 h.fr.1, a.fr s1 l1 h.fr.2.1, a.fr s2 l2 h.fr.2.2⟩, h.bits, h.n_le⟩
theorem SrcAt.agree {S T : Nat → Prop} {b : Nat} {w w' : World} {s : Hst.Src} (h : SrcAt S b w s) (a : Agree S w w') (hs : ∀ x, x < w.heap.size → S x → T x) : SrcAt T b w' s := ⟨hs b h.2 h.1, Nat.lt_of_lt_of_le h.2 a.1⟩
theorem RingAt.lt {b : Nat} {w : World} {r : Hst.Ring} (h : RingAt b w r) : b < w.heap.size := by obtain ⟨hd, h⟩ := h; exact h.lt
theorem RingAt.agree {S : Nat → Prop} {b : Nat} {w w' : World} {r : Hst.Ring} (h : RingAt b w r) (a : Agree S w w') (hs : S b) : RingAt b w' r := by
  obtain ⟨hd, h⟩ := h
  exact ⟨hd, h.congr (a.2 b h.lt hs)⟩

/-- A world behind a call that turned some parts: each part is as it was, or is told anew. -/
theorem WAt.upd {F : Fix} {V V' : Vol} {ow ow' : Nat → Nat} {w w' : World} {p p' : Wd} (h : WAt F V ow w p) (K : Nat → Prop) (hd : p'.P = p.P ∧ p'.M = p.M ∧ p'.G = p.G)
    (lens : p'.rings.length = p.P ∧ p'.turns.length = p.P ∧ p'.all.length = p.M ∧ p'.flag.length = p.M ∧ p'.ws.length = nWords p.P p.M p.G)
    (e : ∀ b, b < w.heap.size → ow' b = ow b) (a : Agree (fun b => ow b ≠ 0 ∧ ¬ K (ow b)) w w')
    (cw : (¬ K 1 ∧ V'.logV = V.logV) ∨ Cells F.W 16 (wCells F V' p.P p.M p.G) w')
    (cmem : (¬ K 2 ∧ p'.cnt = p.cnt) ∨ Cells F.mem 2 (memCells F (nWords p.P p.M p.G) p'.cnt) w')
    (cws : (¬ K 3 ∧ p'.ws = p.ws) ∨ (Cells F.ws (nWords p.P p.M p.G) (fun a => .int .u64 (p'.ws.getD a 0 : Nat)) w' ∧ ∀ a, p'.ws.getD a 0 < 18446744073709551616))
    (crs : ¬ K 4)
    (cring : ∀ q, q < p.P → (¬ K (100 + q) ∧ p'.ring q = p.ring q) ∨ RingAt (F.ring q) w' (p'.ring q))
    (cturns : (¬ K 5 ∧ p'.turns = p.turns) ∨ Cells F.turns p.P (fun q => .int .i64 (p'.turns.getD q 0)) w')
    (cglob : (¬ K 6 ∧ p'.glob = p.glob) ∨ GlobAt (ow' · = 6) F.glob w' p.P p'.glob)
    (csrc : (¬ K 7 ∧ p'.src = p.src) ∨ SrcAt (ow' · = 7) F.src w' p'.src)
    (cidle : (¬ K 8 ∧ p'.idle = p.idle) ∨ IdleAt (ow' · = 8) F.idle w' p.P p.M p'.idle)
    (call : (¬ K 9 ∧ p'.mach = p.mach ∧ V'.rest = V.rest) ∨ Cells F.all (p.M * 18) (allCell p'.mach V'.rest) w')
    (crest : ∀ i, i < p.M → (¬ K (1000 + i) ∧ (p'.mach i).rest = (p.mach i).rest ∧ V'.rest i = V.rest i) ∨ (w'.ownsRow 0 3 1 (V'.rest i) (p'.mach i).rest.length (ints (p'.mach i).rest) ∧ RowIn (ow' · = 1000 + i) (V'.rest i)))
    (cflag : (¬ K 10 ∧ p'.fl = p.fl) ∨ Cells F.flag p.M (fun i => .bool (p'.fl i)) w')
    (clog : (¬ K 11 ∧ p'.log = p.log ∧ V'.logV = V.logV) ∨ (w'.ownsRow 0 43 5 V'.logV p'.log.length (encEs p'.log) ∧ RowIn (ow' · = 11) V'.logV)) :
    WAt F V' ow' w' p' := by
  obtain ⟨hP, hM, hG⟩ := hd
  obtain ⟨o1, o2, o3, o4, o5, o9, o10, oq⟩ := h.own
  obtain ⟨d1, d2, d3, d4, d5, d6⟩ := h.dim
  have l1 := h.cw.lt (by decide)
  have l2 := h.cmem.lt (by decide)
  have l3 := h.cws.lt (by unfold nWords; omega)
  have l4 := h.crs.lt d1
  have l5 := h.cturns.lt d1
  have l9 := h.call.lt (by omega)
  have l10 := h.cflag.lt (by omega)
  have ag : ∀ k, k ≠ 0 → ¬ K k → Agree (ow · = k) w w' := fun k hk hK => a.mono fun x _ hx => ⟨by rw [hx]; exact hk, by rw [hx]; exact hK⟩
  have em : ∀ k x, x < w.heap.size → ow x = k → ow' x = k := fun k x hx hk => (e x hx).trans hk
  refine ⟨by rw [hP, hM, hG]; exact h.dim, by rw [hP, hM, hG]; exact lens, ?_, ?_, by rw [hP, hM]; exact h.own_cap, ?_, ?_, ?_, ?_, ?_, ?_, ?_, ?_, ?_, ?_, ?_, ?_, ?_⟩
  · rcases cws with ⟨_, hw⟩ | ⟨_, hw⟩
    · rw [hw]; exact h.wsb
    · exact hw
  · rw [hP]
    exact ⟨em _ _ l1 o1, em _ _ l2 o2, em _ _ l3 o3, em _ _ l4 o4, em _ _ l5 o5, em _ _ l9 o9, em _ _ l10 o10, fun q hq => em _ _ (h.cring q hq).lt (oq q hq)⟩
  · rw [hP, hM, hG]
    rcases cw with ⟨hk, hv⟩ | hc
    · refine (h.cw.congr (ag 1 (by decide) hk) o1 l1).ext fun k _ => ?_
      unfold wCells; rw [hv]
    · exact hc
  · rw [hP, hM, hG]
    rcases cmem with ⟨hk, hv⟩ | hc
    · rw [hv]; exact h.cmem.congr (ag 2 (by decide) hk) o2 l2
    · exact hc
  · rw [hP, hM, hG]
    rcases cws with ⟨hk, hv⟩ | ⟨hc, _⟩
    · rw [hv]; exact h.cws.congr (ag 3 (by decide) hk) o3 l3
    · exact hc
  · rw [hP]; exact h.crs.congr (ag 4 (by decide) crs) o4 l4
  · rw [hP]; intro q hq
    rcases cring q hq with ⟨hk, hv⟩ | hc
    · rw [hv]; exact (h.cring q hq).agree (ag (100 + q) (by omega) hk) (oq q hq)
    · exact hc
  · rw [hP]
    rcases cturns with ⟨hk, hv⟩ | hc
    · rw [hv]; exact h.cturns.congr (ag 5 (by decide) hk) o5 l5
    · exact hc
  · rw [hP]
    rcases cglob with ⟨hk, hv⟩ | hc
    · rw [hv]; exact h.cglob.agree (ag 6 (by decide) hk) (em 6)
    · exact hc
  · rcases csrc with ⟨hk, hv⟩ | hc
    · rw [hv]; exact h.csrc.agree (ag 7 (by decide) hk) (em 7)
    · exact hc
  · rw [hP, hM]
    rcases cidle with ⟨hk, hv⟩ | hc
    · rw [hv]; exact h.cidle.agree (ag 8 (by decide) hk) (em 8)
    · exact hc
  · rw [hM]
    rcases call with ⟨hk, hv, hr⟩ | hc
    · rw [hv, hr]; exact h.call.congr (ag 9 (by decide) hk) o9 l9
    · exact hc
  · rw [hM]; intro i hi
    rcases crest i hi with ⟨hk, hv, hr⟩ | hc
    · rw [hv, hr]
      obtain ⟨c1, c2⟩ := h.crest i hi
      exact ⟨(ag (1000 + i) (by omega) hk).row c2 c1, c2.mono c1 (em (1000 + i))⟩
    · exact hc
  · rw [hM]
    rcases cflag with ⟨hk, hv⟩ | hc
    · rw [hv]; exact h.cflag.congr (ag 10 (by decide) hk) o10 l10
    · exact hc
  · rcases clog with ⟨hk, hv, hr⟩ | hc
    · rw [hv, hr]
      exact ⟨(ag 11 (by decide) hk).row h.clog.2 h.clog.1, h.clog.2.mono h.clog.1 (em 11)⟩
    · exact hc
end Go.Proofs.YtfjepdcnikgjeaaGreatDoor
