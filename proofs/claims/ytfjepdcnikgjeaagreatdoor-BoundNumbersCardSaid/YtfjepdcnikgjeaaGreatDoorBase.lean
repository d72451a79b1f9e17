/-
  What it is that a heap holds a world: which blocks, and what stands in them; what a call may turn.
-/
import Derived.Test.YtfjepdcnikgjeaaGreatDoorPure
import Derived.WalkKit
import Derived.StillTailTactics
import Derived.Deep.QuietTactic
import Derived.BigQuiet
set_option linter.unusedVariables false
set_option linter.unusedSimpArgs false
set_option linter.unusedSectionVars false
namespace Go.Proofs.YtfjepdcnikgjeaaGreatDoor
open Go Go.RowKit Hst

/-- A call may turn the blocks of S, and make new ones; nothing else. -/
structure Mod (S : Nat → Prop) (w w' : World) : Prop where
  os : w'.os = w.os
  tape : w'.tape = w.tape
  output : w'.output = w.output
  size : w.heap.size ≤ w'.heap.size
  block : ∀ k, k < w.heap.size → ¬ S k → w'.heap[k]? = w.heap[k]?

theorem Mod.refl (S : Nat → Prop) (w : World) : Mod S w w := ⟨rfl, rfl, rfl, Nat.le_refl _, fun _ _ _ => rfl⟩
theorem Mod.trans {S : Nat → Prop} {a b c : World} (h : Mod S a b) (k : Mod (fun x => S x ∨ a.heap.size ≤ x) b c) : Mod S a c :=
  ⟨k.os.trans h.os, k.tape.trans h.tape, k.output.trans h.output, Nat.le_trans h.size k.size, fun i hi hs =>
    (k.block i (Nat.lt_of_lt_of_le hi h.size) (fun e => by rcases e with e | e; exact hs e; omega)).trans (h.block i hi hs)⟩
theorem Mod.mono {S T : Nat → Prop} {a b : World} (h : Mod S a b) (hs : ∀ x, x < a.heap.size → S x → T x) : Mod T a b :=
  ⟨h.os, h.tape, h.output, h.size, fun i hi ht => h.block i hi (fun e => ht (hs i hi e))⟩
theorem Mod.trans1 {S : Nat → Prop} {a b c : World} (h : Mod S a b) (k : Mod S b c) : Mod S a c := h.trans (k.mono fun _ _ hs => .inl hs)
theorem Mod.drew {S : Nat → Prop} {a w : World} (h : Mod S a w) : Mod S a w.drew := ⟨h.os, h.tape, h.output, h.size, h.block⟩
theorem Mod.drewN {S : Nat → Prop} {a w : World} (n : Nat) (h : Mod S a w) : Mod S a (w.drewN n) := ⟨h.os, h.tape, h.output, h.size, h.block⟩
theorem Mod.alloc {S : Nat → Prop} {a w : World} (h : Mod S a w) (o : Obj) : Mod S a (w.alloc o) :=
  ⟨h.os, h.tape, h.output, by have := h.size; simp; omega, fun k hk hs => (Below.heap_alloc w o k (Nat.lt_of_lt_of_le hk h.size)).trans (h.block k hk hs)⟩
theorem Mod.setCell {S : Nat → Prop} {a w : World} (h : Mod S a w) {p : Addr} (hp : S p.block ∨ a.heap.size ≤ p.block) (u : Value) : Mod S a (w.setCell p u) :=
  ⟨h.os, h.tape, h.output, by simpa [World.setCell] using h.size, fun k hk hs => (Below.heap_setCell w p u k (fun e => by subst e; rcases hp with hp | hp; exact hs hp; omega)).trans (h.block k hk hs)⟩
theorem Mod.setB {b : Nat} {a w : World} (h : Mod (· = b) a w) (o : Nat) (u : Value) : Mod (· = b) a (w.setCell ⟨b, o, none⟩ u) := h.setCell (.inl rfl) u
theorem Mod.of_below {w w' : World} (h : Below w.heap.size w w') (S : Nat → Prop) : Mod S w w' := ⟨h.os, h.tape, h.output, h.size, fun k hk _ => h.block k hk⟩
theorem Mod.below {w w' : World} (h : Mod (fun _ => False) w w') : Below w.heap.size w w' := ⟨h.os, h.tape, h.output, h.size, fun k hk => h.block k hk id⟩
theorem Mod.cell {S : Nat → Prop} {w w' : World} (h : Mod S w w') {a : Addr} {v : Value} (hs : ¬ S a.block) (hc : w.cell? a = some v) : w'.cell? a = some v :=
  (World.cell?_of_block (w := w) (h.block a.block (World.block_lt_of_cell? w a hc) hs)).trans hc

theorem cell_set {w : World} {b o : Nat} {u : Value} (h : w.cell? ⟨b, o, none⟩ = some u) (v : Value) (o' : Nat) :
    (w.setCell ⟨b, o, none⟩ v).cell? ⟨b, o', none⟩ = if o' = o then some v else w.cell? ⟨b, o', none⟩ := by
  by_cases e : o' = o
  · subst e; rw [if_pos rfl, World.cell?_setCell_same w _ v h]
  · rw [if_neg e, World.cell?_setCell_other w _ _ v (fun h => e (by cases h; rfl))]
theorem cell_far {w : World} {b b' o o' : Nat} (h : b ≠ b') (v : Value) : (w.setCell ⟨b, o, none⟩ v).cell? ⟨b', o', none⟩ = w.cell? ⟨b', o', none⟩ :=
  World.cell?_setCell_other w _ _ v (fun e => h (by cases e; rfl))
theorem heap_far {w : World} {b b' o : Nat} (h : b' ≠ b) (v : Value) : (w.setCell ⟨b, o, none⟩ v).heap[b']? = w.heap[b']? := Below.heap_setCell w _ v b' h

/-- A row that holds something is a slice of a block. -/
theorem ownsRow_some {w : World} {base e size n : Nat} {v : Value} {xs : List Value} (h : w.ownsRow base e size v n xs) (hn : 0 < n) : ∃ g cap, v = .slice (some ⟨g, 0, none⟩) n cap ∧ base ≤ g ∧ g < w.heap.size ∧ n ≤ cap := by
  rcases h.2 with ⟨_, h0⟩ | ⟨g, cap, cur, rfl, hb, hg, hc, _⟩
  · omega
  · exact ⟨g, cap, rfl, hb, (Array.getElem?_eq_some_iff.1 hg).1, hc⟩

/-! The blocks of a world that stay where they are: the world's own; the memory's, and its words'; the row of rings, and each ring's; the turns'; the queue's; the source's; the idle's; the machines'; the flags'. -/
structure Fix where
  W : Nat
  mem : Nat
  ws : Nat
  rs : Nat
  rsCap : Nat
  ring : Nat → Nat
  turns : Nat
  glob : Nat
  src : Nat
  idle : Nat
  all : Nat
  allCap : Nat
  flag : Nat

/-- Rows that may be laid anew: the log's; each machine's Rest. -/
structure Vol where
  logV : Value
  rest : Nat → Value

def ints (l : List Int) : List Value := l.map (Value.int .i64)
def encM (m : Mach) (r : Value) : List Value :=
  [.int .i64 m.place, .int .i64 m.p, .int .i64 m.g, .int .i64 m.next, .int .i64 m.got, .int .i64 m.target, .int .i64 m.i, .bool m.spin, .bool m.inn, r, .int .i64 m.back, .int .i64 m.after, .int .i64 m.arg,
   .int .i64 m.lkN, .int .i64 m.lkS, .int .i64 m.stage, .int .u64 m.ticket, .int .i64 m.times]
def encE (e : Ev) : List Value := [.int .i64 e.kind, .int .i64 e.g, .int .i64 e.m, .int .i64 e.p, .int .i64 e.value]
def encEs (l : List Ev) : List Value := l.flatMap encE

/-- Where a slice's row lies, if it has one, is in S. -/
def RowIn (S : Nat → Prop) (v : Value) : Prop := ∀ g, v.ownBlock = some g → S g

/-- The block b is a ring whose row begins at place head. -/
structure RingH (b : Nat) (w : World) (r : Hst.Ring) (head : Nat) : Prop where
  head_lt : head < 256
  len_le : r.l.length ≤ 256
  slot : ∀ k, k < 256 → ∃ x, w.cell? ⟨b, k, none⟩ = some (.int .i64 x)
  row : ∀ k, k < r.l.length → w.cell? ⟨b, (head + k) % 256, none⟩ = some (.int .i64 (r.l.getD k 0))
  chead : w.cell? ⟨b, 256, none⟩ = some (.int .i64 head)
  csize : w.cell? ⟨b, 257, none⟩ = some (.int .i64 r.l.length)
  cis : w.cell? ⟨b, 258, none⟩ = some (.bool r.is)
  cnext : w.cell? ⟨b, 259, none⟩ = some (.int .i64 r.next)
  cstreak : w.cell? ⟨b, 260, none⟩ = some (.int .i64 r.streak)
  fr : ∀ o, w.frozen? ⟨b, o, none⟩ = false
  streak : 0 ≤ r.streak ∧ r.streak ≤ 4
/-- The block b is a ring. -/
def RingAt (b : Nat) (w : World) (r : Hst.Ring) : Prop := ∃ head, RingH b w r head

theorem RingH.lt {b : Nat} {w : World} {r : Hst.Ring} {head : Nat} (h : RingH b w r head) : b < w.heap.size := World.block_lt_of_cell? w _ h.chead
theorem RingH.congr {b : Nat} {w w' : World} {r : Hst.Ring} {head : Nat} (h : RingH b w r head) (e : w'.heap[b]? = w.heap[b]?) : RingH b w' r head := by
  have hc : ∀ o, w'.cell? ⟨b, o, none⟩ = w.cell? ⟨b, o, none⟩ := fun o => World.cell?_of_block (a := ⟨b, o, none⟩) e
  have hf : ∀ o, w'.frozen? ⟨b, o, none⟩ = w.frozen? ⟨b, o, none⟩ := fun o => World.frozen?_of_block (a := ⟨b, o, none⟩) e
  constructor <;> first | exact h.head_lt | exact h.len_le | exact h.streak | skip
  · intro k hk; rw [hc]; exact h.slot k hk
  · intro k hk; rw [hc]; exact h.row k hk
  · rw [hc]; exact h.chead
  · rw [hc]; exact h.csize
  · rw [hc]; exact h.cis
  · rw [hc]; exact h.cnext
  · rw [hc]; exact h.cstreak
  · intro o; rw [hf]; exact h.fr o

theorem RingH.pop1 {b : Nat} {w : World} {r : Hst.Ring} {hd : Nat} (h : RingH b w r hd) (hs : 0 < r.l.length) :
    RingH b ((w.setCell ⟨b, 256, none⟩ (.int .i64 (((hd + 1) % 256 : Nat) : Int))).setCell ⟨b, 257, none⟩ (.int .i64 ((r.l.length - 1 : Nat) : Int))) { r with l := r.l.drop 1 } ((hd + 1) % 256) := by
  have hc : ∀ o, ((w.setCell ⟨b, 256, none⟩ (.int .i64 (((hd + 1) % 256 : Nat) : Int))).setCell ⟨b, 257, none⟩ (.int .i64 ((r.l.length - 1 : Nat) : Int))).cell? ⟨b, o, none⟩ =
      if o = 257 then some (.int .i64 ((r.l.length - 1 : Nat) : Int)) else if o = 256 then some (.int .i64 (((hd + 1) % 256 : Nat) : Int)) else w.cell? ⟨b, o, none⟩ := fun o => by
    rw [cell_set (u := .int .i64 r.l.length) (by rw [cell_set h.chead, if_neg (by decide)]; exact h.csize), cell_set h.chead]
  have := h.len_le
  refine ⟨Nat.mod_lt _ (by decide), by simp; omega, ?_, ?_, ?_, ?_, ?_, ?_, ?_, ?_, h.streak⟩
  · intro k hk; rw [hc, if_neg (by omega), if_neg (by omega)]; exact h.slot k hk
  · intro k hk
    simp only [List.length_drop] at hk
    rw [hc, if_neg (by omega), if_neg (by omega)]
    have := h.row (k + 1) (by omega)
    rw [show ((hd + 1) % 256 + k) % 256 = (hd + (k + 1)) % 256 by omega, this]
    simp [List.getD_eq_getElem?_getD]
  · rw [hc]; rfl
  · rw [hc]; simp
  · rw [hc]; exact h.cis
  · rw [hc]; exact h.cnext
  · rw [hc]; exact h.cstreak
  · intro o; rw [World.frozen?_setCell, World.frozen?_setCell]; exact h.fr o

/-- A store into a ring: one of its five last cells. -/
theorem RingH.store {b : Nat} {w : World} {r r' : Hst.Ring} {head head' : Nat} (h : RingH b w r head) (o : Nat) (v : Value) (ho : 256 ≤ o ∧ o ≤ 260)
    (h1 : head' < 256) (h2 : r'.l.length ≤ 256) (h3 : 0 ≤ r'.streak ∧ r'.streak ≤ 4)
    (hrow : ∀ k, k < r'.l.length → w.cell? ⟨b, (head' + k) % 256, none⟩ = some (.int .i64 (r'.l.getD k 0)))
    (c256 : (if o = 256 then some v else some (.int .i64 head)) = some (.int .i64 head'))
    (c257 : (if o = 257 then some v else some (.int .i64 r.l.length)) = some (.int .i64 r'.l.length))
    (c258 : (if o = 258 then some v else some (.bool r.is)) = some (.bool r'.is))
    (c259 : (if o = 259 then some v else some (.int .i64 r.next)) = some (.int .i64 r'.next))
    (c260 : (if o = 260 then some v else some (.int .i64 r.streak)) = some (.int .i64 r'.streak)) :
    RingH b (w.setCell ⟨b, o, none⟩ v) r' head' := by
  have he : ∃ u, w.cell? ⟨b, o, none⟩ = some u := by
    rcases (show o = 256 ∨ o = 257 ∨ o = 258 ∨ o = 259 ∨ o = 260 by omega) with rfl | rfl | rfl | rfl | rfl
    · exact ⟨_, h.chead⟩
    · exact ⟨_, h.csize⟩
    · exact ⟨_, h.cis⟩
    · exact ⟨_, h.cnext⟩
    · exact ⟨_, h.cstreak⟩
  obtain ⟨u, hu⟩ := he
  refine ⟨h1, h2, ?_, ?_, ?_, ?_, ?_, ?_, ?_, ?_, h3⟩
  · intro k hk; obtain ⟨x, hx⟩ := h.slot k hk; exact ⟨x, by rw [cell_set hu, if_neg (by omega)]; exact hx⟩
  · intro k hk; rw [cell_set hu, if_neg (by have := Nat.mod_lt (head' + k) (show 0 < 256 by omega); omega)]; exact hrow k hk
  · rw [cell_set hu, h.chead, ← c256]; simp only [eq_comm (a := o)]
  · rw [cell_set hu, h.csize, ← c257]; simp only [eq_comm (a := o)]
  · rw [cell_set hu, h.cis, ← c258]; simp only [eq_comm (a := o)]
  · rw [cell_set hu, h.cnext, ← c259]; simp only [eq_comm (a := o)]
  · rw [cell_set hu, h.cstreak, ← c260]; simp only [eq_comm (a := o)]
  · intro o'; rw [World.frozen?_setCell]; exact h.fr o'

theorem RingH.setStreak {b : Nat} {w : World} {r : Hst.Ring} {head : Nat} (h : RingH b w r head) (s : Int) (hs : 0 ≤ s ∧ s ≤ 4) : RingH b (w.setCell ⟨b, 260, none⟩ (.int .i64 s)) { r with streak := s } head :=
  h.store 260 _ (by decide) h.head_lt h.len_le hs h.row rfl rfl rfl rfl rfl
theorem RingH.setIs {b : Nat} {w : World} {r : Hst.Ring} {head : Nat} (h : RingH b w r head) (s : Bool) : RingH b (w.setCell ⟨b, 258, none⟩ (.bool s)) { r with is := s } head :=
  h.store 258 _ (by decide) h.head_lt h.len_le h.streak h.row rfl rfl rfl rfl rfl
theorem RingH.setNext {b : Nat} {w : World} {r : Hst.Ring} {head : Nat} (h : RingH b w r head) (s : Int) : RingH b (w.setCell ⟨b, 259, none⟩ (.int .i64 s)) { r with next := s } head :=
  h.store 259 _ (by decide) h.head_lt h.len_le h.streak h.row rfl rfl rfl rfl rfl
/-- One more behind the row. -/
theorem RingH.push {b : Nat} {w : World} {r : Hst.Ring} {hd : Nat} (h : RingH b w r hd) (g : Int) (hs : r.l.length < 256) :
    RingH b ((w.setCell ⟨b, (hd + r.l.length) % 256, none⟩ (.int .i64 g)).setCell ⟨b, 257, none⟩ (.int .i64 ((r.l.length + 1 : Nat) : Int))) { r with l := r.l ++ [g] } hd := by
  have hm := Nat.mod_lt (hd + r.l.length) (show 0 < 256 by decide)
  have h1 := h.head_lt
  obtain ⟨u, hu⟩ := h.slot _ hm
  have hc : ∀ o, ((w.setCell ⟨b, (hd + r.l.length) % 256, none⟩ (.int .i64 g)).setCell ⟨b, 257, none⟩ (.int .i64 ((r.l.length + 1 : Nat) : Int))).cell? ⟨b, o, none⟩ =
      if o = 257 then some (.int .i64 ((r.l.length + 1 : Nat) : Int)) else if o = (hd + r.l.length) % 256 then some (.int .i64 g) else w.cell? ⟨b, o, none⟩ := fun o => by
    rw [cell_set (u := .int .i64 r.l.length) (by rw [cell_set hu, if_neg (by omega)]; exact h.csize), cell_set hu]
  refine ⟨h1, by simp; omega, ?_, ?_, ?_, ?_, ?_, ?_, ?_, ?_, h.streak⟩
  · intro k hk; rw [hc, if_neg (by omega)]; split
    · exact ⟨_, rfl⟩
    · exact h.slot k hk
  · intro k hk
    simp only [List.length_append, List.length_cons, List.length_nil] at hk
    rw [hc, if_neg (by omega)]
    by_cases e : k = r.l.length
    · subst e; rw [if_pos rfl]; simp [List.getD_eq_getElem?_getD]
    · rw [if_neg (by omega), h.row k (by omega)]
      simp [List.getD_eq_getElem?_getD, List.getElem?_append_left (show k < r.l.length by omega)]
  · rw [hc, if_neg (by omega), if_neg (by omega)]; exact h.chead
  · rw [hc]; simp
  · rw [hc, if_neg (by omega), if_neg (by omega)]; exact h.cis
  · rw [hc, if_neg (by omega), if_neg (by omega)]; exact h.cnext
  · rw [hc, if_neg (by omega), if_neg (by omega)]; exact h.cstreak
  · intro o; rw [World.frozen?_setCell, World.frozen?_setCell]; exact h.fr o

/-- The cell o of the block b holds a slice whose row, in S, is l. -/
def RowAt (S : Nat → Prop) (b o : Nat) (w : World) (l : List Int) : Prop :=
  ∃ v, w.cell? ⟨b, o, none⟩ = some v ∧ w.ownsRow 0 3 1 v l.length (ints l) ∧ RowIn S v ∧ v.ownBlock ≠ some b

theorem RowAt.congr {S : Nat → Prop} {b o : Nat} {w w' : World} {l : List Int} (h : RowAt S b o w l) (hb : w'.heap[b]? = w.heap[b]?) (e : ∀ k, k < w.heap.size → S k → w'.heap[k]? = w.heap[k]?) : RowAt S b o w' l := by
  obtain ⟨v, h1, h2, h3, h4⟩ := h
  refine ⟨v, (World.cell?_of_block (a := ⟨b, o, none⟩) hb).trans h1, ?_, h3, h4⟩
  refine ⟨h2.1, ?_⟩
  rcases h2.2 with hn | ⟨g, cap, cur, rfl, hbg, hg, rest⟩
  · exact .inl hn
  · exact .inr ⟨g, cap, cur, rfl, hbg, by rw [e g (Array.getElem?_eq_some_iff.1 hg).1 (h3 g rfl)]; exact hg, rest⟩
theorem RowAt.mono {S T : Nat → Prop} {b o : Nat} {w : World} {l : List Int} (h : RowAt S b o w l) (hs : ∀ x, x < w.heap.size → S x → T x) : RowAt T b o w l := by
  obtain ⟨v, h1, h2, h3, h4⟩ := h
  exact ⟨v, h1, h2, fun g hg => hs g (h2.lt g hg).2 (h3 g hg), h4⟩

/-- The block b is a queue of n processors' that holds l. -/
structure GlobAt (S : Nat → Prop) (b : Nat) (w : World) (n : Nat) (l : List Int) : Prop where
  inS : S b
  row : RowAt S b 0 w l
  cn : w.cell? ⟨b, 1, none⟩ = some (.int .i64 n)
  fr : ∀ o, w.frozen? ⟨b, o, none⟩ = false

theorem Mod.setCells {S : Nat → Prop} {a : World} {g : Nat} (hg : S g ∨ a.heap.size ≤ g) : ∀ (vs : List Value) (o : Nat) (w : World), Mod S a w → Mod S a (w.setCells g o vs)
  | [], _, _, h => h
  | v :: r, o, _, h => Mod.setCells hg r (o + 1) _ (h.setCell (p := ⟨g, o, none⟩) hg v)
theorem Mod.setCellsB {a w : World} {g : Nat} (h : Mod (· = g) a w) (vs : List Value) (o : Nat) : Mod (· = g) a (w.setCells g o vs) := Mod.setCells (S := (· = g)) (.inl rfl) vs o w h

theorem setCells_heap (g : Nat) (t : TypeId) (f : Nat × Nat) : ∀ (vs : List Value) (o : Nat) (w : World) (cur : Array Value), w.heap[g]? = some (.cells cur t f) → o + vs.length ≤ cur.size →
    (w.setCells g o vs).heap[g]? = some (.cells (cur.toList.take o ++ vs ++ cur.toList.drop (o + vs.length)).toArray t f)
  | [], o, w, cur, h, _ => by simp [World.setCells, h]
  | v :: r, o, w, cur, h, hl => by
    simp only [List.length_cons] at hl
    have h1 : (w.setCell ⟨g, o, none⟩ v).heap[g]? = some (.cells (cur.setIfInBounds o v) t f) := by
      have hlt := (Array.getElem?_eq_some_iff.1 h).1
      simp only [World.setCell, Array.getElem?_modify, ↓reduceIte, h, Option.map_some]
      simp
    rw [World.setCells, setCells_heap g t f r (o + 1) _ _ h1 (by simp; omega)]
    congr 3
    have hs : (cur.setIfInBounds o v).toList = cur.toList.set o v := by simp
    rw [hs, List.take_set, List.drop_set_of_lt (by omega)]
    have e1 : (cur.toList.take (o + 1)).set o v = cur.toList.take o ++ [v] := by
      rw [List.take_succ_eq_append_getElem (by simp; omega), List.set_append_right _ _ (by simp; omega)]
      simp [List.length_take, show min o cur.size = o by omega]
    rw [e1]
    simp [List.append_assoc, Nat.add_assoc, Nat.add_comm 1]

/-- A row whose first cells are written anew, and that is cut. -/
theorem ownsRow_setCells {w : World} {base e n cap g : Nat} {xs vs : List Value} (h : w.ownsRow base e 1 (.slice (some ⟨g, 0, none⟩) n cap) n xs) (hv : vs.length = n) (m : Nat) (hm : m ≤ n) (hb : base ≤ g) :
    (w.setCells g 0 vs).ownsRow base e 1 (.slice (some ⟨g, 0, none⟩) m cap) m (vs.take m) := by
  rcases h.2 with ⟨hn, _⟩ | ⟨g', cap', cur, hv', hbg, hg, hc, hm', hs, ht⟩
  · cases hn
  · simp only [Value.slice.injEq, Option.some.injEq, Addr.mk.injEq, and_true, true_and] at hv'
    obtain ⟨rfl, rfl⟩ := hv'
    have hl := setCells_heap g e (0, 0) vs 0 w cur hg (by omega)
    refine ⟨by simp [hv]; omega, .inr ⟨g, cap, _, rfl, hb, hl, by omega, hm', ?_, ?_⟩⟩
    · simp [hv]; omega
    · simp [List.take_append, hv, Nat.mul_one, show m - n = 0 by omega]

/-- The block b is an idle of n processors (at most 64) and m machines: its mask's block is mk, the mask's word's mw. -/
structure IdleH (S : Nat → Prop) (b mk mw : Nat) (w : World) (n m : Nat) (x : Hst.Idle) : Prop where
  inS : S b ∧ S mk ∧ S mw
  ne : b ≠ mk ∧ b ≠ mw ∧ mk ≠ mw
  c0 : w.cell? ⟨b, 0, none⟩ = some (.pointer (some ⟨mk, 0, none⟩))
  rows : ∃ pv mv, w.cell? ⟨b, 1, none⟩ = some pv ∧ w.cell? ⟨b, 2, none⟩ = some mv ∧ w.ownsRow 0 3 1 pv x.pending.length (ints x.pending) ∧ w.ownsRow 0 3 1 mv x.m.length (ints x.m) ∧ RowIn S pv ∧ RowIn S mv ∧
    (∀ g, pv.ownBlock = some g → g ≠ b ∧ g ≠ mk ∧ g ≠ mw ∧ mv.ownBlock ≠ some g) ∧ (∀ g, mv.ownBlock = some g → g ≠ b ∧ g ≠ mk ∧ g ≠ mw)
  c3 : w.cell? ⟨b, 3, none⟩ = some (.int .i64 x.poller)
  c4 : w.cell? ⟨b, 4, none⟩ = some (.int .i64 m)
  k0 : w.cell? ⟨mk, 0, none⟩ = some (.int .i64 n)
  k1 : w.cell? ⟨mk, 1, none⟩ = some (.slice (some ⟨mw, 0, none⟩) 1 1)
  kw : w.cell? ⟨mw, 0, none⟩ = some (.int .u64 x.p)
  fr : (∀ o, w.frozen? ⟨b, o, none⟩ = false) ∧ (∀ o, w.frozen? ⟨mk, o, none⟩ = false) ∧ ∀ o, w.frozen? ⟨mw, o, none⟩ = false
  bits : x.p < 2 ^ n
  n_le : n ≤ 64
def IdleAt (S : Nat → Prop) (b : Nat) (w : World) (n m : Nat) (x : Hst.Idle) : Prop := ∃ mk mw, IdleH S b mk mw w n m x

/-- The block b is a source. -/
def SrcAt (S : Nat → Prop) (b : Nat) (w : World) (_s : Hst.Src) : Prop := S b ∧ b < w.heap.size
end Go.Proofs.YtfjepdcnikgjeaaGreatDoor
