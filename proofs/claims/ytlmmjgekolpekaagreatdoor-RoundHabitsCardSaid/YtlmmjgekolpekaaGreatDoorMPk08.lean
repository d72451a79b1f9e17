/- Parts of the proof. -/
import Derived.Test.YtlmmjgekolpekaaGreatDoorMPk01
import Derived.WalkKit
import Derived.StillTailTactics
import Derived.Deep.QuietTactic
import Derived.BigQuiet
import Derived.Test.YtlmmjgekolpekaaGreatDoorChecked
import Derived.Lib.Hide
import Derived.Deep.RegionHeld3
import Derived.Deep.AppendLies
import Derived.Shelf.Small.Wraps
import Derived.Shelf.Slices.Turned
import Derived.Ground.Names2Prog
import Derived.Shelf.Slices.Clone
import Derived.Shelf.Slices.SearchI
import Derived.Shelf.Slices.Delete
import Derived.Shelf.Slices.Cells
import Derived.Shelf.Slices.Empties
import Derived.Test.YtlmmjgekolpekaaGreatDoorProg
set_option linter.unusedVariables false
set_option linter.unusedSimpArgs false
set_option linter.unusedSectionVars false
set_option maxRecDepth 100000
set_option maxHeartbeats 6400000
namespace Go.Proofs.YtlmmjgekolpekaaGreatDoor
open Go Go.RowKit Hst
structure Mod (S : Nat → Prop) (w w' : World) : Prop where
  os : w'.os = w.os
  tape : w'.tape = w.tape
  output : w'.output = w.output
  size : w.heap.size ≤ w'.heap.size
  block : ∀ k, k < w.heap.size → ¬ S k → w'.heap[k]? = w.heap[k]?
theorem Mod.refl (S : Nat → Prop) (w : World) : Mod S w w := ⟨rfl, rfl, rfl, Nat.le_refl _, fun _ _ _ => rfl⟩
theorem Mod.trans {S : Nat → Prop} {a b c : World} (h : Mod S a b) (k : Mod (fun x => S x ∨ a.heap.size ≤ x) b c) : Mod S a c :=
  ⟨k.os.trans h.os, k.tape.trans h.tape, k.output.trans h.output, Nat.le_trans h.size k.size, fun i hi hs =>
    (k.block i (Nat.lt_of_lt_of_le hi h.size) (fun e => by rcases e with e | e; exact hs e; omega)).trans (h.block i hi hs)⟩
theorem Mod.mono {S T : Nat → Prop} {a b : World} (h : Mod S a b) (hs : ∀ x, x < a.heap.size → S x → T x) : Mod T a b :=
  ⟨h.os, h.tape, h.output, h.size, fun i hi ht => h.block i hi (fun e => ht (hs i hi e))⟩
theorem Mod.trans1 {S : Nat → Prop} {a b c : World} (h : Mod S a b) (k : Mod S b c) : Mod S a c := h.trans (k.mono fun _ _ hs => .inl hs)
theorem Mod.drew {S : Nat → Prop} {a w : World} (h : Mod S a w) : Mod S a w.drew := ⟨h.os, h.tape, h.output, h.size, h.block⟩
theorem Mod.drewN {S : Nat → Prop} {a w : World} (n : Nat) (h : Mod S a w) : Mod S a (w.drewN n) := ⟨h.os, h.tape, h.output, h.size, h.block⟩
theorem Mod.alloc {S : Nat → Prop} {a w : World} (h : Mod S a w) (o : Obj) : Mod S a (w.alloc o) :=
  ⟨h.os, h.tape, h.output, by have := h.size; simp; omega, fun k hk hs => (Below.heap_alloc w o k (Nat.lt_of_lt_of_le hk h.size)).trans (h.block k hk hs)⟩
theorem Mod.setCell {S : Nat → Prop} {a w : World} (h : Mod S a w) {p : Addr} (hp : S p.block ∨ a.heap.size ≤ p.block) (u : Value) : Mod S a (w.setCell p u) :=
  ⟨h.os, h.tape, h.output, by simpa [World.setCell] using h.size, fun k hk hs => (Below.heap_setCell w p u k (fun e => by subst e; rcases hp with hp | hp; exact hs hp; omega)).trans (h.block k hk hs)⟩
theorem Mod.setB {b : Nat} {a w : World} (h : Mod (· = b) a w) (o : Nat) (u : Value) : Mod (· = b) a (w.setCell ⟨b, o, none⟩ u) := h.setCell (.inl rfl) u
theorem Mod.of_below {w w' : World} (h : Below w.heap.size w w') (S : Nat → Prop) : Mod S w w' := ⟨h.os, h.tape, h.output, h.size, fun k hk _ => h.block k hk⟩
theorem Mod.below {w w' : World} (h : Mod (fun _ => False) w w') : Below w.heap.size w w' := ⟨h.os, h.tape, h.output, h.size, fun k hk => h.block k hk id⟩
theorem Mod.cell {S : Nat → Prop} {w w' : World} (h : Mod S w w') {a : Addr} {v : Value} (hs : ¬ S a.block) (hc : w.cell? a = some v) : w'.cell? a = some v :=
  (World.cell?_of_block (w := w) (h.block a.block (World.block_lt_of_cell? w a hc) hs)).trans hc
theorem zaf {w : World} {b o : Nat} {u : Value} (h : w.cell? ⟨b, o, none⟩ = some u) (v : Value) (o' : Nat) :
    (w.setCell ⟨b, o, none⟩ v).cell? ⟨b, o', none⟩ = if o' = o then some v else w.cell? ⟨b, o', none⟩ := by
  by_cases e : o' = o
  · subst e; rw [if_pos rfl, World.cell?_setCell_same w _ v h]
  · rw [if_neg e, World.cell?_setCell_other w _ _ v (fun h => e (by cases h; rfl))]
theorem cell_far {w : World} {b b' o o' : Nat} (h : b ≠ b') (v : Value) : (w.setCell ⟨b, o, none⟩ v).cell? ⟨b', o', none⟩ = w.cell? ⟨b', o', none⟩ :=
  World.cell?_setCell_other w _ _ v (fun e => h (by cases e; rfl))
theorem za5 {w : World} {b b' o : Nat} (h : b' ≠ b) (v : Value) : (w.setCell ⟨b, o, none⟩ v).heap[b']? = w.heap[b']? := Below.heap_setCell w _ v b' h
theorem zar {w : World} {base e size n : Nat} {v : Value} {xs : List Value} (h : w.ownsRow base e size v n xs) (hn : 0 < n) : ∃ g cap, v = .slice (some ⟨g, 0, none⟩) n cap ∧ base ≤ g ∧ g < w.heap.size ∧ n ≤ cap := by
  rcases h.2 with ⟨_, h0⟩ | ⟨g, cap, cur, rfl, hb, hg, hc, _⟩
  · omega
  · exact ⟨g, cap, rfl, hb, (Array.getElem?_eq_some_iff.1 hg).1, hc⟩
structure Fix where
  W : Nat
  mem : Nat
  ws : Nat
  rs : Nat
  rsCap : Nat
  ring : Nat → Nat
  turns : Nat
  glob : Nat
  src : Nat
  idle : Nat
  all : Nat
  allCap : Nat
  flag : Nat
structure Vol where
  logV : Value
  rest : Nat → Value
def ints (l : List Int) : List Value := l.map (Value.int .i64)
def encM (m : Mach) (r : Value) : List Value :=
  [.int .i64 m.place, .int .i64 m.p, .int .i64 m.g, .int .i64 m.next, .int .i64 m.got, .int .i64 m.target, .int .i64 m.i, .bool m.spin, .bool m.inn, r, .int .i64 m.back, .int .i64 m.after, .int .i64 m.arg,
   .int .i64 m.lkN, .int .i64 m.lkS, .int .i64 m.stage, .int .u64 m.ticket, .int .i64 m.times]
def encE (e : Ev) : List Value := [.int .i64 e.kind, .int .i64 e.g, .int .i64 e.m, .int .i64 e.p, .int .i64 e.value]
def encEs (l : List Ev) : List Value := l.flatMap encE
def RowIn (S : Nat → Prop) (v : Value) : Prop := ∀ g, v.ownBlock = some g → S g
structure RingH (b : Nat) (w : World) (r : Hst.Ring) (head : Nat) : Prop where
  head_lt : head < 256
  len_le : r.l.length ≤ 256
  slot : ∀ k, k < 256 → ∃ x, w.cell? ⟨b, k, none⟩ = some (.int .i64 x)
  row : ∀ k, k < r.l.length → w.cell? ⟨b, (head + k) % 256, none⟩ = some (.int .i64 (r.l.getD k 0))
  chead : w.cell? ⟨b, 256, none⟩ = some (.int .i64 head)
  csize : w.cell? ⟨b, 257, none⟩ = some (.int .i64 r.l.length)
  cis : w.cell? ⟨b, 258, none⟩ = some (.bool r.is)
  cnext : w.cell? ⟨b, 259, none⟩ = some (.int .i64 r.next)
  cstreak : w.cell? ⟨b, 260, none⟩ = some (.int .i64 r.streak)
  fr : ∀ o, w.frozen? ⟨b, o, none⟩ = false
  streak : 0 ≤ r.streak ∧ r.streak ≤ 4
def RingAt (b : Nat) (w : World) (r : Hst.Ring) : Prop := ∃ head, RingH b w r head
theorem RingH.lt {b : Nat} {w : World} {r : Hst.Ring} {head : Nat} (h : RingH b w r head) : b < w.heap.size := World.block_lt_of_cell? w _ h.chead
theorem RingH.congr {b : Nat} {w w' : World} {r : Hst.Ring} {head : Nat} (h : RingH b w r head) (e : w'.heap[b]? = w.heap[b]?) : RingH b w' r head := by
  have hc : ∀ o, w'.cell? ⟨b, o, none⟩ = w.cell? ⟨b, o, none⟩ := fun o => World.cell?_of_block (a := ⟨b, o, none⟩) e
  have hf : ∀ o, w'.frozen? ⟨b, o, none⟩ = w.frozen? ⟨b, o, none⟩ := fun o => World.frozen?_of_block (a := ⟨b, o, none⟩) e
  constructor <;> first | exact h.head_lt | exact h.len_le | exact h.streak | skip
  · intro k hk; rw [hc]; exact h.slot k hk
  · intro k hk; rw [hc]; exact h.row k hk
  · rw [hc]; exact h.chead
  · rw [hc]; exact h.csize
  · rw [hc]; exact h.cis
  · rw [hc]; exact h.cnext
  · rw [hc]; exact h.cstreak
  · intro o; rw [hf]; exact h.fr o
theorem RingH.pop1 {b : Nat} {w : World} {r : Hst.Ring} {hd : Nat} (h : RingH b w r hd) (hs : 0 < r.l.length) :
    RingH b ((w.setCell ⟨b, 256, none⟩ (.int .i64 (((hd + 1) % 256 : Nat) : Int))).setCell ⟨b, 257, none⟩ (.int .i64 ((r.l.length - 1 : Nat) : Int))) { r with l := r.l.drop 1 } ((hd + 1) % 256) := by
  have hc : ∀ o, ((w.setCell ⟨b, 256, none⟩ (.int .i64 (((hd + 1) % 256 : Nat) : Int))).setCell ⟨b, 257, none⟩ (.int .i64 ((r.l.length - 1 : Nat) : Int))).cell? ⟨b, o, none⟩ =
      if o = 257 then some (.int .i64 ((r.l.length - 1 : Nat) : Int)) else if o = 256 then some (.int .i64 (((hd + 1) % 256 : Nat) : Int)) else w.cell? ⟨b, o, none⟩ := fun o => by
    rw [zaf (u := .int .i64 r.l.length) (by rw [zaf h.chead, if_neg (by decide)]; exact h.csize), zaf h.chead]
  have := h.len_le
  refine ⟨Nat.mod_lt _ (by decide), by simp; omega, ?_, ?_, ?_, ?_, ?_, ?_, ?_, ?_, h.streak⟩
  · intro k hk; rw [hc, if_neg (by omega), if_neg (by omega)]; exact h.slot k hk
  · intro k hk
    simp only [List.length_drop] at hk
    rw [hc, if_neg (by omega), if_neg (by omega)]
    have := h.row (k + 1) (by omega)
    rw [show ((hd + 1) % 256 + k) % 256 = (hd + (k + 1)) % 256 by omega, this]
    simp [List.getD_eq_getElem?_getD]
  · rw [hc]; rfl
  · rw [hc]; simp
  · rw [hc]; exact h.cis
  · rw [hc]; exact h.cnext
  · rw [hc]; exact h.cstreak
  · intro o; rw [World.frozen?_setCell, World.frozen?_setCell]; exact h.fr o
theorem RingH.store {b : Nat} {w : World} {r r' : Hst.Ring} {head head' : Nat} (h : RingH b w r head) (o : Nat) (v : Value) (ho : 256 ≤ o ∧ o ≤ 260)
    (h1 : head' < 256) (h2 : r'.l.length ≤ 256) (h3 : 0 ≤ r'.streak ∧ r'.streak ≤ 4)
    (hrow : ∀ k, k < r'.l.length → w.cell? ⟨b, (head' + k) % 256, none⟩ = some (.int .i64 (r'.l.getD k 0)))
    (c256 : (if o = 256 then some v else some (.int .i64 head)) = some (.int .i64 head'))
    (c257 : (if o = 257 then some v else some (.int .i64 r.l.length)) = some (.int .i64 r'.l.length))
    (c258 : (if o = 258 then some v else some (.bool r.is)) = some (.bool r'.is))
    (c259 : (if o = 259 then some v else some (.int .i64 r.next)) = some (.int .i64 r'.next))
    (c260 : (if o = 260 then some v else some (.int .i64 r.streak)) = some (.int .i64 r'.streak)) :
    RingH b (w.setCell ⟨b, o, none⟩ v) r' head' := by
  have he : ∃ u, w.cell? ⟨b, o, none⟩ = some u := by
    rcases (show o = 256 ∨ o = 257 ∨ o = 258 ∨ o = 259 ∨ o = 260 by omega) with rfl | rfl | rfl | rfl | rfl
    · exact ⟨_, h.chead⟩
    · exact ⟨_, h.csize⟩
    · exact ⟨_, h.cis⟩
    · exact ⟨_, h.cnext⟩
    · exact ⟨_, h.cstreak⟩
  obtain ⟨u, hu⟩ := he
  refine ⟨h1, h2, ?_, ?_, ?_, ?_, ?_, ?_, ?_, ?_, h3⟩
  · intro k hk; obtain ⟨x, hx⟩ := h.slot k hk; exact ⟨x, by rw [zaf hu, if_neg (by omega)]; exact hx⟩
  · intro k hk; rw [zaf hu, if_neg (by have := Nat.mod_lt (head' + k) (show 0 < 256 by omega); omega)]; exact hrow k hk
  · rw [zaf hu, h.chead, ← c256]; simp only [eq_comm (a := o)]
  · rw [zaf hu, h.csize, ← c257]; simp only [eq_comm (a := o)]
  · rw [zaf hu, h.cis, ← c258]; simp only [eq_comm (a := o)]
  · rw [zaf hu, h.cnext, ← c259]; simp only [eq_comm (a := o)]
  · rw [zaf hu, h.cstreak, ← c260]; simp only [eq_comm (a := o)]
  · intro o'; rw [World.frozen?_setCell]; exact h.fr o'
theorem RingH.setStreak {b : Nat} {w : World} {r : Hst.Ring} {head : Nat} (h : RingH b w r head) (s : Int) (hs : 0 ≤ s ∧ s ≤ 4) : RingH b (w.setCell ⟨b, 260, none⟩ (.int .i64 s)) { r with streak := s } head :=
  h.store 260 _ (by decide) h.head_lt h.len_le hs h.row rfl rfl rfl rfl rfl
theorem RingH.setIs {b : Nat} {w : World} {r : Hst.Ring} {head : Nat} (h : RingH b w r head) (s : Bool) : RingH b (w.setCell ⟨b, 258, none⟩ (.bool s)) { r with is := s } head :=
  h.store 258 _ (by decide) h.head_lt h.len_le h.streak h.row rfl rfl rfl rfl rfl
theorem RingH.setNext {b : Nat} {w : World} {r : Hst.Ring} {head : Nat} (h : RingH b w r head) (s : Int) : RingH b (w.setCell ⟨b, 259, none⟩ (.int .i64 s)) { r with next := s } head :=
  h.store 259 _ (by decide) h.head_lt h.len_le h.streak h.row rfl rfl rfl rfl rfl
theorem RingH.push {b : Nat} {w : World} {r : Hst.Ring} {hd : Nat} (h : RingH b w r hd) (g : Int) (hs : r.l.length < 256) :
    RingH b ((w.setCell ⟨b, (hd + r.l.length) % 256, none⟩ (.int .i64 g)).setCell ⟨b, 257, none⟩ (.int .i64 ((r.l.length + 1 : Nat) : Int))) { r with l := r.l ++ [g] } hd := by
  have hm := Nat.mod_lt (hd + r.l.length) (show 0 < 256 by decide)
  have h1 := h.head_lt
  obtain ⟨u, hu⟩ := h.slot _ hm
  have hc : ∀ o, ((w.setCell ⟨b, (hd + r.l.length) % 256, none⟩ (.int .i64 g)).setCell ⟨b, 257, none⟩ (.int .i64 ((r.l.length + 1 : Nat) : Int))).cell? ⟨b, o, none⟩ =
      if o = 257 then some (.int .i64 ((r.l.length + 1 : Nat) : Int)) else if o = (hd + r.l.length) % 256 then some (.int .i64 g) else w.cell? ⟨b, o, none⟩ := fun o => by
    rw [zaf (u := .int .i64 r.l.length) (by rw [zaf hu, if_neg (by omega)]; exact h.csize), zaf hu]
  refine ⟨h1, by simp; omega, ?_, ?_, ?_, ?_, ?_, ?_, ?_, ?_, h.streak⟩
  · intro k hk; rw [hc, if_neg (by omega)]; split
    · exact ⟨_, rfl⟩
    · exact h.slot k hk
  · intro k hk
    simp only [List.length_append, List.length_cons, List.length_nil] at hk
    rw [hc, if_neg (by omega)]
    by_cases e : k = r.l.length
    · subst e; rw [if_pos rfl]; simp [List.getD_eq_getElem?_getD]
    · rw [if_neg (by omega), h.row k (by omega)]
      simp [List.getD_eq_getElem?_getD, List.getElem?_append_left (show k < r.l.length by omega)]
  · rw [hc, if_neg (by omega), if_neg (by omega)]; exact h.chead
  · rw [hc]; simp
  · rw [hc, if_neg (by omega), if_neg (by omega)]; exact h.cis
  · rw [hc, if_neg (by omega), if_neg (by omega)]; exact h.cnext
  · rw [hc, if_neg (by omega), if_neg (by omega)]; exact h.cstreak
  · intro o; rw [World.frozen?_setCell, World.frozen?_setCell]; exact h.fr o
def RowAt (S : Nat → Prop) (b o : Nat) (w : World) (l : List Int) : Prop :=
  ∃ v, w.cell? ⟨b, o, none⟩ = some v ∧ w.ownsRow 0 3 1 v l.length (ints l) ∧ RowIn S v ∧ v.ownBlock ≠ some b
theorem RowAt.congr {S : Nat → Prop} {b o : Nat} {w w' : World} {l : List Int} (h : RowAt S b o w l) (hb : w'.heap[b]? = w.heap[b]?) (e : ∀ k, k < w.heap.size → S k → w'.heap[k]? = w.heap[k]?) : RowAt S b o w' l := by
  obtain ⟨v, h1, h2, h3, h4⟩ := h
  refine ⟨v, (World.cell?_of_block (a := ⟨b, o, none⟩) hb).trans h1, ?_, h3, h4⟩
  refine ⟨h2.1, ?_⟩
  rcases h2.2 with hn | ⟨g, cap, cur, rfl, hbg, hg, rest⟩
  · exact .inl hn
  · exact .inr ⟨g, cap, cur, rfl, hbg, by rw [e g (Array.getElem?_eq_some_iff.1 hg).1 (h3 g rfl)]; exact hg, rest⟩
theorem RowAt.mono {S T : Nat → Prop} {b o : Nat} {w : World} {l : List Int} (h : RowAt S b o w l) (hs : ∀ x, x < w.heap.size → S x → T x) : RowAt T b o w l := by
  obtain ⟨v, h1, h2, h3, h4⟩ := h
  exact ⟨v, h1, h2, fun g hg => hs g (h2.lt g hg).2 (h3 g hg), h4⟩
structure GlobAt (S : Nat → Prop) (b : Nat) (w : World) (n : Nat) (l : List Int) : Prop where
  inS : S b
  row : RowAt S b 0 w l
  cn : w.cell? ⟨b, 1, none⟩ = some (.int .i64 n)
  fr : ∀ o, w.frozen? ⟨b, o, none⟩ = false
theorem Mod.setCells {S : Nat → Prop} {a : World} {g : Nat} (hg : S g ∨ a.heap.size ≤ g) : ∀ (vs : List Value) (o : Nat) (w : World), Mod S a w → Mod S a (w.setCells g o vs)
  | [], _, _, h => h
  | v :: r, o, _, h => Mod.setCells hg r (o + 1) _ (h.setCell (p := ⟨g, o, none⟩) hg v)
theorem Mod.setCellsB {a w : World} {g : Nat} (h : Mod (· = g) a w) (vs : List Value) (o : Nat) : Mod (· = g) a (w.setCells g o vs) := Mod.setCells (S := (· = g)) (.inl rfl) vs o w h
theorem zcd (g : Nat) (t : TypeId) (f : Nat × Nat) : ∀ (vs : List Value) (o : Nat) (w : World) (cur : Array Value), w.heap[g]? = some (.cells cur t f) → o + vs.length ≤ cur.size →
    (w.setCells g o vs).heap[g]? = some (.cells (cur.toList.take o ++ vs ++ cur.toList.drop (o + vs.length)).toArray t f)
  | [], o, w, cur, h, _ => by simp [World.setCells, h]
  | v :: r, o, w, cur, h, hl => by
    simp only [List.length_cons] at hl
    have h1 : (w.setCell ⟨g, o, none⟩ v).heap[g]? = some (.cells (cur.setIfInBounds o v) t f) := by
      have hlt := (Array.getElem?_eq_some_iff.1 h).1
      simp only [World.setCell, Array.getElem?_modify, ↓reduceIte, h, Option.map_some]
      simp
    rw [World.setCells, zcd g t f r (o + 1) _ _ h1 (by simp; omega)]
    congr 3
    have hs : (cur.setIfInBounds o v).toList = cur.toList.set o v := by simp
    rw [hs, List.take_set, List.drop_set_of_lt (by omega)]
    have e1 : (cur.toList.take (o + 1)).set o v = cur.toList.take o ++ [v] := by
      rw [List.take_succ_eq_append_getElem (by simp; omega), List.set_append_right _ _ (by simp; omega)]
      simp [List.length_take, show min o cur.size = o by omega]
    rw [e1]
    simp [List.append_assoc, Nat.add_assoc, Nat.add_comm 1]
theorem zbz {w : World} {base e n cap g : Nat} {xs vs : List Value} (h : w.ownsRow base e 1 (.slice (some ⟨g, 0, none⟩) n cap) n xs) (hv : vs.length = n) (m : Nat) (hm : m ≤ n) (hb : base ≤ g) :
    (w.setCells g 0 vs).ownsRow base e 1 (.slice (some ⟨g, 0, none⟩) m cap) m (vs.take m) := by
  rcases h.2 with ⟨hn, _⟩ | ⟨g', cap', cur, hv', hbg, hg, hc, hm', hs, ht⟩
  · cases hn
  · simp only [Value.slice.injEq, Option.some.injEq, Addr.mk.injEq, and_true, true_and] at hv'
    obtain ⟨rfl, rfl⟩ := hv'
    have hl := zcd g e (0, 0) vs 0 w cur hg (by omega)
    refine ⟨by simp [hv]; omega, .inr ⟨g, cap, _, rfl, hb, hl, by omega, hm', ?_, ?_⟩⟩
    · simp [hv]; omega
    · simp [List.take_append, hv, Nat.mul_one, show m - n = 0 by omega]
structure IdleH (S : Nat → Prop) (b mk mw : Nat) (w : World) (n m : Nat) (x : Hst.Idle) : Prop where
  inS : S b ∧ S mk ∧ S mw
  ne : b ≠ mk ∧ b ≠ mw ∧ mk ≠ mw
  c0 : w.cell? ⟨b, 0, none⟩ = some (.pointer (some ⟨mk, 0, none⟩))
  rows : ∃ pv mv, w.cell? ⟨b, 1, none⟩ = some pv ∧ w.cell? ⟨b, 2, none⟩ = some mv ∧ w.ownsRow 0 3 1 pv x.pending.length (ints x.pending) ∧ w.ownsRow 0 3 1 mv x.m.length (ints x.m) ∧ RowIn S pv ∧ RowIn S mv ∧
    (∀ g, pv.ownBlock = some g → g ≠ b ∧ g ≠ mk ∧ g ≠ mw ∧ mv.ownBlock ≠ some g) ∧ (∀ g, mv.ownBlock = some g → g ≠ b ∧ g ≠ mk ∧ g ≠ mw)
  c3 : w.cell? ⟨b, 3, none⟩ = some (.int .i64 x.poller)
  c4 : w.cell? ⟨b, 4, none⟩ = some (.int .i64 m)
  k0 : w.cell? ⟨mk, 0, none⟩ = some (.int .i64 n)
  k1 : w.cell? ⟨mk, 1, none⟩ = some (.slice (some ⟨mw, 0, none⟩) 1 1)
  kw : w.cell? ⟨mw, 0, none⟩ = some (.int .u64 x.p)
  fr : (∀ o, w.frozen? ⟨b, o, none⟩ = false) ∧ (∀ o, w.frozen? ⟨mk, o, none⟩ = false) ∧ ∀ o, w.frozen? ⟨mw, o, none⟩ = false
  bits : x.p < 2 ^ n
  n_le : n ≤ 64
def IdleAt (S : Nat → Prop) (b : Nat) (w : World) (n m : Nat) (x : Hst.Idle) : Prop := ∃ mk mw, IdleH S b mk mw w n m x
structure SrcF where
  tB : Nat
  lB : Nat
  pB : Nat
  fB : Nat
  wB : Nat
  hB : Nat
def zeI (e : Ent) : List Value := [.int .i64 e.whenT, .int .u64 e.order, .int .i64 e.g]
def zeg (l : List Ent) : List Value := l.flatMap zeI
def ent0 : Ent := ⟨0, 0, 0⟩
def isHeap (l : List Ent) : Prop := ∀ i, 0 < i → i < l.length → (l.getD i ent0).ahead (l.getD ((i - 1) / 4) ent0) = false
def fdV (x : Hst.Fd) : Int × Value := (x.fd, .agg #[.int .i64 x.g, .bool x.waits, .bool x.ready])
def IMap (K : IntKind) (w : World) (r : Nat) (l : List (Int × Value)) : Prop :=
  ∃ es clock, w.heap[r]? = some (.map es clock) ∧ es.toList.map (fun e => (e.key, e.val)) = l.map (fun p => (Value.int K p.1, p.2)) ∧ (es.toList.map (·.born)).Nodup ∧ ∀ x, x ∈ es.toList → x.born < clock
def waitsN (s : Src) : Nat := s.fds.countP (·.waits)
structure SrcH (S : Nat → Prop) (b : Nat) (B : SrcF) (w : World) (P : Nat) (s : Src) (hs : Nat → List Ent) (hv : Nat → Value) (wl hl : List (Int × Value)) : Prop where
  inS : S b ∧ S B.tB ∧ S B.lB ∧ S B.pB ∧ S B.fB ∧ S B.wB ∧ S B.hB
  ne : [b, B.tB, B.lB, B.pB, B.fB, B.wB, B.hB].Nodup
  c0 : w.cell? ⟨b, 0, none⟩ = some (.int .i64 s.now)
  c1 : w.cell? ⟨b, 1, none⟩ = some (.pointer (some ⟨B.tB, 0, none⟩))
  c2 : w.cell? ⟨b, 2, none⟩ = some (.pointer (some ⟨B.pB, 0, none⟩))
  c3 : w.cell? ⟨b, 3, none⟩ = some (.int .i64 (waitsN s : Nat))
  t0 : w.cell? ⟨B.tB, 0, none⟩ = some (.slice (some ⟨B.lB, 0, none⟩) P P)
  t1 : w.cell? ⟨B.tB, 1, none⟩ = some (.int .u64 (s.order : Nat))
  t2 : w.cell? ⟨B.tB, 2, none⟩ = some (.map (some B.hB))
  l : ∀ k, k < P → w.cell? ⟨B.lB, k, none⟩ = some (hv k)
  p0 : w.cell? ⟨B.pB, 0, none⟩ = some (.map (some B.fB))
  p1 : w.cell? ⟨B.pB, 1, none⟩ = some (.map (some B.wB))
  fds : IMap .u16 w B.fB (s.fds.map fdV)
  who : IMap .i64 w B.wB wl
  has : IMap .i64 w B.hB hl
  rows : ∀ k, k < P → w.ownsRow 0 245 3 (hv k) (hs k).length (zeg (hs k)) ∧ RowIn S (hv k)
  apart : ∀ k, k < P → ∀ g, (hv k).ownBlock = some g → ¬ g ∈ [b, B.tB, B.lB, B.pB, B.fB, B.wB, B.hB] ∧ ∀ j, j < P → j ≠ k → (hv j).ownBlock ≠ some g
  fr : (∀ o, w.frozen? ⟨b, o, none⟩ = false) ∧ (∀ o, w.frozen? ⟨B.tB, o, none⟩ = false) ∧ (∀ o, w.frozen? ⟨B.lB, o, none⟩ = false) ∧ ∀ o, w.frozen? ⟨B.pB, o, none⟩ = false
  heap : ∀ k, k < P → isHeap (hs k)
  perm : ((List.range P).flatMap hs).Perm s.tm
  whoN : (wl.map (·.1)).Nodup
  whoE : ∀ g v, (g, v) ∈ wl ↔ ∃ x, x ∈ s.fds ∧ x.waits = true ∧ x.g = g ∧ v = .int .u16 (x.fd : Nat)
  hasN : (hl.map (·.1)).Nodup
  hasE : ∀ g v, (g, v) ∈ hl ↔ v = .agg #[] ∧ ∃ e, e ∈ s.tm ∧ e.g = g
def SrcAt (S : Nat → Prop) (b : Nat) (w : World) (P : Nat) (s : Hst.Src) : Prop := ∃ B hs hv wl hl, SrcH S b B w P s hs hv wl hl
end Go.Proofs.YtlmmjgekolpekaaGreatDoor
namespace Go.Proofs.YtlmmjgekolpekaaGreatDoor
open Go Go.RowKit Hst
theorem ints_take (l : List Int) (k : Nat) (h : k < l.length) : ints (l.take (k + 1)) = ints (l.take k) ++ [.int .i64 (l.getD k 0)] := by
  unfold ints; rw [List.take_succ_eq_append_getElem h, List.map_append]; simp [List.getD_eq_getElem?_getD, List.getElem?_eq_getElem h]
theorem Tryz.infoInt : (Tryz.prog.info? 3).map (fun i => (i.zero, i.size, i.bytes)) = some (some (.int .i64 0), 1, 8) := by kernel_rfl
theorem zdk (b n head : Nat) (r : Hst.Ring) (w : World) (h : RingH b w r head) (hn : n ≤ r.l.length) :
    Calls Tryz.prog 152 #[.pointer (some ⟨b, 0, none⟩), .int .i64 n] w fun e w' =>
      ∃ v, e = .returned v ∧ w'.ownsRow w.heap.size 3 1 v n (ints (r.l.take n)) ∧
        RingH b w' { r with l := r.l.drop n } ((head + n) % 256) ∧ Mod (· = b) w w' := by
  have hl := h.len_le
  have hlt := h.lt
  obtain ⟨i0, hi, hz0, hz1, hz2⟩ := info_parts Tryz.infoInt
  obtain ⟨w1, hmk, hown0, hg0⟩ := run_make_own (P := Tryz.prog) w w.heap.size 45 3 i0 (.int .i64 0) 1 Tryz.underlying45 hi hz0 hz1 .i64 .i64 n (by rw [hz2]; omega) (by unfold maxLen; omega) (Nat.le_refl _)
  have hr1 : RingH b w1 r head := h.congr (hg0.block b hlt (by simp))
  have hm1 : Mod (· = b) w w1 := ⟨hg0.os, hg0.tape, hg0.output, hg0.size, fun k hk _ => hg0.block k hk (by simp)⟩
  go_enter Tryz.func152, Tryz.ntmps152
  go_wp2
  clear hmk hg0
  go_loopw [5, 9] (fun v i wr => ∃ k : Nat, k ≤ n ∧ i = .int .i64 k ∧ wr.ownsRow w.heap.size 3 1 v k (ints (r.l.take k)) ∧
      RingH b wr { r with l := r.l.drop k } ((head + k) % 256) ∧ Mod (· = b) w wr) (fun _ i _ => n - (intOf i).toNat)
  case atStart => exact ⟨0, Nat.zero_le _, rfl, by simpa [ints] using hown0, by simpa [Nat.mod_eq_of_lt h.head_lt] using hr1, hm1⟩
  case round =>
    obtain ⟨k, hk, rfl, hown, hr, hm⟩ := hrel
    by_cases hlt2 : k < n
    · have hd0 : (head + k) % 256 < 256 := Nat.mod_lt _ (by omega)
      have hk1 : ints (r.l.take (k + 1)) = ints (r.l.take k) ++ [.int .i64 (r.l.getD k 0)] := ints_take _ _ (by omega)
      have hmod : (head + (k + 1)) % 256 = ((head + k) % 256 + 1) % 256 := by omega
      have hdr : r.l.drop (k + 1) = (r.l.drop k).drop 1 := by simp [List.drop_drop]
      have hlen : (r.l.drop k).length = r.l.length - k := by simp
      have h0 : (r.l.drop k).getD 0 0 = r.l.getD k 0 := by simp [List.getD_eq_getElem?_getD]
      generalize hhd : (head + k) % 256 = hd at *
      generalize hx : r.l.getD k 0 = x at *
      have c256 := hr.chead
      have c257 := hr.csize
      have hrow := hr.row 0 (by simp; omega)
      have hfr := hr.fr
      rw [h0] at hrow
      simp only [Nat.add_zero, Nat.mod_eq_of_lt hd0] at hrow
      have hlt3 := hr.lt
      have hdI : ((hd : Nat) : Int) < 256 := by omega
      have hsz := hm.size
      have hnb : Value.ownBlock u5 ≠ some b := fun e => by have := hown.lt b e; omega
      have Hr := Lib.hid hr; have Hk1 := Lib.hid hk1; have Hmod := Lib.hid hmod; have Hdr := Lib.hid hdr; have Hlen := Lib.hid hlen; have Hhd := Lib.hid hhd; have Hx := Lib.hid hx; have H0 := Lib.hid h0
      clear hr hk1 hmod hdr hlen hhd hx h0
      go_wp2
      go_region_held3 (fun w' => w'.cell? ⟨b, 256, none⟩ = some (.int .i64 hd) ∧ w'.cell? ⟨b, hd, none⟩ = some (.int .i64 x))
        (first
          | go_keep
          | (go_split_ands
             refine ⟨?_, ?_⟩
             · (rw [hgrow.cell_far _ (by simp; omega) (Ne.symm hnb)]; assumption)
             · (rw [hgrow.cell_far _ (by simp; omega) (Ne.symm hnb)]; assumption)))
        ((refine step_append_lies _ (by rfl) _ _ _ (by rfl) w.heap.size 3 i0 _ 1 8 Tryz.underlying45 hi hz0 hz1 hz2 rfl (by omega) _ k _ (by rfl) ((hown.alloc _).drew)
            ⟨wr.heap.size, 0, none⟩ 1 1 [.int .i64 x] (by rfl) (by rfl) (World.news_of_block (cs := #[.int .i64 x]) (t := 3) (fr := (0, 0)) (heap_alloc_new wr _)) (by simp [Value.oneCell'])
            (by omega) (by unfold maxLen; omega) (by omega) (by simp; omega) (wr.heap.size + 1) (by simp) ?_; intro gg cap w2 hown2 hgrow hat hlt4))
      have hr2 : RingH b w2 { r with l := r.l.drop k } hd := Hr.out.congr ((hgrow.block b (by simp; omega) (Ne.symm hnb)).trans (Below.heap_alloc wr _ b hlt3))
      have hm2 : Mod (· = b) w w2 := hm.trans (((Mod.refl _ wr).alloc _).drew.trans ⟨hgrow.os, hgrow.tape, hgrow.output, hgrow.size, fun x hx hn => hgrow.block x hx (fun e => by
        have := hown.lt x e.symm; simp at hx; exact hn (.inl (.inr this.1)))⟩)
      clear c256 c257 hrow hfr
      have c256 := hr2.chead
      have c257 := hr2.csize
      have hfr := hr2.fr
      have hlen := Hlen.out
      dsimp only at c257
      rw [hlen] at c257
      have Hr2 := Lib.hid hr2
      clear hr2 hlen
      obtain ⟨sz, hsz2⟩ : ∃ sz : Nat, sz = r.l.length - k := ⟨_, rfl⟩
      rw [← hsz2] at c257
      have hsz3 : 0 < sz := by omega
      have hsz4 : sz ≤ 256 := by omega
      have Hsz := Lib.hid hsz2
      clear hsz2
      go_wp2
      go_roundw
      case rel =>
        have hd1 : ((hd : Int) + 1) % 256 = (((hd + 1) % 256 : Nat) : Int) := by omega
        have hs1 : ((sz : Int) - 1) = ((sz - 1 : Nat) : Int) := by omega
        have hl1 : (List.drop (k + 1) r.l).length = sz - 1 := by have := Hsz.out; simp; omega
        have hl2 : (List.drop k r.l).length = sz := by have := Hsz.out; have := Hlen.out; omega
        have hgb : gg ≠ b := fun e => by rcases hat with e' | e'; exact hnb (e ▸ e'); omega
        have hp := Hr2.out.pop1 (by dsimp only; omega)
        dsimp only at hp
        rw [hl2] at hp
        rw [hd1, hs1]
        refine ⟨k + 1, by omega, by go_num, ?_, ?_, ?_⟩
        · rw [Hk1.out]; exact ownsRow_setCell_other (ownsRow_setCell_other hown2 (by simpa [Value.ownBlock] using hgb) _) (by simpa [Value.ownBlock] using hgb) _
        · rw [Hmod.out, Hdr.out]; exact hp
        · exact (hm2.setCell (.inl rfl) _).setCell (.inl rfl) _
      case measure => simp [intOf]; omega
    · go_wp2
      go_ret
      obtain rfl : k = n := by omega
      exact ⟨_, rfl, hown, hr, hm⟩
theorem getD_eq (l : List Int) (h : 0 < l.length) : ∃ g t, l = g :: t := by cases l with | nil => simp at h | cons g t => exact ⟨g, t, rfl⟩
theorem get_next (b : Nat) (r : Hst.Ring) (w : World) (h : RingAt b w r) (hc : (r.is = true ∧ (r.l = [] ∨ r.streak < 4)) ∨ (r.is = false ∧ r.l = [])) :
    Calls Tryz.prog 199 #[.pointer (some ⟨b, 0, none⟩)] w fun e w' =>
      e = .returned (.tuple #[.int .i64 r.get.2.1, .bool r.get.2.2]) ∧ RingAt b w' r.get.1 ∧ Mod (· = b) w w' := by
  obtain ⟨head, h⟩ := h
  obtain ⟨l, is, next, streak⟩ := r
  have c257 := h.csize
  have c258 := h.cis
  have c259 := h.cnext
  have c260 := h.cstreak
  have hfr := h.fr
  have hst := h.streak
  dsimp only at *
  rcases hc with ⟨rfl, hc⟩ | ⟨rfl, rfl⟩
  · by_cases hl : l = []
    · subst hl
      simp only [List.length_nil] at c257
      go_enter Tryz.func199, Tryz.ntmps199
      go_wp2
      go_ret2
      exact ⟨by simp [Ring.get], ⟨head, by simpa [Ring.get] using (h.setStreak 0 (by decide)).setIs false⟩, ((Mod.refl _ w).setB _ _).setB _ _⟩
    · have hl' : 0 < l.length := List.length_pos_iff.2 hl
      have hst' : streak < 4 := by rcases hc with hc | hc; exact absurd hc hl; exact hc
      have e1 : ((l.length : Int) == 0) = false := by simp; omega
      go_enter Tryz.func199, Tryz.ntmps199
      go_wp2
      go_ret2
      exact ⟨by simp [Ring.get, hl, hst'], ⟨head, by simpa [Ring.get, hl, hst'] using (h.setStreak (streak + 1) (by omega)).setIs false⟩, ((Mod.refl _ w).setB _ _).setB _ _⟩
  · simp only [List.length_nil] at c257
    go_enter Tryz.func199, Tryz.ntmps199
    go_wp2
    go_ret2
    exact ⟨by simp [Ring.get], ⟨head, by simpa [Ring.get] using h⟩, Mod.refl _ _⟩
theorem push_any (b : Nat) (r : Hst.Ring) (head : Nat) (g : Int) (w : World) (h : RingH b w r head) (hs : r.l.length < 256) :
    Calls Tryz.prog 222 #[.pointer (some ⟨b, 0, none⟩), .int .i64 g] w fun e w' =>
      e = .returned (.tuple #[]) ∧ RingH b w' { r with l := r.l ++ [g] } head ∧ Mod (· = b) w w' := by
  have c256 := h.chead
  have c257 := h.csize
  have hh := h.head_lt
  have hfr := h.fr
  obtain ⟨u, hu⟩ := h.slot _ (Nat.mod_lt (head + r.l.length) (show 0 < 256 by decide))
  have Hh := Lib.hid h
  clear h
  have hp := Hh.out.push g hs
  have Hp := Lib.hid hp
  clear hp
  obtain ⟨l, is, next, streak⟩ := r
  dsimp only at *
  have hm := Nat.mod_lt (head + l.length) (show 0 < 256 by decide)
  have hlen : l.length ≤ 256 := by omega
  have em0 : ((head : Int) + (l.length : Int)) % 256 = (((head + l.length) % 256 : Nat) : Int) := by omega
  have em1 : ((head : Int) + (l.length : Int)).tmod 256 = (((head + l.length) % 256 : Nat) : Int) := by rw [Int.tmod_eq_emod_of_nonneg (by omega)]; exact em0
  have e0 : IntKind.i64.wrap ((head : Int) + (l.length : Int)) = (head : Int) + (l.length : Int) := IntWalk.i64_in _ (by omega)
  generalize (head + l.length) % 256 = m at *
  have hmI : (m : Int) < 256 := by omega
  go_enter Tryz.func222, Tryz.ntmps222
  go_wp2
  go_still_tail 15, (by kernel_rfl)
  change wpList _ _ _ _ _ w.drew
  go_wp2
  go_end0
  exact ⟨rfl, Hp.out.congr rfl, (((Mod.refl _ w).setB _ _).setB _ _).drew⟩
end Go.Proofs.YtlmmjgekolpekaaGreatDoor
namespace Go.Proofs.YtlmmjgekolpekaaGreatDoor
open Go Go.RowKit Hst
theorem get_row (b : Nat) (r : Hst.Ring) (w : World) (h : RingAt b w r) (hc : r.l ≠ [] ∧ (r.is = true → 4 ≤ r.streak)) :
    Calls Tryz.prog 199 #[.pointer (some ⟨b, 0, none⟩)] w fun e w' =>
      e = .returned (.tuple #[.int .i64 r.get.2.1, .bool r.get.2.2]) ∧ RingAt b w' r.get.1 ∧ Mod (· = b) w w' := by
  obtain ⟨head, h⟩ := h
  obtain ⟨l, is, next, streak⟩ := r
  have hl0 := h.len_le
  have hlt := h.lt
  have c257 := h.csize
  have c258 := h.cis
  have c259 := h.cnext
  have c260 := h.cstreak
  have hfr := h.fr
  have hst := h.streak
  dsimp only at *
  obtain ⟨hl, hs⟩ := hc
  have hl' : 0 < l.length := List.length_pos_iff.2 hl
  obtain ⟨g, t, rfl⟩ := getD_eq l hl'
  have e1 : (((g :: t).length : Int) == 0) = false := by simp; omega
  have Hh := Lib.hid h
  clear h hl hl'
  cases is
  · go_enter Tryz.func199, Tryz.ntmps199
    go_wp2_with fail
    refine (zdk b 1 head { l := g :: t, is := false, next := next, streak := 0 } _ ?_ ?_).mono ?_
    · exact Hh.out.setStreak 0 (by decide)
    · simp
    rintro e w' ⟨v, rfl, hown, hr, hm⟩
    obtain ⟨gb, cap, rfl, hgb, hgl, hcap⟩ := zar hown (by decide)
    have hg0 := hown.cellAt 0 (by decide)
    have hgf := hown.frozenAt 0
    simp [ints] at hg0
    have c258' := hr.cis
    dsimp only at c258'
    go_wp2
    go_ret2
    exact ⟨by simp [Ring.get], ⟨_, by simpa [Ring.get] using hr⟩, ((Mod.refl _ w).setB _ _).trans1 hm⟩
  · have h4 := hs rfl
    have e2 : decide (streak < 4) = false := by simp; omega
    go_enter Tryz.func199, Tryz.ntmps199
    go_wp2_with fail
    refine (zdk b 1 head { l := g :: t, is := true, next := next, streak := 0 } _ ?_ ?_).mono ?_
    · exact Hh.out.setStreak 0 (by decide)
    · simp
    rintro e w' ⟨v, rfl, hown, hr, hm⟩
    obtain ⟨gb, cap, rfl, hgb, hgl, hcap⟩ := zar hown (by decide)
    have hg0 := hown.cellAt 0 (by decide)
    have hgf := hown.frozenAt 0
    simp [ints] at hg0
    have c258' := hr.cis
    have c259' := hr.cnext
    have hfr' := hr.fr
    dsimp only at c258' c259'
    have Hr := Lib.hid hr
    clear hr
    go_wp2_with (go_at_call 221; go_in)
    refine (push_any b { l := t, is := false, next := next, streak := 0 } _ next _ (Hr.out.setIs false) (by simp at hl0 ⊢; omega)).mono ?_
    rintro e w2 ⟨rfl, hr2, hm2⟩
    go_wp2
    go_ret2
    exact ⟨by simp [Ring.get, show ¬ streak < 4 by omega], ⟨_, by simpa [Ring.get, show ¬ streak < 4 by omega] using hr2⟩, (((Mod.refl _ w).setB _ _).trans1 hm).setB _ _ |>.trans1 hm2⟩
theorem get_any (b : Nat) (r : Hst.Ring) (w : World) (h : RingAt b w r) :
    Calls Tryz.prog 199 #[.pointer (some ⟨b, 0, none⟩)] w fun e w' =>
      e = .returned (.tuple #[.int .i64 r.get.2.1, .bool r.get.2.2]) ∧ RingAt b w' r.get.1 ∧ Mod (· = b) w w' := by
  by_cases hc : (r.is = true ∧ (r.l = [] ∨ r.streak < 4)) ∨ (r.is = false ∧ r.l = [])
  · exact get_next b r w h hc
  · refine get_row b r w h ⟨fun e => hc ?_, fun e => ?_⟩
    · cases hi : r.is
      · exact .inr ⟨rfl, e⟩
      · exact .inl ⟨rfl, .inl e⟩
    · by_cases h4 : r.streak < 4
      · exact absurd (.inl ⟨e, .inr h4⟩) hc
      · omega
theorem steal_any (b : Nat) (r : Hst.Ring) (w : World) (h : RingAt b w r) :
    Calls Tryz.prog 202 #[.pointer (some ⟨b, 0, none⟩)] w fun e w' =>
      ∃ v, e = .returned v ∧ w'.ownsRow w.heap.size 3 1 v r.steal.2.length (ints r.steal.2) ∧ RingAt b w' r.steal.1 ∧ Mod (· = b) w w' := by
  obtain ⟨head, h⟩ := h
  obtain ⟨l, is, next, streak⟩ := r
  have hl0 := h.len_le
  have hlt := h.lt
  have c257 := h.csize
  have c258 := h.cis
  have c259 := h.cnext
  have c260 := h.cstreak
  have hfr := h.fr
  dsimp only at *
  have Hh := Lib.hid h
  clear h
  by_cases hl : l = []
  · subst hl
    simp only [List.length_nil] at c257
    cases is
    · go_enter Tryz.func202, Tryz.ntmps202
      go_wp2_with fail
      refine (zdk b 0 head { l := [], is := false, next := next, streak := streak } _ Hh.out (by simp)).mono ?_
      rintro e w' ⟨v, rfl, hown, hr, hm⟩
      go_wp2
      go_ret
      exact ⟨_, rfl, by simpa [Ring.steal] using hown, ⟨_, by simpa [Ring.steal] using hr⟩, hm⟩
    · go_enter Tryz.func202, Tryz.ntmps202
      go_wp2
      go_ret
      have hb2 := (((Hh.out.setStreak 0 (by decide)).setIs false).congr (Below.heap_alloc _ (.cells #[.int .i64 next] 3) b (by simpa using hlt)))
      have ho := World.ownsRow_lit (base := w.heap.size) (e := 3) (size := 1) ((w.setCell ⟨b, 260, none⟩ (.int .i64 0)).setCell ⟨b, 258, none⟩ (.bool false)) #[.int .i64 next] 1 (by simp) (by unfold maxLen; omega) rfl
      simp only [World.size_setCell] at ho
      exact ⟨_, rfl, by simpa [Ring.steal, ints] using ho, ⟨_, by simpa [Ring.steal] using hb2⟩, (((Mod.refl _ w).setB _ _).setB _ _).alloc _⟩
  · have hl' : 0 < l.length := List.length_pos_iff.2 hl
    have e1 : ((l.length : Int) == 0) = false := by simp; omega
    obtain ⟨k, hk⟩ : ∃ k : Nat, k = (l.length + 1) / 2 := ⟨_, rfl⟩
    have e2 : ((l.length : Int) + 1).tdiv 2 = (k : Int) := by rw [Int.tdiv_eq_ediv_of_nonneg (by omega)]; omega
    have e4 : ((l.length : Int) + 1) / 2 = (k : Int) := by omega
    have hk2 : k ≤ l.length := by omega
    have Hk := Lib.hid hk
    clear hk
    go_enter Tryz.func202, Tryz.ntmps202
    go_wp2_with fail
    refine (zdk b k head { l := l, is := is, next := next, streak := streak } _ Hh.out hk2).mono ?_
    rintro e w' ⟨v, rfl, hown, hr, hm⟩
    go_wp2
    go_ret
    have hlen : (l.take k).length = k := by simp; omega
    have hk := Hk.out
    exact ⟨_, rfl, by simpa [Ring.steal, hl, ← hk, hlen, hk2] using hown, ⟨_, by simpa [Ring.steal, hl, ← hk] using hr⟩, hm⟩
end Go.Proofs.YtlmmjgekolpekaaGreatDoor
namespace Go.Proofs
open Go.Shelf
def Tryz.lays122_ren:Go.Shelf.Ren:=⟨fun | 122=>241 | 215=>251 | n=>n,fun | 3=>3 | 4=>4 | n=>n,fun | n=>n⟩
theorem Tryz.lays122:Go.Proofs.Lays.n122 Tryz.prog Tryz.lays122_ren:={
 mixed:=by kernel_rfl
 f122:=Tryz.func241.trans (congrArg some (by kernel_rfl))
 f215:=Tryz.func251.trans (congrArg some (by kernel_rfl))
 t3:=Tryz.underlying3
 a3:=Tryz.isAgg3
 z3:=Tryz.sizeOf3
 v3:=Tryz.zeroValue3
 t4:=Tryz.underlying4
 a4:=Tryz.isAgg4
 z4:=Tryz.sizeOf4
 v4:=Tryz.zeroValue4 }
open Go.RowKit in
theorem Tryz.cmp_Compare_int (x y:Int) (w:World) :
  Calls Tryz.prog 241 #[.int .i64 x,.int .i64 y] w fun e w'=>e=.returned (.int .i64 (Lib.compareInt x y))∧w'=w:=Any.cmp_Compare_int Tryz.lays122 x y w
def Tryz.lays107_ren:Go.Shelf.Ren:=⟨fun | 107=>159 | 108=>187 | n=>n,fun | 28=>45 | 3=>3 | 4=>4 | 0=>0 | n=>n,fun | n=>n⟩
theorem Tryz.lays107:Go.Proofs.Lays.n107 Tryz.prog Tryz.lays107_ren:={
 mixed:=by kernel_rfl
 f107:=Tryz.func159.trans (congrArg some (by kernel_rfl))
 f108:=Tryz.func187.trans (congrArg some (by kernel_rfl))
 t0:=Tryz.underlying0
 a0:=Tryz.isAgg0
 z0:=Tryz.sizeOf0
 v0:=Tryz.zeroValue0
 t3:=Tryz.underlying3
 a3:=Tryz.isAgg3
 z3:=Tryz.sizeOf3
 v3:=Tryz.zeroValue3
 t4:=Tryz.underlying4
 a4:=Tryz.isAgg4
 z4:=Tryz.sizeOf4
 v4:=Tryz.zeroValue4
 t28:=Tryz.underlying45
 a28:=Tryz.isAgg45
 z28:=Tryz.sizeOf45
 v28:=Tryz.zeroValue45 }
open Go.Lib in
theorem Tryz.slices_Contains_int (b off n c:Nat) (zs:List Int) (x:Int) (w:World) (hz:n≤zs.length) (hbig:n≤9223372036854775807) (hc:∀ j,j<zs.length→w.cell? ⟨b,off+j,none⟩=some (.int .i64 (zs.getD j 0))) :
  Calls Tryz.prog 159 #[.slice (some ⟨b,off,none⟩) n c,.int .i64 x] w fun e w'=>e=.returned (.bool ((zs.take n).contains x))∧w'=w:=Any.slices_Contains_int Tryz.lays107 b off n c zs x w hz hbig hc
open Go.Lib in
theorem Tryz.slices_Contains_int_empty (a:Option Addr) (c:Nat) (x:Int) (w:World) :
  Calls Tryz.prog 159 #[.slice a 0 c,.int .i64 x] w fun e w'=>e=.returned (.bool false)∧w'=w:=Any.slices_Contains_int_empty Tryz.lays107 a c x w
def Tryz.laysNm215_ren:Go.Shelf.Ren:=⟨fun | 15=>91 | n=>n,fun | 22=>45 | 3=>3 | 4=>4 | n=>n,fun | n=>n⟩
theorem Tryz.laysNm215:Go.Proofs.Lays2.n15 Tryz.prog Tryz.laysNm215_ren:={
 mixed:=by kernel_rfl
 f15:=Tryz.func91.trans (congrArg some (by kernel_rfl))
 t3:=Tryz.underlying3
 a3:=Tryz.isAgg3
 z3:=Tryz.sizeOf3
 v3:=Tryz.zeroValue3
 t4:=Tryz.underlying4
 a4:=Tryz.isAgg4
 z4:=Tryz.sizeOf4
 v4:=Tryz.zeroValue4
 t22:=Tryz.underlying45
 a22:=Tryz.isAgg45
 z22:=Tryz.sizeOf45
 v22:=Tryz.zeroValue45
 i3:=by kernel_rfl }
open Go.RowKit Go.Lib in
theorem Tryz.slices_Clone_int (b off n c:Nat) (zs:List Int) (w:World) (hz:n≤zs.length) (hbig:n*8≤140737488355328) (hc:∀ j,j<zs.length→w.cell? ⟨b,off+j,none⟩=some (.int .i64 (zs.getD j 0))) :
  Calls Tryz.prog 91 #[.slice (some ⟨b,off,none⟩) n c] w fun e w'=>∃ v',e=.returned v'∧w'.ownsRow w.heap.size 3 1 v' n ((zs.take n).map (Value.int .i64))∧v'≠.slice none 0 0∧Below w.heap.size w w':=Any.slices_Clone_int Tryz.laysNm215 b off n c zs w hz hbig hc
open Go.RowKit Go.Lib in
theorem Tryz.slices_Clone_int_nil (n c:Nat) (w:World) :
  Calls Tryz.prog 91 #[.slice none n c] w fun e w'=>e=.returned (.slice none 0 0)∧w'=w:=Any.slices_Clone_int_nil Tryz.laysNm215 n c w
open Go.RowKit Go.Lib in
theorem Tryz.slices_Clone_int_zero (a:Addr) (c:Nat) (w:World) :
  Calls Tryz.prog 91 #[.slice (some a) 0 c] w fun e w'=>∃ v',e=.returned v'∧w'.ownsRow w.heap.size 3 1 v' 0 []∧v'≠.slice none 0 0∧Below w.heap.size w w':=Any.slices_Clone_int_zero Tryz.laysNm215 a c w
def Tryz.laysNm223_ren:Go.Shelf.Ren:=⟨fun | 23=>228 | n=>n,fun | 22=>45 | 3=>3 | 4=>4 | 0=>0 | n=>n,fun | n=>n⟩
theorem Tryz.laysNm223:Go.Proofs.Lays2.n23 Tryz.prog Tryz.laysNm223_ren:={
 mixed:=by kernel_rfl
 f23:=Tryz.func228.trans (congrArg some (by kernel_rfl))
 t0:=Tryz.underlying0
 a0:=Tryz.isAgg0
 z0:=Tryz.sizeOf0
 v0:=Tryz.zeroValue0
 t3:=Tryz.underlying3
 a3:=Tryz.isAgg3
 z3:=Tryz.sizeOf3
 v3:=Tryz.zeroValue3
 t4:=Tryz.underlying4
 a4:=Tryz.isAgg4
 z4:=Tryz.sizeOf4
 v4:=Tryz.zeroValue4
 t22:=Tryz.underlying45
 a22:=Tryz.isAgg45
 z22:=Tryz.sizeOf45
 v22:=Tryz.zeroValue45
 i3:=by kernel_rfl }
open Go.RowKit Go.Lib Go.Sort in
theorem Tryz.slices_Delete_int_cells (b off n c i j:Nat) (zs:List Int) (w:World) (hz:n≤zs.length) (hcap:n≤c) (hm:c≤9223372036854775807) (hij:i≤j) (hj:j≤n) (hc:∀ j,j<zs.length→w.cell? ⟨b,off+j,none⟩=some (.int .i64 (zs.getD j 0))) (hf:∀ j,j<n→w.frozen? ⟨b,off+j,none⟩=false) :
  Calls Tryz.prog 228 #[.slice (some ⟨b,off,none⟩) n c,.int .i64 i,.int .i64 j] w fun e w'=>e=.returned (.slice (some ⟨b,off,none⟩) (n - (j - i)) c)∧∃ q,w'=(w.drewN q).setCells b off (((zs.take n).take i++(zs.take n).drop j++List.replicate (j - i) 0).map (Value.int .i64)):=Any.slices_Delete_int_cells Tryz.laysNm223 b off n c i j zs w hz hcap hm hij hj hc hf
open Go.RowKit Go.Lib in
theorem Tryz.slices_Delete_int_empty (a:Option Addr) (c:Nat) (w:World) :
  Calls Tryz.prog 228 #[.slice a 0 c,.int .i64 0,.int .i64 0] w fun e w'=>e=.returned (.slice a 0 c)∧w'=w:=Any.slices_Delete_int_empty Tryz.laysNm223 a c w
end Go.Proofs
