/-
  The law's things, all.
-/
import Derived.Test.YtfjepdcnikgjeaaGreatDoorBoxF
set_option linter.unusedVariables false
set_option linter.unusedSimpArgs false
set_option linter.unusedSectionVars false
namespace Go.Proofs.YtfjepdcnikgjeaaGreatDoor
open Go Go.RowKit Hst Go.Proofs

theorem two_rows2 {w wa w3 : World} {B sz1 sz2 n m : Nat} {T U : TypeId} {o : Obj} {v u v' : Value} {xs ys : List Value} (hv : wa.ownsRow B T sz1 v n xs) (hu : wa.ownsRow B U sz2 u m ys) (hne : ∀ b, v.ownBlock = some b → u.ownBlock ≠ some b) (K : Below B w wa) (hB : B ≤ wa.heap.size)
    (hgrow : (wa.alloc o).grownBy w3 v.ownBlock) (hat : v'.ownBlock = v.ownBlock ∨ v'.ownBlock = some (wa.alloc o).heap.size) :
    w3.ownsRow B U sz2 u m ys ∧ (∀ b, v'.ownBlock = some b → u.ownBlock ≠ some b) ∧ Below B w w3 := by
  refine ⟨?_, ?_, ?_⟩
  · exact own_grown (own_below hu (below_alloc wa o)) hgrow (fun b hb e => hne b e hb)
  · intro b hb e
    rcases hat with h | h
    · exact hne b (h ▸ hb) e
    · rw [h] at hb
      have := Option.some.inj hb
      have h2 := (hu.lt b e).2
      simp at this
      omega
  · exact (K.alloc hB _).grown hgrow (by simp; omega) (fun k hk => (hv.lt k hk).1)
theorem val_shape (b : Bx) : b.val = .nilIface ∨ ∃ t x, b.val = .iface t x := by
  cases b
  case none => exact .inl rfl
  all_goals exact .inr ⟨_, _, rfl⟩
def thCs (l : List Thg) : List Value := l.flatMap fun t => (thC t).toList
theorem thCs_len (l : List Thg) : (thCs l).length = l.length * 11 := by
  induction l with
  | nil => rfl
  | cons e t ih => simp [thCs, thC] at ih ⊢; omega
theorem thCs_at (l : List Thg) (j : Nat) (t : Thg) (h : l[j]? = some t) (i : Nat) (hi : i < 11) : (thCs l)[j * 11 + i]? = (thC t)[i]? := by
  induction l generalizing j with
  | nil => cases h
  | cons a r ih =>
    cases j with
    | zero =>
      simp at h; subst h
      rw [Nat.zero_mul, Nat.zero_add]
      unfold thCs
      rw [List.flatMap_cons, List.getElem?_append_left (by simpa [thC] using hi), Array.getElem?_toList]
    | succ j =>
      have := ih j (by simpa using h)
      rw [← this]
      unfold thCs
      rw [List.flatMap_cons, List.getElem?_append_right (by simp [thC]; omega)]
      congr 1
      simp [thC]
      omega
theorem own_thg {w : World} {B : Nat} {v : Value} {l : List Thg} (h : w.ownsRow B 50 11 v l.length (thCs l)) : ThgArg w v l := by
  rcases h.2 with ⟨rfl, h0⟩ | ⟨g, cap, cur, rfl, hbg, hg, hnc, hcm, hcs, htk⟩
  · obtain rfl := List.length_eq_zero_iff.1 h0
    exact ⟨Option.none, 0, rfl, .inl rfl⟩
  · refine ⟨_, cap, rfl, .inr ⟨g, 0, rfl, box_lt hg, fun j r he i hi => ?_⟩⟩
    rw [Nat.zero_add, box_cell hg, ← Array.getElem?_toList]
    have h1 := thCs_at l j r he i hi
    have hj := (List.getElem?_eq_some_iff.1 he).1
    rw [← h1, ← htk, List.getElem?_take, if_pos (by have := thCs_len l; rw [← htk] at this; omega)]
theorem infoThg : (Tryz.prog.info? 50).map (fun i => (i.zero, i.size, i.bytes)) = some (some (.agg #[.int .i64 0, .int .i64 0, .int .i64 0, .int .i64 0, .int .u8 0, .int .u8 0, .int .i64 0, .int .i64 0, .int .i64 0, .int .i64 0, .string ⟨#[]⟩]), 11, 88) := by kernel_rfl
def stepsTs (l : List Thg) : List Hst.Stp := l.flatMap stepsT
def runesTs (l : List Thg) : List UInt8 := l.flatMap runesT
/-- Where the loop over the things is. -/
def ThsAt (B : Nat) (w wr : World) (l : List RawT) (va vb : Value) : Prop :=
  ∃ bs : List Bx, bs.length = l.length ∧ (∀ e ∈ bs, e.ok) ∧ stepsBs bs = stepsTs (l.map thOf) ∧ runesBs bs = runesTs (l.map thOf) ∧
    wr.ownsRow B 20 1 va bs.length (bs.map Bx.val) ∧ wr.ownsRow B 50 11 vb l.length (thCs (l.map thOf)) ∧ (∀ b, va.ownBlock = some b → vb.ownBlock ≠ some b) ∧ Below B w wr
theorem thg_cell (w : World) (cs : Array Value) (h : cs.size = 11) (ho : ∀ u ∈ cs.toList, u.oneCell' = true) (t : TypeId) : ∀ j u, cs.toList[j]? = some u → (w.alloc (.cells cs t)).cell? ((⟨w.heap.size, 0, none⟩ : Addr).add j) = some u := by
  intro j u hu
  have e : (⟨w.heap.size, 0, none⟩ : Addr).add j = ⟨w.heap.size, j, none⟩ := by unfold Addr.add; split <;> simp_all
  rw [e, cell_new, ← Array.getElem?_toList]
  exact hu
end Go.Proofs.YtfjepdcnikgjeaaGreatDoor
