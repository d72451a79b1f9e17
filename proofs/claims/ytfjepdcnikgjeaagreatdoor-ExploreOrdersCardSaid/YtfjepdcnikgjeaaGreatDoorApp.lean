/-
  An append whose run is known, as a step of the walk; what an append onto a row of ours gives.
-/
import Derived.Test.YtfjepdcnikgjeaaGreatDoorBase
import Derived.Deep.AppendLies
set_option linter.unusedVariables false
set_option linter.unusedSimpArgs false
set_option linter.unusedSectionVars false
namespace Go.Proofs.YtfjepdcnikgjeaaGreatDoor
open Go Go.RowKit Hst

theorem wpList_append_run {P : Program} {ops : Array Oper} {rest : List Oper} {o : Oper} {a : Act} {w w' : World} {Q : Exit → Act → World → Prop} (hgd : o.guard = none) (s x : Operand) (t : TypeId)
    (ho : o.op = .call { callee := .builtin .append, args := #[s, x], argTypes := #[t, t] }) (v vx v' : Value) (hs : a.eval s = v) (hx : a.eval x = vx)
    (hr : (Builtin.append_ #[t, t] o.type #[v, vx]).run P w = .ok v' w') (h : wpList P ops Q rest (a.put o.dst v') w') : wpList P ops Q (o :: rest) a w :=
  wpList_plain hgd fun _ hK => by
    unfold Oper.wp execOp
    simp only [ho, resolve, invoke, builtin, Sem.run_bind, Sem.run_pure, Result.andThen_ok, List.map_toArray, List.map_cons, List.map_nil, hs, hx, hr]
    exact hK _ _ h

theorem ownsRow_slice {w : World} {base e size n : Nat} {v : Value} {xs : List Value} (h : w.ownsRow base e size v n xs) : ∃ a c, v = .slice a n c := by
  rcases h.2 with ⟨rfl, rfl⟩ | ⟨g, cap, cur, rfl, _⟩
  · exact ⟨none, 0, rfl⟩
  · exact ⟨_, _, rfl⟩

/-- Numbers that are appended onto a row of numbers: the numbers of a row, or none. -/
theorem append_ints {P : Program} (t ty e : TypeId) (i : TypeInfo) (w : World) (base base2 : Nat) (v vx : Value) (l xs : List Int) (ht : P.underlying t = some (.slice e)) (hi : P.info? e = some i) (hz : i.zero = some (.int .i64 0)) (hsize : i.size = 1) (hby : i.bytes = 8)
    (hown : w.ownsRow base e 1 v l.length (ints l)) (hx : w.ownsRow base2 e 1 vx xs.length (ints xs)) (hbase : base ≤ w.heap.size) (hbig : l.length + xs.length ≤ 4294967296) :
    ∃ v' w', (Builtin.append_ #[t, t] ty #[v, vx]).run P w = .ok v' w' ∧ w'.ownsRow base e 1 v' (l ++ xs).length (ints (l ++ xs)) ∧ w.grownBy w' v.ownBlock ∧ (v'.ownBlock = v.ownBlock ∨ v'.ownBlock = some w.heap.size) ∧
      ∃ a c, v' = .slice a (l ++ xs).length c := by
  rcases hx.2 with ⟨rfl, h0⟩ | ⟨g, cap, cur, rfl, hb, hg, hc, hm2, hs, _⟩
  · have hl : xs = [] := List.eq_nil_of_length_eq_zero h0
    subst hl
    rw [List.append_nil]
    exact ⟨v, w, run_append_owned_none w base t ty e i 1 ht hi v l.length (ints l) hown, hown, ⟨rfl, rfl, rfl, Nat.le_refl _, fun _ _ _ => rfl⟩, .inl rfl, ownsRow_slice hown⟩
  · have hnews : ∀ j u, (ints xs)[j]? = some u → w.cell? ((⟨g, 0, none⟩ : Addr).add j) = some u := hx.cells rfl
    obtain ⟨v', w', hr, h2, h3, _, h5⟩ := run_append_own_at (P := P) w base t ty e i (.int .i64 0) 1 8 ht hi hz hsize hby rfl (by decide) v l.length (ints l) hown ⟨g, 0, none⟩ xs.length cap (ints xs) (by simp [ints]) hnews (by simp [ints, Value.oneCell'])
      (by unfold maxLen; omega) (by omega) hbase
    have e1 : ints l ++ ints xs = ints (l ++ xs) := by simp [ints]
    have e2 : l.length + xs.length = (l ++ xs).length := by simp
    rw [e1, e2] at h2
    exact ⟨v', w', hr, h2, h3, h5, ownsRow_slice h2⟩

/-- What such an append leaves, once its value is stored back. -/
theorem RowAt.append {S : Nat → Prop} {b o : Nat} {w w' : World} {l : List Int} {v v' : Value} (hv : v.ownBlock ≠ some b) (hin : RowIn S v) (c0 : w.cell? ⟨b, o, none⟩ = some v) (hown : w'.ownsRow 0 3 1 v' l.length (ints l))
    (hg : w.grownBy w' v.ownBlock) (hat : v'.ownBlock = v.ownBlock ∨ v'.ownBlock = some w.heap.size) :
    RowAt (fun x => S x ∨ w.heap.size ≤ x) b o (w'.setCell ⟨b, o, none⟩ v') l ∧ w'.cell? ⟨b, o, none⟩ = some v := by
  have hbl := World.block_lt_of_cell? w _ c0
  have hne : v'.ownBlock ≠ some b := by
    rcases hat with h | h
    · rw [h]; exact hv
    · rw [h]; intro e; have := Option.some.inj e; simp at hbl; omega
  have c1 : w'.cell? ⟨b, o, none⟩ = some v := hg.cell c0 (Ne.symm hv)
  refine ⟨⟨v', World.cell?_setCell_same _ _ _ c1, ownsRow_setCell_other hown hne v', ?_, hne⟩, c1⟩
  intro g hgv
  rcases hat with h | h
  · exact .inl (hin g (h ▸ hgv))
  · rw [h] at hgv; cases hgv; exact .inr (Nat.le_refl _)
end Go.Proofs.YtfjepdcnikgjeaaGreatDoor
