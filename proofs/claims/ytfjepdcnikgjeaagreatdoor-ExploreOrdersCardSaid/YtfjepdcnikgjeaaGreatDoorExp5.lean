/-
  Two rows of numbers, held side by side.
-/
import Derived.Test.YtfjepdcnikgjeaaGreatDoorExp4
set_option linter.unusedVariables false
set_option linter.unusedSimpArgs false
set_option linter.unusedSectionVars false
namespace Go.Proofs.YtfjepdcnikgjeaaGreatDoor
open Go Go.RowKit Hst Go.Proofs

theorem ownsRow_below {w w' : World} {base e size n : Nat} {v : Value} {xs : List Value} (h : w.ownsRow base e size v n xs) (hb : Below w.heap.size w w') : w'.ownsRow base e size v n xs := by
  obtain ⟨hl, h⟩ := h
  refine ⟨hl, ?_⟩
  rcases h with h | ⟨g, cap, cur, hv, hb1, hg, hc⟩
  · exact .inl h
  · exact .inr ⟨g, cap, cur, hv, hb1, (hb.block g (box_lt hg)).trans hg, hc⟩
theorem Below_drewN {B : Nat} {w w' : World} (h : Below B w w') (n : Nat) : Below B w (w'.drewN n) := ⟨h.os, h.tape, h.output, h.size, h.block⟩
theorem ints_len (l : List Int) : (ints l).length = l.length := by simp [ints]
theorem ints_at (l : List Int) (j : Nat) (h : j < l.length) : (ints l)[j]? = some (.int .i64 l[j]) := by simp [ints, h]

set_option maxHeartbeats 1600000 in
set_option maxRecDepth 100000 in
theorem same_any (l1 l2 : List Int) (v1 v2 : Value) (b1 b2 : Nat) (w : World) (h1 : w.ownsRow b1 3 1 v1 l1.length (ints l1)) (h2 : w.ownsRow b2 3 1 v2 l2.length (ints l2)) (hbig : l1.length ≤ 4294967296) :
    Calls Tryz.prog 25 #[v1, v2] w fun e w' => e = .returned (.bool (l1 == l2)) ∧ Below w.heap.size w w' := by
  obtain ⟨a1, c1, rfl⟩ := ownsRow_slice h1
  obtain ⟨a2, c2, rfl⟩ := ownsRow_slice h2
  by_cases hlen : l1.length = l2.length
  · have HL := Lib.hid hlen
    have H1 := Lib.hid h1
    have H2 := Lib.hid h2
    obtain ⟨n, hn⟩ : ∃ n, n = l1.length := ⟨_, rfl⟩
    rw [← hlen, ← hn]
    rw [← hn] at hbig
    have HN := Lib.hid hn
    have HB0 := Lib.hid (Below.refl w.heap.size w)
    clear hlen h1 h2 hn
    go_enter Tryz.func25, Tryz.ntmps25
    go_wp2
    go_loopw [13] (fun j wr => ∃ t : Nat, t ≤ n ∧ j = .int .i64 t ∧ (∀ x, x < t → l1[x]? = l2[x]?) ∧ Below w.heap.size w wr) (fun j _ => n - (intOf j).toNat)
    case atStart => exact ⟨0, Nat.zero_le _, rfl, fun x hx => by omega, HB0.out⟩
    case round =>
      obtain ⟨t, ht, rfl, hpre, hbl⟩ := hrel
      by_cases hlt : t < n
      · have hN := HN.out
        have hL := HL.out
        have r1 := ownsRow_below H1.out hbl
        have r2 := ownsRow_below H2.out hbl
        obtain ⟨g1, k1, e1, _, _, hc1⟩ := ownsRow_some r1 (by omega)
        obtain ⟨g2, k2, e2, _, _, hc2⟩ := ownsRow_some r2 (by omega)
        simp only [Value.slice.injEq] at e1 e2
        obtain ⟨rfl, _, rfl⟩ := e1
        obtain ⟨rfl, _, rfl⟩ := e2
        have x1 := (r1.cellAt t (by omega)).trans (ints_at l1 t (by omega))
        have x2 := (r2.cellAt t (by omega)).trans (ints_at l2 t (by omega))
        have hg1 : l1[t]? = some l1[t] := List.getElem?_eq_getElem (by omega)
        have hg2 : l2[t]? = some l2[t] := List.getElem?_eq_getElem (by omega)
        generalize l1[t] = y1 at *
        generalize l2[t] = y2 at *
        have G1 := Lib.hid hg1
        have G2 := Lib.hid hg2
        have HP := Lib.hid hpre
        have HB := Lib.hid hbl
        clear r1 r2 hg1 hg2 hpre hbl hN hL
        by_cases hy : y1 = y2
        · subst hy
          go_wp2
          go_quiet (fail)
          go_wp2
          go_roundw
          case rel => exact ⟨t + 1, by omega, by go_num, fun x hx => by
            rcases Nat.lt_or_ge x t with h | h
            · exact HP.out x h
            · obtain rfl : x = t := by omega
              exact G1.out.trans G2.out.symm, Below_drewN HB.out _⟩
          case measure => simp [intOf]; omega
        · have hy2 : (y1 == y2) = false := by rw [beq_eq_false_iff_ne]; exact hy
          have HY := Lib.hid hy
          clear hy
          go_wp2
          go_quiet (fail)
          go_wp2
          go_returns
          refine ⟨congrArg (fun b => Ending.returned (.bool b)) ?_, Below_drewN HB.out _⟩
          symm
          rw [beq_eq_false_iff_ne]
          intro e
          have := G2.out
          rw [← e, G1.out] at this
          exact HY.out (Option.some.inj this)
      · obtain rfl : t = n := by omega
        have e : l1 = l2 := by
          have hN := HN.out
          have hL := HL.out
          apply List.ext_getElem?
          intro x
          rcases Nat.lt_or_ge x t with h | h
          · exact hpre x h
          · rw [List.getElem?_eq_none (by omega), List.getElem?_eq_none (by omega)]
        have HB := Lib.hid hbl
        clear hpre hbl
        go_wp2
        go_returns
        exact ⟨by rw [e]; simp, HB.out⟩
  · have e : (l1 == l2) = false := by rw [beq_eq_false_iff_ne]; intro e; rw [e] at hlen; exact hlen rfl
    rw [e]
    have hne : ((l1.length : Int) == (l2.length : Int)) = false := by rw [beq_eq_false_iff_ne]; omega
    generalize l1.length = n1 at *
    generalize l2.length = n2 at *
    clear h1 h2 e hlen hbig
    go_enter Tryz.func25, Tryz.ntmps25
    go_wp2
    go_returns
    exact ⟨rfl, Below.refl _ _⟩
end Go.Proofs.YtfjepdcnikgjeaaGreatDoor
