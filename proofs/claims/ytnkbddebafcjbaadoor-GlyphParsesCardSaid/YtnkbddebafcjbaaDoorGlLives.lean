/-
  The chapter's examples, and the document's runes.
-/
import Derived.Test.YtnkbddebafcjbaaDoorGlWord
namespace Go.Proofs.YtnkbddebafcjbaaDoor
open Go Go.RowKit Go.Proofs

theorem lives1 : wordOf ⟨0, 3, 1, 0, 0⟩ = [43, 51, 109, 49, 112, 48] := by decide +kernel
theorem lives2 : wordOf ⟨5, 3, 1, 0, -7⟩ = [226, 152, 190, 51, 109, 49, 112, 48, 61, 45, 55] := by decide +kernel

set_option maxHeartbeats 4000000 in
set_option maxRecDepth 100000 in
theorem lives_any (w : World) (h : KindsAt w) (ht : TabAt w) :
    Calls Tryd.prog 8 #[] w fun r w' => r = .returned (.bool true) ∧ Below w.heap.size w w' := by
  have q1 := fun w h ht => word_ok ⟨0, 3, 1, 0, 0⟩ (by decide) (by decide) (by decide) w h ht
  have q2 := fun w h ht => word_ok ⟨5, 3, 1, 0, -7⟩ (by decide) (by decide) (by decide) w h ht
  simp only [evV, lives1, lives2] at q1 q2
  go_enter Tryd.func8, Tryd.ntmps8
  go_wp2_with (go_at_call 18; refine (q1 _ h ht).mono ?_)
  rintro e w1 ⟨rfl, hb⟩
  have h1 := h.below hb
  have t1 := tab_below ht hb
  go_wp2_with (go_at_call 18; refine (q2 _ h1 t1).mono ?_)
  rintro e w2 ⟨rfl, hb2⟩
  clear q1 q2 h ht h1 t1
  go_wp2
  go_returns
  exact ⟨rfl, hb.trans (hb2.mono hb.size)⟩

def kName (k : Int) : List UInt8 := if 0 ≤ k ∧ k < 8 then Lib.encodeRune (runeOf k) else []

set_option maxHeartbeats 4000000 in
set_option maxRecDepth 100000 in
theorem refKind (k : Int) (w : World) :
    Calls Tryd.prog 25 #[.int .i64 k] w fun r w' => r = .returned (.string ⟨(kName k).toArray⟩) ∧ w' = w := by
  by_cases hk : 0 ≤ k ∧ k < 8
  · obtain ⟨n, rfl⟩ : ∃ n : Nat, k = n := ⟨k.toNat, by omega⟩
    obtain ⟨j, hj⟩ : ∃ j : Fin 8, n = j.val := ⟨⟨n, by omega⟩, rfl⟩
    subst hj
    clear hk
    revert j
    intro j
    match j with
    | 0 | 1 | 2 | 3 | 4 | 5 | 6 | 7 =>
      go_enter Tryd.func25, Tryd.ntmps25
      go_wp2
      go_returns
      exact ⟨rfl, rfl⟩
  · have e : kName k = [] := by simp only [kName, hk, if_false]
    rw [e]
    have h0 : ¬ k = 0 := by omega
    have h1 : ¬ k = 1 := by omega
    have h2 : ¬ k = 2 := by omega
    have h3 : ¬ k = 3 := by omega
    have h4 : ¬ k = 4 := by omega
    have h5 : ¬ k = 5 := by omega
    have h6 : ¬ k = 6 := by omega
    have h7 : ¬ k = 7 := by omega
    go_enter Tryd.func25, Tryd.ntmps25
    go_wp2
    go_returns
    exact ⟨rfl, rfl⟩
end Go.Proofs.YtnkbddebafcjbaaDoor
