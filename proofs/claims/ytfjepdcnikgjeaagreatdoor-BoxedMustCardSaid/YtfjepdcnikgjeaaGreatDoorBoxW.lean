/-
  boxed.digits, walked: a pick for each digit of a text.
-/
import Derived.Lib.OthersKept
import Derived.Lib.RuneCount
import Derived.Test.YtfjepdcnikgjeaaGreatDoorStps
import Derived.Test.YtfjepdcnikgjeaaGreatDoorBoxP
set_option linter.unusedVariables false
set_option linter.unusedSimpArgs false
set_option linter.unusedSectionVars false
namespace Go.Proofs.YtfjepdcnikgjeaaGreatDoor
open Go Go.RowKit Hst Go.Proofs

def iterPos (w : World) (b : Nat) : Nat := match w.heap[b]? with | some (.stringIter _ p) => p | _ => 0
theorem iterPos_at {w : World} {b p : Nat} {s : ByteArray} (h : w.heap[b]? = some (.stringIter s p)) : iterPos w b = p := by unfold iterPos; rw [h]
theorem step_le (s : ByteArray) (pos : Nat) (h : pos < s.size) : 1 ≤ (Utf8.decode s pos).2 ∧ pos + (Utf8.decode s pos).2 ≤ s.size := by
  have hlen : s.data.toList.length = s.size := Array.length_toList
  have hne : s.data.toList.drop pos ≠ [] := by
    intro h0
    have := congrArg List.length h0
    rw [List.length_drop, hlen] at this
    simp at this
    omega
  have := Lib.decodeL_le _ hne
  rw [Lib.decodeL_drop, List.length_drop, hlen] at this
  exact ⟨Lib.decode_width_pos s pos h, by omega⟩
/-- The bytes up to the next rune's end. -/
theorem take_rune (s : ByteArray) (pos : Nat) (h : pos < s.size) : s.data.toList.take (pos + (Utf8.decode s pos).2) = s.data.toList.take pos ++ (s.data.toList.drop pos).take (Utf8.decode s pos).2 := by
  rw [List.take_add]
theorem digs_rune (s : ByteArray) (pos : Nat) (h : pos < s.size) : digB (s.data.toList.take (pos + (Utf8.decode s pos).2)) = digB (s.data.toList.take pos) ++ digOf ((Utf8.decode s pos).1 : Nat) := by
  have hlen : s.data.toList.length = s.size := Array.length_toList
  have hne : s.data.toList.drop pos ≠ [] := by
    intro h0
    have := congrArg List.length h0
    rw [List.length_drop, hlen] at this
    simp at this
    omega
  rw [take_rune s pos h, digB_append]
  congr 1
  have := digB_rune _ hne
  rw [Lib.decodeL_drop] at this
  exact this
theorem digB_length (l : List UInt8) : (digB l).length ≤ l.length := by
  induction l with
  | nil => simp [digB]
  | cons a t ih =>
    unfold digB at ih ⊢
    simp only [List.flatMap_cons, List.length_append, List.length_cons]
    have : (digOf (a.toNat : Int)).length ≤ 1 := by unfold digOf; split <;> simp
    omega
def dSt (x : Int) : Hst.Stp := ⟨0, 0, x, 0, 0⟩
theorem own_iterAt {w : World} {base e size n k p p' : Nat} {v : Value} {xs : List Value} {s : ByteArray} (h : w.ownsRow base e size v n xs) (hk : w.heap[k]? = some (.stringIter s p)) : (w.iterAt k s p').ownsRow base e size v n xs := by
  refine ⟨h.1, ?_⟩
  rcases h.2 with hn | ⟨g, cap, cur, hv, hbg, hg, rest⟩
  · exact .inl hn
  · refine .inr ⟨g, cap, cur, hv, hbg, ?_, rest⟩
    rw [Lib.iterAt_other]
    · exact hg
    · intro e
      rw [e, hk] at hg
      cases hg
/-- One step that a literal holds. -/
theorem one_st {w : World} (e : Hst.Stp) : StArg (w.alloc (.cells #[.int .u8 (e.kind : Nat), .int .u8 (e.act : Nat), .int .i64 e.a, .int .i64 e.x, .int .i64 e.d] 40)) (.slice (some ⟨w.heap.size, 0, none⟩) 1 1) [e] := by
  refine .inr (.inr ⟨w.heap.size, 0, 1, rfl, by simp, ?_, ?_, ?_, ?_, ?_⟩)
  all_goals
    intro j x hx
    rw [Nat.zero_add, cell_new]
    match j, hx with
    | 0, hx => cases hx; rfl

set_option maxHeartbeats 3200000 in
set_option maxRecDepth 100000 in
theorem digits_any (s : ByteArray) (hs : s.size ≤ 100000) (w : World) :
    Calls Tryz.prog 95 #[.string s] w fun e w' => ∃ v, e = .returned v ∧ w'.ownsRow w.heap.size 40 5 v ((digB s.data.toList).map dSt).length (encSts ((digB s.data.toList).map dSt)) ∧ Below w.heap.size w w' := by
  have hlen : s.data.toList.length = s.size := Array.length_toList
  go_enter Tryz.func95, Tryz.ntmps95
  go_wp2
  go_loopw [3] (fun o wr => ∃ p, p ≤ s.size ∧ wr.heap[w.heap.size]? = some (.stringIter s p) ∧ wr.ownsRow (w.heap.size + 1) 40 5 o ((digB (s.data.toList.take p)).map dSt).length (encSts ((digB (s.data.toList.take p)).map dSt)) ∧ Below w.heap.size w wr) (fun _ wr => s.size - iterPos wr w.heap.size)
  case atStart => exact ⟨0, Nat.zero_le _, World.iter_heap w s 0, World.ownsRow_nil _ _ _ _, below_alloc _ _⟩
  case round =>
    obtain ⟨p, hps, hit, hown, K⟩ := hrel
    have hipos := iterPos_at hit
    by_cases hp : p < s.size
    · have hnx : ∀ ty, (Instr.next (.pointer (some ⟨w.heap.size, 0, none⟩)) true ty).run Tryz.prog wr = _ := fun ty => Lib.run_next_any_at wr w.heap.size s p ty hit hp
      obtain ⟨hw1, hw2⟩ := step_le s p hp
      have hdr := digs_rune s p hp
      have hdl := digB_length (s.data.toList.take p)
      rw [List.length_take, hlen] at hdl
      obtain ⟨r, hr⟩ : ∃ r, r = (Utf8.decode s p).1 := ⟨_, rfl⟩
      obtain ⟨q, hq⟩ : ∃ q, q = p + (Utf8.decode s p).2 := ⟨_, rfl⟩
      have hrle := Lib.rune_le s p
      rw [← hr, ← hq] at hnx
      rw [← hr, ← hq] at hdr
      rw [← hr] at hrle
      rw [← hq] at hw2
      have hpq : p < q := by omega
      have hit2 := Lib.iterAt_heap wr w.heap.size s p q hit
      have hown2 := own_iterAt (p' := q) hown hit
      have K2 := Lib.below_iterAt K (k := w.heap.size) (Nat.le_refl _) s q
      obtain ⟨w1, hw1e⟩ : ∃ w1, w1 = wr.iterAt w.heap.size s q := ⟨_, rfl⟩
      rw [← hw1e] at hit2 hown2 K2 hnx
      generalize (digB (s.data.toList.take p)) = D at *
      have HDR := Lib.hid hdr
      have HIP := Lib.hid hipos
      have hlt := box_lt hit2
      have H2 := Lib.hid hit2
      clear hdr hit hown K hr hq hipos hit2 hw1 hw1e
      have hri : (0 : Int) ≤ (r : Int) ∧ (r : Int) ≤ 1114111 := by omega
      by_cases h1 : (48 : Int) ≤ (r : Int)
      · by_cases h2 : (r : Int) ≤ 57
        · have e1 : IntKind.i32.wrap ((r : Int) - 48) = (r : Int) - 48 := by rw [IntKind.wrap_i32]; omega
          have e2 : IntKind.i64.wrap ((r : Int) - 48) = (r : Int) - 48 := IntWalk.i64_in _ (by omega)
          have hdig : digOf (r : Nat) = [(r : Int) - 48] := by unfold digOf isDig; simp [h1, h2]
          have HDG := Lib.hid hdig
          clear hdig
          go_wp2_with (first
            | (at_builtin; refine append_st rfl _ _ rfl (w.heap.size + 1) _ (D.map dSt) rfl (own_below hown2 (below_alloc _ _)) _ rfl [dSt ((r : Int) - 48)] (one_st (dSt ((r : Int) - 48))) (by simp; omega) (by simp; omega) ?_; intro v3 w3 hown3 hb3))
          have hit4 := (hb3.block w.heap.size (Nat.lt_succ_self _)).trans ((below_alloc w1 _).block w.heap.size hlt |>.trans H2.out)
          have K4 : Below w.heap.size w w3 := K2.trans ((below_alloc w1 _).mono K2.size |>.trans (hb3.mono (Nat.le_succ _)))
          have H4 := Lib.hid hit4
          have HW := Lib.hid hown3
          clear hit4 hown3 hb3 hown2
          go_wp2
          go_roundw
          case rel => exact ⟨q, hw2, H4.out, by rw [HDR.out, HDG.out]; simpa using HW.out, K4⟩
          case measure => rw [iterPos_at H4.out, HIP.out]; omega
        · have hdig : digOf (r : Nat) = [] := by unfold digOf isDig; simp [h1, h2]
          have HDG := Lib.hid hdig
          have HW := Lib.hid hown2
          clear hdig hown2
          go_wp2
          go_roundw
          case rel => exact ⟨q, hw2, H2.out, by rw [HDR.out, HDG.out]; simpa using HW.out, K2⟩
          case measure => rw [iterPos_at H2.out, HIP.out]; omega
      · have hdig : digOf (r : Nat) = [] := by unfold digOf isDig; simp [h1]
        have HDG := Lib.hid hdig
        have HW := Lib.hid hown2
        clear hdig hown2
        go_wp2
        go_roundw
        case rel => exact ⟨q, hw2, H2.out, by rw [HDR.out, HDG.out]; simpa using HW.out, K2⟩
        case measure => rw [iterPos_at H2.out, HIP.out]; omega
    · obtain rfl : p = s.size := by omega
      rw [← hlen, List.take_length] at hown
      have hnx : ∀ ty, (Instr.next (.pointer (some ⟨w.heap.size, 0, none⟩)) true ty).run Tryz.prog wr = _ := fun ty => Lib.run_next_end_at wr w.heap.size s s.size ty hit hp
      have HW := Lib.hid (ownsRow_base (base' := w.heap.size) hown (Nat.le_succ _))
      clear hown
      go_wp2
      go_returns
      exact ⟨_, rfl, HW.out, K⟩
end Go.Proofs.YtfjepdcnikgjeaaGreatDoor
