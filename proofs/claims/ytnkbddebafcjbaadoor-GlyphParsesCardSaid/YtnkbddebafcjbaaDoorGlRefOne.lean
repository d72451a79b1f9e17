/-
  The document's reading of a word.
-/
import Derived.Test.YtnkbddebafcjbaaDoorGlRef3
import Derived.Test.YtnkbddebafcjbaaDoorGlOne
namespace Go.Proofs.YtnkbddebafcjbaaDoor
open Go Go.RowKit Go.Proofs

theorem first8 (P : Nat → Bool) : ∀ n : Nat, ∃ k, k ≤ n ∧ (∀ i, i < k → P i = false) ∧ (k < n → P k = true)
  | 0 => ⟨0, Nat.le_refl _, fun i h => absurd h (Nat.not_lt_zero _), fun h => absurd h (Nat.not_lt_zero _)⟩
  | n + 1 => by
    obtain ⟨k, h1, h2, h3⟩ := first8 P n
    by_cases hk : k < n
    · exact ⟨k, by omega, h2, fun _ => h3 hk⟩
    · obtain rfl : k = n := by omega
      cases hp : P k with
      | true => exact ⟨k, by omega, h2, fun _ => hp⟩
      | false => exact ⟨k + 1, by omega, fun i hi => by rcases Nat.lt_or_ge i k with h | h; exact h2 i h; obtain rfl : i = k := by omega
                                                        exact hp, fun h => absurd h (by omega)⟩
theorem kName_at (k : Nat) (h : k < 8) : kName (k : Int) = Lib.encodeRune (kRune k) ∧ (kName (k : Int)).length ≤ 4 := by
  have r := kFacts k h
  have e : kName (k : Int) = Lib.encodeRune (kRune k) := by unfold kName; rw [if_pos (by omega), r.2.2.2.2.2.2]
  exact ⟨e, by rw [e]; exact encodeRune_le _⟩
theorem begins_k (s : ByteArray) (hs : s.size ≤ 1000) (k : Nat) (hk : k < 8) (b : Bool) (h : Lib.hasPrefix s.data.toList (Lib.encodeRune (kRune k)) = b) (w : World) :
    Calls Tryd.prog 49 #[.string s, .string ⟨(kName (k : Int)).toArray⟩] w fun e w' => ∃ r : ByteArray, e = .returned (.tuple #[.string r, .bool b]) ∧ r.data.toList = Lib.trimPrefix s.data.toList (Lib.encodeRune (kRune k)) ∧ w' = w := by
  obtain ⟨e, hl⟩ := kName_at k hk
  have := begins_any s ⟨(kName (k : Int)).toArray⟩ (by omega) (by rw [szA]; omega) w
  rw [show (⟨(kName (k : Int)).toArray⟩ : ByteArray).data.toList = kName (k : Int) from rfl, e, h] at this
  rw [e]
  exact this

set_option maxHeartbeats 8000000 in
set_option maxRecDepth 100000 in
theorem refOne_none (s : ByteArray) (hs : s.size ≤ 1000) (h : ∀ k : Nat, k < 8 → Lib.hasPrefix s.data.toList (Lib.encodeRune (kRune k)) = false) (w : World) :
    Calls Tryd.prog 37 #[.string s] w fun r w' => r = .returned (.tuple #[evV ⟨0, 0, 0, 0, 0⟩, .bool false]) ∧ Below w.heap.size w w' := by
  have H := Lib.hid h
  clear h
  go_enter Tryd.func37, Tryd.ntmps37
  go_wp2
  go_loop [13] (fun kv => ∃ k : Nat, kv = .int .i64 (k : Int) ∧ k ≤ 8) (fun kv => 9 - iOf kv)
  case atStart => exact ⟨0, rfl, by omega⟩
  case round =>
    obtain ⟨k, rfl, hk⟩ := hrel
    by_cases hk8 : k < 8
    · have h1 := refKind (k : Int)
      have h2 := begins_k s hs k hk8 false (H.out k hk8)
      generalize kName (k : Int) = nm at *
      go_wp2_with fail
      refine (h1 _).mono ?_
      rintro e w1 ⟨rfl, rfl⟩
      go_wp2_with fail
      refine (h2 _).mono ?_
      rintro e w2 ⟨r, rfl, _, rfl⟩
      clear h1 h2
      go_wp2
      go_round
      case rel => exact ⟨k + 1, by simp, by omega⟩
      case measure => simp only [iOf_int]; omega
    · obtain rfl : k = 8 := by omega
      go_wp2
      go_returns
      exact ⟨rfl, by go_grown⟩

set_option maxHeartbeats 16000000 in
set_option maxRecDepth 100000 in
theorem refOne_some (s : ByteArray) (hs : s.size ≤ 1000) (k0 : Nat) (hk0 : k0 < 8) (hno : ∀ k : Nat, k < k0 → Lib.hasPrefix s.data.toList (Lib.encodeRune (kRune k)) = false)
    (hyes : Lib.hasPrefix s.data.toList (Lib.encodeRune (kRune k0)) = true) (w : World) :
    Calls Tryd.prog 37 #[.string s] w fun r w' => ∃ e b, r = .returned (.tuple #[evV e, .bool b]) ∧ b = (rightOf (refOf k0 (Lib.trimPrefix s.data.toList (Lib.encodeRune (kRune k0)))) && decide (wordOf (refOf k0 (Lib.trimPrefix s.data.toList (Lib.encodeRune (kRune k0)))) = s.data.toList)) ∧
      (b = true → e = refOf k0 (Lib.trimPrefix s.data.toList (Lib.encodeRune (kRune k0)))) ∧ Below w.heap.size w w' := by
  have hv := refOf_v k0 (Lib.trimPrefix s.data.toList (Lib.encodeRune (kRune k0)))
  have ht := trim_le s.data.toList (Lib.encodeRune (kRune k0))
  have hb0 := begins_k s hs k0 hk0 true hyes
  rw [← Lib.size_eq] at ht
  revert hv ht hb0
  generalize Lib.trimPrefix s.data.toList (Lib.encodeRune (kRune k0)) = x0
  intro hv ht hb0
  have ek : (refOf k0 x0).k = k0 := rfl
  have eg : (refOf k0 x0).g = partV x0 [] 0 := rfl
  have em : (refOf k0 x0).m = partV (partR x0 []) [109] (-1) := rfl
  have ep : (refOf k0 x0).p = partV (partR (partR x0 []) [109]) [112] (-1) := rfl
  have ev : (refOf k0 x0).v = partV (partR (partR (partR x0 []) [109]) [112]) [61] 0 := rfl
  revert hv ek eg em ep ev
  generalize refOf k0 x0 = x
  obtain ⟨xk, xg, xm, xp, xv⟩ := x
  dsimp only
  intro hv ek eg em ep ev
  subst ek
  have l1 := partR_le x0 []
  have l2 := partR_le (partR x0 []) [109]
  have l3 := partR_le (partR (partR x0 []) [109]) [112]
  have H := Lib.hid hno
  have HY := Lib.hid hyes
  clear hno hyes
  go_enter Tryd.func37, Tryd.ntmps37
  go_wp2
  go_loop [13, 78, 79, 80, 81] (fun kv a1 a2 a3 a4 => ∃ k : Nat, kv = .int .i64 (k : Int) ∧ k ≤ k0 ∧ a1 = undef ∧ a2 = undef ∧ a3 = undef ∧ a4 = undef) (fun kv _ _ _ _ => 9 - iOf kv)
  case atStart => exact ⟨0, rfl, by omega, rfl, rfl, rfl, rfl⟩
  case round =>
    obtain ⟨k, rfl, hk, rfl, rfl, rfl, rfl⟩ := hrel
    by_cases hk8 : k < k0
    · have h1 := refKind (k : Int)
      have h2 := begins_k s hs k (by omega) false (H.out k hk8)
      generalize kName (k : Int) = nm at *
      go_wp2_with fail
      refine (h1 _).mono ?_
      rintro e w1 ⟨rfl, rfl⟩
      go_wp2_with fail
      refine (h2 _).mono ?_
      rintro e w2 ⟨r, rfl, _, rfl⟩
      clear h1 h2
      go_wp2
      go_round
      case rel => exact ⟨k + 1, by simp, by omega, rfl, rfl, rfl, rfl⟩
      case measure => simp only [iOf_int]; omega
    · obtain rfl : k = k0 := by omega
      have h1 := refKind (k : Int)
      generalize kName (k : Int) = nm at *
      have hlt : w.heap.size < (w.alloc (.cells #[.int .i64 0, .int .i64 0, .int .i64 0, .int .i64 0, .int .i64 0] 42)).heap.size := by simp
      have hx : (w.alloc (.cells #[.int .i64 0, .int .i64 0, .int .i64 0, .int .i64 0, .int .i64 0] 42)).heap[w.heap.size]? = some (.cells #[.int .i64 0, .int .i64 0, .int .i64 0, .int .i64 0, .int .i64 0] 42 (0, 0)) := by
        show (w.heap.push _)[w.heap.size]? = _
        simp
      have HX := Lib.hid hx
      clear hx
      obtain ⟨w1, hw1⟩ : ∃ w1, w1 = w.alloc (.cells #[.int .i64 0, .int .i64 0, .int .i64 0, .int .i64 0, .int .i64 0] 42) := ⟨_, rfl⟩
      have K : Below w.heap.size w w1 := by rw [hw1]; exact (Below.refl _ w).alloc (Nat.le_refl _) _
      rw [← hw1] at HX hlt ⊢
      clear hw1
      have J : Below w1.heap.size w1 w1 := Below.refl _ _
      go_wp2_with fail
      refine (h1 _).mono ?_
      rintro e w1' ⟨rfl, rfl⟩
      go_wp2_with fail
      refine (hb0 _).mono ?_
      rintro e w2' ⟨r0, rfl, hr0, rfl⟩
      rw [← hr0] at eg em ep ev l1 l2 l3 ht
      rw [← Lib.size_eq] at ht
      clear hr0 h1 hb0
      go_wp2_with fail
      refine (part_any r0 ⟨#[]⟩ 0 (by omega) (by decide) _).mono ?_
      rintro e w2 ⟨r1, rfl, hr, hb⟩
      have K := K.trans (hb.mono K.size)
      have J := J.trans (hb.mono J.size)
      clear hb
      rw [show (⟨#[]⟩ : ByteArray).data.toList = [] from rfl] at hr
      rw [show (⟨#[]⟩ : ByteArray).data.toList = [] from rfl, ← eg]
      clear eg
      rw [← hr] at em ep ev l1 l2 l3
      have S1 : r1.size ≤ 1000 := by have := Lib.size_eq r0; rw [Lib.size_eq]; omega
      clear hr
      go_wp2_with fail
      refine (part_any r1 ⟨#[109]⟩ (-1) (by omega) (by decide) _).mono ?_
      rintro e w3 ⟨r2, rfl, hr, hb⟩
      have K := K.trans (hb.mono K.size)
      have J := J.trans (hb.mono J.size)
      clear hb
      rw [show (⟨#[109]⟩ : ByteArray).data.toList = [109] from rfl] at hr
      rw [show (⟨#[109]⟩ : ByteArray).data.toList = [109] from rfl, ← em]
      clear em
      rw [← hr] at ep ev l2 l3
      have S2 : r2.size ≤ 1000 := by have := Lib.size_eq r1; rw [Lib.size_eq]; omega
      clear hr
      go_wp2_with fail
      refine (part_any r2 ⟨#[112]⟩ (-1) (by omega) (by decide) _).mono ?_
      rintro e w4 ⟨r3, rfl, hr, hb⟩
      have K := K.trans (hb.mono K.size)
      have J := J.trans (hb.mono J.size)
      clear hb
      rw [show (⟨#[112]⟩ : ByteArray).data.toList = [112] from rfl] at hr
      rw [show (⟨#[112]⟩ : ByteArray).data.toList = [112] from rfl, ← ep]
      clear ep
      rw [← hr] at ev l3
      have S3 : r3.size ≤ 1000 := by have := Lib.size_eq r2; rw [Lib.size_eq]; omega
      clear hr
      go_wp2_with fail
      refine (part_any r3 ⟨#[61]⟩ 0 (by omega) (by decide) _).mono ?_
      rintro e w5 ⟨r4, rfl, hr, hb⟩
      have K := K.trans (hb.mono K.size)
      have J := J.trans (hb.mono J.size)
      clear hb
      rw [show (⟨#[61]⟩ : ByteArray).data.toList = [61] from rfl] at hr
      rw [show (⟨#[61]⟩ : ByteArray).data.toList = [61] from rfl, ← ev]
      clear ev
      clear hr l1 l2 l3
      have hx5 := (below_heap J hlt).trans HX.out
      have hlt5 : w.heap.size < w5.heap.size := box_lt hx5
      clear HX hlt J
      have f0 : ∀ o, w5.frozen? ⟨w.heap.size, o, none⟩ = false := fun o => by simp [World.frozen?, hx5]
      have c0 := box_cell hx5 0
      have c1 := box_cell hx5 1
      have c2 := box_cell hx5 2
      have c3 := box_cell hx5 3
      have c4 := box_cell hx5 4
      simp only [List.getElem?_toArray, List.getElem?_cons_zero, List.getElem?_cons_succ] at c0 c1 c2 c3 c4
      by_cases G : xg ≤ 4095 ∧ xm ≤ 127 ∧ xp ≤ 63 ∧ 0 ≤ xg ∧ -1 ≤ xm ∧ -1 ≤ xp
      · obtain ⟨G1, G2, G3, G4, G5, G6⟩ := G
        have HX5 := Lib.hid hx5
        clear hx5
        go_wp2
        cases hr : rightOf ⟨(k : Int), xg, xm, xp, xv⟩ with
        | false =>
          have hR := refRight_any ⟨(k : Int), xg, xm, xp, xv⟩
          rw [hr] at hR
          simp only [evV] at hR
          have HRR := Lib.hid hr
          have HR := Lib.hid hR
          clear hr hR
          obtain ⟨w6, hw6⟩ : ∃ w6 : World, w6 = w5.alloc (.cells #[.int .i64 k, .int .i64 xg, .int .i64 xm, .int .i64 xp, .int .i64 xv] 42) := ⟨_, rfl⟩
          have XE : w6.heap[w5.heap.size]? = some (.cells #[.int .i64 k, .int .i64 xg, .int .i64 xm, .int .i64 xp, .int .i64 xv] 42 (0, 0)) := by
            rw [hw6]
            show (w5.heap.push _)[w5.heap.size]? = _
            simp
          have XR : w6.heap[w.heap.size]? = some (.cells #[.int .i64 0, .int .i64 0, .int .i64 0, .int .i64 0, .int .i64 0] 42 (0, 0)) := by
            rw [hw6]
            exact (Below.heap_alloc w5 _ w.heap.size hlt5).trans HX5.out
          have K : Below w.heap.size w w6 := by rw [hw6]; exact K.alloc K.size _
          rw [← hw6]
          clear hw6 c0 c1 c2 c3 c4 f0
          have hRE : w.heap.size ≠ w5.heap.size := by omega
          obtain ⟨d0, d1, d2, d3, d4, df, dl⟩ := cells5 XE
          obtain ⟨c0, c1, c2, c3, c4, cf, cl⟩ := cells5 XR
          have HXE := Lib.hid XE
          have HXR := Lib.hid XR
          clear XE XR HX5 hlt5
          refine wp_region_held_drew (S := (fun w' => w'.cell? ⟨w5.heap.size, 0, none⟩ = some (.int .i64 k) ∧ w'.cell? ⟨w5.heap.size, 1, none⟩ = some (.int .i64 xg) ∧ w'.cell? ⟨w5.heap.size, 2, none⟩ = some (.int .i64 xm) ∧ w'.cell? ⟨w5.heap.size, 3, none⟩ = some (.int .i64 xp) ∧ w'.cell? ⟨w5.heap.size, 4, none⟩ = some (.int .i64 xv))) (by kernel_rfl) ⟨d0, d1, d2, d3, d4⟩ (fun hHeld => ?_)
          refine wpAnyH_take (i := 0) (oi := { dst := some 74, op := Op.load 42 (Operand.tmp 12), type := 42, pos := "ref.go:132", after := #[], guard := none }) (v := .agg #[.int .i64 k, .int .i64 xg, .int .i64 xm, .int .i64 xp, .int .i64 xv]) rfl (by kernel_rfl) (by kernel_rfl) (by kernel_rfl) (fun _ _ _ h => h) (Or.inl ⟨by rfl, by intro w hSw; go_simp⟩) (by assumption) ?_; simp only [Act.put, List.setIfInBounds_toArray, List.set_cons_zero, List.set_cons_succ]
          refine wpAnyH_take (i := 1) (oi := { dst := some 75, op := Op.load 42 (Operand.tmp 12), type := 42, pos := "ref.go:132", after := #[], guard := none }) (v := .agg #[.int .i64 k, .int .i64 xg, .int .i64 xm, .int .i64 xp, .int .i64 xv]) rfl (by kernel_rfl) (by kernel_rfl) (by kernel_rfl) (fun _ _ _ h => h) (Or.inl ⟨by rfl, by intro w hSw; go_simp⟩) (by assumption) ?_; simp only [Act.put, List.setIfInBounds_toArray, List.set_cons_zero, List.set_cons_succ]
          refine wpAnyH_ready (rs := [2]) (by kernel_rfl) (by simp) (AllReadyH.cons (o := { dst := some 76, op := Op.call { callee := Callee.value (Operand.func 16), args := #[Operand.tmp 75], argTypes := #[42] }, type := 4, pos := "ref.go:132", after := #[{ on := 1, ground := Ground.data }], guard := none }) rfl (fun _ hK => ?_) AllReadyH.nil)
          go_simp
          go_at_call 16
          refine (HR.out _).mono ?_
          rintro e w' ⟨rfl, hb⟩
          have XE := (below_heap hb dl).trans HXE.out
          have XR := (below_heap hb cl).trans HXR.out
          have K2 := K.drew.trans (hb.mono K.size)
          clear hb c0 c1 c2 c3 c4 cf d0 d1 d2 d3 d4 df K
          obtain ⟨d0, d1, d2, d3, d4, df, dl⟩ := cells5 XE
          obtain ⟨c0, c1, c2, c3, c4, cf, cl⟩ := cells5 XR
          refine hK.out _ _ ⟨d0, d1, d2, d3, d4⟩ (fun hHeld => ?_)
          refine wpAnyH_take (i := 3) (oi := { dst := some 77, op := Op.move (Operand.tmp 76), type := 4, pos := "ref.go:132", after := #[{ on := 2, ground := Ground.data }, { on := 2, ground := Ground.chain }], guard := none }) (v := .bool false) rfl (by kernel_rfl) (by kernel_rfl) (by kernel_rfl) (fun _ _ _ h => h) (Or.inl ⟨by rfl, by intro w hSw; go_simp⟩) (by assumption) ?_; simp only [Act.put, List.setIfInBounds_toArray, List.set_cons_zero, List.set_cons_succ]
          refine wpAnyH_take (i := 4) (oi := { dst := some 78, op := Op.load 42 (Operand.tmp 12), type := 42, pos := "ref.go:132", after := #[{ on := 3, ground := Ground.guard }], guard := some (3, true) }) (v := undef) rfl (by kernel_rfl) (by kernel_rfl) (by kernel_rfl) (fun _ _ _ h => h) (Or.inr ⟨by rfl, rfl⟩) (by assumption) ?_; simp only [Act.put, List.setIfInBounds_toArray, List.set_cons_zero, List.set_cons_succ]
          refine wpAnyH_take (i := 5) (oi := { dst := some 79, op := Op.call { callee := Callee.value (Operand.func 19), args := #[Operand.tmp 78], argTypes := #[42] }, type := 9, pos := "ref.go:132", after := #[{ on := 4, ground := Ground.data }, { on := 3, ground := Ground.chain }, { on := 3, ground := Ground.guard }], guard := some (3, true) }) (v := undef) rfl (by kernel_rfl) (by kernel_rfl) (by kernel_rfl) (fun _ _ _ h => h) (Or.inr ⟨by rfl, rfl⟩) (by assumption) ?_; simp only [Act.put, List.setIfInBounds_toArray, List.set_cons_zero, List.set_cons_succ]
          refine wpAnyH_take (i := 6) (oi := { dst := some 80, op := Op.move (Operand.tmp 0), type := 9, pos := "ref.go:132", after := #[{ on := 3, ground := Ground.guard }, { on := 9, ground := Ground.gcOnly Departure.lateStores }], guard := some (3, true) }) (v := undef) rfl (by kernel_rfl) (by kernel_rfl) (by kernel_rfl) (fun _ _ _ h => h) (Or.inr ⟨by rfl, rfl⟩) (by assumption) ?_; simp only [Act.put, List.setIfInBounds_toArray, List.set_cons_zero, List.set_cons_succ]
          refine wpAnyH_take (i := 7) (oi := { dst := some 81, op := Op.binOp BinOp.eql 9 (Operand.tmp 79) (Operand.tmp 80) 9, type := 4, pos := "ref.go:132", after := #[{ on := 5, ground := Ground.data }, { on := 6, ground := Ground.data }, { on := 3, ground := Ground.guard }, { on := 9, ground := Ground.gcOnly Departure.lateStores }], guard := some (3, true) }) (v := undef) rfl (by kernel_rfl) (by kernel_rfl) (by kernel_rfl) (fun _ _ _ h => h) (Or.inr ⟨by rfl, rfl⟩) (by assumption) ?_; simp only [Act.put, List.setIfInBounds_toArray, List.set_cons_zero, List.set_cons_succ]
          refine wpAnyH_take (i := 8) (oi := { dst := some 82, op := Op.pick (Operand.tmp 77) (Operand.tmp 81) (Operand.const (Value.bool false)), type := 4, pos := "ref.go:132", after := #[{ on := 3, ground := Ground.data }, { on := 7, ground := Ground.data }, { on := 9, ground := Ground.gcOnly Departure.lateStores }], guard := none }) (v := .bool false) rfl (by kernel_rfl) (by kernel_rfl) (by kernel_rfl) (fun _ _ _ h => h) (Or.inl ⟨by rfl, by intro w hSw; go_simp⟩) (by assumption) ?_; simp only [Act.put, List.setIfInBounds_toArray, List.set_cons_zero, List.set_cons_succ]
          refine wpAnyH_ready (rs := [9]) (by kernel_rfl) (by simp) (AllReadyH.cons (o := { dst := none, op := Op.store 42 (Operand.tmp 2) (Operand.tmp 74), type := 0, pos := "ref.go:132", after := #[{ on := 0, ground := Ground.data }, { on := 5, ground := Ground.chain }, { on := 0, ground := Ground.phase }, { on := 1, ground := Ground.textOnly Departure.lateStores }, { on := 2, ground := Ground.textOnly Departure.lateStoresUnsure }, { on := 3, ground := Ground.textOnly Departure.lateStores }, { on := 4, ground := Ground.textOnly Departure.lateStores }, { on := 5, ground := Ground.textOnly Departure.lateStoresUnsure }, { on := 6, ground := Ground.textOnly Departure.lateStores }, { on := 7, ground := Ground.textOnly Departure.lateStores }, { on := 8, ground := Ground.textOnly Departure.lateStores }], guard := none }) rfl (fun _ hK => ?_) AllReadyH.nil)
          go_simp
          refine hK.out _ _ (by simp only [cell_far hRE]; exact ⟨d0, d1, d2, d3, d4⟩) (fun hHeld => ?_)
          refine wpAnyH_take (i := 10) (oi := { dst := some 3, op := Op.assign (Operand.tmp 82), type := 4, pos := "ref.go:132", after := #[{ on := 8, ground := Ground.data }, { on := 9, ground := Ground.chain }, { on := 0, ground := Ground.phase }, { on := 1, ground := Ground.phase }, { on := 2, ground := Ground.phase }, { on := 3, ground := Ground.phase }, { on := 4, ground := Ground.phase }, { on := 5, ground := Ground.phase }, { on := 6, ground := Ground.phase }, { on := 7, ground := Ground.phase }, { on := 8, ground := Ground.phase }, { on := 9, ground := Ground.phase }], guard := none }) (v := .bool false) rfl (by kernel_rfl) (by kernel_rfl) (by kernel_rfl) (fun _ _ _ h => h) (Or.inl ⟨by rfl, by intro w hSw; go_simp⟩) (by assumption) ?_; simp only [Act.put, List.setIfInBounds_toArray, List.set_cons_zero, List.set_cons_succ]
          refine wpAnyH_done (by kernel_rfl) ?_ _
          go_wp2
          refine bodyPost_ret (v := .tuple #[.agg #[.int .i64 k, .int .i64 xg, .int .i64 xm, .int .i64 xp, .int .i64 xv], .bool false]) (by simp [results, Tryd.results37, go_sem, c0, c1, c2, c3, c4]) rfl ⟨⟨(k : Int), xg, xm, xp, xv⟩, _, rfl, by rw [HRR.out]; rfl, fun _ => rfl, by go_grown⟩
        | true =>
          have hR := refRight_any ⟨(k : Int), xg, xm, xp, xv⟩
          rw [hr] at hR
          have hW := refWord_any ⟨(k : Int), xg, xm, xp, xv⟩ hr hv.1 hv.2
          simp only [evV] at hR hW
          have HRR := Lib.hid hr
          have HR := Lib.hid hR
          have HW := Lib.hid hW
          clear hr hR hW
          obtain ⟨w6, hw6⟩ : ∃ w6 : World, w6 = w5.alloc (.cells #[.int .i64 k, .int .i64 xg, .int .i64 xm, .int .i64 xp, .int .i64 xv] 42) := ⟨_, rfl⟩
          have XE : w6.heap[w5.heap.size]? = some (.cells #[.int .i64 k, .int .i64 xg, .int .i64 xm, .int .i64 xp, .int .i64 xv] 42 (0, 0)) := by
            rw [hw6]
            show (w5.heap.push _)[w5.heap.size]? = _
            simp
          have XR : w6.heap[w.heap.size]? = some (.cells #[.int .i64 0, .int .i64 0, .int .i64 0, .int .i64 0, .int .i64 0] 42 (0, 0)) := by
            rw [hw6]
            exact (Below.heap_alloc w5 _ w.heap.size hlt5).trans HX5.out
          have K : Below w.heap.size w w6 := by rw [hw6]; exact K.alloc K.size _
          rw [← hw6]
          clear hw6 c0 c1 c2 c3 c4 f0
          have hRE : w.heap.size ≠ w5.heap.size := by omega
          obtain ⟨d0, d1, d2, d3, d4, df, dl⟩ := cells5 XE
          obtain ⟨c0, c1, c2, c3, c4, cf, cl⟩ := cells5 XR
          have HXE := Lib.hid XE
          have HXR := Lib.hid XR
          clear XE XR HX5 hlt5
          refine wp_region_held_drew (S := (fun w' => w'.cell? ⟨w5.heap.size, 0, none⟩ = some (.int .i64 k) ∧ w'.cell? ⟨w5.heap.size, 1, none⟩ = some (.int .i64 xg) ∧ w'.cell? ⟨w5.heap.size, 2, none⟩ = some (.int .i64 xm) ∧ w'.cell? ⟨w5.heap.size, 3, none⟩ = some (.int .i64 xp) ∧ w'.cell? ⟨w5.heap.size, 4, none⟩ = some (.int .i64 xv))) (by kernel_rfl) ⟨d0, d1, d2, d3, d4⟩ (fun hHeld => ?_)
          refine wpAnyH_take (i := 0) (oi := { dst := some 74, op := Op.load 42 (Operand.tmp 12), type := 42, pos := "ref.go:132", after := #[], guard := none }) (v := .agg #[.int .i64 k, .int .i64 xg, .int .i64 xm, .int .i64 xp, .int .i64 xv]) rfl (by kernel_rfl) (by kernel_rfl) (by kernel_rfl) (fun _ _ _ h => h) (Or.inl ⟨by rfl, by intro w hSw; go_simp⟩) (by assumption) ?_; simp only [Act.put, List.setIfInBounds_toArray, List.set_cons_zero, List.set_cons_succ]
          refine wpAnyH_take (i := 1) (oi := { dst := some 75, op := Op.load 42 (Operand.tmp 12), type := 42, pos := "ref.go:132", after := #[], guard := none }) (v := .agg #[.int .i64 k, .int .i64 xg, .int .i64 xm, .int .i64 xp, .int .i64 xv]) rfl (by kernel_rfl) (by kernel_rfl) (by kernel_rfl) (fun _ _ _ h => h) (Or.inl ⟨by rfl, by intro w hSw; go_simp⟩) (by assumption) ?_; simp only [Act.put, List.setIfInBounds_toArray, List.set_cons_zero, List.set_cons_succ]
          refine wpAnyH_ready (rs := [2]) (by kernel_rfl) (by simp) (AllReadyH.cons (o := { dst := some 76, op := Op.call { callee := Callee.value (Operand.func 16), args := #[Operand.tmp 75], argTypes := #[42] }, type := 4, pos := "ref.go:132", after := #[{ on := 1, ground := Ground.data }], guard := none }) rfl (fun _ hK => ?_) AllReadyH.nil)
          go_simp
          go_at_call 16
          refine (HR.out _).mono ?_
          rintro e w' ⟨rfl, hb⟩
          have XE := (below_heap hb dl).trans HXE.out
          have XR := (below_heap hb cl).trans HXR.out
          have K2 := K.drew.trans (hb.mono K.size)
          clear hb c0 c1 c2 c3 c4 cf d0 d1 d2 d3 d4 df K
          obtain ⟨d0, d1, d2, d3, d4, df, dl⟩ := cells5 XE
          obtain ⟨c0, c1, c2, c3, c4, cf, cl⟩ := cells5 XR
          refine hK.out _ _ ⟨d0, d1, d2, d3, d4⟩ (fun hHeld => ?_)
          refine wpAnyH_take (i := 3) (oi := { dst := some 77, op := Op.move (Operand.tmp 76), type := 4, pos := "ref.go:132", after := #[{ on := 2, ground := Ground.data }, { on := 2, ground := Ground.chain }], guard := none }) (v := .bool true) rfl (by kernel_rfl) (by kernel_rfl) (by kernel_rfl) (fun _ _ _ h => h) (Or.inl ⟨by rfl, by intro w hSw; go_simp⟩) (by assumption) ?_; simp only [Act.put, List.setIfInBounds_toArray, List.set_cons_zero, List.set_cons_succ]
          refine wpAnyH_take (i := 4) (oi := { dst := some 78, op := Op.load 42 (Operand.tmp 12), type := 42, pos := "ref.go:132", after := #[{ on := 3, ground := Ground.guard }], guard := some (3, true) }) (v := .agg #[.int .i64 k, .int .i64 xg, .int .i64 xm, .int .i64 xp, .int .i64 xv]) rfl (by kernel_rfl) (by kernel_rfl) (by kernel_rfl) (fun _ _ _ h => h) (Or.inl ⟨by rfl, by intro w hSw; go_simp⟩) (by assumption) ?_; simp only [Act.put, List.setIfInBounds_toArray, List.set_cons_zero, List.set_cons_succ]
          refine wpAnyH_take (i := 6) (oi := { dst := some 80, op := Op.move (Operand.tmp 0), type := 9, pos := "ref.go:132", after := #[{ on := 3, ground := Ground.guard }, { on := 9, ground := Ground.gcOnly Departure.lateStores }], guard := some (3, true) }) (v := .string s) rfl (by kernel_rfl) (by kernel_rfl) (by kernel_rfl) (fun _ _ _ h => h) (Or.inl ⟨by rfl, by intro w hSw; go_simp⟩) (by assumption) ?_; simp only [Act.put, List.setIfInBounds_toArray, List.set_cons_zero, List.set_cons_succ]
          have HXE := Lib.hid XE
          have HXR := Lib.hid XR
          clear XE XR
          refine wpAnyH_ready (rs := [5]) (by kernel_rfl) (by simp) (AllReadyH.cons (o := { dst := some 79, op := Op.call { callee := Callee.value (Operand.func 19), args := #[Operand.tmp 78], argTypes := #[42] }, type := 9, pos := "ref.go:132", after := #[{ on := 4, ground := Ground.data }, { on := 3, ground := Ground.chain }, { on := 3, ground := Ground.guard }], guard := some (3, true) }) rfl (fun _ hK => ?_) AllReadyH.nil)
          go_simp
          go_at_call 19
          refine (HW.out _).mono ?_
          rintro e w'' ⟨rfl, hb⟩
          have XE := (below_heap hb dl).trans HXE.out
          have XR := (below_heap hb cl).trans HXR.out
          have K3 := K2.trans (hb.mono K2.size)
          clear hb c0 c1 c2 c3 c4 cf d0 d1 d2 d3 d4 df K2
          obtain ⟨d0, d1, d2, d3, d4, df, dl⟩ := cells5 XE
          obtain ⟨c0, c1, c2, c3, c4, cf, cl⟩ := cells5 XR
          refine hK.out _ _ ⟨d0, d1, d2, d3, d4⟩ (fun hHeld => ?_)
          refine wpAnyH_take (i := 7) (oi := { dst := some 81, op := Op.binOp BinOp.eql 9 (Operand.tmp 79) (Operand.tmp 80) 9, type := 4, pos := "ref.go:132", after := #[{ on := 5, ground := Ground.data }, { on := 6, ground := Ground.data }, { on := 3, ground := Ground.guard }, { on := 9, ground := Ground.gcOnly Departure.lateStores }], guard := some (3, true) }) (v := .bool (decide (wordOf ⟨(k : Int), xg, xm, xp, xv⟩ = s.data.toList))) rfl (by kernel_rfl) (by kernel_rfl) (by kernel_rfl) (fun _ _ _ h => h) (Or.inl ⟨by rfl, by intro w hSw; go_simp; exact (beq_list _ _).symm⟩) (by assumption) ?_; simp only [Act.put, List.setIfInBounds_toArray, List.set_cons_zero, List.set_cons_succ]
          refine wpAnyH_take (i := 8) (oi := { dst := some 82, op := Op.pick (Operand.tmp 77) (Operand.tmp 81) (Operand.const (Value.bool false)), type := 4, pos := "ref.go:132", after := #[{ on := 3, ground := Ground.data }, { on := 7, ground := Ground.data }, { on := 9, ground := Ground.gcOnly Departure.lateStores }], guard := none }) (v := .bool (decide (wordOf ⟨(k : Int), xg, xm, xp, xv⟩ = s.data.toList))) rfl (by kernel_rfl) (by kernel_rfl) (by kernel_rfl) (fun _ _ _ h => h) (Or.inl ⟨by rfl, by intro w hSw; go_simp⟩) (by assumption) ?_; simp only [Act.put, List.setIfInBounds_toArray, List.set_cons_zero, List.set_cons_succ]
          refine wpAnyH_ready (rs := [9]) (by kernel_rfl) (by simp) (AllReadyH.cons (o := { dst := none, op := Op.store 42 (Operand.tmp 2) (Operand.tmp 74), type := 0, pos := "ref.go:132", after := #[{ on := 0, ground := Ground.data }, { on := 5, ground := Ground.chain }, { on := 0, ground := Ground.phase }, { on := 1, ground := Ground.textOnly Departure.lateStores }, { on := 2, ground := Ground.textOnly Departure.lateStoresUnsure }, { on := 3, ground := Ground.textOnly Departure.lateStores }, { on := 4, ground := Ground.textOnly Departure.lateStores }, { on := 5, ground := Ground.textOnly Departure.lateStoresUnsure }, { on := 6, ground := Ground.textOnly Departure.lateStores }, { on := 7, ground := Ground.textOnly Departure.lateStores }, { on := 8, ground := Ground.textOnly Departure.lateStores }], guard := none }) rfl (fun _ hK => ?_) AllReadyH.nil)
          go_simp
          refine hK.out _ _ (by simp only [cell_far hRE]; exact ⟨d0, d1, d2, d3, d4⟩) (fun hHeld => ?_)
          refine wpAnyH_take (i := 10) (oi := { dst := some 3, op := Op.assign (Operand.tmp 82), type := 4, pos := "ref.go:132", after := #[{ on := 8, ground := Ground.data }, { on := 9, ground := Ground.chain }, { on := 0, ground := Ground.phase }, { on := 1, ground := Ground.phase }, { on := 2, ground := Ground.phase }, { on := 3, ground := Ground.phase }, { on := 4, ground := Ground.phase }, { on := 5, ground := Ground.phase }, { on := 6, ground := Ground.phase }, { on := 7, ground := Ground.phase }, { on := 8, ground := Ground.phase }, { on := 9, ground := Ground.phase }], guard := none }) (v := .bool (decide (wordOf ⟨(k : Int), xg, xm, xp, xv⟩ = s.data.toList))) rfl (by kernel_rfl) (by kernel_rfl) (by kernel_rfl) (fun _ _ _ h => h) (Or.inl ⟨by rfl, by intro w hSw; go_simp⟩) (by assumption) ?_; simp only [Act.put, List.setIfInBounds_toArray, List.set_cons_zero, List.set_cons_succ]
          refine wpAnyH_done (by kernel_rfl) ?_ _
          go_wp2
          refine bodyPost_ret (v := .tuple #[.agg #[.int .i64 k, .int .i64 xg, .int .i64 xm, .int .i64 xp, .int .i64 xv], .bool (decide (wordOf ⟨(k : Int), xg, xm, xp, xv⟩ = s.data.toList))]) (by simp [results, Tryd.results37, go_sem, c0, c1, c2, c3, c4]) rfl ⟨⟨(k : Int), xg, xm, xp, xv⟩, _, rfl, by rw [HRR.out, Bool.true_and], fun _ => rfl, by go_grown⟩
      · have hr : rightOf ⟨(k : Int), xg, xm, xp, xv⟩ = false := by
          unfold rightOf
          rw [decide_eq_false_iff_not]
          dsimp only
          omega
        have HRR := Lib.hid hr
        clear hr hx5
        by_cases b0 : 4095 < xg
        · clear G
          go_wp2
          refine bodyPost_ret (v := .tuple #[.agg #[.int .i64 0, .int .i64 0, .int .i64 0, .int .i64 0, .int .i64 0], .bool false]) (by simp [results, Tryd.results37, go_sem, c0, c1, c2, c3, c4]) rfl ⟨⟨0, 0, 0, 0, 0⟩, false, rfl, by rw [HRR.out]; rfl, fun h => absurd h Bool.false_ne_true, by go_grown⟩
        by_cases b1 : 127 < xm
        · clear G
          go_wp2
          refine bodyPost_ret (v := .tuple #[.agg #[.int .i64 0, .int .i64 0, .int .i64 0, .int .i64 0, .int .i64 0], .bool false]) (by simp [results, Tryd.results37, go_sem, c0, c1, c2, c3, c4]) rfl ⟨⟨0, 0, 0, 0, 0⟩, false, rfl, by rw [HRR.out]; rfl, fun h => absurd h Bool.false_ne_true, by go_grown⟩
        by_cases b2 : 63 < xp
        · clear G
          go_wp2
          refine bodyPost_ret (v := .tuple #[.agg #[.int .i64 0, .int .i64 0, .int .i64 0, .int .i64 0, .int .i64 0], .bool false]) (by simp [results, Tryd.results37, go_sem, c0, c1, c2, c3, c4]) rfl ⟨⟨0, 0, 0, 0, 0⟩, false, rfl, by rw [HRR.out]; rfl, fun h => absurd h Bool.false_ne_true, by go_grown⟩
        by_cases b3 : xg < 0
        · clear G
          go_wp2
          refine bodyPost_ret (v := .tuple #[.agg #[.int .i64 0, .int .i64 0, .int .i64 0, .int .i64 0, .int .i64 0], .bool false]) (by simp [results, Tryd.results37, go_sem, c0, c1, c2, c3, c4]) rfl ⟨⟨0, 0, 0, 0, 0⟩, false, rfl, by rw [HRR.out]; rfl, fun h => absurd h Bool.false_ne_true, by go_grown⟩
        by_cases b4 : xm < -1
        · clear G
          go_wp2
          refine bodyPost_ret (v := .tuple #[.agg #[.int .i64 0, .int .i64 0, .int .i64 0, .int .i64 0, .int .i64 0], .bool false]) (by simp [results, Tryd.results37, go_sem, c0, c1, c2, c3, c4]) rfl ⟨⟨0, 0, 0, 0, 0⟩, false, rfl, by rw [HRR.out]; rfl, fun h => absurd h Bool.false_ne_true, by go_grown⟩
        have b5 : xp < -1 := by omega
        clear G
        go_wp2
        refine bodyPost_ret (v := .tuple #[.agg #[.int .i64 0, .int .i64 0, .int .i64 0, .int .i64 0, .int .i64 0], .bool false]) (by simp [results, Tryd.results37, go_sem, c0, c1, c2, c3, c4]) rfl ⟨⟨0, 0, 0, 0, 0⟩, false, rfl, by rw [HRR.out]; rfl, fun h => absurd h Bool.false_ne_true, by go_grown⟩

theorem refOne_any (s : ByteArray) (hs : s.size ≤ 1000) (w : World) :
    Calls Tryd.prog 37 #[.string s] w fun r w' => ∃ e : Ev, r = .returned (.tuple #[evV e, .bool (isWord s.data.toList)]) ∧ (isWord s.data.toList = true → e = evOf s.data.toList) ∧ Below w.heap.size w w' := by
  obtain ⟨k, hk, hno, hyes⟩ := first8 (fun k => Lib.hasPrefix s.data.toList (Lib.encodeRune (kRune k))) 8
  by_cases hk8 : k < 8
  · have hy := hyes hk8
    have hsx : s.data.toList = Lib.encodeRune (kRune k) ++ Lib.trimPrefix s.data.toList (Lib.encodeRune (kRune k)) := by
      unfold Lib.hasPrefix at hy
      rw [List.isPrefixOf_iff_prefix] at hy
      obtain ⟨t, ht⟩ := hy
      unfold Lib.trimPrefix
      rw [if_pos (hyes hk8), ← ht, List.drop_left]
    obtain ⟨h1, h2⟩ := isWord_of s.data.toList (refOf k (Lib.trimPrefix s.data.toList (Lib.encodeRune (kRune k)))) (refOf_v _ _) (fun x hx => refOf_back k hk8 s.data.toList _ hsx x hx)
    refine (refOne_some s hs k hk8 hno hy w).mono ?_
    rintro r w' ⟨e, b, rfl, hb1, hb2, hb⟩
    rw [← h1] at hb1
    subst hb1
    exact ⟨e, rfl, fun h => (hb2 h).trans (h2 h), hb⟩
  · obtain rfl : k = 8 := by omega
    have hn := no_kind s.data.toList (fun i hi => hno i hi)
    rw [hn]
    refine (refOne_none s hs (fun i hi => hno i hi) w).mono ?_
    rintro r w' ⟨rfl, hb⟩
    exact ⟨_, rfl, fun h => absurd h Bool.false_ne_true, hb⟩
end Go.Proofs.YtnkbddebafcjbaaDoor
