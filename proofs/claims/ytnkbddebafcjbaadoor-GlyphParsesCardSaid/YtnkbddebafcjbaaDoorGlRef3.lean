/-
  What the document reads of a text: its beginning; a number; a part.
-/
import Derived.IntWalk
import Derived.BigQuiet
import Derived.Deep.QuietTactic
import Derived.Test.YtnkbddebafcjbaaDoorGlRef2
namespace Go.Proofs.YtnkbddebafcjbaaDoor
open Go Go.RowKit Go.Proofs

theorem pre_take (s t : ByteArray) (h : t.size ≤ s.size) : Lib.hasPrefix s.data.toList t.data.toList = ((s.extract 0 t.size).toList == t.toList) := by
  have := Lib.occ_of_piece s t 0 (by omega)
  simpa [Lib.occAt, Lib.hasPrefix] using this
set_option maxHeartbeats 4000000 in
set_option maxRecDepth 100000 in
theorem begins_any (s t : ByteArray) (_hs : s.size ≤ 100000) (_ht : t.size ≤ 100000) (w : World) :
    Calls Tryd.prog 49 #[.string s, .string t] w fun e w' => ∃ r : ByteArray, e = .returned (.tuple #[.string r, .bool (Lib.hasPrefix s.data.toList t.data.toList)]) ∧ r.data.toList = Lib.trimPrefix s.data.toList t.data.toList ∧ w' = w := by
  by_cases hl : s.size < t.size
  · have e0 : Lib.hasPrefix s.data.toList t.data.toList = false := by
      rw [← Bool.not_eq_true]
      intro h
      unfold Lib.hasPrefix at h
      rw [List.isPrefixOf_iff_prefix] at h
      have := h.length_le
      rw [← Lib.size_eq, ← Lib.size_eq] at this
      omega
    have e1 : Lib.trimPrefix s.data.toList t.data.toList = s.data.toList := by unfold Lib.trimPrefix; rw [e0]; rfl
    rw [e0, e1]
    clear e0 e1
    go_enter Tryd.func49, Tryd.ntmps49
    go_wp2
    go_returns
    exact ⟨s, rfl, rfl, rfl⟩
  · have hl' : t.size ≤ s.size := by omega
    have e2 := Lib.extract_to_end s t.size
    have ep := pre_take s t hl'
    cases he : ((s.extract 0 t.size).toList == t.toList) with
    | false =>
      rw [he] at ep
      have e1 : Lib.trimPrefix s.data.toList t.data.toList = s.data.toList := by unfold Lib.trimPrefix; rw [ep]; rfl
      rw [ep, e1]
      clear ep e1 e2
      go_enter Tryd.func49, Tryd.ntmps49
      go_wp2
      go_returns
      exact ⟨s, rfl, rfl, rfl⟩
    | true =>
      rw [he] at ep
      have e1 : Lib.trimPrefix s.data.toList t.data.toList = s.data.toList.drop t.data.toList.length := by unfold Lib.trimPrefix; rw [ep]; rfl
      rw [ep, e1]
      rw [← Lib.size_eq]
      have E := Lib.hid e2
      clear ep e1 e2
      go_enter Tryd.func49, Tryd.ntmps49
      go_wp2
      go_returns
      exact ⟨_, rfl, E.out, rfl⟩

set_option maxHeartbeats 8000000 in
set_option maxRecDepth 100000 in
theorem value_ref (s : ByteArray) (_hs : s.size ≤ 100000) (w : World) :
    Calls Tryd.prog 64 #[.string s] w fun e w' => ∃ (r : ByteArray) (b : Bool), e = .returned (.tuple #[.int .u64 (valN s.data.toList : Nat), .string r, .bool b]) ∧ r.data.toList = s.data.toList.drop (valLen s.data.toList) ∧ Below w.heap.size w w' := by
  have hl := valLen_le s.data.toList
  rw [← Lib.size_eq] at hl
  have h19 : valLen s.data.toList ≤ 19 := Nat.min_le_right _ _
  obtain ⟨n, hn⟩ : ∃ n, n = valLen s.data.toList := ⟨_, rfl⟩
  have HN := Lib.hid hn
  have ev : valN s.data.toList = valFrom 0 (s.data.toList.take n) := by unfold valN; rw [hn]
  have hdig : ∀ k, k < n → ∃ b, s.data.toList[k]? = some b ∧ 48 ≤ b.toNat ∧ b.toNat ≤ 57 := fun k hk => digLen_at _ k (Nat.lt_of_lt_of_le (hn ▸ hk) (Nat.min_le_left _ _))
  have hend : n < 19 → ∀ b, s.data.toList[n]? = some b → isDig b = false := by
    intro h b hb
    have : n = digLen s.data.toList := by rw [hn]; unfold valLen at *; omega
    rw [this] at hb
    exact digLen_end _ b hb
  rw [ev, ← hn]
  rw [← hn] at hl h19
  clear hn ev
  have HD := Lib.hid hdig
  have HE := Lib.hid hend
  clear hdig hend
  have E := Lib.hid (Lib.extract_to_end s n)
  go_enter Tryd.func64, Tryd.ntmps64
  go_wp2
  go_loop [5, 6] (fun nv kv => ∃ k : Nat, kv = .int .i64 (k : Int) ∧ k ≤ n ∧ nv = .int .u64 (valFrom 0 (s.data.toList.take k) : Nat)) (fun _ kv => 20 - iOf kv)
  case atStart => exact ⟨0, rfl, by omega, by simp [valFrom]⟩
  case round =>
    obtain ⟨k, rfl, hk, rfl⟩ := hrel
    by_cases hkn : k < n
    · obtain ⟨b, hb, b0, b1⟩ := HD.out k hkn
      have hks : k < s.size := by omega
      have hsnoc : valFrom 0 (s.data.toList.take (k + 1)) = 10 * valFrom 0 (s.data.toList.take k) + (b.toNat - 48) := by
        rw [List.take_add_one, hb]
        exact valFrom_snoc _ _ _
      have hlt : valFrom 0 (s.data.toList.take k) < 10 ^ k := by
        refine val_lt k _ (by rw [List.length_take, ← Lib.size_eq]; omega) (fun x hx => ?_)
        obtain ⟨q, hq⟩ := List.mem_iff_getElem?.1 hx
        rw [List.getElem?_take] at hq
        split at hq
        · rename_i hqk
          obtain ⟨b', h1, h2, h3⟩ := HD.out q (by omega)
          rw [h1] at hq
          obtain rfl := Option.some.inj hq
          exact h3
        · cases hq
      have hlt2 : valFrom 0 (s.data.toList.take k) < 1000000000000000000 := Nat.lt_of_lt_of_le hlt (by
        have : (10 : Nat) ^ k ≤ 10 ^ 18 := Nat.pow_le_pow_right (by decide) (by omega)
        exact this)
      have hbs : s[k] = b := by
        have h0 : s.data.toList[k]? = some s[k] := by rw [List.getElem?_eq_getElem (by rw [← Lib.size_eq]; exact hks)]; rfl
        rw [hb] at h0
        exact (Option.some.inj h0).symm
      have HS := Lib.hid hsnoc
      clear hsnoc hlt hb
      generalize valFrom 0 (s.data.toList.take k) = x at *
      have hx : (x : Int) ≤ 999999999999999999 := by omega
      have hk19 : k < 19 := by omega
      have B0 : 48 ≤ (s[k].toNat : Int) := by rw [hbs]; omega
      have B1 : (s[k].toNat : Int) ≤ 57 := by rw [hbs]; omega
      have HB := Lib.hid hbs
      clear hbs b0 b1
      go_wp2
      go_round
      case rel =>
        refine ⟨k + 1, by simp, by omega, ?_⟩
        have := HB.out
        rw [HS.out]
        congr 1
        rw [this] at B0 ⊢
        omega
      case measure => simp only [iOf_int]; omega
    · obtain rfl : k = n := by omega
      have hx : valFrom 0 (s.data.toList.take k) < 18446744073709551616 := by
        refine Nat.lt_of_lt_of_le (val_lt k _ (by rw [List.length_take, ← Lib.size_eq]; omega) (fun x hx => ?_)) (Nat.le_trans (Nat.pow_le_pow_right (by decide) h19) (by decide))
        obtain ⟨q, hq⟩ := List.mem_iff_getElem?.1 hx
        rw [List.getElem?_take] at hq
        split at hq
        · rename_i hqk
          obtain ⟨b', h1, h2, h3⟩ := HD.out q (by omega)
          rw [h1] at hq
          obtain rfl := Option.some.inj hq
          exact h3
        · cases hq
      generalize hxe : valFrom 0 (s.data.toList.take k) = x at *
      have HXE := Lib.hid hxe
      clear hxe
      by_cases hks : k < s.size
      · by_cases hk19 : k < 19
        · have h0 : s.data.toList[k]? = some s[k] := by rw [List.getElem?_eq_getElem (by rw [← Lib.size_eq]; exact hks)]; rfl
          have hd := HE.out hk19 _ h0
          have hc : ((s[k].toNat : Int) < 48) ∨ (48 ≤ (s[k].toNat : Int) ∧ 57 < (s[k].toNat : Int)) := by
            unfold isDig at hd
            rw [decide_eq_false_iff_not] at hd
            omega
          clear h0 hd hkn
          rcases hc with hc | ⟨hc0, hc⟩
          all_goals
            go_wp2
            go_quiet (fail)
            go_wp2
            go_returns
            exact ⟨_, _, by rw [HXE.out]; rfl, E.out, below_drewN (Below.refl _ _) _⟩
        · go_wp2
          go_quiet (fail)
          go_wp2
          go_returns
          exact ⟨_, _, by rw [HXE.out]; rfl, E.out, below_drewN (Below.refl _ _) _⟩
      · go_wp2
        go_quiet (fail)
        go_wp2
        go_returns
        exact ⟨_, _, by rw [HXE.out]; rfl, E.out, below_drewN (Below.refl _ _) _⟩

set_option maxHeartbeats 8000000 in
set_option maxRecDepth 100000 in
theorem part_any (s sign : ByteArray) (x : Int) (hs : s.size ≤ 10000) (hg : sign.size ≤ 10) (w : World) :
    Calls Tryd.prog 50 #[.string s, .string sign, .int .i64 x] w fun e w' => ∃ r : ByteArray, e = .returned (.tuple #[.int .i64 (partV s.data.toList sign.data.toList x), .string r]) ∧ r.data.toList = partR s.data.toList sign.data.toList ∧ Below w.heap.size w w' := by
  have hb1 := begins_any s sign (by omega) (by omega)
  cases hp : Lib.hasPrefix s.data.toList sign.data.toList with
  | false =>
    rw [hp] at hb1
    have e1 : partV s.data.toList sign.data.toList x = x := by unfold partV; rw [hp]; rfl
    have e2 : partR s.data.toList sign.data.toList = s.data.toList := by unfold partR; rw [hp]; rfl
    rw [e1, e2]
    clear e1 e2 hp
    go_enter Tryd.func50, Tryd.ntmps50
    go_wp2_with (go_at_call 49; refine (hb1 _).mono ?_; rintro e w1 ⟨r, rfl, _, rfl⟩)
    go_returns
    exact ⟨s, rfl, rfl, Below.refl _ _⟩
  | true =>
    rw [hp] at hb1
    have ht := trim_le s.data.toList sign.data.toList
    rw [← Lib.size_eq] at ht
    have HPX := Lib.hid hp
    clear hp
    go_enter Tryd.func50, Tryd.ntmps50
    go_wp2_with fail
    refine (hb1 _).mono ?_
    rintro e w1 ⟨r, rfl, hr, rfl⟩
    rw [← hr] at ht
    rw [← Lib.size_eq] at ht
    have HR := Lib.hid hr
    clear hr hb1
    have hb2 := begins_any r ⟨#[45]⟩ (by omega) (by decide)
    have ht2 := trim_le r.data.toList [45]
    rw [← Lib.size_eq] at ht2
    rw [show (⟨#[45]⟩ : ByteArray).data.toList = [45] from rfl] at hb2
    cases hm : Lib.hasPrefix r.data.toList [45] with
    | false =>
      rw [hm] at hb2
      have HM := Lib.hid hm
      clear hm
      go_wp2_with fail
      refine (hb2 _).mono ?_
      rintro e w2 ⟨q, rfl, hq, rfl⟩
      rw [← hq] at ht2
      rw [← Lib.size_eq] at ht2
      have HQ := Lib.hid hq
      clear hq hb2
      have hv := value_ref q (by omega)
      have eV : partV s.data.toList sign.data.toList x = IntKind.i64.wrap ((valN q.data.toList : Int)) := by
        unfold partV
        rw [HPX.out, if_pos rfl, ← HR.out, HM.out, ← HQ.out]
        rfl
      have eR : partR s.data.toList sign.data.toList = q.data.toList.drop (valLen q.data.toList) := by
        unfold partR
        rw [HPX.out, if_pos rfl, ← HR.out, ← HQ.out]
      have EV := Lib.hid eV
      have ER := Lib.hid eR
      clear eV eR
      have hn : (valN q.data.toList : Int) < 18446744073709551616 := by
        have h1 : valLen q.data.toList ≤ 19 := Nat.min_le_right _ _
        have := val_lt (q.data.toList.take (valLen q.data.toList)).length _ rfl (fun x hx => by
          obtain ⟨j, hj⟩ := List.mem_iff_getElem?.1 hx
          rw [List.getElem?_take] at hj
          split at hj
          · rename_i hjq
            obtain ⟨b', g1, g2, g3⟩ := digLen_at q.data.toList j (Nat.lt_of_lt_of_le hjq (Nat.min_le_left _ _))
            rw [g1] at hj
            obtain rfl := Option.some.inj hj
            exact g3
          · cases hj)
        have h2 : (10 : Nat) ^ (q.data.toList.take (valLen q.data.toList)).length ≤ 10 ^ 19 := Nat.pow_le_pow_right (by decide) (by rw [List.length_take]; omega)
        have h3 : (10 : Nat) ^ 19 = 10000000000000000000 := by decide
        unfold valN
        omega
      generalize hne : valN q.data.toList = n at *
      have HNE := Lib.hid hne
      clear hne
      go_wp2_with fail
      refine (hv _).mono ?_
      rintro e w3 ⟨u, b, rfl, hu, hb⟩
      have HU := Lib.hid hu
      clear hu hv
      go_wp2
      go_returns
      exact ⟨u, by rw [EV.out, IntWalk.i64_left]; first | rfl | (rw [Int.zero_sub]; rfl), by rw [ER.out]; exact HU.out, hb⟩
    | true =>
      rw [hm] at hb2
      have HM := Lib.hid hm
      clear hm
      go_wp2_with fail
      refine (hb2 _).mono ?_
      rintro e w2 ⟨q, rfl, hq, rfl⟩
      rw [← hq] at ht2
      rw [← Lib.size_eq] at ht2
      have HQ := Lib.hid hq
      clear hq hb2
      have hv := value_ref q (by omega)
      have eV : partV s.data.toList sign.data.toList x = IntKind.i64.wrap (IntKind.u64.wrap (0 - (valN q.data.toList : Int))) := by
        unfold partV
        rw [HPX.out, if_pos rfl, ← HR.out, HM.out, ← HQ.out]
        rfl
      have eR : partR s.data.toList sign.data.toList = q.data.toList.drop (valLen q.data.toList) := by
        unfold partR
        rw [HPX.out, if_pos rfl, ← HR.out, ← HQ.out]
      have EV := Lib.hid eV
      have ER := Lib.hid eR
      clear eV eR
      have hn : (valN q.data.toList : Int) < 18446744073709551616 := by
        have h1 : valLen q.data.toList ≤ 19 := Nat.min_le_right _ _
        have := val_lt (q.data.toList.take (valLen q.data.toList)).length _ rfl (fun x hx => by
          obtain ⟨j, hj⟩ := List.mem_iff_getElem?.1 hx
          rw [List.getElem?_take] at hj
          split at hj
          · rename_i hjq
            obtain ⟨b', g1, g2, g3⟩ := digLen_at q.data.toList j (Nat.lt_of_lt_of_le hjq (Nat.min_le_left _ _))
            rw [g1] at hj
            obtain rfl := Option.some.inj hj
            exact g3
          · cases hj)
        have h2 : (10 : Nat) ^ (q.data.toList.take (valLen q.data.toList)).length ≤ 10 ^ 19 := Nat.pow_le_pow_right (by decide) (by rw [List.length_take]; omega)
        have h3 : (10 : Nat) ^ 19 = 10000000000000000000 := by decide
        unfold valN
        omega
      generalize hne : valN q.data.toList = n at *
      have HNE := Lib.hid hne
      clear hne
      go_wp2_with fail
      refine (hv _).mono ?_
      rintro e w3 ⟨u, b, rfl, hu, hb⟩
      have HU := Lib.hid hu
      clear hu hv
      go_wp2
      go_returns
      exact ⟨u, by rw [EV.out, IntWalk.i64_left]; first | rfl | (rw [Int.zero_sub]; rfl), by rw [ER.out]; exact HU.out, hb⟩
end Go.Proofs.YtnkbddebafcjbaaDoor
