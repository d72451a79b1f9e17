/-
  The document's text of things, walked.
-/
import Derived.Test.YtfjepdcnikgjeaaGreatDoorBoxJ
set_option linter.unusedVariables false
set_option linter.unusedSimpArgs false
set_option linter.unusedSectionVars false
namespace Go.Proofs.YtfjepdcnikgjeaaGreatDoor
open Go Go.RowKit Hst Go.Proofs

theorem cat_bytes (X : List UInt8) (t : ByteArray) : (⟨X.toArray⟩ : ByteArray) ++ t = ⟨(X ++ t.data.toList).toArray⟩ := by
  apply ByteArray.ext
  rw [ByteArray.data_append]
  simp
theorem sz_bytes (X : List UInt8) : (⟨X.toArray⟩ : ByteArray).size = X.length := by simp [ByteArray.size]

set_option maxHeartbeats 6400000 in
set_option maxRecDepth 100000 in
theorem rrunes_any {w : World} {v : Value} {l : List Thg} (hA : ThgArg w v l) (hl : l.length ≤ 400) (hok : ∀ e ∈ l, e.ok) :
    Calls Tryz.prog 52 #[v] w fun e w' => e = .returned (.string ⟨(runesTs l).toArray⟩) ∧ Below w.heap.size w w' := by
  obtain ⟨a, c, rfl, hE⟩ := hA
  go_enter Tryz.func52, Tryz.ntmps52
  go_wp2
  go_loopw [3, 8] (fun o i wr => ∃ j : Nat, i = .int .i64 (j : Int) ∧ j ≤ l.length ∧ o = .string ⟨(runesTs (l.take j)).toArray⟩ ∧ Below w.heap.size w wr) (fun _ i _ => l.length - (intOf i).toNat)
  case atStart => exact ⟨0, rfl, by omega, rfl, Below.refl _ w⟩
  case round =>
    obtain ⟨j, rfl, hj, rfl, K⟩ := hrel
    by_cases hp : j < l.length
    · rcases hE with rfl | ⟨b, o, rfl, hE⟩
      · simp at hp
      obtain ⟨t, he⟩ : ∃ t, l[j]? = some t := ⟨_, List.getElem?_eq_getElem hp⟩
      have hc := fun i (hi : i < (thC t).size) => (hE.below hE.lt K).at_ j t he i hi
      have hlt := (hE.below hE.lt K).lt
      have hpi : (j : Int) < l.length := by omega
      have hsl := runesTs_len (l := l.take j) (fun x hx => hok x (List.mem_of_mem_take hx))
      rw [List.length_take] at hsl
      have htok : t.text.size ≤ 1000 := hok t (List.mem_of_getElem? he)
      have htk := runesTs_take he
      generalize runesTs (l.take j) = D at *
      obtain ⟨S, hS⟩ : ∃ S : ByteArray, S = ⟨D.toArray⟩ := ⟨_, rfl⟩
      have hcat := cat_bytes D t.text
      have hSs : S.size = D.length := by rw [hS, sz_bytes]
      rw [← hS] at hcat ⊢
      have hov : ¬ (9223372036854775807 : Nat) < S.size + t.text.size := by omega
      have HT := Lib.hid htk
      have HC := Lib.hid hc
      have HK := Lib.hid K
      have HCAT := Lib.hid hcat
      have HSS := Lib.hid hS
      have hKs := K.size
      clear htk he hc hE hok K hcat hS
      by_cases k5 : t.kind = 5
      · have hst : runesT t = t.text.data.toList := by unfold runesT; rw [if_pos (.inl k5)]
        have HS := Lib.hid hst
        have e5 : (t.kind == 5) = true := by simpa using k5
        clear hst k5
        go_wp2_with (first
            | (refine wpList_load_at rfl 50 _ rfl b (o + j * 11) rfl (thC t) _ HC.out Tryz.underlying50 rfl info_thg ?_)
            | (refine wpList_store_row rfl 50 _ _ rfl _ _ rfl rfl 50 _ (heap_alloc_new wr _) info_thg rfl (by simp [thC, Value.oneCell']) ?_; refine wpl_gen (fun wb => wb.heap[wr.heap.size]? = some (.cells (thC t) 50 (0, 0)) ∧ Below wr.heap.size wr wb) (setRow_new _) ?_; rintro wb ⟨hx, hbw⟩; have x0 := box_cell hx 0; have x4 := box_cell hx 4; have x5 := box_cell hx 5; have x6 := box_cell hx 6; have x7 := box_cell hx 7; have x8 := box_cell hx 8; have x9 := box_cell hx 9; have x10 := box_cell hx 10; change wb.cell? _ = some (.int .i64 t.kind) at x0; change wb.cell? _ = some (.int .u8 (t.step.kind : Nat)) at x4; change wb.cell? _ = some (.int .u8 (t.step.act : Nat)) at x5; change wb.cell? _ = some (.int .i64 t.step.a) at x6; change wb.cell? _ = some (.int .i64 t.step.x) at x7; change wb.cell? _ = some (.int .i64 t.step.d) at x8; change wb.cell? _ = some (.int .i64 t.num) at x9; change wb.cell? _ = some (.string t.text) at x10; have KB := Lib.hid (HK.out.trans (hbw.mono HK.out.size)); have HB := Lib.hid hbw; have hlb := box_lt hx; clear hx hbw))
        go_roundw
        case rel => exact ⟨j + 1, by go_num, hp, by rw [HT.out, HS.out, HCAT.out], KB.out⟩
        case measure => simp [intOf]; omega
      · by_cases k6 : t.kind = 6
        · have hst : runesT t = t.text.data.toList := by unfold runesT; rw [if_pos (.inr k6)]
          have HS := Lib.hid hst
          have e5 : (t.kind == 5) = false := by simpa using k5
          have e6 : (t.kind == 6) = true := by simpa using k6
          clear hst k5 k6
          go_wp2_with (first
              | (refine wpList_load_at rfl 50 _ rfl b (o + j * 11) rfl (thC t) _ HC.out Tryz.underlying50 rfl info_thg ?_)
              | (refine wpList_store_row rfl 50 _ _ rfl _ _ rfl rfl 50 _ (heap_alloc_new wr _) info_thg rfl (by simp [thC, Value.oneCell']) ?_; refine wpl_gen (fun wb => wb.heap[wr.heap.size]? = some (.cells (thC t) 50 (0, 0)) ∧ Below wr.heap.size wr wb) (setRow_new _) ?_; rintro wb ⟨hx, hbw⟩; have x0 := box_cell hx 0; have x4 := box_cell hx 4; have x5 := box_cell hx 5; have x6 := box_cell hx 6; have x7 := box_cell hx 7; have x8 := box_cell hx 8; have x9 := box_cell hx 9; have x10 := box_cell hx 10; change wb.cell? _ = some (.int .i64 t.kind) at x0; change wb.cell? _ = some (.int .u8 (t.step.kind : Nat)) at x4; change wb.cell? _ = some (.int .u8 (t.step.act : Nat)) at x5; change wb.cell? _ = some (.int .i64 t.step.a) at x6; change wb.cell? _ = some (.int .i64 t.step.x) at x7; change wb.cell? _ = some (.int .i64 t.step.d) at x8; change wb.cell? _ = some (.int .i64 t.num) at x9; change wb.cell? _ = some (.string t.text) at x10; have KB := Lib.hid (HK.out.trans (hbw.mono HK.out.size)); have HB := Lib.hid hbw; have hlb := box_lt hx; clear hx hbw))
          go_roundw
          case rel => exact ⟨j + 1, by go_num, hp, by rw [HT.out, HS.out, HCAT.out], KB.out⟩
          case measure => simp [intOf]; omega
        · have hst : runesT t = [] := by unfold runesT; rw [if_neg (by omega)]
          have HS := Lib.hid hst
          have e5 : (t.kind == 5) = false := by simpa using k5
          have e6 : (t.kind == 6) = false := by simpa using k6
          clear hst k5 k6
          go_wp2_with (first
              | (refine wpList_load_at rfl 50 _ rfl b (o + j * 11) rfl (thC t) _ HC.out Tryz.underlying50 rfl info_thg ?_)
              | (refine wpList_store_row rfl 50 _ _ rfl _ _ rfl rfl 50 _ (heap_alloc_new wr _) info_thg rfl (by simp [thC, Value.oneCell']) ?_; refine wpl_gen (fun wb => wb.heap[wr.heap.size]? = some (.cells (thC t) 50 (0, 0)) ∧ Below wr.heap.size wr wb) (setRow_new _) ?_; rintro wb ⟨hx, hbw⟩; have x0 := box_cell hx 0; have x4 := box_cell hx 4; have x5 := box_cell hx 5; have x6 := box_cell hx 6; have x7 := box_cell hx 7; have x8 := box_cell hx 8; have x9 := box_cell hx 9; have x10 := box_cell hx 10; change wb.cell? _ = some (.int .i64 t.kind) at x0; change wb.cell? _ = some (.int .u8 (t.step.kind : Nat)) at x4; change wb.cell? _ = some (.int .u8 (t.step.act : Nat)) at x5; change wb.cell? _ = some (.int .i64 t.step.a) at x6; change wb.cell? _ = some (.int .i64 t.step.x) at x7; change wb.cell? _ = some (.int .i64 t.step.d) at x8; change wb.cell? _ = some (.int .i64 t.num) at x9; change wb.cell? _ = some (.string t.text) at x10; have KB := Lib.hid (HK.out.trans (hbw.mono HK.out.size)); have HB := Lib.hid hbw; have hlb := box_lt hx; clear hx hbw))
          go_roundw
          case rel => exact ⟨j + 1, by go_num, hp, by rw [HT.out, HS.out, List.append_nil, HSS.out], KB.out⟩
          case measure => simp [intOf]; omega
    · obtain rfl : j = l.length := by omega
      rw [List.take_length]
      have hpi : ¬ (l.length : Int) < l.length := by omega
      go_wp2
      go_returns
      exact ⟨rfl, K⟩
end Go.Proofs.YtfjepdcnikgjeaaGreatDoor
