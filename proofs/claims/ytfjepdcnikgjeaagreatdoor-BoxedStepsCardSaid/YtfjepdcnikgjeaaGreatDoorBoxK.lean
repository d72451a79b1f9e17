/-
  The document's steps of things, walked.
-/
import Derived.Test.YtfjepdcnikgjeaaGreatDoorBoxJ
set_option linter.unusedVariables false
set_option linter.unusedSimpArgs false
set_option linter.unusedSectionVars false
namespace Go.Proofs.YtfjepdcnikgjeaaGreatDoor
open Go Go.RowKit Hst Go.Proofs

set_option maxHeartbeats 6400000 in
set_option maxRecDepth 100000 in
theorem rsteps_any {w : World} {v : Value} {l : List Thg} (hA : ThgArg w v l) (hl : l.length ≤ 400) (hok : ∀ e ∈ l, e.ok) :
    Calls Tryz.prog 51 #[v] w fun e w' => ∃ v', e = .returned v' ∧ w'.ownsRow w.heap.size 48 5 v' (stepsTs l).length (encRss (stepsTs l)) ∧ Below w.heap.size w w' := by
  obtain ⟨a, c, rfl, hE⟩ := hA
  have hdg := fun s hs w => rdigits_any s hs w
  have HDG := Lib.hid hdg
  clear hdg
  go_enter Tryz.func51, Tryz.ntmps51
  go_wp2
  go_loopw [3, 8] (fun o i wr => ∃ j : Nat, i = .int .i64 (j : Int) ∧ j ≤ l.length ∧ wr.ownsRow w.heap.size 48 5 o (stepsTs (l.take j)).length (encRss (stepsTs (l.take j))) ∧ Below w.heap.size w wr) (fun _ i _ => l.length - (intOf i).toNat)
  case atStart => exact ⟨0, rfl, by omega, World.ownsRow_nil _ _ _ _, Below.refl _ w⟩
  case round =>
    obtain ⟨j, rfl, hj, hown, K⟩ := hrel
    by_cases hp : j < l.length
    · rcases hE with rfl | ⟨b, o, rfl, hE⟩
      · simp at hp
      obtain ⟨t, he⟩ : ∃ t, l[j]? = some t := ⟨_, List.getElem?_eq_getElem hp⟩
      have hc := fun i (hi : i < (thC t).size) => (hE.below hE.lt K).at_ j t he i hi
      have hlt := (hE.below hE.lt K).lt
      have hpi : (j : Int) < l.length := by omega
      have hsl := stepsTs_len (l := l.take j) (fun x hx => hok x (List.mem_of_mem_take hx))
      rw [List.length_take] at hsl
      have htok := hok t (List.mem_of_getElem? he)
      have htl := stepsT_len htok
      have htk := stepsTs_take he
      generalize stepsTs (l.take j) = D at *
      have HT := Lib.hid htk
      have HO := Lib.hid hown
      have HC := Lib.hid hc
      have HK := Lib.hid K
      have hKs := K.size
      clear htk hown he hc hE hok K
      by_cases k2 : t.kind = 2
      · have hst : stepsT t = [t.step] := by unfold stepsT; rw [if_pos k2]
        have HS := Lib.hid hst
        have e2 : (t.kind == 2) = true := by simpa using k2
        clear hst k2
        go_wp2_with (first
            | (refine wpList_load_at rfl 50 _ rfl b (o + j * 11) rfl (thC t) _ HC.out Tryz.underlying50 rfl info_thg ?_)
            | (refine wpList_store_row rfl 50 _ _ rfl _ _ rfl rfl 50 _ (heap_alloc_new wr _) info_thg rfl (by simp [thC, Value.oneCell']) ?_; refine wpl_gen (fun wb => wb.heap[wr.heap.size]? = some (.cells (thC t) 50 (0, 0)) ∧ Below wr.heap.size wr wb) (setRow_new _) ?_; rintro wb ⟨hx, hbw⟩; have x0 := box_cell hx 0; have x4 := box_cell hx 4; have x5 := box_cell hx 5; have x6 := box_cell hx 6; have x7 := box_cell hx 7; have x8 := box_cell hx 8; have x9 := box_cell hx 9; have x10 := box_cell hx 10; change wb.cell? _ = some (.int .i64 t.kind) at x0; change wb.cell? _ = some (.int .u8 (t.step.kind : Nat)) at x4; change wb.cell? _ = some (.int .u8 (t.step.act : Nat)) at x5; change wb.cell? _ = some (.int .i64 t.step.a) at x6; change wb.cell? _ = some (.int .i64 t.step.x) at x7; change wb.cell? _ = some (.int .i64 t.step.d) at x8; change wb.cell? _ = some (.int .i64 t.num) at x9; change wb.cell? _ = some (.string t.text) at x10; have KB := Lib.hid (HK.out.trans (hbw.mono HK.out.size)); have HB := Lib.hid hbw; have hlb := box_lt hx; clear hx hbw)
            | (at_builtin; refine append_rs rfl _ _ rfl w.heap.size _ D rfl (own_below (own_below HO.out HB.out) (below_alloc _ _)) _ rfl [t.step] (one_rs (t.step) _ _ _ rfl _ rfl) (by simp; omega) (by have := KB.out.size; simp; omega) ?_; intro v3 w3 hown3 hb3))
        have K3 : Below w.heap.size w w3 := (KB.out.alloc KB.out.size _).trans hb3
        have HW := Lib.hid hown3
        clear hown3 hb3
        go_roundw
        case rel => exact ⟨j + 1, by go_num, hp, by rw [HT.out, HS.out]; exact HW.out, K3⟩
        case measure => simp [intOf]; omega
      · by_cases k4 : t.kind = 4
        · have hst : stepsT t = [dSt t.num] := by unfold stepsT; rw [if_neg k2, if_pos k4]
          have HS := Lib.hid hst
          have e2 : (t.kind == 2) = false := by simpa using k2
          have e4 : (t.kind == 4) = true := by simpa using k4
          clear hst k2 k4
          go_wp2_with (first
              | (refine wpList_load_at rfl 50 _ rfl b (o + j * 11) rfl (thC t) _ HC.out Tryz.underlying50 rfl info_thg ?_)
              | (refine wpList_store_row rfl 50 _ _ rfl _ _ rfl rfl 50 _ (heap_alloc_new wr _) info_thg rfl (by simp [thC, Value.oneCell']) ?_; refine wpl_gen (fun wb => wb.heap[wr.heap.size]? = some (.cells (thC t) 50 (0, 0)) ∧ Below wr.heap.size wr wb) (setRow_new _) ?_; rintro wb ⟨hx, hbw⟩; have x0 := box_cell hx 0; have x4 := box_cell hx 4; have x5 := box_cell hx 5; have x6 := box_cell hx 6; have x7 := box_cell hx 7; have x8 := box_cell hx 8; have x9 := box_cell hx 9; have x10 := box_cell hx 10; change wb.cell? _ = some (.int .i64 t.kind) at x0; change wb.cell? _ = some (.int .u8 (t.step.kind : Nat)) at x4; change wb.cell? _ = some (.int .u8 (t.step.act : Nat)) at x5; change wb.cell? _ = some (.int .i64 t.step.a) at x6; change wb.cell? _ = some (.int .i64 t.step.x) at x7; change wb.cell? _ = some (.int .i64 t.step.d) at x8; change wb.cell? _ = some (.int .i64 t.num) at x9; change wb.cell? _ = some (.string t.text) at x10; have KB := Lib.hid (HK.out.trans (hbw.mono HK.out.size)); have HB := Lib.hid hbw; have hlb := box_lt hx; clear hx hbw)
              | (at_builtin; refine append_rs rfl _ _ rfl w.heap.size _ D rfl (own_below (own_below HO.out HB.out) (below_alloc _ _)) _ rfl [dSt t.num] (one_rs (dSt t.num) _ _ _ rfl _ rfl) (by simp; omega) (by have := KB.out.size; simp; omega) ?_; intro v3 w3 hown3 hb3))
          have K3 : Below w.heap.size w w3 := (KB.out.alloc KB.out.size _).trans hb3
          have HW := Lib.hid hown3
          clear hown3 hb3
          go_roundw
          case rel => exact ⟨j + 1, by go_num, hp, by rw [HT.out, HS.out]; exact HW.out, K3⟩
          case measure => simp [intOf]; omega
        · by_cases k5 : t.kind = 5
          · have hst : stepsT t = (digB t.text.data.toList).map dSt := by unfold stepsT; rw [if_neg k2, if_neg k4, if_pos (.inl k5)]
            have HS := Lib.hid hst
            have e2 : (t.kind == 2) = false := by simpa using k2
            have e4 : (t.kind == 4) = false := by simpa using k4
            have e5 : (t.kind == 5) = true := by simpa using k5
            clear hst k2 k4 k5
            go_wp2_with (first
                | (refine wpList_load_at rfl 50 _ rfl b (o + j * 11) rfl (thC t) _ HC.out Tryz.underlying50 rfl info_thg ?_)
                | (refine wpList_store_row rfl 50 _ _ rfl _ _ rfl rfl 50 _ (heap_alloc_new wr _) info_thg rfl (by simp [thC, Value.oneCell']) ?_; refine wpl_gen (fun wb => wb.heap[wr.heap.size]? = some (.cells (thC t) 50 (0, 0)) ∧ Below wr.heap.size wr wb) (setRow_new _) ?_; rintro wb ⟨hx, hbw⟩; have x0 := box_cell hx 0; have x4 := box_cell hx 4; have x5 := box_cell hx 5; have x6 := box_cell hx 6; have x7 := box_cell hx 7; have x8 := box_cell hx 8; have x9 := box_cell hx 9; have x10 := box_cell hx 10; change wb.cell? _ = some (.int .i64 t.kind) at x0; change wb.cell? _ = some (.int .u8 (t.step.kind : Nat)) at x4; change wb.cell? _ = some (.int .u8 (t.step.act : Nat)) at x5; change wb.cell? _ = some (.int .i64 t.step.a) at x6; change wb.cell? _ = some (.int .i64 t.step.x) at x7; change wb.cell? _ = some (.int .i64 t.step.d) at x8; change wb.cell? _ = some (.int .i64 t.num) at x9; change wb.cell? _ = some (.string t.text) at x10; have KB := Lib.hid (HK.out.trans (hbw.mono HK.out.size)); have HB := Lib.hid hbw; have hlb := box_lt hx; clear hx hbw))
            have hd := HDG.out t.text (by have : t.text.size ≤ 1000 := htok; omega) wb
            refine hd.mono ?_
            rintro e2' w2 ⟨v2, rfl, hown2, hb2⟩
            have K2 := KB.out.trans (hb2.mono KB.out.size)
            have H1 := Lib.hid (own_below (own_below HO.out HB.out) hb2)
            have HA2 := Lib.hid (own_rsarg hown2)
            have hl2 : (digB t.text.data.toList).length ≤ 1000 := by have h1 := digB_length t.text.data.toList; have h2 : t.text.data.toList.length = t.text.size := Array.length_toList; have h3 : t.text.size ≤ 1000 := htok; omega
            clear hown2 hb2 hd
            go_wp2_with (first
                | (at_builtin; refine append_rs rfl _ _ rfl w.heap.size _ D rfl H1.out _ rfl _ HA2.out (by rw [List.length_map]; omega) K2.size ?_; intro v3 w3 hown3 hb3))
            have K3 : Below w.heap.size w w3 := K2.trans hb3
            have HW := Lib.hid hown3
            clear hown3 hb3
            go_roundw
            case rel => exact ⟨j + 1, by go_num, hp, by rw [HT.out, HS.out]; exact HW.out, K3⟩
            case measure => simp [intOf]; omega
          · by_cases k6 : t.kind = 6
            · have hst : stepsT t = (digB t.text.data.toList).map dSt := by unfold stepsT; rw [if_neg k2, if_neg k4, if_pos (.inr k6)]
              have HS := Lib.hid hst
              have e2 : (t.kind == 2) = false := by simpa using k2
              have e4 : (t.kind == 4) = false := by simpa using k4
              have e5 : (t.kind == 5) = false := by simpa using k5
              have e6 : (t.kind == 6) = true := by simpa using k6
              clear hst k2 k4 k5 k6
              go_wp2_with (first
                  | (refine wpList_load_at rfl 50 _ rfl b (o + j * 11) rfl (thC t) _ HC.out Tryz.underlying50 rfl info_thg ?_)
                  | (refine wpList_store_row rfl 50 _ _ rfl _ _ rfl rfl 50 _ (heap_alloc_new wr _) info_thg rfl (by simp [thC, Value.oneCell']) ?_; refine wpl_gen (fun wb => wb.heap[wr.heap.size]? = some (.cells (thC t) 50 (0, 0)) ∧ Below wr.heap.size wr wb) (setRow_new _) ?_; rintro wb ⟨hx, hbw⟩; have x0 := box_cell hx 0; have x4 := box_cell hx 4; have x5 := box_cell hx 5; have x6 := box_cell hx 6; have x7 := box_cell hx 7; have x8 := box_cell hx 8; have x9 := box_cell hx 9; have x10 := box_cell hx 10; change wb.cell? _ = some (.int .i64 t.kind) at x0; change wb.cell? _ = some (.int .u8 (t.step.kind : Nat)) at x4; change wb.cell? _ = some (.int .u8 (t.step.act : Nat)) at x5; change wb.cell? _ = some (.int .i64 t.step.a) at x6; change wb.cell? _ = some (.int .i64 t.step.x) at x7; change wb.cell? _ = some (.int .i64 t.step.d) at x8; change wb.cell? _ = some (.int .i64 t.num) at x9; change wb.cell? _ = some (.string t.text) at x10; have KB := Lib.hid (HK.out.trans (hbw.mono HK.out.size)); have HB := Lib.hid hbw; have hlb := box_lt hx; clear hx hbw))
              have hd := HDG.out t.text (by have : t.text.size ≤ 1000 := htok; omega) wb
              refine hd.mono ?_
              rintro e2' w2 ⟨v2, rfl, hown2, hb2⟩
              have K2 := KB.out.trans (hb2.mono KB.out.size)
              have H1 := Lib.hid (own_below (own_below HO.out HB.out) hb2)
              have HA2 := Lib.hid (own_rsarg hown2)
              have hl2 : (digB t.text.data.toList).length ≤ 1000 := by have h1 := digB_length t.text.data.toList; have h2 : t.text.data.toList.length = t.text.size := Array.length_toList; have h3 : t.text.size ≤ 1000 := htok; omega
              clear hown2 hb2 hd
              go_wp2_with (first
                  | (at_builtin; refine append_rs rfl _ _ rfl w.heap.size _ D rfl H1.out _ rfl _ HA2.out (by rw [List.length_map]; omega) K2.size ?_; intro v3 w3 hown3 hb3))
              have K3 : Below w.heap.size w w3 := K2.trans hb3
              have HW := Lib.hid hown3
              clear hown3 hb3
              go_roundw
              case rel => exact ⟨j + 1, by go_num, hp, by rw [HT.out, HS.out]; exact HW.out, K3⟩
              case measure => simp [intOf]; omega
            · have hst : stepsT t = [] := by unfold stepsT; rw [if_neg k2, if_neg k4, if_neg (by omega)]
              have HS := Lib.hid hst
              have e2 : (t.kind == 2) = false := by simpa using k2
              have e4 : (t.kind == 4) = false := by simpa using k4
              have e5 : (t.kind == 5) = false := by simpa using k5
              have e6 : (t.kind == 6) = false := by simpa using k6
              clear hst k2 k4 k5 k6
              go_wp2_with (first
                  | (refine wpList_load_at rfl 50 _ rfl b (o + j * 11) rfl (thC t) _ HC.out Tryz.underlying50 rfl info_thg ?_)
                  | (refine wpList_store_row rfl 50 _ _ rfl _ _ rfl rfl 50 _ (heap_alloc_new wr _) info_thg rfl (by simp [thC, Value.oneCell']) ?_; refine wpl_gen (fun wb => wb.heap[wr.heap.size]? = some (.cells (thC t) 50 (0, 0)) ∧ Below wr.heap.size wr wb) (setRow_new _) ?_; rintro wb ⟨hx, hbw⟩; have x0 := box_cell hx 0; have x4 := box_cell hx 4; have x5 := box_cell hx 5; have x6 := box_cell hx 6; have x7 := box_cell hx 7; have x8 := box_cell hx 8; have x9 := box_cell hx 9; have x10 := box_cell hx 10; change wb.cell? _ = some (.int .i64 t.kind) at x0; change wb.cell? _ = some (.int .u8 (t.step.kind : Nat)) at x4; change wb.cell? _ = some (.int .u8 (t.step.act : Nat)) at x5; change wb.cell? _ = some (.int .i64 t.step.a) at x6; change wb.cell? _ = some (.int .i64 t.step.x) at x7; change wb.cell? _ = some (.int .i64 t.step.d) at x8; change wb.cell? _ = some (.int .i64 t.num) at x9; change wb.cell? _ = some (.string t.text) at x10; have KB := Lib.hid (HK.out.trans (hbw.mono HK.out.size)); have HB := Lib.hid hbw; have hlb := box_lt hx; clear hx hbw))
              go_roundw
              case rel => exact ⟨j + 1, by go_num, hp, by rw [HT.out, HS.out]; rw [List.append_nil]; exact own_below HO.out HB.out, KB.out⟩
              case measure => simp [intOf]; omega
    · obtain rfl : j = l.length := by omega
      rw [List.take_length] at hown
      have hpi : ¬ (l.length : Int) < l.length := by omega
      have HO := Lib.hid hown
      clear hown
      go_wp2
      go_returns
      exact ⟨_, rfl, HO.out, K⟩
end Go.Proofs.YtfjepdcnikgjeaaGreatDoor
