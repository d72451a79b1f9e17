/-
  The law's things, all: walked.
-/
import Derived.Great.BuildSlice
import Derived.Test.YtfjepdcnikgjeaaGreatDoorBoxH
set_option linter.unusedVariables false
set_option linter.unusedSimpArgs false
set_option linter.unusedSectionVars false
namespace Go.Proofs.YtfjepdcnikgjeaaGreatDoor
open Go Go.RowKit Hst Go.Proofs

theorem ths_next {B : Nat} {w w3 w4 : World} {l : List RawT} {r : RawT} {va vb : Value} {bs : List Bx} {v : Value} (hl : bs.length = l.length) (hok : ∀ e ∈ bs, e.ok) (hs : stepsBs bs = stepsTs (l.map thOf)) (hr : runesBs bs = runesTs (l.map thOf)) (hro : r.ok)
    (h1 : w4.ownsRow B 20 1 va (bs.length + 1) (bs.map Bx.val ++ [(bxOf r v).val])) (h2 : w4.ownsRow B 50 11 vb (l.length + 1) (thCs (l.map thOf) ++ (thC (thOf r)).toList)) (hne : ∀ b, va.ownBlock = some b → vb.ownBlock ≠ some b) (K : Below B w w4) :
    ThsAt B w w4 (l ++ [r]) va vb := by
  refine ⟨bs ++ [bxOf r v], by simp [hl], fun e he => ?_, ?_, ?_, by simpa using h1, ?_, hne, K⟩
  · rcases List.mem_append.1 he with he | he
    · exact hok e he
    · simp at he; subst he; exact bx_ok hro v
  · have := steps_same r v
    simp only [stepsBs, stepsTs] at hs ⊢
    rw [List.flatMap_append, List.map_append, List.flatMap_append, hs]
    simp [this]
  · have := runes_same r v
    simp only [runesBs, runesTs] at hr ⊢
    rw [List.flatMap_append, List.map_append, List.flatMap_append, hr]
    simp [this]
  · have : thCs ((l ++ [r]).map thOf) = thCs (l.map thOf) ++ (thC (thOf r)).toList := by simp [thCs]
    rw [this, List.length_append]
    exact h2

theorem fill_any (b : Bx) : Instr.fill (fun i => some (i * 1, 1)) ((Array.range (1 * 1)).map ((Value.nilIface).cells[· % (Value.nilIface).cells.size]!)) [(0, b.val)] = some #[b.val] := by
  rcases val_shape b with h | ⟨t, x, h⟩
  · rw [h]; kernel_rfl
  · rw [h]; kernel_rfl
theorem fill_thg (t : Thg) : Instr.fill (fun i => some (i * 11, 11)) ((Array.range (1 * 11)).map ((Value.agg zeroThg).cells[· % (Value.agg zeroThg).cells.size]!)) [(0, .agg (thC t))] = some (thC t) := by
  kernel_rfl
theorem one_val (b : Bx) : b.val.oneCell' = true := by
  rcases val_shape b with h | ⟨t, x, h⟩ <;> rw [h] <;> rfl

set_option maxHeartbeats 6400000 in
set_option maxRecDepth 100000 in
theorem things_any {w : World} {v : Value} {l : List RawT} (hA : RawArg w v l) (hl : l.length ≤ 40) (hok : ∀ r ∈ l, r.ok ∧ r.kind ≤ 255) :
    Calls Tryz.prog 50 #[v] w fun e w' => ∃ va vb, e = .returned (.tuple #[va, vb]) ∧ ThsAt w.heap.size w w' l va vb := by
  obtain ⟨a, c, rfl, hE⟩ := hA
  obtain ⟨i0, hi, hz0, hz1, hz2⟩ := info_parts infoAny
  obtain ⟨k0, ki, kz0, kz1, kz2⟩ := info_parts infoThg
  have HOK := Lib.hid hok
  clear hok
  go_enter Tryz.func50, Tryz.ntmps50
  go_wp2
  go_loopw [4, 5, 12] (fun va vb i wr => ∃ j : Nat, i = .int .i64 (j : Int) ∧ j ≤ l.length ∧ ThsAt w.heap.size w wr (l.take j) va vb) (fun _ _ i _ => l.length - (intOf i).toNat)
  case atStart => exact ⟨0, rfl, by omega, [], rfl, (fun e h => by cases h), rfl, rfl, World.ownsRow_nil _ _ _ _, World.ownsRow_nil _ _ _ _, (fun b h => by cases h), Below.refl _ w⟩
  case round =>
    obtain ⟨j, rfl, hj, bs, hbl, hbo, hbs, hbr, hva, hvb, hne, K⟩ := hrel
    by_cases hp : j < l.length
    · rcases hE with rfl | ⟨b, o, rfl, hE⟩
      · simp at hp
      obtain ⟨r, he⟩ : ∃ r, l[j]? = some r := ⟨_, List.getElem?_eq_getElem hp⟩
      have hc := fun i hi => (hE.below hE.lt K).at_ j r he i hi
      have hlt := (hE.below hE.lt K).lt
      have hpi : (j : Int) < l.length := by omega
      have htk := take_at he
      have hro := HOK.out r (List.mem_of_getElem? he)
      have htl : (l.take j).length = j := by rw [List.length_take]; omega
      have hth := thing_any r hro.2
      unfold ThingOK at hth
      obtain ⟨t, ht⟩ : ∃ t, t = thOf r := ⟨_, rfl⟩
      have hnx := fun w4 va vb v => @ths_next w.heap.size w w4 w4 (l.take j) r va vb bs v hbl hbo hbs hbr hro.1
      rw [← htk] at hnx
      simp only [← ht] at hth hnx
      have hcA := fun i (hi : i < (rawC r).size) => hc i hi
      have HC := Lib.hid hcA
      have HTH := Lib.hid hth
      have HNX := Lib.hid hnx
      have HVA := Lib.hid hva
      have HVB := Lib.hid hvb
      have HNE := Lib.hid hne
      have HK := Lib.hid K
      have hbl2 : bs.length = j := by rw [hbl, htl]
      clear hc hcA hE he htk hth hnx hva hvb hne K hbo hbs hbr ht hbl hro
      go_wp2_with (first
        | (refine wpList_load_at rfl 45 _ rfl b (o + j * 17) rfl (rawC r) _ HC.out Tryz.underlying45 rfl info_raw ?_)
        | (refine wpList_store_row rfl 45 _ _ rfl _ _ rfl rfl 45 _ (heap_alloc_new wr _) info_raw rfl (by simp [rawC, Value.oneCell']) ?_; refine wpl_gen (fun wb => wb.heap[wr.heap.size]? = some (.cells (rawC r) 45 (0, 0)) ∧ Below wr.heap.size wr wb) (setRow_new _) ?_; rintro wb ⟨hx, hbw⟩)
        | (refine wpList_load_row rfl 45 _ rfl wr.heap.size rfl 45 _ (0, 0) _ hx Tryz.underlying45 rfl info_raw ?_))
      refine (HTH.out _).mono ?_
      rintro e w2 ⟨⟨pv, rfl⟩, hb2⟩
      have KA : Below wr.heap.size wr w2 := hbw.trans (hb2.mono hbw.size)
      have hk2 := HK.out.trans (KA.mono HK.out.size)
      have HK2 := Lib.hid hk2
      have HVA2 := Lib.hid (own_below HVA.out KA)
      have HVB2 := Lib.hid (own_below HVB.out KA)
      have hsz2 := hk2.size
      clear hb2 hk2 KA hx hbw
      obtain ⟨bx, hbx⟩ : ∃ bx, bx = bxOf r pv := ⟨_, rfl⟩
      have hnx2 := fun w4 va vb => HNX.out w4 va vb pv
      rw [← hbx] at hnx2 ⊢
      have HNX2 := Lib.hid hnx2
      clear hnx2 hbx
      go_wp2_with (first
        | (refine wpList_store_row rfl 50 _ _ rfl _ _ rfl rfl 50 _ (heap_alloc_new w2 _) info_thg rfl (by simp [thC, Value.oneCell']) ?_; refine wpl_gen (fun wb => wb.heap[w2.heap.size]? = some (.cells (thC t) 50 (0, 0)) ∧ Below w2.heap.size w2 wb) (setRow_new _) ?_; rintro w5 ⟨hx5, hb5⟩; have HVA5 := Lib.hid (own_below HVA2.out hb5); have HVB5 := Lib.hid (own_below HVB2.out hb5); have HK5 := Lib.hid (HK2.out.trans (hb5.mono HK2.out.size)); have hl5 := box_lt hx5; have HX5 := Lib.hid hx5; have hs5 := hb5.size; clear hx5 hb5)
        | (refine wpList_buildSlice rfl 83 20 1 _ rfl #[bx.val] i0 .nilIface Tryz.underlying83 hi hz0 (by rw [hz1]; decide) (by rw [hz1]; decide) (by rw [Array.toList_map, hz1]; exact fill_any bx) ?_)
        | (at_builtin; refine wpList_append_own_at _ rfl _ _ 83 rfl w.heap.size 20 i0 .nilIface 1 16 Tryz.underlying83 hi hz0 hz1 hz2 rfl (by decide) _ bs.length _ rfl (own_below HVA5.out (below_alloc _ _)) ⟨w5.heap.size, 0, Option.none⟩ 1 1 [bx.val] rfl rfl (cell_one_new _ _ _) (fun u hu => by simp at hu; subst hu; exact one_val bx) (by unfold maxLen; omega) (by omega) (by simp; omega) ?_; intro v6 w6 hown6 hgrow6 _ hat6; obtain ⟨q1, q2, q3⟩ := two_rows2 HVA5.out HVB5.out HNE.out HK5.out HK5.out.size hgrow6 hat6; have hx6 := (hgrow6.block w2.heap.size (by simp; omega) (fun e => Nat.lt_irrefl _ (HVA2.out.lt _ e.symm).2)).trans ((Below.heap_alloc _ _ _ hl5).trans HX5.out); have Q1 := Lib.hid q1; have Q2 := Lib.hid q2; have Q3 := Lib.hid q3; have Q4 := Lib.hid hown6; have HX6 := Lib.hid hx6; have hs6 := q3.size; clear q1 q2 q3 hown6 hgrow6 hat6 hx6)
        | (refine wpList_load_row rfl 50 _ rfl w2.heap.size rfl 50 _ (0, 0) _ HX6.out Tryz.underlying50 rfl info_thg ?_)
        | (refine wpList_buildSlice rfl 87 50 1 _ rfl (thC t) k0 (.agg zeroThg) Tryz.underlying87 ki kz0 (by rw [kz1]; decide) (by rw [kz1]; decide) (by rw [Array.toList_map, kz1]; exact fill_thg t) ?_)
        | (at_builtin; refine wpList_append_own_at _ rfl _ _ 87 rfl w.heap.size 50 k0 _ 11 88 Tryz.underlying87 ki kz0 kz1 kz2 rfl (by decide) _ _ _ rfl (own_below Q1.out (below_alloc _ _)) ⟨w6.heap.size, 0, Option.none⟩ 1 1 (thC t).toList rfl rfl (thg_cell w6 (thC t) rfl (by simp [thC, Value.oneCell']) _) (by simp [thC, Value.oneCell']) (by unfold maxLen; omega) (by omega) (by simp; omega) ?_; intro v7 w7 hown7 hgrow7 _ hat7; obtain ⟨q1, q2, q3⟩ := two_rows2 Q1.out Q4.out (fun b hb e => Q2.out b e hb) Q3.out Q3.out.size hgrow7 hat7; have R1 := Lib.hid q1; have R2 := Lib.hid q2; have R3 := Lib.hid q3; have R4 := Lib.hid hown7; clear q1 q2 q3 hown7 hgrow7 hat7))
      go_roundw
      case rel => exact ⟨j + 1, by go_num, hp, HNX2.out w7 _ _ R1.out R4.out (fun b hb e => R2.out b e hb) R3.out⟩
      case measure => simp [intOf]; omega
    · obtain rfl : j = l.length := by omega
      have hpi : ¬ (l.length : Int) < l.length := by omega
      rw [List.take_length] at hbl hbs hbr hvb
      have HX := Lib.hid (show ThsAt w.heap.size w wr l _ _ from ⟨bs, hbl, hbo, hbs, hbr, hva, hvb, hne, K⟩)
      clear hbl hbo hbs hbr hva hvb hne K
      go_wp2
      go_returns
      exact ⟨_, _, rfl, HX.out⟩
end Go.Proofs.YtfjepdcnikgjeaaGreatDoor
