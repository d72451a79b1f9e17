/-
  The tally, walked: how long a goroutine waits; who is dispatched; the rows.
-/
import Derived.Test.YtfjepdcnikgjeaaGreatDoorEvs
import Derived.Test.YtfjepdcnikgjeaaGreatDoorMapL
import Derived.Test.YtfjepdcnikgjeaaGreatDoorTalP
set_option linter.unusedVariables false
set_option linter.unusedSimpArgs false
set_option linter.unusedSectionVars false
namespace Go.Proofs.YtfjepdcnikgjeaaGreatDoor
open Go Go.RowKit Hst Go.Proofs
open Go.Maps (Keyed)

theorem evArg_slice {w : World} {v : Value} {l : List Hst.Ev} (h : EvArg w v l) : ∃ a c, v = .slice a l.length c ∧ (l = [] ∨ ∃ b o, a = some ⟨b, o, none⟩ ∧ EvCells w b o l) := by
  rcases h with ⟨rfl, rfl⟩ | ⟨a, c, rfl, rfl⟩ | ⟨b, o, c, rfl, h⟩
  · exact ⟨none, 0, rfl, .inl rfl⟩
  · exact ⟨some a, c, rfl, .inl rfl⟩
  · exact ⟨_, c, rfl, .inr ⟨b, o, rfl, h⟩⟩
theorem take_at {α : Type} {l : List α} {j : Nat} {e : α} (h : l[j]? = some e) : l.take (j + 1) = l.take j ++ [e] := by
  rw [List.take_add_one, h]; rfl
theorem lg_take {l : List Hst.Ev} {j : Nat} {e : Hst.Ev} (h : l[j]? = some e) (g : Int) : lg (l.take (j + 1)) g = lgStep g (lg (l.take j) g) j e := by
  have hj : j < l.length := (List.getElem?_eq_some_iff.1 h).1
  rw [take_at h, lg_snoc, List.length_take, Nat.min_eq_left (by omega)]

theorem waitsK_or (k : Int) : waitsK k = (k == 0 || k == 1 || k == 3) := rfl

set_option maxRecDepth 100000 in
theorem runnable_any (k : Int) (w : World) : Calls Tryz.prog 90 #[.int .i64 k] w fun e w' => e = .returned (.bool (waitsK k)) ∧ w' = w := by
  rw [waitsK_or]
  by_cases h0 : k = 0
  · subst h0
    go_enter Tryz.func90, Tryz.ntmps90
    go_wp2
    go_returns
    exact ⟨rfl, rfl⟩
  · by_cases h1 : k = 1
    · subst h1
      go_enter Tryz.func90, Tryz.ntmps90
      go_wp2
      go_returns
      exact ⟨rfl, rfl⟩
    · have e0 : (k == 0) = false := by simpa using h0
      have e1 : (k == 1) = false := by simpa using h1
      rw [e0, e1]
      go_enter Tryz.func90, Tryz.ntmps90
      go_wp2
      go_returns
      exact ⟨rfl, rfl⟩

set_option maxHeartbeats 3200000 in
set_option maxRecDepth 100000 in
theorem longest_any (g : Int) {w : World} {v : Value} {l : List Hst.Ev} (hA : EvArg w v l) (hc : l.length ≤ 100000) :
    Calls Tryz.prog 42 #[v, .int .i64 g] w fun e w' => e = .returned (.int .i64 (lg l g).best) ∧ Below w.heap.size w w' := by
  obtain ⟨a, c, rfl, hE⟩ := evArg_slice hA
  have hr := fun k w => runnable_any k w
  have HR := Lib.hid hr
  clear hr hA
  go_enter Tryz.func42, Tryz.ntmps42
  go_wp2
  go_loopw [5, 6, 7, 12] (fun b f t i wr => ∃ j : Nat, i = .int .i64 (j : Int) ∧ j ≤ l.length ∧ b = .int .i64 (lg (l.take j) g).best ∧ f = .int .i64 (lg (l.take j) g).fro ∧ t = .bool (lg (l.take j) g).waits ∧ Below w.heap.size w wr) (fun _ _ _ i _ => l.length - (intOf i).toNat)
  case atStart => exact ⟨0, rfl, by omega, by simp [lg, lgRun], by simp [lg, lgRun], by simp [lg, lgRun], Below.refl _ w⟩
  case round =>
    obtain ⟨j, rfl, hj, rfl, rfl, rfl, K⟩ := hrel
    by_cases hp : j < l.length
    · rcases hE with rfl | ⟨b, o, rfl, hE⟩
      · simp at hp
      obtain ⟨e, he⟩ : ∃ e, l[j]? = some e := ⟨_, List.getElem?_eq_getElem hp⟩
      have hE2 := hE.below hE.lt K
      have c0 := hE2.ck j e he
      have c1 := hE2.cg j e he
      have c2 := hE2.cm j e he
      have c3 := hE2.cp j e he
      have c4 := hE2.cv j e he
      have hlt := hE2.lt
      have hpi : (j : Int) < l.length := by omega
      have hb := lg_bound (l.take j) g
      rw [List.length_take, Nat.min_eq_left hj] at hb
      have ht := lg_take he g
      obtain ⟨s, hs⟩ : ∃ s, s = lg (l.take j) g := ⟨_, rfl⟩
      rw [← hs] at hb ht ⊢
      obtain ⟨sb, sf, sw⟩ := s
      dsimp only at hb ⊢
      have HT := Lib.hid ht
      have w1 : IntKind.i64.wrap ((j : Int) - sf) = (j : Int) - sf := IntWalk.i64_in _ (by omega)
      have w2 : IntKind.i64.wrap ((j : Int) - sf - 1) = (j : Int) - sf - 1 := IntWalk.i64_in _ (by omega)
      clear ht hs he hE hE2
      by_cases hg : e.g = g
      · have hgb : (e.g != g) = false := by simpa using hg
        have HG := Lib.hid hg
        clear hg
        cases sw
        · go_wp2_with (go_at_call 90; refine (HR.out e.kind _).mono ?_; rintro e2 w2 ⟨rfl, rfl⟩)
          go_roundw
          case rel => exact ⟨j + 1, by go_num, hp, by rw [HT.out]; simp [lgStep, HG.out], by rw [HT.out]; simp [lgStep, HG.out], by rw [HT.out]; simp [lgStep, HG.out], by go_grown; exact K.size⟩
          case measure => simp [intOf]; omega
        · go_wp2_with (go_at_call 90; refine (HR.out e.kind _).mono ?_; rintro e2 w2 ⟨rfl, rfl⟩)
          go_roundw
          case rel => exact ⟨j + 1, by go_num, hp, by rw [HT.out]; simp [lgStep, HG.out], by rw [HT.out]; simp [lgStep, HG.out], by rw [HT.out]; simp [lgStep, HG.out], by go_grown; exact K.size⟩
          case measure => simp [intOf]; omega
      · have hgb : (e.g != g) = true := by simpa using hg
        have HG := Lib.hid hg
        clear hg
        go_wp2
        go_roundw
        case rel => exact ⟨j + 1, by go_num, hp, by rw [HT.out]; simp [lgStep, HG.out], by rw [HT.out]; simp [lgStep, HG.out], by rw [HT.out]; simp [lgStep, HG.out], by go_grown; exact K.size⟩
        case measure => simp [intOf]; omega
    · obtain rfl : j = l.length := by omega
      rw [List.take_length]
      have hpi : ¬ (l.length : Int) < l.length := by omega
      go_wp2
      go_returns
      exact ⟨rfl, K⟩

theorem orderG_take {l : List Hst.Ev} {j : Nat} {e : Hst.Ev} (h : l[j]? = some e) : orderG (l.take (j + 1)) = orderG (l.take j) ++ if e.kind == 2 then [e.g] else [] := by
  rw [take_at h, orderG_append]
  congr 1
  unfold orderG
  simp only [List.filter_cons, List.filter_nil]
  split <;> rfl

set_option maxHeartbeats 3200000 in
set_option maxRecDepth 100000 in
theorem torder_any {w : World} {v : Value} {l : List Hst.Ev} (hA : EvArg w v l) (hc : l.length ≤ 100000) :
    Calls Tryz.prog 41 #[v] w fun e w' => ∃ v', e = .returned v' ∧ w'.ownsRow w.heap.size 3 1 v' (orderG l).length (ints (orderG l)) ∧ Below w.heap.size w w' := by
  obtain ⟨a, c, rfl, hE⟩ := evArg_slice hA
  obtain ⟨i0, hi, hz0, hz1, hz2⟩ := info_parts Tryz.infoInt
  clear hA
  go_enter Tryz.func41, Tryz.ntmps41
  go_wp2
  go_loopw [3, 8] (fun o i wr => ∃ j : Nat, i = .int .i64 (j : Int) ∧ j ≤ l.length ∧ wr.ownsRow w.heap.size 3 1 o (orderG (l.take j)).length (ints (orderG (l.take j))) ∧ Below w.heap.size w wr) (fun _ i _ => l.length - (intOf i).toNat)
  case atStart => exact ⟨0, rfl, by omega, World.ownsRow_nil _ _ _ _, Below.refl _ w⟩
  case round =>
    obtain ⟨j, rfl, hj, hown, K⟩ := hrel
    by_cases hp : j < l.length
    · rcases hE with rfl | ⟨b, o, rfl, hE⟩
      · simp at hp
      obtain ⟨e, he⟩ : ∃ e, l[j]? = some e := ⟨_, List.getElem?_eq_getElem hp⟩
      have hE2 := hE.below hE.lt K
      have c0 := hE2.ck j e he
      have c1 := hE2.cg j e he
      have c2 := hE2.cm j e he
      have c3 := hE2.cp j e he
      have c4 := hE2.cv j e he
      have hlt := hE2.lt
      have hpi : (j : Int) < l.length := by omega
      have ht := orderG_take he
      have hol : (orderG (l.take j)).length ≤ 100000 := by have := orderG_le (l.take j); rw [List.length_take] at this; omega
      have HT := Lib.hid ht
      obtain ⟨q, hq⟩ : ∃ q, q = orderG (l.take j) := ⟨_, rfl⟩
      rw [← hq] at hown hol ht
      have HT := Lib.hid ht
      clear ht hq he hE hE2
      by_cases hk : e.kind = 2
      · have hkb : (e.kind == 2) = true := by simpa using hk
        have HK := Lib.hid hkb
        clear hk
        have hown2 := fun (o1 o2 : Obj) => own_below (own_below hown (below_alloc _ o1)) (below_alloc _ o2)
        go_wp2_with (first | (at_builtin; refine wpList_append_own _ rfl _ _ 33 rfl w.heap.size 3 i0 (.int .i64 0) 1 8 Tryz.underlying33 hi hz0 hz1 hz2 rfl (by decide) _ q.length _ rfl (hown2 _ _) ⟨wr.heap.size + 1, 0, none⟩ 1 1 [.int .i64 e.g] rfl rfl ?c1 ?c2 ?c3 ?c4 ?c5 ?_))
        case c1 =>
          intro k u hk
          match k, hk with
          | 0, hk => simp at hk; subst hk; simp [Addr.add]
        case c2 => intro u hu; simp at hu; subst hu; rfl
        case c3 => unfold maxLen; omega
        case c4 => omega
        case c5 => have := K.size; simp; omega
        intro v' w3 hown4 hgrow _
        have K3 : Below w.heap.size w w3 := ((K.alloc K.size _).alloc (by have := K.size; simp; omega) _).grown hgrow (by have := K.size; simp; omega) (fun k hk => (hown.lt k hk).1)
        clear hown hown2 hgrow K
        go_wp2
        go_roundw
        case rel => exact ⟨j + 1, by go_num, hp, by rw [HT.out, HK.out]; simpa [ints] using hown4, K3⟩
        case measure => simp [intOf]; omega
      · have hkb : (e.kind == 2) = false := by simpa using hk
        have HK := Lib.hid hkb
        have hown2 := fun (o1 : Obj) => own_below hown (below_alloc _ o1)
        have HO := Lib.hid hown2
        clear hk hown hown2
        go_wp2
        go_roundw
        case rel => exact ⟨j + 1, by go_num, hp, by rw [HT.out, HK.out]; simpa [ints] using HO.out _, by go_grown; exact K.size⟩
        case measure => simp [intOf]; omega
    · obtain rfl : j = l.length := by omega
      rw [List.take_length] at hown
      have hpi : ¬ (l.length : Int) < l.length := by omega
      have HO := Lib.hid hown
      clear hown
      go_wp2
      go_returns
      exact ⟨_, rfl, HO.out, K⟩
end Go.Proofs.YtfjepdcnikgjeaaGreatDoor
