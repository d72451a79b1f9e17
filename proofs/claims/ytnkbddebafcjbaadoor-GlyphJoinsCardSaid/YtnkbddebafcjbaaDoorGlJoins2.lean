/-
  GlyphJoins, walked.
-/
import Derived.Test.YtnkbddebafcjbaaDoorGlJoins1
namespace Go.Proofs.YtnkbddebafcjbaaDoor
open Go Go.RowKit Go.Proofs

set_option maxHeartbeats 8000000 in
set_option maxRecDepth 1000000 in
theorem joins_any (pa pm : Option Addr) (ca cm : Nat) (l m : List Ev) (w : World) (hA : EvArg w (.slice pa l.length ca) l) (hM : EvArg w (.slice pm m.length cm) m) (hvl : inI64 l) (hvm : inI64 m) (h : KindsAt w) (ht : TabAt w) :
    Calls Tryd.prog 5 #[.slice pa l.length ca, .slice pm m.length cm] w fun r w' => r = .returned (.bool true) ∧ Below w.heap.size w w' := by
  by_cases hs : 20 < l.length ∨ 20 < m.length
  · have hsI : (20 : Int) < l.length ∨ ((l.length : Int) ≤ 20 ∧ (20 : Int) < m.length) := by omega
    clear hs
    rcases hsI with hs | ⟨hs0, hs⟩
    all_goals
      go_enter Tryd.func5, Tryd.ntmps5
      go_wp2_with (go_at_call 8; refine (lives_any _ h ht).mono ?_)
      rintro e w1 ⟨rfl, hb⟩
      have h1 := h.below hb
      have t1 := tab_below ht hb
      go_wp2_with (go_at_call 8; refine (lives_any _ h1 t1).mono ?_)
      rintro e w2 ⟨rfl, hb2⟩
      have K := hb.trans (hb2.mono hb.size)
      clear hb hb2 h1 t1 h ht hA hM
      go_wp2
      go_returns
      exact ⟨rfl, K⟩
  · have hl : (l.length : Int) ≤ 20 := by omega
    have hm : (m.length : Int) ≤ 20 := by omega
    have hlN : l.length ≤ 100 := by omega
    have hmN : m.length ≤ 100 := by omega
    clear hs
    have HL := Lib.hid hlN
    have HM := Lib.hid hmN
    clear hlN hmN
    go_enter Tryd.func5, Tryd.ntmps5
    go_wp2_with (go_at_call 8; refine (lives_any _ h ht).mono ?_)
    rintro e w1 ⟨rfl, K⟩
    by_cases hrl : ∀ e ∈ l, rightOf e = true
    · by_cases hrm : ∀ e ∈ m, rightOf e = true
      · go_wp2_with (go_at_call 15; refine (print_good (hA.below K) HL.out hrl hvl (h.below K) (tab_below ht K)).mono ?_)
        rintro e w2 ⟨rfl, hb⟩
        have K := K.trans (hb.mono K.size)
        clear hb
        go_wp2_with (go_at_call 15; refine (print_good (hM.below K) HM.out hrm hvm (h.below K) (tab_below ht K)).mono ?_)
        rintro e w3 ⟨rfl, hb⟩
        have K := K.trans (hb.mono K.size)
        clear hb
        go_wp2
        go_loopw [9, 10] (fun sv iv wr => Below w.heap.size w wr ∧ ∃ j : Nat, iv = .int .i64 (j : Int) ∧ j ≤ l.length ∧ ((sv = .bool true ∧ sameTo l m j) ∨ (sv = .bool false ∧ l ≠ m))) (fun _ iv _ => l.length - iOf iv)
        case atStart =>
          refine ⟨K, 0, rfl, by omega, ?_⟩
          by_cases hq : l.length = m.length
          · exact .inl ⟨by rw [hq]; simp, hq, fun i hi => absurd hi (by omega)⟩
          · refine .inr ⟨?_, fun e => hq (by rw [e])⟩
            congr 1
            rw [beq_eq_false_iff_ne]
            omega
        case round =>
          obtain ⟨K, j, rfl, hj, hsame⟩ := hrel
          rcases hsame with ⟨rfl, hsame⟩ | ⟨rfl, hne⟩
          · by_cases hp : (j : Int) < l.length
            · have hpN : j < l.length := by omega
              have hpM : j < m.length := by have := hsame.1; omega
              obtain ⟨e, he⟩ : ∃ e, l[j]? = some e := ⟨_, List.getElem?_eq_getElem hpN⟩
              obtain ⟨f, hf⟩ : ∃ f, m[j]? = some f := ⟨_, List.getElem?_eq_getElem hpM⟩
              have hpmI : (j : Int) < m.length := by omega
              rcases hA.below K with ⟨_, h0⟩ | ⟨_, _, _, h0⟩ | ⟨b, o, c, hva, hE⟩
              · rw [h0] at hpN; cases hpN
              · rw [h0] at hpN; cases hpN
              rcases hM.below K with ⟨_, h0⟩ | ⟨_, _, _, h0⟩ | ⟨b', o', c', hvm', hF⟩
              · rw [h0] at hpM; cases hpM
              · rw [h0] at hpM; cases hpM
              simp only [Value.slice.injEq, true_and] at hva hvm'
              obtain ⟨rfl, rfl⟩ := hva
              obtain ⟨rfl, rfl⟩ := hvm'
              have c0 := hE.ck j e he
              have c1 := hE.cg j e he
              have c2 := hE.cm j e he
              have c3 := hE.cp j e he
              have c4 := hE.cv j e he
              have d0 := hF.ck j f hf
              have d1 := hF.cg j f hf
              have d2 := hF.cm j f hf
              have d3 := hF.cp j f hf
              have d4 := hF.cv j f hf
              have HS := Lib.hid hsame
              have HE := Lib.hid he
              have HF := Lib.hid hf
              clear hsame he hf hE hF hpN hpM
              have q1 := fun w => eql_ev e f w
              have q2 : Tryd.prog.eqGuardType Tryd.prog.depth 38 = false := by kernel_rfl
              go_wp2
              go_quiet (fail)
              have K := below_drewN K nq
              clear q1 q2 c0 c1 c2 c3 c4 d0 d1 d2 d3 d4
              go_wp2
              go_roundw
              case rel =>
                refine ⟨K, j + 1, by simp, by omega, ?_⟩
                cases hq : beqEv e f with
                | true =>
                  have hef := (beqEv_iff e f).1 hq
                  refine .inl ⟨rfl, HS.out.1, fun i hi => ?_⟩
                  rcases Nat.lt_or_ge i j with h | h
                  · exact HS.out.2 i h
                  · obtain rfl : i = j := by omega
                    rw [HE.out, HF.out, hef]
                | false =>
                  refine .inr ⟨rfl, fun hlm => ?_⟩
                  have h1 := HE.out
                  rw [hlm, HF.out] at h1
                  rw [(beqEv_iff e f).2 (Option.some.inj h1).symm] at hq
                  cases hq
              case measure => simp only [iOf_int]; omega
            · have hsz : l.length = m.length := hsame.1
              have hlm : l = m := by
                apply List.ext_getElem?
                intro i
                rcases Nat.lt_or_ge i j with h | h
                · exact hsame.2 i h
                · rw [List.getElem?_eq_none (by omega), List.getElem?_eq_none (by omega)]
              have HS := Lib.hid hlm
              have hp2 : (l.length : Int) ≤ j := by omega
              clear hsame hlm hsz hp
              go_wp2_with (at_builtin; refine append_ev rfl _ _ rfl w.heap.size _ [] rfl (own_empty K) _ rfl l (hA.below (K.alloc K.size _)) (by simp; omega) (by have := K.size; simp; omega) ?_)
              intro v1 W1 o1 b1
              have K := (K.alloc K.size _).trans b1
              have o1 : W1.ownsRow w.heap.size 38 5 v1 l.length (flat l) := o1
              clear b1
              go_wp2_with (at_builtin; refine append_ev rfl _ _ rfl w.heap.size _ l rfl o1 _ rfl m (hM.below K) (by omega) K.size ?_)
              intro v2 W2 o2 b2
              have K := K.trans b2
              have o2 : W2.ownsRow w.heap.size 38 5 v2 (l ++ m).length (flat (l ++ m)) := by rw [List.length_append]; exact o2
              clear b2 o1
              go_wp2_with (go_at_call 15; refine (print_good (l := l ++ m) (own_arg o2) (by simp; omega) (by simpa using fun e he => he.elim (hrl e) (hrm e)) (fun e he => by simp at he; exact he.elim (hvl e) (hvm e)) (h.below K) (tab_below ht K)).mono ?_)
              rintro e w4 ⟨rfl, hb⟩
              have K := K.trans (hb.mono K.size)
              clear hb o2
              have hT := text_both l m
              have hL := text_le (l ++ m) (by simpa using fun e he => he.elim (hrl e) (hrm e)) (fun e he => by simp at he; exact he.elim (hvl e) (hvm e))
              have hL2 : (textOf (l ++ m)).length ≤ 5000 := by rw [List.length_append] at hL; omega
              have hLA := text_le l hrl hvl
              have hLA2 : (textOf l).length ≤ 2100 := by omega
              have hLB := text_le m hrm hvm
              have hLB2 : (textOf m).length ≤ 2100 := by omega
              have hS : textOf l = textOf m := by rw [HS.out]
              clear hL hLA hLB hA hM hvl hvm hrl hrm h ht HS
              revert hT hL2 hLA2 hLB2 hS
              generalize textOf (l ++ m) = C
              generalize textOf l = A
              generalize textOf m = B
              intro hT hL2 hLA2 hLB2 hS
              subst hS
              have q1 : (⟨A.toArray⟩ : ByteArray) ++ ⟨#[32]⟩ = ⟨(A ++ [32]).toArray⟩ := cat_arr A [32]
              have q2 : (⟨(A ++ [32]).toArray⟩ : ByteArray) ++ ⟨A.toArray⟩ = ⟨(A ++ 32 :: A).toArray⟩ := by rw [cat_arr]; simp
              have q3 : (⟨A.toArray⟩ : ByteArray) ++ ⟨A.toArray⟩ = ⟨(A ++ A).toArray⟩ := cat_arr A A
              have hLI : (A.length : Int) ≤ 2100 := by omega
              have hLJ : (A.length : Int) ≤ 2100 := by omega
              have hC1 : (⟨C.toArray⟩ : ByteArray).size ≤ 1000000 := by rw [szA]; omega
              have hC2 : (Lib.runeCount ⟨C.toArray⟩ : Int) ≤ C.length := by have := Lib.runeCount_le ⟨C.toArray⟩; rw [szA] at this; omega
              have HC := Lib.hid hC2
              clear hC2 hL2
              rcases hT with ⟨hT1, hT2⟩ | ⟨⟨hT1, hT3⟩, hT2⟩
              · have hE : A.isEmpty = true := by rcases hT1 with h | h <;> (rw [h]; rfl)
                subst hT2
                clear hT1
                go_wp2_with (go_at_call 13; refine (count_any ⟨(A ++ A).toArray⟩ hC1 _).mono ?_; rintro e W ⟨rfl, hb⟩; have K := K.trans (hb.mono K.size); clear hb)
                go_returns
                exact ⟨congrArg (fun b => Ending.returned (.bool b)) (decide_eq_true (by have := HC.out; simp at this; omega)), K⟩
              · have hE : A.isEmpty = false := by cases A with | nil => exact absurd rfl hT1 | cons _ _ => rfl
                subst hT2
                clear hT3
                go_wp2_with (go_at_call 13; refine (count_any ⟨(A ++ 32 :: A).toArray⟩ hC1 _).mono ?_; rintro e W ⟨rfl, hb⟩; have K := K.trans (hb.mono K.size); clear hb)
                go_returns
                exact ⟨congrArg (fun b => Ending.returned (.bool b)) (decide_eq_true (by have := HC.out; simp at this; omega)), K⟩
          · have HS := Lib.hid hne
            clear hne
            go_wp2_with (at_builtin; refine append_ev rfl _ _ rfl w.heap.size _ [] rfl (own_empty K) _ rfl l (hA.below (K.alloc K.size _)) (by simp; omega) (by have := K.size; simp; omega) ?_)
            intro v1 W1 o1 b1
            have K := (K.alloc K.size _).trans b1
            have o1 : W1.ownsRow w.heap.size 38 5 v1 l.length (flat l) := o1
            clear b1
            go_wp2_with (at_builtin; refine append_ev rfl _ _ rfl w.heap.size _ l rfl o1 _ rfl m (hM.below K) (by omega) K.size ?_)
            intro v2 W2 o2 b2
            have K := K.trans b2
            have o2 : W2.ownsRow w.heap.size 38 5 v2 (l ++ m).length (flat (l ++ m)) := by rw [List.length_append]; exact o2
            clear b2 o1
            go_wp2_with (go_at_call 15; refine (print_good (l := l ++ m) (own_arg o2) (by simp; omega) (by simpa using fun e he => he.elim (hrl e) (hrm e)) (fun e he => by simp at he; exact he.elim (hvl e) (hvm e)) (h.below K) (tab_below ht K)).mono ?_)
            rintro e w4 ⟨rfl, hb⟩
            have K := K.trans (hb.mono K.size)
            clear hb o2
            have hT := text_both l m
            have hL := text_le (l ++ m) (by simpa using fun e he => he.elim (hrl e) (hrm e)) (fun e he => by simp at he; exact he.elim (hvl e) (hvm e))
            have hL2 : (textOf (l ++ m)).length ≤ 5000 := by rw [List.length_append] at hL; omega
            have hLA := text_le l hrl hvl
            have hLA2 : (textOf l).length ≤ 2100 := by omega
            have hLB := text_le m hrm hvm
            have hLB2 : (textOf m).length ≤ 2100 := by omega
            have hS : ¬ textOf l = textOf m := fun e => HS.out (text_inj l m hrl hrm e)
            clear hL hLA hLB hA hM hvl hvm hrl hrm h ht HS
            revert hT hL2 hLA2 hLB2 hS
            generalize textOf (l ++ m) = C
            generalize textOf l = A
            generalize textOf m = B
            intro hT hL2 hLA2 hLB2 hS
            have hS2 : (A == B) = false := beq_eq_false_iff_ne.2 hS
            have q1 : (⟨A.toArray⟩ : ByteArray) ++ ⟨#[32]⟩ = ⟨(A ++ [32]).toArray⟩ := cat_arr A [32]
            have q2 : (⟨(A ++ [32]).toArray⟩ : ByteArray) ++ ⟨B.toArray⟩ = ⟨(A ++ 32 :: B).toArray⟩ := by rw [cat_arr]; simp
            have q3 : (⟨A.toArray⟩ : ByteArray) ++ ⟨B.toArray⟩ = ⟨(A ++ B).toArray⟩ := cat_arr A B
            have hLI : (A.length : Int) ≤ 2100 := by omega
            have hLJ : (B.length : Int) ≤ 2100 := by omega
            have hC1 : (⟨C.toArray⟩ : ByteArray).size ≤ 1000000 := by rw [szA]; omega
            have hC2 : (Lib.runeCount ⟨C.toArray⟩ : Int) ≤ C.length := by have := Lib.runeCount_le ⟨C.toArray⟩; rw [szA] at this; omega
            have HC := Lib.hid hC2
            clear hC2 hL2
            rcases hT with ⟨hT1, hT2⟩ | ⟨⟨hT1, hT3⟩, hT2⟩
            · subst hT2
              cases hEA : A.isEmpty with
              | true =>
                clear hT1
                go_wp2_with (go_at_call 13; refine (count_any ⟨(A ++ B).toArray⟩ hC1 _).mono ?_; rintro e W ⟨rfl, hb⟩; have K := K.trans (hb.mono K.size); clear hb)
                go_returns
                exact ⟨congrArg (fun b => Ending.returned (.bool b)) (decide_eq_true (by have := HC.out; simp at this; omega)), K⟩
              | false =>
                have hEB : B.isEmpty = true := by
                  rcases hT1 with h | h
                  · rw [h] at hEA; cases hEA
                  · rw [h]; rfl
                clear hT1
                go_wp2_with (go_at_call 13; refine (count_any ⟨(A ++ B).toArray⟩ hC1 _).mono ?_; rintro e W ⟨rfl, hb⟩; have K := K.trans (hb.mono K.size); clear hb)
                go_returns
                exact ⟨congrArg (fun b => Ending.returned (.bool b)) (decide_eq_true (by have := HC.out; simp at this; omega)), K⟩
            · have hE : A.isEmpty = false := by cases A with | nil => exact absurd rfl hT1 | cons _ _ => rfl
              have hE3 : B.isEmpty = false := by cases B with | nil => exact absurd rfl hT3 | cons _ _ => rfl
              subst hT2
              go_wp2_with (go_at_call 13; refine (count_any ⟨(A ++ 32 :: B).toArray⟩ hC1 _).mono ?_; rintro e W ⟨rfl, hb⟩; have K := K.trans (hb.mono K.size); clear hb)
              go_returns
              exact ⟨congrArg (fun b => Ending.returned (.bool b)) (decide_eq_true (by have := HC.out; simp at this; omega)), K⟩
      · have hx : ∃ e ∈ m, rightOf e = false := by simpa using hrm
        clear hrm
        go_wp2_with (go_at_call 15; refine (print_good (hA.below K) HL.out hrl hvl (h.below K) (tab_below ht K)).mono ?_)
        rintro e w2 ⟨rfl, hb⟩
        have K := K.trans (hb.mono K.size)
        clear hb
        go_wp2_with (go_at_call 15; refine (print_none (hM.below K) HM.out hx hvm (h.below K) (tab_below ht K)).mono ?_)
        rintro e w3 ⟨rfl, hb⟩
        have K := K.trans (hb.mono K.size)
        clear hb hx hrl hA hM h ht
        go_wp2
        go_returns
        exact ⟨rfl, K⟩
    · have hx : ∃ e ∈ l, rightOf e = false := by simpa using hrl
      clear hrl
      go_wp2_with (go_at_call 15; refine (print_none (hA.below K) HL.out hx hvl (h.below K) (tab_below ht K)).mono ?_)
      rintro e w2 ⟨rfl, hb⟩
      have K := K.trans (hb.mono K.size)
      clear hb hx
      by_cases hrm : ∀ e ∈ m, rightOf e = true
      · go_wp2_with (go_at_call 15; refine (print_good (hM.below K) HM.out hrm hvm (h.below K) (tab_below ht K)).mono ?_)
        rintro e w3 ⟨rfl, hb⟩
        have K := K.trans (hb.mono K.size)
        clear hb hrm hA hM h ht
        go_wp2
        go_returns
        exact ⟨rfl, K⟩
      · have hx : ∃ e ∈ m, rightOf e = false := by simpa using hrm
        clear hrm
        go_wp2_with (go_at_call 15; refine (print_none (hM.below K) HM.out hx hvm (h.below K) (tab_below ht K)).mono ?_)
        rintro e w3 ⟨rfl, hb⟩
        have K := K.trans (hb.mono K.size)
        clear hb hx hA hM h ht
        go_wp2
        go_returns
        exact ⟨rfl, K⟩
end Go.Proofs.YtnkbddebafcjbaaDoor
