/-
  The document's steps and texts of things, walked.
-/
import Derived.Test.YtfjepdcnikgjeaaGreatDoorBoxI
set_option linter.unusedVariables false
set_option linter.unusedSimpArgs false
set_option linter.unusedSectionVars false
namespace Go.Proofs.YtfjepdcnikgjeaaGreatDoor
open Go Go.RowKit Hst Go.Proofs

theorem one_rs (e : Hst.Stp) (w : World) (g c : Nat) (hg : g = w.heap.size) (cs : Array Value) (hc : cs = (encSt e).toArray) : RsArg (w.alloc (.cells cs 48)) (.slice (some ⟨g, 0, Option.none⟩) 1 c) [e] := by
  subst hg hc
  refine .inr (.inr ⟨w.heap.size, 0, c, rfl, by simp, ?_, ?_, ?_, ?_, ?_⟩)
  all_goals
    intro j x hx
    rw [Nat.zero_add, cell_new]
    match j, hx with
    | 0, hx => cases hx; rfl
theorem digB_take {l : List UInt8} {j : Nat} {b : UInt8} (h : l[j]? = some b) : digB (l.take (j + 1)) = digB (l.take j) ++ digOf (b.toNat : Int) := by
  rw [List.take_add_one, h, digB_append]
  simp [digB]

set_option maxHeartbeats 6400000 in
set_option maxRecDepth 100000 in
theorem rdigits_any (s : ByteArray) (hs : s.size ≤ 100000) (w : World) :
    Calls Tryz.prog 99 #[.string s] w fun e w' => ∃ v, e = .returned v ∧ w'.ownsRow w.heap.size 48 5 v ((digB s.data.toList).map dSt).length (encRss ((digB s.data.toList).map dSt)) ∧ Below w.heap.size w w' := by
  have hlen : s.data.toList.length = s.size := Array.length_toList
  go_enter Tryz.func99, Tryz.ntmps99
  go_wp2
  go_loopw [3, 4] (fun o i wr => ∃ j : Nat, i = .int .i64 (j : Int) ∧ j ≤ s.size ∧ wr.ownsRow w.heap.size 48 5 o ((digB (s.data.toList.take j)).map dSt).length (encRss ((digB (s.data.toList.take j)).map dSt)) ∧ Below w.heap.size w wr) (fun _ i _ => s.size - (intOf i).toNat)
  case atStart => exact ⟨0, rfl, by omega, World.ownsRow_nil _ _ _ _, Below.refl _ w⟩
  case round =>
    obtain ⟨j, rfl, hj, hown, K⟩ := hrel
    by_cases hp : j < s.size
    · have hpi : (j : Int) < s.size := by omega
      have hb : s.data.toList[j]? = some (s[j]'hp) := by
        rw [List.getElem?_eq_getElem (by omega)]; rfl
      have htk := digB_take hb
      have hdl := digB_length (s.data.toList.take j)
      rw [List.length_take, hlen] at hdl
      have h255 := UInt8.toNat_lt (s[j]'hp)
      generalize (digB (s.data.toList.take j)) = D at *
      have HT := Lib.hid htk
      have HO := Lib.hid hown
      clear hb htk hown
      by_cases hdg : 48 ≤ ((s[j]'hp).toNat : Int) ∧ ((s[j]'hp).toNat : Int) ≤ 57
      · have hdg2 : digOf ((s[j]'hp).toNat : Int) = [((s[j]'hp).toNat : Int) - 48] := by unfold digOf isDig; rw [if_pos (by simp; omega)]
        have HD := Lib.hid hdg2
        obtain ⟨h1, h2⟩ := hdg
        have e0 : IntKind.i64.wrap (((s[j]'hp).toNat : Int)) = ((s[j]'hp).toNat : Int) := IntWalk.i64_in _ (by omega)
        have e1 : IntKind.i64.wrap (((s[j]'hp).toNat : Int) - 48) = ((s[j]'hp).toNat : Int) - 48 := IntWalk.i64_in _ (by omega)
        clear hdg2
        go_wp2_with (first
          | (at_builtin; refine append_rs rfl _ _ rfl w.heap.size _ (D.map dSt) rfl (own_below HO.out (below_alloc _ _)) _ rfl [dSt (((s[j]'hp).toNat : Int) - 48)] (one_rs (dSt (((s[j]'hp).toNat : Int) - 48)) _ _ _ rfl _ rfl) (by simp; omega) (by have := K.size; simp; omega) ?_; intro v3 w3 hown3 hb3))
        have K3 : Below w.heap.size w w3 := (K.alloc K.size _).trans hb3
        have HW := Lib.hid hown3
        clear hown3 hb3
        go_wp2
        go_roundw
        case rel => exact ⟨j + 1, by go_num, hp, by rw [HT.out, HD.out]; simpa using HW.out, K3⟩
        case measure => simp [intOf]; omega
      · have hdg2 : digOf ((s[j]'hp).toNat : Int) = [] := by unfold digOf isDig; rw [if_neg (by simp; omega)]
        have HD := Lib.hid hdg2
        have hcase : ((48 : Int) ≤ ((s[j]'hp).toNat : Int) ∧ (57 : Int) < ((s[j]'hp).toNat : Int)) ∨ ((s[j]'hp).toNat : Int) < 48 := by omega
        clear hdg hdg2
        rcases hcase with ⟨h1, h2⟩ | h1
        all_goals
          go_wp2
          go_roundw
          case rel => exact ⟨j + 1, by go_num, hp, by rw [HT.out, HD.out, List.append_nil]; exact HO.out, K⟩
          case measure => simp [intOf]; omega
    · obtain rfl : j = s.size := by omega
      have hpi : ¬ (s.size : Int) < s.size := by omega
      rw [← hlen, List.take_length] at hown
      have HO := Lib.hid hown
      clear hown
      go_wp2
      go_returns
      exact ⟨_, rfl, by simpa using HO.out, K⟩

def Thg.ok (t : Thg) : Prop := t.text.size ≤ 1000
theorem stepsTs_take {l : List Thg} {j : Nat} {e : Thg} (h : l[j]? = some e) : stepsTs (l.take (j + 1)) = stepsTs (l.take j) ++ stepsT e := by
  rw [List.take_add_one, h]
  simp [stepsTs]
theorem runesTs_take {l : List Thg} {j : Nat} {e : Thg} (h : l[j]? = some e) : runesTs (l.take (j + 1)) = runesTs (l.take j) ++ runesT e := by
  rw [List.take_add_one, h]
  simp [runesTs]
theorem stepsT_len {t : Thg} (h : t.ok) : (stepsT t).length ≤ 1000 := by
  unfold stepsT
  split
  · simp
  · split
    · simp
    · split
      · have h1 := digB_length t.text.data.toList
        have h2 : t.text.data.toList.length = t.text.size := Array.length_toList
        have h3 : t.text.size ≤ 1000 := h
        rw [List.length_map]; omega
      · simp
theorem stepsTs_len {l : List Thg} (h : ∀ e ∈ l, e.ok) : (stepsTs l).length ≤ l.length * 1000 := by
  induction l with
  | nil => simp [stepsTs]
  | cons a t ih =>
    have := ih (fun e he => h e (List.mem_cons_of_mem _ he))
    have h1 := stepsT_len (h a (List.mem_cons_self ..))
    unfold stepsTs at this ⊢
    simp only [List.flatMap_cons, List.length_append, List.length_cons]
    omega
theorem runesTs_len {l : List Thg} (h : ∀ e ∈ l, e.ok) : (runesTs l).length ≤ l.length * 1000 := by
  induction l with
  | nil => simp [runesTs]
  | cons a t ih =>
    have := ih (fun e he => h e (List.mem_cons_of_mem _ he))
    have h1 : (runesT a).length ≤ 1000 := by
      have h3 : a.text.size ≤ 1000 := h a (List.mem_cons_self ..)
      have h2 : a.text.data.toList.length = a.text.size := Array.length_toList
      unfold runesT
      split
      · omega
      · simp
    unfold runesTs at this ⊢
    simp only [List.flatMap_cons, List.length_append, List.length_cons]
    omega
end Go.Proofs.YtfjepdcnikgjeaaGreatDoor
