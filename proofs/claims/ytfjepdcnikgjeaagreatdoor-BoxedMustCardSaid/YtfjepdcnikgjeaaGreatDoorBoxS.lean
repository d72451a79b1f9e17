/-
  boxed.Steps, walked by the kind of each thing. (Written by a program of ours.)
-/
import Derived.Laws.Runes
import Derived.Laws.Cover4
import Derived.Test.YtfjepdcnikgjeaaGreatDoorBoxV
set_option linter.unusedVariables false
set_option linter.unusedSimpArgs false
set_option linter.unusedSectionVars false
namespace Go.Proofs.YtfjepdcnikgjeaaGreatDoor
open Go Go.RowKit Hst Go.Proofs

set_option maxHeartbeats 6400000 in
set_option maxRecDepth 100000 in
theorem steps_any {w : World} {v : Value} {l : List Bx} (hA : AnyArg w v l) (hl : l.length ≤ 400) (hok : ∀ e ∈ l, e.ok) :
    Calls Tryz.prog 48 #[v] w fun e w' => ∃ v', e = .returned v' ∧ w'.ownsRow w.heap.size 40 5 v' (stepsBs l).length (encSts (stepsBs l)) ∧ Below w.heap.size w w' := by
  obtain ⟨a, c, rfl, hE⟩ := hA
  have hdg := fun s hs w => digits_any s hs w
  have HDG := Lib.hid hdg
  clear hdg
  go_enter Tryz.func48, Tryz.ntmps48
  go_wp2
  go_loopw [3, 12] (fun o i wr => ∃ j : Nat, i = .int .i64 (j : Int) ∧ j ≤ l.length ∧ wr.ownsRow w.heap.size 40 5 o (stepsBs (l.take j)).length (encSts (stepsBs (l.take j))) ∧ Below w.heap.size w wr) (fun _ i _ => l.length - (intOf i).toNat)
  case atStart => exact ⟨0, rfl, by omega, World.ownsRow_nil _ _ _ _, Below.refl _ w⟩
  case round =>
    obtain ⟨j, rfl, hj, hown, K⟩ := hrel
    by_cases hp : j < l.length
    · rcases hE with rfl | ⟨b, o, rfl, hbl, hE⟩
      · simp at hp
      obtain ⟨e, he⟩ : ∃ e, l[j]? = some e := ⟨_, List.getElem?_eq_getElem hp⟩
      have c0 := (below_cell K hbl).trans (hE j e he)
      have hbw : b < wr.heap.size := Nat.lt_of_lt_of_le hbl K.size
      have hpi : (j : Int) < l.length := by omega
      have hsl := stepsBs_len (l := l.take j) (fun x hx => hok x (List.mem_of_mem_take hx))
      rw [List.length_take] at hsl
      have heok := hok e (List.mem_of_getElem? he)
      have htk := stepsBs_take he
      generalize stepsBs (l.take j) = D at *
      have HT := Lib.hid htk
      have HO := Lib.hid hown
      clear htk hown he
      cases e
      case step s =>
        change wr.cell? _ = some (.iface 40 (.agg #[.int .u8 (s.kind : Nat), .int .u8 (s.act : Nat), .int .i64 s.a, .int .i64 s.x, .int .i64 s.d])) at c0
        have q_ta_step : ∀ w, (Instr.typeAssert (.iface 40 (.agg #[.int .u8 (s.kind : Nat), .int .u8 (s.act : Nat), .int .i64 s.a, .int .i64 s.x, .int .i64 s.d])) 20 40 true).run Tryz.prog w = .ok (.tuple #[(.agg #[.int .u8 (s.kind : Nat), .int .u8 (s.act : Nat), .int .i64 s.a, .int .i64 s.x, .int .i64 s.d]), .bool true]) w := ta_step (.step s)
        have q_ta_int : ∀ w, (Instr.typeAssert (.iface 40 (.agg #[.int .u8 (s.kind : Nat), .int .u8 (s.act : Nat), .int .i64 s.a, .int .i64 s.x, .int .i64 s.d])) 20 3 true).run Tryz.prog w = .ok (.tuple #[(.int .i64 0), .bool false]) w := ta_int (.step s)
        have q_ta_text : ∀ w, (Instr.typeAssert (.iface 40 (.agg #[.int .u8 (s.kind : Nat), .int .u8 (s.act : Nat), .int .i64 s.a, .int .i64 s.x, .int .i64 s.d])) 20 9 true).run Tryz.prog w = .ok (.tuple #[(.string ⟨#[]⟩), .bool false]) w := ta_text (.step s)
        have q_ta_rune : ∀ w, (Instr.typeAssert (.iface 40 (.agg #[.int .u8 (s.kind : Nat), .int .u8 (s.act : Nat), .int .i64 s.a, .int .i64 s.x, .int .i64 s.d])) 20 21 true).run Tryz.prog w = .ok (.tuple #[(.int .i32 0), .bool false]) w := ta_rune (.step s)
        clear hok
        simp only [stepsB] at HT
        go_wp2_with (first
          | (at_builtin; refine append_st rfl _ _ rfl w.heap.size _ D rfl (own_below (own_below HO.out (below_alloc wr _)) (below_alloc _ _)) _ rfl [s] (one_st2 (s) _ _ _ (by simp) _ rfl) (by simp; omega) (by have := K.size; simp; omega) ?_; intro v3 w3 hown3 hb3))
        have K3 : Below w.heap.size w w3 := ((K.alloc K.size _).alloc (by have := K.size; simp; omega) _).trans hb3
        have HW := Lib.hid hown3
        clear hown3 hb3
        go_wp2
        go_roundw
        case rel => exact ⟨j + 1, by go_num, hp, by rw [HT.out]; exact HW.out, K3⟩
        case measure => simp [intOf]; omega
      case num n =>
        change wr.cell? _ = some (.iface 3 (.int .i64 n)) at c0
        have q_ta_step : ∀ w, (Instr.typeAssert (.iface 3 (.int .i64 n)) 20 40 true).run Tryz.prog w = .ok (.tuple #[(.agg #[.int .u8 0, .int .u8 0, .int .i64 0, .int .i64 0, .int .i64 0]), .bool false]) w := ta_step (.num n)
        have q_ta_int : ∀ w, (Instr.typeAssert (.iface 3 (.int .i64 n)) 20 3 true).run Tryz.prog w = .ok (.tuple #[(.int .i64 n), .bool true]) w := ta_int (.num n)
        have q_ta_text : ∀ w, (Instr.typeAssert (.iface 3 (.int .i64 n)) 20 9 true).run Tryz.prog w = .ok (.tuple #[(.string ⟨#[]⟩), .bool false]) w := ta_text (.num n)
        have q_ta_rune : ∀ w, (Instr.typeAssert (.iface 3 (.int .i64 n)) 20 21 true).run Tryz.prog w = .ok (.tuple #[(.int .i32 0), .bool false]) w := ta_rune (.num n)
        clear hok
        simp only [stepsB] at HT
        go_wp2_with (first
          | (at_builtin; refine append_st rfl _ _ rfl w.heap.size _ D rfl (own_below HO.out (below_alloc wr _)) _ rfl [dSt n] (one_st2 (dSt n) _ _ _ (by simp) _ rfl) (by simp; omega) (by have := K.size; simp; omega) ?_; intro v3 w3 hown3 hb3))
        have K3 : Below w.heap.size w w3 := (K.alloc K.size _).trans hb3
        have HW := Lib.hid hown3
        clear hown3 hb3
        go_wp2
        go_roundw
        case rel => exact ⟨j + 1, by go_num, hp, by rw [HT.out]; exact HW.out, K3⟩
        case measure => simp [intOf]; omega
      case text s =>
        change wr.cell? _ = some (.iface 9 (.string s)) at c0
        have q_ta_step : ∀ w, (Instr.typeAssert (.iface 9 (.string s)) 20 40 true).run Tryz.prog w = .ok (.tuple #[(.agg #[.int .u8 0, .int .u8 0, .int .i64 0, .int .i64 0, .int .i64 0]), .bool false]) w := ta_step (.text s)
        have q_ta_int : ∀ w, (Instr.typeAssert (.iface 9 (.string s)) 20 3 true).run Tryz.prog w = .ok (.tuple #[(.int .i64 0), .bool false]) w := ta_int (.text s)
        have q_ta_text : ∀ w, (Instr.typeAssert (.iface 9 (.string s)) 20 9 true).run Tryz.prog w = .ok (.tuple #[(.string s), .bool true]) w := ta_text (.text s)
        have q_ta_rune : ∀ w, (Instr.typeAssert (.iface 9 (.string s)) 20 21 true).run Tryz.prog w = .ok (.tuple #[(.int .i32 0), .bool false]) w := ta_rune (.text s)
        clear hok
        simp only [stepsB] at HT
        go_wp2_with fail
        refine (HDG.out s (by have : s.size ≤ 1000 := heok; omega) wr).mono ?_
        rintro e2 w2 ⟨v2, rfl, hown2, hb2⟩
        have hown1 := own_below HO.out hb2
        have K2 := K.trans (hb2.mono K.size)
        have hl2 := (show (digB s.data.toList).length ≤ 1000 from by have h1 := digB_length s.data.toList; have h2 : s.data.toList.length = s.size := Array.length_toList; have h3 : s.size ≤ 1000 := heok; omega)
        have HA2 := Lib.hid (own_starg hown2)
        have H1 := Lib.hid hown1
        clear hown2 hown1 hb2
        go_wp2_with (first
          | (at_builtin; refine append_st rfl _ _ rfl w.heap.size _ D rfl H1.out _ rfl _ HA2.out (by rw [List.length_map]; omega) K2.size ?_; intro v3 w3 hown3 hb3))
        have K3 : Below w.heap.size w w3 := K2.trans hb3
        have HW := Lib.hid hown3
        clear hown3 hb3
        go_wp2
        go_roundw
        case rel => exact ⟨j + 1, by go_num, hp, by rw [HT.out]; exact HW.out, K3⟩
        case measure => simp [intOf]; omega
      case rune r =>
        change wr.cell? _ = some (.iface 21 (.int .i32 r)) at c0
        have q_ta_step : ∀ w, (Instr.typeAssert (.iface 21 (.int .i32 r)) 20 40 true).run Tryz.prog w = .ok (.tuple #[(.agg #[.int .u8 0, .int .u8 0, .int .i64 0, .int .i64 0, .int .i64 0]), .bool false]) w := ta_step (.rune r)
        have q_ta_int : ∀ w, (Instr.typeAssert (.iface 21 (.int .i32 r)) 20 3 true).run Tryz.prog w = .ok (.tuple #[(.int .i64 0), .bool false]) w := ta_int (.rune r)
        have q_ta_text : ∀ w, (Instr.typeAssert (.iface 21 (.int .i32 r)) 20 9 true).run Tryz.prog w = .ok (.tuple #[(.string ⟨#[]⟩), .bool false]) w := ta_text (.rune r)
        have q_ta_rune : ∀ w, (Instr.typeAssert (.iface 21 (.int .i32 r)) 20 21 true).run Tryz.prog w = .ok (.tuple #[(.int .i32 r), .bool true]) w := ta_rune (.rune r)
        clear hok
        simp only [stepsB] at HT
        go_wp2_with fail
        refine (HDG.out (Utf8.encode r) (by have := encode_size_le r; omega) wr).mono ?_
        rintro e2 w2 ⟨v2, rfl, hown2, hb2⟩
        have hown1 := own_below HO.out hb2
        have K2 := K.trans (hb2.mono K.size)
        have hl2 := (show (digB (Utf8.encode r).data.toList).length ≤ 1000 from by rw [encode_list, digB_encode]; have := digOf_len r; omega)
        have HA2 := Lib.hid (own_starg hown2)
        have H1 := Lib.hid hown1
        clear hown2 hown1 hb2
        rw [encode_list, digB_encode] at HA2 hl2
        go_wp2_with (first
          | (at_builtin; refine append_st rfl _ _ rfl w.heap.size _ D rfl H1.out _ rfl _ HA2.out (by rw [List.length_map]; omega) K2.size ?_; intro v3 w3 hown3 hb3))
        have K3 : Below w.heap.size w w3 := K2.trans hb3
        have HW := Lib.hid hown3
        clear hown3 hb3
        go_wp2
        go_roundw
        case rel => exact ⟨j + 1, by go_num, hp, by rw [HT.out]; exact HW.out, K3⟩
        case measure => simp [intOf]; omega
      case none =>
        change wr.cell? _ = some (.nilIface) at c0
        have q_ta_step : ∀ w, (Instr.typeAssert (.nilIface) 20 40 true).run Tryz.prog w = .ok (.tuple #[(.agg #[.int .u8 0, .int .u8 0, .int .i64 0, .int .i64 0, .int .i64 0]), .bool false]) w := ta_step (.none)
        have q_ta_int : ∀ w, (Instr.typeAssert (.nilIface) 20 3 true).run Tryz.prog w = .ok (.tuple #[(.int .i64 0), .bool false]) w := ta_int (.none)
        have q_ta_text : ∀ w, (Instr.typeAssert (.nilIface) 20 9 true).run Tryz.prog w = .ok (.tuple #[(.string ⟨#[]⟩), .bool false]) w := ta_text (.none)
        have q_ta_rune : ∀ w, (Instr.typeAssert (.nilIface) 20 21 true).run Tryz.prog w = .ok (.tuple #[(.int .i32 0), .bool false]) w := ta_rune (.none)
        clear hok
        simp only [stepsB, List.append_nil] at HT
        have HW := Lib.hid HO.out
        go_wp2
        go_roundw
        case rel => exact ⟨j + 1, by go_num, hp, by rw [HT.out]; exact HW.out, K⟩
        case measure => simp [intOf]; omega
      case config v =>
        change wr.cell? _ = some (.iface 24 v) at c0
        have q_ta_step : ∀ w, (Instr.typeAssert (.iface 24 v) 20 40 true).run Tryz.prog w = .ok (.tuple #[(.agg #[.int .u8 0, .int .u8 0, .int .i64 0, .int .i64 0, .int .i64 0]), .bool false]) w := ta_step (.config v)
        have q_ta_int : ∀ w, (Instr.typeAssert (.iface 24 v) 20 3 true).run Tryz.prog w = .ok (.tuple #[(.int .i64 0), .bool false]) w := ta_int (.config v)
        have q_ta_text : ∀ w, (Instr.typeAssert (.iface 24 v) 20 9 true).run Tryz.prog w = .ok (.tuple #[(.string ⟨#[]⟩), .bool false]) w := ta_text (.config v)
        have q_ta_rune : ∀ w, (Instr.typeAssert (.iface 24 v) 20 21 true).run Tryz.prog w = .ok (.tuple #[(.int .i32 0), .bool false]) w := ta_rune (.config v)
        clear hok
        simp only [stepsB, List.append_nil] at HT
        have HW := Lib.hid HO.out
        go_wp2
        go_roundw
        case rel => exact ⟨j + 1, by go_num, hp, by rw [HT.out]; exact HW.out, K⟩
        case measure => simp [intOf]; omega
      case event v =>
        change wr.cell? _ = some (.iface 43 v) at c0
        have q_ta_step : ∀ w, (Instr.typeAssert (.iface 43 v) 20 40 true).run Tryz.prog w = .ok (.tuple #[(.agg #[.int .u8 0, .int .u8 0, .int .i64 0, .int .i64 0, .int .i64 0]), .bool false]) w := ta_step (.event v)
        have q_ta_int : ∀ w, (Instr.typeAssert (.iface 43 v) 20 3 true).run Tryz.prog w = .ok (.tuple #[(.int .i64 0), .bool false]) w := ta_int (.event v)
        have q_ta_text : ∀ w, (Instr.typeAssert (.iface 43 v) 20 9 true).run Tryz.prog w = .ok (.tuple #[(.string ⟨#[]⟩), .bool false]) w := ta_text (.event v)
        have q_ta_rune : ∀ w, (Instr.typeAssert (.iface 43 v) 20 21 true).run Tryz.prog w = .ok (.tuple #[(.int .i32 0), .bool false]) w := ta_rune (.event v)
        clear hok
        simp only [stepsB, List.append_nil] at HT
        have HW := Lib.hid HO.out
        go_wp2
        go_roundw
        case rel => exact ⟨j + 1, by go_num, hp, by rw [HT.out]; exact HW.out, K⟩
        case measure => simp [intOf]; omega
      case err v =>
        change wr.cell? _ = some (.iface 214 v) at c0
        have q_ta_step : ∀ w, (Instr.typeAssert (.iface 214 v) 20 40 true).run Tryz.prog w = .ok (.tuple #[(.agg #[.int .u8 0, .int .u8 0, .int .i64 0, .int .i64 0, .int .i64 0]), .bool false]) w := ta_step (.err v)
        have q_ta_int : ∀ w, (Instr.typeAssert (.iface 214 v) 20 3 true).run Tryz.prog w = .ok (.tuple #[(.int .i64 0), .bool false]) w := ta_int (.err v)
        have q_ta_text : ∀ w, (Instr.typeAssert (.iface 214 v) 20 9 true).run Tryz.prog w = .ok (.tuple #[(.string ⟨#[]⟩), .bool false]) w := ta_text (.err v)
        have q_ta_rune : ∀ w, (Instr.typeAssert (.iface 214 v) 20 21 true).run Tryz.prog w = .ok (.tuple #[(.int .i32 0), .bool false]) w := ta_rune (.err v)
        clear hok
        simp only [stepsB, List.append_nil] at HT
        have HW := Lib.hid HO.out
        go_wp2
        go_roundw
        case rel => exact ⟨j + 1, by go_num, hp, by rw [HT.out]; exact HW.out, K⟩
        case measure => simp [intOf]; omega
      case truth v =>
        change wr.cell? _ = some (.iface 4 v) at c0
        have q_ta_step : ∀ w, (Instr.typeAssert (.iface 4 v) 20 40 true).run Tryz.prog w = .ok (.tuple #[(.agg #[.int .u8 0, .int .u8 0, .int .i64 0, .int .i64 0, .int .i64 0]), .bool false]) w := ta_step (.truth v)
        have q_ta_int : ∀ w, (Instr.typeAssert (.iface 4 v) 20 3 true).run Tryz.prog w = .ok (.tuple #[(.int .i64 0), .bool false]) w := ta_int (.truth v)
        have q_ta_text : ∀ w, (Instr.typeAssert (.iface 4 v) 20 9 true).run Tryz.prog w = .ok (.tuple #[(.string ⟨#[]⟩), .bool false]) w := ta_text (.truth v)
        have q_ta_rune : ∀ w, (Instr.typeAssert (.iface 4 v) 20 21 true).run Tryz.prog w = .ok (.tuple #[(.int .i32 0), .bool false]) w := ta_rune (.truth v)
        clear hok
        simp only [stepsB, List.append_nil] at HT
        have HW := Lib.hid HO.out
        go_wp2
        go_roundw
        case rel => exact ⟨j + 1, by go_num, hp, by rw [HT.out]; exact HW.out, K⟩
        case measure => simp [intOf]; omega
      case ptr v =>
        change wr.cell? _ = some (.iface 137 v) at c0
        have q_ta_step : ∀ w, (Instr.typeAssert (.iface 137 v) 20 40 true).run Tryz.prog w = .ok (.tuple #[(.agg #[.int .u8 0, .int .u8 0, .int .i64 0, .int .i64 0, .int .i64 0]), .bool false]) w := ta_step (.ptr v)
        have q_ta_int : ∀ w, (Instr.typeAssert (.iface 137 v) 20 3 true).run Tryz.prog w = .ok (.tuple #[(.int .i64 0), .bool false]) w := ta_int (.ptr v)
        have q_ta_text : ∀ w, (Instr.typeAssert (.iface 137 v) 20 9 true).run Tryz.prog w = .ok (.tuple #[(.string ⟨#[]⟩), .bool false]) w := ta_text (.ptr v)
        have q_ta_rune : ∀ w, (Instr.typeAssert (.iface 137 v) 20 21 true).run Tryz.prog w = .ok (.tuple #[(.int .i32 0), .bool false]) w := ta_rune (.ptr v)
        clear hok
        simp only [stepsB, List.append_nil] at HT
        have HW := Lib.hid HO.out
        go_wp2
        go_roundw
        case rel => exact ⟨j + 1, by go_num, hp, by rw [HT.out]; exact HW.out, K⟩
        case measure => simp [intOf]; omega
    · obtain rfl : j = l.length := by omega
      rw [List.take_length] at hown
      have hpi : ¬ (l.length : Int) < l.length := by omega
      have HO := Lib.hid hown
      clear hown
      go_wp2
      go_returns
      exact ⟨_, rfl, HO.out, K⟩
end Go.Proofs.YtfjepdcnikgjeaaGreatDoor
