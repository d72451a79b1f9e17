/-
  boxed.Runes, walked by the kind of each thing. (Written by a program of ours.)
-/
import Derived.Test.YtfjepdcnikgjeaaGreatDoorBoxV
import Derived.Test.YtfjepdcnikgjeaaGreatDoorBuild
set_option linter.unusedVariables false
set_option linter.unusedSimpArgs false
set_option linter.unusedSectionVars false
namespace Go.Proofs.YtfjepdcnikgjeaaGreatDoor
open Go Go.RowKit Hst Go.Proofs

theorem bldAt_below {T e : TypeId} {B b : Nat} {p : Value} {bs : List Value} {W W' : World} (h : Lib.BuilderAtF T e B b p bs W) (hb : Below W.heap.size W W') : Lib.BuilderAtF T e B b p bs W' := by
  obtain ⟨hB, v, hbk, hown, hne⟩ := h
  refine ⟨hB, v, (below_heap hb (box_lt hbk)).trans hbk, ⟨hown.1, ?_⟩, hne⟩
  rcases hown.2 with hn | ⟨g, cap, cur, fz, hv, hbg, hg, rest⟩
  · exact .inl hn
  · exact .inr ⟨g, cap, cur, fz, hv, hbg, (below_heap hb (box_lt hg)).trans hg, rest⟩
theorem bld_below {T e : TypeId} {B b : Nat} {bs : List Value} {W W' : World} (h : Lib.IsBuilderF T e B b bs W) (hb : Below W.heap.size W W') : Lib.IsBuilderF T e B b bs W' :=
  h.elim (fun x => .inl (bldAt_below x hb)) (fun x => .inr (bldAt_below x hb))
abbrev BldAt (b : Nat) (acc : List UInt8) (w : World) : Prop := Lib.IsBuilderF 173 5 b b (Lib.byteCells acc) w
theorem wStr (b : Nat) (acc : List UInt8) (s : ByteArray) (w : World) (h : BldAt b acc w) (hlen : acc.length + s.size ≤ 1000000) (hb : b ≤ w.heap.size) :
    Calls Tryz.prog 96 #[.pointer (some ⟨b, 0, none⟩), .string s] w fun e w' => e = .returned (.tuple #[.int .i64 s.size, .nilIface]) ∧ BldAt b (acc ++ s.data.toList) w' ∧ Below b w w' := by
  refine (writeString b b _ s w h (by rw [Lib.byteCells_length]; omega) hb).mono ?_
  rintro e w' ⟨rfl, h1, h2, _⟩
  exact ⟨rfl, Or.inr (by rw [Lib.byteCells_append]; exact h1), h2⟩
theorem wRune (b : Nat) (acc : List UInt8) (r : Int) (hr0 : -2147483648 ≤ r) (hr1 : r ≤ 2147483647) (w : World) (h : BldAt b acc w) (hlen : acc.length ≤ 1000000) (hb : b ≤ w.heap.size) :
    Calls Tryz.prog 97 #[.pointer (some ⟨b, 0, none⟩), .int .i32 r] w fun e w' => e = .returned (.tuple #[.int .i64 (Lib.runeCells r).length, .nilIface]) ∧ BldAt b (acc ++ Lib.encodeRune r) w' ∧ Below b w w' := by
  refine (writeRune b b _ r hr0 hr1 w h (by rw [Lib.byteCells_length]; omega) hb).mono ?_
  rintro e w' ⟨rfl, h1, h2, _⟩
  exact ⟨rfl, Or.inr (by rw [Lib.byteCells_append, Lib.byteCells_encodeRune]; exact h1), h2⟩
theorem wGet (b : Nat) (acc : List UInt8) (w : World) (h : BldAt b acc w) (hb : b ≤ w.heap.size) :
    Calls Tryz.prog 98 #[.pointer (some ⟨b, 0, none⟩)] w fun e w' => e = .returned (.string ⟨acc.toArray⟩) ∧ Below b w w' := by
  refine (Tryz.Builder_String_any_k b b acc w h hb).mono ?_
  rintro e w' ⟨rfl, _, h2, _⟩
  exact ⟨rfl, h2⟩
theorem encodeRune_le (r : Int) : (Lib.encodeRune r).length ≤ 4 := by
  rw [← Lib.runeCells_length]; exact (Lib.runeCells_le r).2
theorem runesB_len {e : Bx} (h : e.ok) : (runesB e).length ≤ 1000 := by
  cases e <;> simp only [runesB, List.length_nil] <;> try omega
  · rename_i s
    have h2 : s.data.toList.length = s.size := Array.length_toList
    have h3 : s.size ≤ 1000 := h
    omega
  · have := encodeRune_le ‹Int›
    omega
theorem runesBs_len {l : List Bx} (h : ∀ e ∈ l, e.ok) : (runesBs l).length ≤ l.length * 1000 := by
  induction l with
  | nil => simp [runesBs]
  | cons a t ih =>
    have := ih (fun e he => h e (List.mem_cons_of_mem _ he))
    have h1 := runesB_len (h a (List.mem_cons_self ..))
    unfold runesBs at this ⊢
    simp only [List.flatMap_cons, List.length_append, List.length_cons]
    omega

set_option maxHeartbeats 6400000 in
set_option maxRecDepth 100000 in
theorem runes_any {w : World} {v : Value} {l : List Bx} (hA : AnyArg w v l) (hl : l.length ≤ 400) (hok : ∀ e ∈ l, e.ok) :
    Calls Tryz.prog 49 #[v] w fun e w' => e = .returned (.string ⟨(runesBs l).toArray⟩) ∧ Below w.heap.size w w' := by
  obtain ⟨a, c, rfl, hE⟩ := hA
  have hS := fun acc s W h h1 h2 => wStr w.heap.size acc s W h h1 h2
  have hR := fun acc r h0 h1 W h h2 h3 => wRune w.heap.size acc r h0 h1 W h h2 h3
  have hG := fun acc W h h1 => wGet w.heap.size acc W h h1
  have HS := Lib.hid hS
  have HR := Lib.hid hR
  have HG := Lib.hid hG
  have hB0 : BldAt w.heap.size [] (w.alloc (.cells #[.pointer none, .slice none 0 0] 173)) := Lib.IsBuilderF.of (Lib.fresh_isBuilder 173 5 w)
  have HB0 := Lib.hid hB0
  clear hS hR hG hB0
  go_enter Tryz.func49, Tryz.ntmps49
  go_wp2
  go_loopw [10] (fun i wr => ∃ j : Nat, i = .int .i64 (j : Int) ∧ j ≤ l.length ∧ BldAt w.heap.size (runesBs (l.take j)) wr ∧ Below w.heap.size w wr) (fun i _ => l.length - (intOf i).toNat)
  case atStart => exact ⟨0, rfl, by omega, HB0.out, below_alloc _ _⟩
  case round =>
    obtain ⟨j, rfl, hj, hI, K⟩ := hrel
    by_cases hp : j < l.length
    · rcases hE with rfl | ⟨b, o, rfl, hbl, hE⟩
      · simp at hp
      obtain ⟨e, he⟩ : ∃ e, l[j]? = some e := ⟨_, List.getElem?_eq_getElem hp⟩
      have c0 := (below_cell K hbl).trans (hE j e he)
      have hbw : b < wr.heap.size := Nat.lt_of_lt_of_le hbl K.size
      have hpi : (j : Int) < l.length := by omega
      have hsl := runesBs_len (l := l.take j) (fun x hx => hok x (List.mem_of_mem_take hx))
      rw [List.length_take] at hsl
      have heok := hok e (List.mem_of_getElem? he)
      have htk := runesBs_take he
      generalize runesBs (l.take j) = D at *
      have HT := Lib.hid htk
      have HI := Lib.hid hI
      have HK := Lib.hid K
      clear htk hI he K
      cases e
      case step s =>
        change wr.cell? _ = some (.iface 40 (.agg #[.int .u8 (s.kind : Nat), .int .u8 (s.act : Nat), .int .i64 s.a, .int .i64 s.x, .int .i64 s.d])) at c0
        have q_ta_text : ∀ w, (Instr.typeAssert (.iface 40 (.agg #[.int .u8 (s.kind : Nat), .int .u8 (s.act : Nat), .int .i64 s.a, .int .i64 s.x, .int .i64 s.d])) 20 9 true).run Tryz.prog w = .ok (.tuple #[(.string ⟨#[]⟩), .bool false]) w := ta_text (.step s)
        have q_ta_rune : ∀ w, (Instr.typeAssert (.iface 40 (.agg #[.int .u8 (s.kind : Nat), .int .u8 (s.act : Nat), .int .i64 s.a, .int .i64 s.x, .int .i64 s.d])) 20 21 true).run Tryz.prog w = .ok (.tuple #[(.int .i32 0), .bool false]) w := ta_rune (.step s)
        clear hok
        simp only [runesB, List.append_nil] at HT
        go_wp2
        go_roundw
        case rel => exact ⟨j + 1, by go_num, hp, by rw [HT.out]; exact HI.out, HK.out⟩
        case measure => simp [intOf]; omega
      case num n =>
        change wr.cell? _ = some (.iface 3 (.int .i64 n)) at c0
        have q_ta_text : ∀ w, (Instr.typeAssert (.iface 3 (.int .i64 n)) 20 9 true).run Tryz.prog w = .ok (.tuple #[(.string ⟨#[]⟩), .bool false]) w := ta_text (.num n)
        have q_ta_rune : ∀ w, (Instr.typeAssert (.iface 3 (.int .i64 n)) 20 21 true).run Tryz.prog w = .ok (.tuple #[(.int .i32 0), .bool false]) w := ta_rune (.num n)
        clear hok
        simp only [runesB, List.append_nil] at HT
        go_wp2
        go_roundw
        case rel => exact ⟨j + 1, by go_num, hp, by rw [HT.out]; exact HI.out, HK.out⟩
        case measure => simp [intOf]; omega
      case text s =>
        change wr.cell? _ = some (.iface 9 (.string s)) at c0
        have q_ta_text : ∀ w, (Instr.typeAssert (.iface 9 (.string s)) 20 9 true).run Tryz.prog w = .ok (.tuple #[(.string s), .bool true]) w := ta_text (.text s)
        have q_ta_rune : ∀ w, (Instr.typeAssert (.iface 9 (.string s)) 20 21 true).run Tryz.prog w = .ok (.tuple #[(.int .i32 0), .bool false]) w := ta_rune (.text s)
        clear hok
        simp only [runesB] at HT
        go_wp2_with fail
        refine (HS.out D s wr HI.out (by have h3 : s.size ≤ 1000 := heok; omega) HK.out.size).mono ?_
        rintro e2 w2 ⟨rfl, hI2, hb2⟩
        have HI2 := Lib.hid hI2
        have HK2 := Lib.hid (HK.out.trans hb2)
        clear hI2 hb2
        go_wp2
        go_roundw
        case rel => exact ⟨j + 1, by go_num, hp, by rw [HT.out]; exact HI2.out, HK2.out⟩
        case measure => simp [intOf]; omega
      case rune r =>
        change wr.cell? _ = some (.iface 21 (.int .i32 r)) at c0
        have q_ta_text : ∀ w, (Instr.typeAssert (.iface 21 (.int .i32 r)) 20 9 true).run Tryz.prog w = .ok (.tuple #[(.string ⟨#[]⟩), .bool false]) w := ta_text (.rune r)
        have q_ta_rune : ∀ w, (Instr.typeAssert (.iface 21 (.int .i32 r)) 20 21 true).run Tryz.prog w = .ok (.tuple #[(.int .i32 r), .bool true]) w := ta_rune (.rune r)
        clear hok
        simp only [runesB] at HT
        go_wp2_with fail
        refine (HR.out D r heok.1 heok.2 wr HI.out (by omega) HK.out.size).mono ?_
        rintro e2 w2 ⟨rfl, hI2, hb2⟩
        have HI2 := Lib.hid hI2
        have HK2 := Lib.hid (HK.out.trans hb2)
        clear hI2 hb2
        go_wp2
        go_roundw
        case rel => exact ⟨j + 1, by go_num, hp, by rw [HT.out]; exact HI2.out, HK2.out⟩
        case measure => simp [intOf]; omega
      case none =>
        change wr.cell? _ = some (.nilIface) at c0
        have q_ta_text : ∀ w, (Instr.typeAssert (.nilIface) 20 9 true).run Tryz.prog w = .ok (.tuple #[(.string ⟨#[]⟩), .bool false]) w := ta_text (.none)
        have q_ta_rune : ∀ w, (Instr.typeAssert (.nilIface) 20 21 true).run Tryz.prog w = .ok (.tuple #[(.int .i32 0), .bool false]) w := ta_rune (.none)
        clear hok
        simp only [runesB, List.append_nil] at HT
        go_wp2
        go_roundw
        case rel => exact ⟨j + 1, by go_num, hp, by rw [HT.out]; exact HI.out, HK.out⟩
        case measure => simp [intOf]; omega
      case config v =>
        change wr.cell? _ = some (.iface 24 v) at c0
        have q_ta_text : ∀ w, (Instr.typeAssert (.iface 24 v) 20 9 true).run Tryz.prog w = .ok (.tuple #[(.string ⟨#[]⟩), .bool false]) w := ta_text (.config v)
        have q_ta_rune : ∀ w, (Instr.typeAssert (.iface 24 v) 20 21 true).run Tryz.prog w = .ok (.tuple #[(.int .i32 0), .bool false]) w := ta_rune (.config v)
        clear hok
        simp only [runesB, List.append_nil] at HT
        go_wp2
        go_roundw
        case rel => exact ⟨j + 1, by go_num, hp, by rw [HT.out]; exact HI.out, HK.out⟩
        case measure => simp [intOf]; omega
      case event v =>
        change wr.cell? _ = some (.iface 43 v) at c0
        have q_ta_text : ∀ w, (Instr.typeAssert (.iface 43 v) 20 9 true).run Tryz.prog w = .ok (.tuple #[(.string ⟨#[]⟩), .bool false]) w := ta_text (.event v)
        have q_ta_rune : ∀ w, (Instr.typeAssert (.iface 43 v) 20 21 true).run Tryz.prog w = .ok (.tuple #[(.int .i32 0), .bool false]) w := ta_rune (.event v)
        clear hok
        simp only [runesB, List.append_nil] at HT
        go_wp2
        go_roundw
        case rel => exact ⟨j + 1, by go_num, hp, by rw [HT.out]; exact HI.out, HK.out⟩
        case measure => simp [intOf]; omega
      case err v =>
        change wr.cell? _ = some (.iface 214 v) at c0
        have q_ta_text : ∀ w, (Instr.typeAssert (.iface 214 v) 20 9 true).run Tryz.prog w = .ok (.tuple #[(.string ⟨#[]⟩), .bool false]) w := ta_text (.err v)
        have q_ta_rune : ∀ w, (Instr.typeAssert (.iface 214 v) 20 21 true).run Tryz.prog w = .ok (.tuple #[(.int .i32 0), .bool false]) w := ta_rune (.err v)
        clear hok
        simp only [runesB, List.append_nil] at HT
        go_wp2
        go_roundw
        case rel => exact ⟨j + 1, by go_num, hp, by rw [HT.out]; exact HI.out, HK.out⟩
        case measure => simp [intOf]; omega
      case truth v =>
        change wr.cell? _ = some (.iface 4 v) at c0
        have q_ta_text : ∀ w, (Instr.typeAssert (.iface 4 v) 20 9 true).run Tryz.prog w = .ok (.tuple #[(.string ⟨#[]⟩), .bool false]) w := ta_text (.truth v)
        have q_ta_rune : ∀ w, (Instr.typeAssert (.iface 4 v) 20 21 true).run Tryz.prog w = .ok (.tuple #[(.int .i32 0), .bool false]) w := ta_rune (.truth v)
        clear hok
        simp only [runesB, List.append_nil] at HT
        go_wp2
        go_roundw
        case rel => exact ⟨j + 1, by go_num, hp, by rw [HT.out]; exact HI.out, HK.out⟩
        case measure => simp [intOf]; omega
      case ptr v =>
        change wr.cell? _ = some (.iface 137 v) at c0
        have q_ta_text : ∀ w, (Instr.typeAssert (.iface 137 v) 20 9 true).run Tryz.prog w = .ok (.tuple #[(.string ⟨#[]⟩), .bool false]) w := ta_text (.ptr v)
        have q_ta_rune : ∀ w, (Instr.typeAssert (.iface 137 v) 20 21 true).run Tryz.prog w = .ok (.tuple #[(.int .i32 0), .bool false]) w := ta_rune (.ptr v)
        clear hok
        simp only [runesB, List.append_nil] at HT
        go_wp2
        go_roundw
        case rel => exact ⟨j + 1, by go_num, hp, by rw [HT.out]; exact HI.out, HK.out⟩
        case measure => simp [intOf]; omega
    · obtain rfl : j = l.length := by omega
      rw [List.take_length] at hI
      have hpi : ¬ (l.length : Int) < l.length := by omega
      have HI := Lib.hid hI
      have HK := Lib.hid K
      clear hI K
      go_wp2_with fail
      refine (HG.out _ wr HI.out HK.out.size).mono ?_
      rintro e2 w2 ⟨rfl, hb2⟩
      have HK2 := Lib.hid (HK.out.trans hb2)
      clear hb2
      go_wp2
      go_returns
      exact ⟨rfl, HK2.out⟩
end Go.Proofs.YtfjepdcnikgjeaaGreatDoor
