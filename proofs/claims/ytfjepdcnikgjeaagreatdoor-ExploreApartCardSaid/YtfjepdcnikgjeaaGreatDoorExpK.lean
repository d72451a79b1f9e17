/-
  The keys of orders: what an array of numbers reads as; a key that is new.
-/
import Derived.Maps.OwnSet
import Derived.DeepKeys4
import Derived.MapViews
import Derived.WideKeyEntry
import Derived.Test.YtfjepdcnikgjeaaGreatDoorExpW
import Derived.Test.YtfjepdcnikgjeaaGreatDoorTalJ
import Derived.Test.YtfjepdcnikgjeaaGreatDoorStps
set_option linter.unusedVariables false
set_option linter.unusedSimpArgs false
set_option linter.unusedSectionVars false
namespace Go.Proofs.YtfjepdcnikgjeaaGreatDoor
open Go Go.RowKit Hst Go.Proofs
open Go.Maps (Keyed)


theorem dig_inj (m : Nat) (hm : 0 < m) (a b : Nat) : ∀ n, (∀ t, t < n → dig m t a = dig m t b) → a % m ^ n = b % m ^ n
  | 0, _ => by simp [Nat.mod_one]
  | n + 1, h => by
    have ih := dig_inj m hm a b n (fun t ht => h t (by omega))
    have hd := h n (by omega)
    unfold dig at hd
    rw [Nat.mod_pow_succ, Nat.mod_pow_succ, ih, hd]
theorem digs_inj (m n a b : Nat) (hm : 0 < n → 0 < m) (ha : a < m ^ n) (hb : b < m ^ n) (h : digs m n a = digs m n b) : a = b := by
  rcases Nat.eq_zero_or_pos n with h0 | h0
  · subst h0; simp at ha hb; omega
  · have := dig_inj m (hm h0) a b n (fun t ht => by
      have e : (digs m n a)[n - 1 - t]? = (digs m n b)[n - 1 - t]? := by rw [h]
      rw [digs_at m n a _ (by omega), digs_at m n b _ (by omega)] at e
      rw [show n - 1 - (n - 1 - t) = t by omega] at e
      have := Option.some.inj e
      omega)
    rwa [Nat.mod_eq_of_lt ha, Nat.mod_eq_of_lt hb] at this

/-- The key of an order: its machines, and nulls. -/
def key5 (l : List Int) : List Int := (l ++ List.replicate 5 0).take 5
theorem key5_inj {l m : List Int} (hl : l.length = m.length) (h5 : l.length ≤ 5) (h : key5 l = key5 m) : l = m := by
  unfold key5 at h
  have e : ((l ++ List.replicate 5 (0 : Int)).take 5).take l.length = l := by
    rw [List.take_take, Nat.min_eq_left h5, List.take_left]
  have e2 : ((m ++ List.replicate 5 (0 : Int)).take 5).take l.length = m := by
    rw [List.take_take, Nat.min_eq_left h5, hl, List.take_left]
  rw [← e, ← e2, h]
theorem key5_len (l : List Int) : (key5 l).length = 5 := by simp [key5]

theorem digs_bound (m n k : Nat) (hm : 0 < n → 0 < m) (x : Int) (hx : x ∈ digs m n k) : 0 ≤ x ∧ x < m := by
  unfold digs at hx
  rw [List.mem_map] at hx
  obtain ⟨y, hy, rfl⟩ := hx
  have hy := List.mem_range.1 hy
  have := dig_lt m (n - 1 - y) k (hm (by omega))
  omega

theorem key_wide : (match Tryz.prog.underlying 35 with | some (.array _ _) | some (.struct _) => true | _ => false) = true := by kernel_rfl
theorem laidOutP : laidOutB Tryz.prog = true := by kernel_rfl
theorem rowKey : (35 : TypeId) < Tryz.prog.types.size := of_decide_eq_true (by kernel_rfl)
theorem typeKey : Tryz.prog.keyTypeAt 2 35 = true := by kernel_rfl
set_option maxRecDepth 100000 in
theorem key_law0 : WideMaps.KeyLaw Tryz.prog 35 := deep_law_laid laidOutP (m := 2) (by omega) rowKey typeKey key_wide
theorem key_law : Keyed Tryz.prog 35 := Keyed.of_law key_law0
theorem key_ok (l : List Int) (h : ∀ x ∈ l, i64I x) (hl : l.length = 5) : ∃ kl, keyOf Tryz.prog 35 (.agg (ints l).toArray) = some kl := by
  obtain ⟨n, hn⟩ : ∃ n, Tryz.prog.types.size = n + 1 := ⟨Tryz.prog.types.size - 1, by have : 0 < Tryz.prog.types.size := of_decide_eq_true (by kernel_rfl); omega⟩
  have hk : Tryz.prog.keyType 35 = true := by kernel_rfl
  have c5 : Tryz.prog.cellsOf 35 = 5 := by kernel_rfl
  have c1 : Tryz.prog.cellsOf 3 = 1 := by kernel_rfl
  match l, hl with
  | [a, b, c, d, e], _ =>
    have ha := wf64 (h a (by simp)); have hb := wf64 (h b (by simp)); have hc := wf64 (h c (by simp)); have hd := wf64 (h d (by simp)); have he := wf64 (h e (by simp))
    have hf : (Value.agg (ints [a, b, c, d, e]).toArray).formed Tryz.prog 35 = true := by simp [Value.formed, Tryz.underlying35, c5, ints]
    unfold keyOf
    simp only [Tryz.underlying35, hk, hf, Bool.and_self, if_true]
    have : Tryz.prog.keyLits (Tryz.prog.types.size + 1) 35 (Value.agg (ints [a, b, c, d, e]).toArray).cells.toList = some [.int .i64 a, .int .i64 b, .int .i64 c, .int .i64 d, .int .i64 e] := by
      rw [hn]
      simp [Program.keyLits, Tryz.underlying35, Tryz.underlying3, c5, c1, ints, Value.cells, List.range, List.range.loop, ha, hb, hc, hd, he]
    exact ⟨_, by rw [this]; rfl⟩

theorem zeroI (w : World) : (zeroValue 3).run Tryz.prog w = .ok (.int .i64 0) w := by kernel_rfl



section
open Go.MapKept Go.ChangeMaps Go.WideElems
theorem entry_new {H : Type} {P : Program} {w : World} {t k e : TypeId} {R : Value → Option (DataW H × List MemPlace)} {b : Nat} {es : Array MapEntry} {clock : Nat} (K : WideMaps.KeyLaw P k) (ht : P.underlying t = some (.map k e)) {z : Value} (hz : ∀ u : World, (zeroValue e).run P u = .ok z u) (hb : w.heap[b]? = some (.map es clock)) (F : Fit P k R es clock)
    {key : Value} {kl : Lit} (hkey : keyOf P k key = some kl) (hno : ∀ x ∈ es.toList, x.key ≠ key) :
    (Instr.mapEntry t (.map (some b)) key).run P w = .ok (.tuple #[z, goInt clock]) (setBlock w b (.map (es.push ⟨key, z, clock⟩) (clock + 1))) ∧
    (∀ val, (Instr.mapUpdate t (.map (some b)) key val).run P w = .ok () (setBlock w b (.map (es.push ⟨key, val, clock⟩) (clock + 1)))) ∧
    (∀ (w2 : World) (val : Value), w2.heap[b]? = some (.map (es.push ⟨key, z, clock⟩) (clock + 1)) → (Instr.entryStore t (.map (some b)) (goInt clock) val).run P w2 = .ok () (setBlock w2 b (.map (es.push ⟨key, val, clock⟩) (clock + 1)))) := by
  obtain ⟨s1, s2, _⟩ := F.stamped
  rcases K.find w hkey es.toList F.keys with ⟨h1, h2⟩ | ⟨j, e0, h1, h2, h3⟩
  · refine ⟨?_, fun val => ?_, fun w2 val hw2 => ?_⟩
    · simp [Instr.mapEntry, run_underlying ht, MapKept.run_getObj_map hb, K.check w false hkey, h1, hz, MapKept.run_setObj_map _ hb, Result.andThen, setBlock]
    · simp [Instr.mapUpdate, run_underlying ht, MapKept.run_getObj_map hb, K.check w false hkey, h1, MapKept.run_setObj_map _ hb, Result.andThen, setBlock]
    · have hidx : (es.push ⟨key, z, clock⟩).findIdx? (fun e => ((e.born : Nat) : Int) == ((clock : Nat) : Int)) = some es.size := by
        rw [findIdx_arr]
        have := findIdx_born (l := (es.push ⟨key, z, clock⟩).toList) (j := es.size) (e0 := ⟨key, z, clock⟩) (by
          simp only [Array.toList_push, List.map_append, List.map_cons, List.map_nil]
          refine List.nodup_append.2 ⟨s2, by simp, fun a ha c hc e1 => ?_⟩
          simp only [List.mem_singleton] at hc
          obtain ⟨x, hx, rfl⟩ := List.mem_map.1 ha
          have := s1 x hx
          omega) (by simp)
        exact this
      have hmod : (es.push ⟨key, z, clock⟩).modify es.size (fun e => { e with val := val }) = es.push ⟨key, val, clock⟩ := by
        apply Array.ext'
        rw [Array.toList_modify, Array.toList_push, Array.toList_push, ← Array.length_toList, modify_last]
      simp [Instr.entryStore, MapKept.run_getObj_map hw2, asInt, asIntOf, goInt, hidx, hmod, MapKept.run_setObj_map _ hw2, Result.andThen, setBlock]
  · exact absurd h3 (hno e0 (List.mem_of_getElem? h2))
/-- Who isn't among the keys has no entry. -/
theorem no_entry {P : Program} {k : TypeId} {R : Value → Option (DataW Unit × List MemPlace)} {es : Array MapEntry} {clock : Nat} (F : Fit P k R es clock) {key : Value} {kl : Lit} (hkey : keyOf P k key = some kl) (hK : WideAt.IsKeyLit kl)
    (hnew : Maps.has (.map ((es.toList.map (rg P k R)).foldr DataW.insert [])) kl = false) : ∀ x ∈ es.toList, x.key ≠ key := by
  intro x hx e
  obtain ⟨y, hy⟩ := F.reads x hx
  have hk := rd_key hy
  rw [e, hkey] at hk
  have hk := Option.some.inj hk
  rw [Maps.has_eq, List.any_eq_false] at hnew
  have hm : rg P k R x ∈ (es.toList.map (rg P k R)).foldr DataW.insert [] := (WideShapes.sorted_perm _).mem_iff.2 (List.mem_map.2 ⟨x, hx, rfl⟩)
  have := hnew _ hm
  rw [rg_of hy, ← hk] at this
  exact this (WideAt.sameKey_self hK)
end
set_option maxRecDepth 100000 in
theorem key_new {b n : Nat} {D : DataW Unit} {w : World} (hown : w.ownsMap Tryz.prog 35 (plainElem Tryz.prog 3) b n D) (hn : n < maxLen) {key : Value} {kl : Lit} (hkey : keyOf Tryz.prog 35 key = some kl) (hnew : Maps.has D kl = false) :
    (Instr.lookup 32 (.map (some b)) key false).run Tryz.prog w = .ok (.int .i64 0) w ∧
    ∃ st w1 w2, (Instr.mapEntry 32 (.map (some b)) key).run Tryz.prog w = .ok (.tuple #[.int .i64 0, goInt st]) w1 ∧ (Instr.lookup 32 (.map (some b)) key false).run Tryz.prog w1 = .ok (.int .i64 0) w1 ∧
      (Instr.entryStore 32 (.map (some b)) (goInt st) (.int .i64 1)).run Tryz.prog w1 = .ok () w2 ∧ w2.ownsMap Tryz.prog 35 (plainElem Tryz.prog 3) b (n + 1) (D.put kl (.lit (.int .i64 1))) ∧ w.grownBy w1 (some b) ∧ w.grownBy w2 (some b) := by
  have hl0 : (Instr.lookup 32 (.map (some b)) key false).run Tryz.prog w = .ok (.int .i64 0) w := by
    obtain ⟨c, hrun, hat, _⟩ := hown.lookup_int key_law Tryz.underlying32 Tryz.underlying3 (zeroI w) hkey
    rw [Maps.atKey_of_not_has hnew] at hat
    injection hat with e
    injection e with _ e
    rw [hrun, ← e]
  refine ⟨hl0, ?_⟩
  obtain ⟨w2, hup, hown2, hg2⟩ := hown.update key_law Tryz.underlying32 hn hkey (plainElem_int Tryz.underlying3 (a := 1) (by decide))
  obtain ⟨w1, hup1, hown1, hg1⟩ := hown.update key_law Tryz.underlying32 hn hkey (plainElem_int Tryz.underlying3 (a := 0) (by decide))
  have hM := hown.isMap
  obtain ⟨es, clock, hb, F, hs, rfl⟩ := hown
  obtain ⟨e1, e2, e3⟩ := entry_new key_law0 Tryz.underlying32 zeroI hb F hkey (no_entry F hkey (key_law.key hkey) hnew)
  have q1 := (e2 (.int .i64 0)).symm.trans hup1
  have q2 := (e2 (.int .i64 1)).symm.trans hup
  injection q1 with _ q1
  injection q2 with _ q2
  have hb1 : w1.heap[b]? = some (.map (es.push ⟨key, .int .i64 0, clock⟩) (clock + 1)) := by rw [← q1]; exact ChangeMaps.heap_setBlock_same hb _
  have e4 := e3 w1 (.int .i64 1) hb1
  refine ⟨clock, w1, w2, by rw [← q1]; exact e1, ?_, ?_, hown2, hg1, hg2⟩
  · obtain ⟨c, hrun, hat, _⟩ := hown1.lookup_int key_law Tryz.underlying32 Tryz.underlying3 (zeroI w1) hkey
    rw [Maps.atKey_put_same hM (key_law.key hkey)] at hat
    cases hat
    exact hrun
  · have e5 : ChangeMaps.setBlock w1 b (.map (es.push ⟨key, .int .i64 1, clock⟩) (clock + 1)) = w2 := by
      rw [← q2, ← q1]
      unfold ChangeMaps.setBlock
      simp
    rw [e5] at e4
    exact e4

/-- What an order's key reads as. -/
noncomputable def klOf (l : List Int) : Lit := (keyOf Tryz.prog 35 (.agg (ints (key5 l)).toArray)).getD .nil
theorem key5_mem {l : List Int} {x : Int} (h : x ∈ key5 l) : x ∈ l ∨ x = 0 := by
  unfold key5 at h
  have := List.mem_of_mem_take h
  rcases List.mem_append.1 this with h | h
  · exact .inl h
  · exact .inr (List.eq_of_mem_replicate h)
theorem klOf_key {l : List Int} (h : ∀ x ∈ l, i64I x) : keyOf Tryz.prog 35 (.agg (ints (key5 l)).toArray) = some (klOf l) := by
  obtain ⟨kl, hk⟩ := key_ok (key5 l) (fun x hx => by
    rcases key5_mem hx with h' | rfl
    · exact h x h'
    · exact ⟨by decide, by decide⟩) (key5_len l)
  unfold klOf
  rw [hk]; rfl
theorem ints_inj : ∀ {l m : List Int}, ints l = ints m → l = m
  | [], [], _ => rfl
  | [], _ :: _, h => by simp [ints] at h
  | _ :: _, [], h => by simp [ints] at h
  | a :: l, b :: m, h => by
    simp only [ints, List.map_cons, List.cons.injEq, Value.int.injEq, true_and] at h
    rw [h.1, ints_inj h.2]
theorem klOf_inj {l m : List Int} (h : ∀ x ∈ l, i64I x) (h2 : ∀ x ∈ m, i64I x) (hl : l.length = m.length) (h5 : l.length ≤ 5) (e : klOf l = klOf m) : l = m := by
  have k1 := klOf_key h
  have k2 := klOf_key h2
  rw [← e] at k2
  have := key_law.inj k1 k2
  simp only [Value.agg.injEq] at this
  have e2 : ints (key5 l) = ints (key5 m) := by
    have := congrArg Array.toList this
    simpa using this
  exact key5_inj hl h5 (ints_inj e2)
theorem key5_set {l : List Int} {j : Nat} (hj : j < l.length) (h5 : l.length ≤ 5) : (key5 (l.take j)).set j (l.getD j 0) = key5 (l.take (j + 1)) := by
  rcases l with _ | ⟨a, _ | ⟨b, _ | ⟨c, _ | ⟨d, _ | ⟨e, _ | ⟨f, t⟩⟩⟩⟩⟩⟩
  all_goals rcases j with _ | _ | _ | _ | _ | j
  all_goals first
    | rfl
    | (exfalso; simp only [List.length_cons, List.length_nil] at hj h5; omega)
theorem five_of {l : List Int} (h : l.length = 5) : ∃ a b c d e, l = [a, b, c, d, e] := by
  match l, h with
  | [a, b, c, d, e], _ => exact ⟨a, b, c, d, e, rfl⟩
theorem cnt_small : ∀ r : Nat, r < 5 → ∀ n : Nat, n < 6 → cntE ((r : Int) + 1) n = (((r + 1) ^ n : Nat) : Int) ∧ 1 ≤ (r + 1) ^ n ∧ (r + 1) ^ n ≤ 3125 := by decide +kernel

end Go.Proofs.YtfjepdcnikgjeaaGreatDoor
