/-
  BoxedTexts, walked.
-/
import Derived.Test.YtfjepdcnikgjeaaGreatDoorBoxT
set_option linter.unusedVariables false
set_option linter.unusedSimpArgs false
set_option linter.unusedSectionVars false
namespace Go.Proofs.YtfjepdcnikgjeaaGreatDoor
open Go Go.RowKit Hst Go.Proofs

theorem bytes_of (s : ByteArray) : (⟨s.data.toList.toArray⟩ : ByteArray) = s := by cases s; simp
def rvals (rs : List Int) : List Value := rs.map fun r => .iface 21 (.int .i32 r)
def nvals (ms : List Int) : List Value := ms.map fun m => .iface 3 (.int .i64 m)
theorem rvals_val (rs : List Int) : rvals rs = (rs.map Bx.rune).map Bx.val := by simp [rvals, Bx.val]
theorem nvals_val (ms : List Int) : nvals ms = (ms.map Bx.num).map Bx.val := by simp [nvals, Bx.val]
theorem stepsBs_nums (ms : List Int) : stepsBs (ms.map Bx.num) = ms.map dSt := by
  induction ms with
  | nil => rfl
  | cons a t ih =>
    unfold stepsBs at ih ⊢
    simp only [List.map_cons, List.flatMap_cons, ih]
    rfl

theorem any_own_r {w : World} {B : Nat} {v : Value} {rs : List Int} (h : w.ownsRow B 20 1 v rs.length (rvals rs)) : AnyArg w v (rs.map .rune) :=
  any_own (B := B) (by rw [List.length_map, ← rvals_val]; exact h)
theorem any_own_n {w : World} {B : Nat} {v : Value} {rs : List Int} (h : w.ownsRow B 20 1 v rs.length (nvals rs)) : AnyArg w v (rs.map .num) :=
  any_own (B := B) (by rw [List.length_map, ← nvals_val]; exact h)
/-- The loop over a text's runes: where it is. -/
structure TR (s : ByteArray) (b0 : Nat) (w wr : World) (p : Nat) (vr vm : Value) (cl : Bool) (rs ms : List Int) : Prop where
  ps : p ≤ s.size
  it : wr.heap[b0]? = some (.stringIter s p)
  hr : wr.ownsRow (b0 + 1) 20 1 vr rs.length (rvals rs)
  hm : wr.ownsRow (b0 + 1) 20 1 vm ms.length (nvals ms)
  ne : ∀ b, vr.ownBlock = some b → vm.ownBlock ≠ some b
  hb : Below b0 w wr
  rlen : rs.length ≤ p
  mlen : ms.length ≤ p
  rok : ∀ r ∈ rs, 0 ≤ r ∧ r ≤ 1114111
  st : stepsBs (rs.map .rune) = (digB (s.data.toList.take p)).map dSt
  msd : ms = digB (s.data.toList.take p)
  cln : cl = true → runesBs (rs.map .rune) = s.data.toList.take p

def TRx (s : ByteArray) (b0 : Nat) (w wr : World) (vr vm cl : Value) : Prop := ∃ p c rs ms, cl = .bool c ∧ TR s b0 w wr p vr vm c rs ms
theorem st_more {s : ByteArray} {p q : Nat} {rs : List Int} {r : Nat} (h : stepsBs (rs.map .rune) = (digB (s.data.toList.take p)).map dSt) (hd : digB (s.data.toList.take q) = digB (s.data.toList.take p) ++ digOf (r : Nat)) :
    stepsBs ((rs ++ [(r : Int)]).map .rune) = (digB (s.data.toList.take q)).map dSt := by
  rw [hd, List.map_append, List.map_append, ← h]
  simp [stepsBs, stepsB]
theorem cln_more {s : ByteArray} {p q : Nat} {rs : List Int} {r : Nat} (hp : p < s.size) (hr : r = (Utf8.decode s p).1) (hq : q = p + (Utf8.decode s p).2) (h : runesBs (rs.map .rune) = s.data.toList.take p) (hne : (r : Int) ≠ 65533) :
    runesBs ((rs ++ [(r : Int)]).map .rune) = s.data.toList.take q := by
  have hlen : s.data.toList.length = s.size := Array.length_toList
  have hn : s.data.toList.drop p ≠ [] := by
    intro h0
    have := congrArg List.length h0
    rw [List.length_drop, hlen] at this
    simp at this
    omega
  have he := Lib.encode_decode _ hn (by rw [Lib.decodeL_drop, ← hr]; omega)
  rw [Lib.decodeL_drop, ← hr] at he
  rw [hq, take_rune s p hp, List.map_append]
  unfold runesBs at h ⊢
  rw [List.flatMap_append, h]
  simp only [List.map_cons, List.map_nil, List.flatMap_cons, List.flatMap_nil, List.append_nil, runesB]
  rw [he]

/-- Behind an append to one of two rows. -/
theorem two_rows {w wa w3 : World} {b0 sz n m : Nat} {T : TypeId} {it o : Obj} {v u v' : Value} {xs ys : List Value} (hv : wa.ownsRow (b0 + 1) T sz v n xs) (hu : wa.ownsRow (b0 + 1) T sz u m ys) (hit : wa.heap[b0]? = some it) (hne : ∀ b, v.ownBlock = some b → u.ownBlock ≠ some b) (K : Below b0 w wa)
    (hgrow : (wa.alloc o).grownBy w3 v.ownBlock) (hat : v'.ownBlock = v.ownBlock ∨ v'.ownBlock = some (wa.alloc o).heap.size) :
    w3.heap[b0]? = some it ∧ w3.ownsRow (b0 + 1) T sz u m ys ∧ (∀ b, v'.ownBlock = some b → u.ownBlock ≠ some b) ∧ Below b0 w w3 := by
  have hl := box_lt hit
  refine ⟨?_, ?_, ?_, ?_⟩
  · rw [hgrow.block b0 (by simp; omega) (fun e => by have := (hv.lt b0 e.symm).1; omega), Below.heap_alloc _ _ _ hl]
    exact hit
  · exact own_grown (own_below hu (below_alloc wa o)) hgrow (fun b hb e => hne b e hb)
  · intro b hb e
    rcases hat with h | h
    · exact hne b (h ▸ hb) e
    · rw [h] at hb
      have := Option.some.inj hb
      have h2 := (hu.lt b e).2
      simp at this
      omega
  · exact (K.alloc (by omega) _).grown hgrow (by simp; omega) (fun k hk => by have := (hv.lt k hk).1; omega)

set_option maxHeartbeats 6400000 in
set_option maxRecDepth 100000 in
theorem texts_any (s : ByteArray) (N : Nat) (w : World) (T : Tabs N w) :
    Calls Tryz.prog 10 #[.string s] w fun e w' => e = .returned (.bool true) ∧ Below w.heap.size w w' := by
  have hl := fun w1 (hb : Below w.heap.size w w1) => lives26_any N w1 (T.of_below hb T.le)
  have HLV := Lib.hid hl
  clear hl T
  have hlen : s.data.toList.length = s.size := Array.length_toList
  by_cases hs : (100 : Int) < s.size
  · go_enter Tryz.func10, Tryz.ntmps10
    go_wp2_with fail
    refine (HLV.out _ (Below.refl _ _)).mono ?_
    rintro e w1 ⟨rfl, K⟩
    go_wp2_with fail
    refine (HLV.out _ K).mono ?_
    rintro e w2 ⟨rfl, hb2⟩
    have K := K.trans (hb2.mono K.size)
    clear hb2
    go_wp2
    go_returns
    exact ⟨rfl, K⟩
  · have hs' : (s.size : Int) ≤ 100 := by omega
    obtain ⟨i0, hi, hz0, hz1, hz2⟩ := info_parts infoAny
    go_enter Tryz.func10, Tryz.ntmps10
    go_wp2_with fail
    refine (HLV.out _ (Below.refl _ _)).mono ?_
    rintro e w1 ⟨rfl, K0⟩
    have K0 := Lib.hid K0
    clear HLV
    go_wp2
    go_loopw [3, 4, 5] (fun vr vm cl wr => TRx s w1.heap.size w1 wr vr vm cl) (fun _ _ _ wr => s.size - iterPos wr w1.heap.size)
    case atStart => exact ⟨0, true, [], [], rfl, ⟨Nat.zero_le _, World.iter_heap w1 s 0, World.ownsRow_nil _ _ _ _, World.ownsRow_nil _ _ _ _, (fun b h => by cases h), below_alloc _ _, Nat.le_refl _, Nat.le_refl _, (fun r h => by cases h), rfl, rfl, fun _ => rfl⟩⟩
    case round =>
      obtain ⟨p, c, rs, ms, rfl, h⟩ := hrel
      obtain ⟨hps, hit, hr, hm, hne, K, hrl, hml, hrok, hst, hmsd, hcln⟩ := h
      have hipos := iterPos_at hit
      by_cases hp : p < s.size
      · have hnx : ∀ ty, (Instr.next (.pointer (some ⟨w1.heap.size, 0, none⟩)) true ty).run Tryz.prog wr = _ := fun ty => Lib.run_next_any_at wr w1.heap.size s p ty hit hp
        obtain ⟨hw1, hw2⟩ := step_le s p hp
        have hdr := digs_rune s p hp
        have hcm := fun (r q : Nat) => @cln_more s p q rs r hp
        obtain ⟨r, hr'⟩ : ∃ r, r = (Utf8.decode s p).1 := ⟨_, rfl⟩
        obtain ⟨q, hq⟩ : ∃ q, q = p + (Utf8.decode s p).2 := ⟨_, rfl⟩
        have hcm2 := hcm r q hr' hq
        have hrle := Lib.rune_le s p
        rw [← hr', ← hq] at hnx
        rw [← hr', ← hq] at hdr
        rw [← hr'] at hrle
        rw [← hq] at hw2
        have hpq : p < q := by omega
        have hit2 := Lib.iterAt_heap wr w1.heap.size s p q hit
        have hr2 := own_iterAt (p' := q) hr hit
        have hm2 := own_iterAt (p' := q) hm hit
        have K2 := Lib.below_iterAt K (k := w1.heap.size) (Nat.le_refl _) s q
        obtain ⟨wa, hwa⟩ : ∃ wa, wa = wr.iterAt w1.heap.size s q := ⟨_, rfl⟩
        rw [← hwa] at hit2 hr2 hm2 K2 hnx
        have hst2 := st_more hst hdr
        have hlt := box_lt hit2
        have HCM := Lib.hid hcm2
        have HST := Lib.hid hst2
        have HDR := Lib.hid hdr
        have HIT := Lib.hid hit2
        have HR := Lib.hid hr2
        have HM := Lib.hid hm2
        have HIP := Lib.hid hipos
        have HMSD := Lib.hid hmsd
        have HCL := Lib.hid hcln
        have HNE := Lib.hid hne
        have HROK := Lib.hid hrok
        have HKK := Lib.hid K2
        clear hcm hcm2 hr' hq hit hr hm hit2 hr2 hm2 K K2 hwa hst hst2 hdr hipos hmsd hcln hne hrok hw1 hps
        have hri : (0 : Int) ≤ (r : Int) ∧ (r : Int) ≤ 1114111 := by omega
        have hext : ∀ x ∈ rs ++ [(r : Int)], 0 ≤ x ∧ x ≤ 1114111 := fun x hx => by
          rcases List.mem_append.1 hx with hx | hx
          · exact HROK.out x hx
          · simp at hx; omega
        have HEXT := Lib.hid hext
        clear hext
        have hsz1 : (rs.length + 1) * 16 ≤ 140737488355328 := by omega
        have hsz2 : (ms.length + 1) * 16 ≤ 140737488355328 := by omega
        have hsz := HKK.out.size
        by_cases hdg : 48 ≤ (r : Int) ∧ (r : Int) ≤ 57
        · have hdg2 : digOf (r : Nat) = [(r : Int) - 48] := by unfold digOf isDig; rw [if_pos (by simp; omega)]
          have HD2 := Lib.hid hdg2
          obtain ⟨h1, h2⟩ := hdg
          have e1 : IntKind.i32.wrap ((r : Int) - 48) = (r : Int) - 48 := by rw [IntKind.wrap_i32]; omega
          have e2 : IntKind.i64.wrap ((r : Int) - 48) = (r : Int) - 48 := IntWalk.i64_in _ (by omega)
          clear hdg2
          cases c
          · go_wp2_with (first
              | (at_builtin; refine wpList_append_own_at _ rfl _ _ 83 rfl (w1.heap.size + 1) 20 i0 .nilIface 1 16 Tryz.underlying83 hi hz0 hz1 hz2 rfl (by decide) _ rs.length _ rfl (own_below HR.out (below_alloc _ _)) ⟨wa.heap.size, 0, Option.none⟩ 1 1 [.iface 21 (.int .i32 (r : Int))] rfl rfl (cell_one_new _ _ _) (fun u hu => by simp at hu; subst hu; rfl) (by unfold maxLen; omega) (by omega) (by simp; omega) ?_; intro v3 w3 hown3 hgrow3 _ hat3; obtain ⟨j1, j2, j3, j4⟩ := two_rows HR.out HM.out HIT.out HNE.out HKK.out hgrow3 hat3; have J1 := Lib.hid j1; have J2 := Lib.hid j2; have J3 := Lib.hid j3; have J4 := Lib.hid j4; have J5 := Lib.hid hown3; have jlt := box_lt j1; clear j1 j2 j3 j4 hown3 hgrow3 hat3)
              | (at_builtin; refine wpList_append_own_at _ rfl _ _ 83 rfl (w1.heap.size + 1) 20 i0 .nilIface 1 16 Tryz.underlying83 hi hz0 hz1 hz2 rfl (by decide) _ ms.length _ rfl (own_below J2.out (below_alloc _ _)) ⟨w3.heap.size, 0, Option.none⟩ 1 1 [.iface 3 (.int .i64 ((r : Int) - 48))] rfl rfl (cell_one_new _ _ _) (fun u hu => by simp at hu; subst hu; rfl) (by unfold maxLen; omega) (by omega) (by simp; omega) ?_; intro v4 w4 hown4 hgrow4 _ hat4; obtain ⟨j1, j2, j3, j4⟩ := two_rows J2.out J5.out J1.out (fun b hb e => J3.out b e hb) J4.out hgrow4 hat4; have M1 := Lib.hid j1; have M2 := Lib.hid j2; have M3 := Lib.hid j3; have M4 := Lib.hid j4; have M5 := Lib.hid hown4; clear j1 j2 j3 j4 hown4 hgrow4 hat4))
            go_roundw
            case rel => exact ⟨q, false, rs ++ [(r : Int)], ms ++ [(r : Int) - 48], rfl, ⟨hw2, M1.out, by simpa [rvals] using M2.out, by simpa [nvals] using M5.out, (fun b hb e => M3.out b e hb), M4.out, by simp; omega, by simp; omega, HEXT.out, HST.out, by rw [HDR.out, HD2.out, ← HMSD.out], fun h => by cases h⟩⟩
            case measure => rw [iterPos_at M1.out, HIP.out]; omega
          · go_wp2_with (first
              | (at_builtin; refine wpList_append_own_at _ rfl _ _ 83 rfl (w1.heap.size + 1) 20 i0 .nilIface 1 16 Tryz.underlying83 hi hz0 hz1 hz2 rfl (by decide) _ rs.length _ rfl (own_below HR.out (below_alloc _ _)) ⟨wa.heap.size, 0, Option.none⟩ 1 1 [.iface 21 (.int .i32 (r : Int))] rfl rfl (cell_one_new _ _ _) (fun u hu => by simp at hu; subst hu; rfl) (by unfold maxLen; omega) (by omega) (by simp; omega) ?_; intro v3 w3 hown3 hgrow3 _ hat3; obtain ⟨j1, j2, j3, j4⟩ := two_rows HR.out HM.out HIT.out HNE.out HKK.out hgrow3 hat3; have J1 := Lib.hid j1; have J2 := Lib.hid j2; have J3 := Lib.hid j3; have J4 := Lib.hid j4; have J5 := Lib.hid hown3; have jlt := box_lt j1; clear j1 j2 j3 j4 hown3 hgrow3 hat3)
              | (at_builtin; refine wpList_append_own_at _ rfl _ _ 83 rfl (w1.heap.size + 1) 20 i0 .nilIface 1 16 Tryz.underlying83 hi hz0 hz1 hz2 rfl (by decide) _ ms.length _ rfl (own_below J2.out (below_alloc _ _)) ⟨w3.heap.size, 0, Option.none⟩ 1 1 [.iface 3 (.int .i64 ((r : Int) - 48))] rfl rfl (cell_one_new _ _ _) (fun u hu => by simp at hu; subst hu; rfl) (by unfold maxLen; omega) (by omega) (by simp; omega) ?_; intro v4 w4 hown4 hgrow4 _ hat4; obtain ⟨j1, j2, j3, j4⟩ := two_rows J2.out J5.out J1.out (fun b hb e => J3.out b e hb) J4.out hgrow4 hat4; have M1 := Lib.hid j1; have M2 := Lib.hid j2; have M3 := Lib.hid j3; have M4 := Lib.hid j4; have M5 := Lib.hid hown4; clear j1 j2 j3 j4 hown4 hgrow4 hat4))
            go_roundw
            case rel => exact ⟨q, _, rs ++ [(r : Int)], ms ++ [(r : Int) - 48], rfl, ⟨hw2, M1.out, by simpa [rvals] using M2.out, by simpa [nvals] using M5.out, (fun b hb e => M3.out b e hb), M4.out, by simp; omega, by simp; omega, HEXT.out, HST.out, by rw [HDR.out, HD2.out, ← HMSD.out], fun h => HCM.out (HCL.out rfl) (by simpa using h)⟩⟩
            case measure => rw [iterPos_at M1.out, HIP.out]; omega
        · have hdg2 : digOf (r : Nat) = [] := by unfold digOf isDig; rw [if_neg (by simp; omega)]
          have HD2 := Lib.hid hdg2
          have hcase : ((48 : Int) ≤ r ∧ (57 : Int) < r) ∨ (r : Int) < 48 := by omega
          clear hdg hdg2
          rcases hcase with ⟨h1, h2⟩ | h1
          · cases c
            · go_wp2_with (first
                | (at_builtin; refine wpList_append_own_at _ rfl _ _ 83 rfl (w1.heap.size + 1) 20 i0 .nilIface 1 16 Tryz.underlying83 hi hz0 hz1 hz2 rfl (by decide) _ rs.length _ rfl (own_below HR.out (below_alloc _ _)) ⟨wa.heap.size, 0, Option.none⟩ 1 1 [.iface 21 (.int .i32 (r : Int))] rfl rfl (cell_one_new _ _ _) (fun u hu => by simp at hu; subst hu; rfl) (by unfold maxLen; omega) (by omega) (by simp; omega) ?_; intro v3 w3 hown3 hgrow3 _ hat3; obtain ⟨j1, j2, j3, j4⟩ := two_rows HR.out HM.out HIT.out HNE.out HKK.out hgrow3 hat3; have J1 := Lib.hid j1; have J2 := Lib.hid j2; have J3 := Lib.hid j3; have J4 := Lib.hid j4; have J5 := Lib.hid hown3; have jlt := box_lt j1; clear j1 j2 j3 j4 hown3 hgrow3 hat3))
              go_roundw
              case rel => exact ⟨q, false, rs ++ [(r : Int)], ms, rfl, ⟨hw2, J1.out, by simpa [rvals] using J5.out, J2.out, J3.out, J4.out, by simp; omega, by omega, HEXT.out, HST.out, by rw [HDR.out, HD2.out, ← HMSD.out, List.append_nil], fun h => by cases h⟩⟩
              case measure => rw [iterPos_at J1.out, HIP.out]; omega
            · go_wp2_with (first
                | (at_builtin; refine wpList_append_own_at _ rfl _ _ 83 rfl (w1.heap.size + 1) 20 i0 .nilIface 1 16 Tryz.underlying83 hi hz0 hz1 hz2 rfl (by decide) _ rs.length _ rfl (own_below HR.out (below_alloc _ _)) ⟨wa.heap.size, 0, Option.none⟩ 1 1 [.iface 21 (.int .i32 (r : Int))] rfl rfl (cell_one_new _ _ _) (fun u hu => by simp at hu; subst hu; rfl) (by unfold maxLen; omega) (by omega) (by simp; omega) ?_; intro v3 w3 hown3 hgrow3 _ hat3; obtain ⟨j1, j2, j3, j4⟩ := two_rows HR.out HM.out HIT.out HNE.out HKK.out hgrow3 hat3; have J1 := Lib.hid j1; have J2 := Lib.hid j2; have J3 := Lib.hid j3; have J4 := Lib.hid j4; have J5 := Lib.hid hown3; have jlt := box_lt j1; clear j1 j2 j3 j4 hown3 hgrow3 hat3))
              go_roundw
              case rel => exact ⟨q, _, rs ++ [(r : Int)], ms, rfl, ⟨hw2, J1.out, by simpa [rvals] using J5.out, J2.out, J3.out, J4.out, by simp; omega, by omega, HEXT.out, HST.out, by rw [HDR.out, HD2.out, ← HMSD.out, List.append_nil], fun h => HCM.out (HCL.out rfl) (by simpa using h)⟩⟩
              case measure => rw [iterPos_at J1.out, HIP.out]; omega
          · cases c
            · go_wp2_with (first
                | (at_builtin; refine wpList_append_own_at _ rfl _ _ 83 rfl (w1.heap.size + 1) 20 i0 .nilIface 1 16 Tryz.underlying83 hi hz0 hz1 hz2 rfl (by decide) _ rs.length _ rfl (own_below HR.out (below_alloc _ _)) ⟨wa.heap.size, 0, Option.none⟩ 1 1 [.iface 21 (.int .i32 (r : Int))] rfl rfl (cell_one_new _ _ _) (fun u hu => by simp at hu; subst hu; rfl) (by unfold maxLen; omega) (by omega) (by simp; omega) ?_; intro v3 w3 hown3 hgrow3 _ hat3; obtain ⟨j1, j2, j3, j4⟩ := two_rows HR.out HM.out HIT.out HNE.out HKK.out hgrow3 hat3; have J1 := Lib.hid j1; have J2 := Lib.hid j2; have J3 := Lib.hid j3; have J4 := Lib.hid j4; have J5 := Lib.hid hown3; have jlt := box_lt j1; clear j1 j2 j3 j4 hown3 hgrow3 hat3))
              go_roundw
              case rel => exact ⟨q, false, rs ++ [(r : Int)], ms, rfl, ⟨hw2, J1.out, by simpa [rvals] using J5.out, J2.out, J3.out, J4.out, by simp; omega, by omega, HEXT.out, HST.out, by rw [HDR.out, HD2.out, ← HMSD.out, List.append_nil], fun h => by cases h⟩⟩
              case measure => rw [iterPos_at J1.out, HIP.out]; omega
            · go_wp2_with (first
                | (at_builtin; refine wpList_append_own_at _ rfl _ _ 83 rfl (w1.heap.size + 1) 20 i0 .nilIface 1 16 Tryz.underlying83 hi hz0 hz1 hz2 rfl (by decide) _ rs.length _ rfl (own_below HR.out (below_alloc _ _)) ⟨wa.heap.size, 0, Option.none⟩ 1 1 [.iface 21 (.int .i32 (r : Int))] rfl rfl (cell_one_new _ _ _) (fun u hu => by simp at hu; subst hu; rfl) (by unfold maxLen; omega) (by omega) (by simp; omega) ?_; intro v3 w3 hown3 hgrow3 _ hat3; obtain ⟨j1, j2, j3, j4⟩ := two_rows HR.out HM.out HIT.out HNE.out HKK.out hgrow3 hat3; have J1 := Lib.hid j1; have J2 := Lib.hid j2; have J3 := Lib.hid j3; have J4 := Lib.hid j4; have J5 := Lib.hid hown3; have jlt := box_lt j1; clear j1 j2 j3 j4 hown3 hgrow3 hat3))
              go_roundw
              case rel => exact ⟨q, _, rs ++ [(r : Int)], ms, rfl, ⟨hw2, J1.out, by simpa [rvals] using J5.out, J2.out, J3.out, J4.out, by simp; omega, by omega, HEXT.out, HST.out, by rw [HDR.out, HD2.out, ← HMSD.out, List.append_nil], fun h => HCM.out (HCL.out rfl) (by simpa using h)⟩⟩
              case measure => rw [iterPos_at J1.out, HIP.out]; omega
      · obtain rfl : p = s.size := by omega
        have hnx : ∀ ty, (Instr.next (.pointer (some ⟨w1.heap.size, 0, none⟩)) true ty).run Tryz.prog wr = _ := fun ty => Lib.run_next_end_at wr w1.heap.size s s.size ty hit hp
        rw [← hlen, List.take_length] at hst hmsd hcln
        obtain ⟨D, hD⟩ : ∃ D, D = (digB s.data.toList).map dSt := ⟨_, rfl⟩
        have hDl : D.length ≤ 100 := by rw [hD, List.length_map, ← hmsd]; omega
        have aR := any_own_r hr
        have aM := any_own_n hm
        have s1 := fun w v (h : AnyArg w v [.text s]) => steps_any h (by simp) (fun e he => by simp at he; subst he; show s.size ≤ 1000; omega)
        have s2 := fun w v (h : AnyArg w v (rs.map .rune)) => steps_any h (by simp; omega) (fun e he => by obtain ⟨x, hx, rfl⟩ := List.mem_map.1 he; have := hrok x hx; show -2147483648 ≤ x ∧ x ≤ 2147483647; omega)
        have s3 := fun w v (h : AnyArg w v (ms.map .num)) => steps_any h (by simp; omega) (fun e he => by obtain ⟨x, hx, rfl⟩ := List.mem_map.1 he; trivial)
        have r1 := fun w v (h : AnyArg w v [.text s]) => runes_any h (by simp) (fun e he => by simp at he; subst he; show s.size ≤ 1000; omega)
        have r2 := fun w v (h : AnyArg w v (rs.map .rune)) => runes_any h (by simp; omega) (fun e he => by obtain ⟨x, hx, rfl⟩ := List.mem_map.1 he; have := hrok x hx; show -2147483648 ≤ x ∧ x ≤ 2147483647; omega)
        simp only [hst, ← hD] at s2
        have hms2 : ms.map dSt = D := by rw [hD, ← hmsd]
        rw [stepsBs_nums, hms2] at s3
        clear hms2
        rw [show stepsBs [.text s] = D by rw [hD]; simp [stepsBs, stepsB]] at s1
        rw [show runesBs [.text s] = s.data.toList by simp [runesBs, runesB]] at r1
        simp only [bytes_of] at r1
        have hnq := fun e w => neq_st e w
        have S1 := Lib.hid s1
        have S2 := Lib.hid s2
        have S3 := Lib.hid s3
        have R1 := Lib.hid r1
        have R2 := Lib.hid r2
        have AR := Lib.hid aR
        have AM := Lib.hid aM
        have HCL := Lib.hid hcln
        have KW := Lib.hid (K0.out.trans (K.mono K0.out.size))
        clear s1 s2 s3 r1 r2 aR aM hcln hst hmsd hr hm hne K hrok hit hipos hrl hml hD
        go_wp2_with fail
        refine (S1.out _ _ (any_one wr _ (.text s) _ _ rfl rfl)).mono ?_
        rintro e w2 ⟨va, rfl, hra, hb2⟩
        obtain ⟨aa, ca, rfl⟩ := ownsRow_slice hra
        have K2' : Below wr.heap.size wr w2 := (below_alloc wr _).trans (hb2.mono (by simp))
        have A2 := Lib.hid (own_starg hra)
        have K2 := Lib.hid K2'
        clear hra hb2 K2'
        go_wp2_with fail
        refine (S2.out _ _ (AR.out.below K2.out)).mono ?_
        rintro e w3 ⟨vb, rfl, hrb, hb3⟩
        obtain ⟨ab, cb, rfl⟩ := ownsRow_slice hrb
        have A3 := Lib.hid (A2.out.below hb3)
        have B3 := Lib.hid (own_starg hrb)
        have K3 := Lib.hid (K2.out.trans (hb3.mono K2.out.size))
        clear hrb hb3
        go_wp2_with fail
        refine (S3.out _ _ (AM.out.below K3.out)).mono ?_
        rintro e w4 ⟨vc, rfl, hrc, hb4⟩
        obtain ⟨ac, cc, rfl⟩ := ownsRow_slice hrc
        have A4 := Lib.hid (A3.out.below hb4)
        have B4 := Lib.hid (B3.out.below hb4)
        have C4 := Lib.hid (own_starg hrc)
        have K4 := Lib.hid (K3.out.trans (hb4.mono K3.out.size))
        clear hrc hb4
        have hss : (s.toList == s.toList) = true := by simp
        have fin : ∀ w5, Below w4.heap.size w4 w5 → True := fun _ _ => trivial
        cases c
        · go_wp2_with fail
          refine (R1.out _ _ (any_one w4 _ (.text s) _ _ rfl rfl)).mono ?_
          rintro e w6 ⟨rfl, hb6⟩
          have K6' : Below w4.heap.size w4 w6 := (below_alloc w4 _).trans (hb6.mono (by simp))
          have A6 := Lib.hid (A4.out.below K6')
          have B6 := Lib.hid (B4.out.below K6')
          have C6 := Lib.hid (C4.out.below K6')
          have K6 := Lib.hid (KW.out.trans ((K4.out.trans (K6'.mono K4.out.size)).mono KW.out.size))
          clear hb6 K6'
          go_wp2
          go_loopw [87] (fun iv wr => ∃ i : Nat, iv = .int .i64 (i : Int) ∧ i ≤ D.length ∧ Below w6.heap.size w6 wr) (fun iv _ => D.length - (intOf iv).toNat)
          case atStart => exact ⟨0, rfl, by omega, Below.refl _ _⟩
          case round =>
            obtain ⟨i, rfl, hi', hbi⟩ := hrel
            by_cases hid : i < D.length
            · have hii : (i : Int) < (D.length : Int) := by omega
              obtain ⟨e, he⟩ : ∃ e, D[i]? = some e := ⟨_, List.getElem?_eq_getElem hid⟩
              have hne0 : D ≠ [] := by rintro rfl; simp at hid
              obtain ⟨a1, c1, q1, h1⟩ := stArg_slice (A6.out.below hbi)
              obtain ⟨a2, c2, q2, h2⟩ := stArg_slice (B6.out.below hbi)
              obtain ⟨a3, c3, q3, h3⟩ := stArg_slice (C6.out.below hbi)
              simp only [Value.slice.injEq, true_and] at q1 q2 q3
              obtain ⟨rfl, rfl⟩ := q1
              obtain ⟨rfl, rfl⟩ := q2
              obtain ⟨rfl, rfl⟩ := q3
              obtain ⟨b1, o1, rfl, x1⟩ := h1.resolve_left hne0
              obtain ⟨b2, o2, rfl, x2⟩ := h2.resolve_left hne0
              obtain ⟨b3, o3, rfl, x3⟩ := h3.resolve_left hne0
              have u0 := x1.ck i e he
              have u1 := x1.cg i e he
              have u2 := x1.cm i e he
              have u3 := x1.cp i e he
              have u4 := x1.cv i e he
              have v0 := x2.ck i e he
              have v1 := x2.cg i e he
              have v2 := x2.cm i e he
              have v3 := x2.cp i e he
              have v4 := x2.cv i e he
              have z0 := x3.ck i e he
              have z1 := x3.cg i e he
              have z2 := x3.cm i e he
              have z3 := x3.cp i e he
              have z4 := x3.cv i e he
              have hnq1 := fun w => hnq e w
              have HBI := Lib.hid hbi
              clear x1 x2 x3 h1 h2 h3 he hbi hne0
              go_wp2
              go_quiet (fail)
              go_wp2
              go_roundw
              case rel => exact ⟨i + 1, by go_num, hid, below_drewN HBI.out _⟩
              case measure => simp [intOf]; omega
            · have hii : ¬ (i : Int) < (D.length : Int) := by omega
              have KX := Lib.hid (K6.out.trans (hbi.mono K6.out.size))
              clear hbi
              go_wp2
              go_returns
              exact ⟨rfl, KX.out⟩
        · go_wp2_with fail
          have hrs := HCL.out trivial
          have hr2 := R2.out _ _ (AR.out.below K4.out)
          rw [hrs, bytes_of] at hr2
          refine hr2.mono ?_
          rintro e w5 ⟨rfl, hb5⟩
          have A5 := Lib.hid (A4.out.below hb5)
          have B5 := Lib.hid (B4.out.below hb5)
          have C5 := Lib.hid (C4.out.below hb5)
          have K5 := Lib.hid (K4.out.trans (hb5.mono K4.out.size))
          clear hb5 hr2 hrs
          go_wp2_with fail
          refine (R1.out _ _ (any_one w5 _ (.text s) _ _ rfl rfl)).mono ?_
          rintro e w6 ⟨rfl, hb6⟩
          have K6' : Below w5.heap.size w5 w6 := (below_alloc w5 _).trans (hb6.mono (by simp))
          have A6 := Lib.hid (A5.out.below K6')
          have B6 := Lib.hid (B5.out.below K6')
          have C6 := Lib.hid (C5.out.below K6')
          have K6 := Lib.hid (KW.out.trans ((K5.out.trans (K6'.mono K5.out.size)).mono KW.out.size))
          clear hb6 K6'
          go_wp2
          go_loopw [87] (fun iv wr => ∃ i : Nat, iv = .int .i64 (i : Int) ∧ i ≤ D.length ∧ Below w6.heap.size w6 wr) (fun iv _ => D.length - (intOf iv).toNat)
          case atStart => exact ⟨0, rfl, by omega, Below.refl _ _⟩
          case round =>
            obtain ⟨i, rfl, hi', hbi⟩ := hrel
            by_cases hid : i < D.length
            · have hii : (i : Int) < (D.length : Int) := by omega
              obtain ⟨e, he⟩ : ∃ e, D[i]? = some e := ⟨_, List.getElem?_eq_getElem hid⟩
              have hne0 : D ≠ [] := by rintro rfl; simp at hid
              obtain ⟨a1, c1, q1, h1⟩ := stArg_slice (A6.out.below hbi)
              obtain ⟨a2, c2, q2, h2⟩ := stArg_slice (B6.out.below hbi)
              obtain ⟨a3, c3, q3, h3⟩ := stArg_slice (C6.out.below hbi)
              simp only [Value.slice.injEq, true_and] at q1 q2 q3
              obtain ⟨rfl, rfl⟩ := q1
              obtain ⟨rfl, rfl⟩ := q2
              obtain ⟨rfl, rfl⟩ := q3
              obtain ⟨b1, o1, rfl, x1⟩ := h1.resolve_left hne0
              obtain ⟨b2, o2, rfl, x2⟩ := h2.resolve_left hne0
              obtain ⟨b3, o3, rfl, x3⟩ := h3.resolve_left hne0
              have u0 := x1.ck i e he
              have u1 := x1.cg i e he
              have u2 := x1.cm i e he
              have u3 := x1.cp i e he
              have u4 := x1.cv i e he
              have v0 := x2.ck i e he
              have v1 := x2.cg i e he
              have v2 := x2.cm i e he
              have v3 := x2.cp i e he
              have v4 := x2.cv i e he
              have z0 := x3.ck i e he
              have z1 := x3.cg i e he
              have z2 := x3.cm i e he
              have z3 := x3.cp i e he
              have z4 := x3.cv i e he
              have hnq1 := fun w => hnq e w
              have HBI := Lib.hid hbi
              clear x1 x2 x3 h1 h2 h3 he hbi hne0
              go_wp2
              go_quiet (fail)
              go_wp2
              go_roundw
              case rel => exact ⟨i + 1, by go_num, hid, below_drewN HBI.out _⟩
              case measure => simp [intOf]; omega
            · have hii : ¬ (i : Int) < (D.length : Int) := by omega
              have KX := Lib.hid (K6.out.trans (hbi.mono K6.out.size))
              clear hbi
              go_wp2
              go_returns
              exact ⟨rfl, KX.out⟩
end Go.Proofs.YtfjepdcnikgjeaaGreatDoor
