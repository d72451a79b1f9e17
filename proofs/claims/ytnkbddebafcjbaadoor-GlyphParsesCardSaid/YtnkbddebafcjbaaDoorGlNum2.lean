/-
  What the document's reading of a word gives; the events of a text: plain laws.
-/
import Derived.Test.YtnkbddebafcjbaaDoorGlNum
import Derived.Test.YtnkbddebafcjbaaDoorGlJoins1
namespace Go.Proofs.YtnkbddebafcjbaaDoor
open Go Go.RowKit Go.Proofs

def valLen (l : List UInt8) : Nat := min (digLen l) 19
def valN (l : List UInt8) : Nat := valFrom 0 (l.take (valLen l))
theorem digLen_at : ∀ (l : List UInt8) (k : Nat), k < digLen l → ∃ b, l[k]? = some b ∧ 48 ≤ b.toNat ∧ b.toNat ≤ 57
  | [], k, h => absurd h (Nat.not_lt_zero _)
  | b :: r, k, h => by
    rw [digLen] at h
    split at h
    · rename_i hb
      cases k with
      | zero => exact ⟨b, rfl, by simpa [isDig] using hb⟩
      | succ k => simpa using digLen_at r k (by omega)
    · exact absurd h (Nat.not_lt_zero _)
theorem digLen_end : ∀ (l : List UInt8) (b : UInt8), l[digLen l]? = some b → isDig b = false
  | [], b, h => by simp [digLen] at h
  | a :: r, b, h => by
    rw [digLen] at h
    split at h
    · exact digLen_end r b (by simpa using h)
    · rename_i ha
      simp at h
      subst h
      simpa using ha
theorem valFrom_snoc (l : List UInt8) (b : UInt8) (a : Nat) : valFrom a (l ++ [b]) = 10 * valFrom a l + (b.toNat - 48) := by
  unfold valFrom
  rw [List.foldl_append]
  rfl
theorem val_lt : ∀ (k : Nat) (l : List UInt8), l.length = k → (∀ b ∈ l, b.toNat ≤ 57) → valFrom 0 l < 10 ^ k
  | 0, [], _, _ => by decide
  | k + 1, l, h, hd => by
    obtain ⟨r, b, rfl⟩ : ∃ r b, l = r ++ [b] := ⟨l.dropLast, l.getLast (by rintro rfl; simp at h), (List.dropLast_concat_getLast _).symm⟩
    have ih := val_lt k r (by simpa using h) (fun x hx => hd x (List.mem_append_left _ hx))
    have hb := hd b (by simp)
    rw [valFrom_snoc, Nat.pow_succ]
    omega
theorem dec_len : ∀ (k u : Nat), u < 10 ^ (k + 1) → (Lib.decDigits u).length ≤ k + 1
  | 0, u, h => by
    rw [Lib.decDigits, dif_pos (by simpa using h)]
    simp
  | k + 1, u, h => by
    rw [Lib.decDigits]
    split
    · simp
    · have := dec_len k (u / 10) (by rw [Nat.pow_succ] at h; omega)
      rw [List.length_append]
      simp
      omega
theorem valLen_le (l : List UInt8) : valLen l ≤ l.length := Nat.le_trans (Nat.min_le_left _ _) (digLen_le l)
theorem val_dec (u : Nat) (t : List UInt8) (hu : u < 10000000000000000000) (ht : noDig t) : valLen (Lib.decDigits u ++ t) = (Lib.decDigits u).length ∧ valN (Lib.decDigits u ++ t) = u := by
  have hl := dec_len 18 u (by simpa using hu)
  have e1 : valLen (Lib.decDigits u ++ t) = (Lib.decDigits u).length := by
    unfold valLen
    rw [digLen_app _ _ (dec_dig u) ht]
    omega
  refine ⟨e1, ?_⟩
  unfold valN
  rw [e1, List.take_left]
  exact dec_val u

def partV (s sign : List UInt8) (x : Int) : Int :=
  if Lib.hasPrefix s sign then (if Lib.hasPrefix (Lib.trimPrefix s sign) [45] then IntKind.i64.wrap (IntKind.u64.wrap (0 - (valN (Lib.trimPrefix (Lib.trimPrefix s sign) [45]) : Int))) else IntKind.i64.wrap (valN (Lib.trimPrefix (Lib.trimPrefix s sign) [45]) : Int)) else x
def partR (s sign : List UInt8) : List UInt8 :=
  if Lib.hasPrefix s sign then (Lib.trimPrefix (Lib.trimPrefix s sign) [45]).drop (valLen (Lib.trimPrefix (Lib.trimPrefix s sign) [45])) else s
theorem trim_le (s p : List UInt8) : (Lib.trimPrefix s p).length ≤ s.length := by
  unfold Lib.trimPrefix
  split
  · rw [List.length_drop]; omega
  · exact Nat.le_refl _
theorem partR_le (s sign : List UInt8) : (partR s sign).length ≤ s.length := by
  unfold partR
  split
  · have := trim_le (Lib.trimPrefix s sign) [45]
    have := trim_le s sign
    rw [List.length_drop]
    omega
  · exact Nat.le_refl _
theorem wrap_i64 (x : Int) : -9223372036854775808 ≤ IntKind.i64.wrap x ∧ IntKind.i64.wrap x ≤ 9223372036854775807 := by
  rw [IntKind.wrap_i64]
  omega
theorem partV_i64 (s sign : List UInt8) (x : Int) (h0 : -9223372036854775808 ≤ x) (h1 : x ≤ 9223372036854775807) : -9223372036854775808 ≤ partV s sign x ∧ partV s sign x ≤ 9223372036854775807 := by
  unfold partV
  split
  · split
    · exact wrap_i64 _
    · exact wrap_i64 _
  · exact ⟨h0, h1⟩
theorem prefix_one (c b : UInt8) (r : List UInt8) : Lib.hasPrefix (b :: r) [c] = (c == b) := by simp [Lib.hasPrefix, List.isPrefixOf]
theorem trim_one (c : UInt8) (r : List UInt8) : Lib.trimPrefix (c :: r) [c] = r := by simp [Lib.trimPrefix, prefix_one]
theorem trim_not (c b : UInt8) (r : List UInt8) (h : c ≠ b) : Lib.trimPrefix (b :: r) [c] = b :: r := by simp [Lib.trimPrefix, prefix_one, h]
theorem part_back (a t : List UInt8) (n : Int) (x : Int) (h0 : -9223372036854775808 ≤ n) (h1 : n ≤ 9223372036854775807) (ht : noDig t) : partV (a ++ (Lib.itoa n ++ t)) a x = n ∧ partR (a ++ (Lib.itoa n ++ t)) a = t := by
  have hp : Lib.hasPrefix (a ++ (Lib.itoa n ++ t)) a = true := by unfold Lib.hasPrefix; rw [List.isPrefixOf_iff_prefix]; exact List.prefix_append _ _
  have htp : Lib.trimPrefix (a ++ (Lib.itoa n ++ t)) a = Lib.itoa n ++ t := by unfold Lib.trimPrefix; rw [if_pos hp, List.drop_left]
  unfold partV partR
  rw [if_pos hp, if_pos hp, htp]
  by_cases hn : n < 0
  · have ei : Lib.itoa n = 45 :: Lib.decDigits n.natAbs := by unfold Lib.itoa; rw [if_pos hn]
    obtain ⟨d1, d2⟩ := val_dec n.natAbs t (by omega) ht
    rw [ei, List.cons_append, prefix_one, trim_one, d1, d2, List.drop_left]
    simp only [beq_self_eq_true, if_true, and_true]
    rw [IntKind.wrap_i64, IntKind.wrap_u64]
    omega
  · have ei : Lib.itoa n = Lib.decDigits n.toNat := by unfold Lib.itoa; rw [if_neg hn]
    obtain ⟨d1, d2⟩ := val_dec n.toNat t (by omega) ht
    rw [ei]
    cases h : Lib.decDigits n.toNat with
    | nil => exact absurd h (dec_ne _)
    | cons b r =>
      have hd := dec_dig n.toNat b (by rw [h]; exact List.mem_cons_self ..)
      have h45 : (45 : UInt8) ≠ b := fun e => dig_ne45 hd e.symm
      rw [h, List.cons_append] at d1 d2
      rw [List.cons_append, prefix_one, trim_not _ _ _ h45, d1, d2]
      rw [beq_eq_false_iff_ne.2 h45, ← List.cons_append, List.drop_left]
      refine ⟨?_, rfl⟩
      rw [if_neg (by simp), IntKind.wrap_i64]
      omega
theorem part_miss (s : List UInt8) (c : UInt8) (x : Int) (h : ∀ b r, s = b :: r → b ≠ c) : partV s [c] x = x ∧ partR s [c] = s := by
  have hp : ¬ Lib.hasPrefix s [c] = true := by
    unfold Lib.hasPrefix
    cases s with
    | nil => simp [List.isPrefixOf]
    | cons b r => simp [List.isPrefixOf]; exact fun e => h b r rfl e.symm
  unfold partV partR
  rw [if_neg hp, if_neg hp]
  exact ⟨rfl, rfl⟩

/-- What the document reads of a word that begins with the k-th rune and goes on with b0. -/
def refOf (k : Nat) (b0 : List UInt8) : Ev :=
  { k := k, g := partV b0 [] 0, m := partV (partR b0 []) [109] (-1), p := partV (partR (partR b0 []) [109]) [112] (-1), v := partV (partR (partR (partR b0 []) [109]) [112]) [61] 0 }
theorem refOf_v (k : Nat) (b0 : List UInt8) : -9223372036854775808 ≤ (refOf k b0).v ∧ (refOf k b0).v ≤ 9223372036854775807 := partV_i64 _ _ _ (by decide) (by decide)
theorem pseg_back (c : UInt8) (n : Int) (t : List UInt8) (h0 : -1 ≤ n) (h1 : n ≤ 9223372036854775807) (ht : noDig t) (hc : ∀ b r, t = b :: r → b ≠ c) : partV ((if 0 ≤ n then c :: Lib.itoa n else []) ++ t) [c] (-1) = n ∧ partR ((if 0 ≤ n then c :: Lib.itoa n else []) ++ t) [c] = t := by
  split
  · exact part_back [c] t n (-1) (by omega) h1 ht
  · obtain ⟨e1, e2⟩ := part_miss t c (-1) hc
    rw [List.nil_append]
    exact ⟨by rw [e1]; omega, e2⟩
theorem pv_back (v : Int) (h0 : -9223372036854775808 ≤ v) (h1 : v ≤ 9223372036854775807) : partV (vSeg v) [61] 0 = v := by
  unfold vSeg
  split
  · have := (part_back [61] [] v 0 h0 h1 (fun b r e => by cases e)).1
    rw [List.append_nil] at this
    exact this
  · rename_i h
    rw [(part_miss [] 61 0 (fun b r e => by cases e)).1]
    omega
theorem ref_back (j : Nat) (g m p v : Int) (g0 : 0 ≤ g) (g1 : g < 4096) (m0 : -1 ≤ m) (m1 : m < 128) (p0 : -1 ≤ p) (p1 : p < 64) (v0 : -9223372036854775808 ≤ v) (v1 : v ≤ 9223372036854775807) :
    refOf j (Lib.itoa g ++ mSeg m p v) = ⟨j, g, m, p, v⟩ := by
  obtain ⟨a1, a2⟩ := part_back [] (mSeg m p v) g 0 (by omega) (by omega) (noDig_of (mSeg_head m p v))
  rw [List.nil_append] at a1 a2
  have hp : ∀ b r, pSeg p v = b :: r → b ≠ 109 := fun b r e => by rcases pSeg_head p v b r e with rfl | rfl <;> decide
  obtain ⟨b1, b2⟩ := pseg_back 109 m (pSeg p v) m0 (by omega) (noDig_of fun b r e => .inr (pSeg_head p v b r e)) hp
  have hv : ∀ b r, vSeg v = b :: r → b ≠ 112 := fun b r e => by rw [vSeg_head v b r e]; decide
  obtain ⟨c1, c2⟩ := pseg_back 112 p (vSeg v) p0 (by omega) (noDig_of fun b r e => .inr (.inr (vSeg_head v b r e))) hv
  have d1 := pv_back v v0 v1
  change partV (mSeg m p v) [109] (-1) = m at b1
  change partR (mSeg m p v) [109] = pSeg p v at b2
  change partV (pSeg p v) [112] (-1) = p at c1
  change partR (pSeg p v) [112] = vSeg v at c2
  unfold refOf
  rw [a1, a2, b1, b2, c1, c2, d1]
/-- A word that begins with the k-th rune: the document reads the event whose word it is, if it is one's. -/
theorem refOf_back (k : Nat) (hk : k < 8) (s x0 : List UInt8) (hs : s = Lib.encodeRune (kRune k) ++ x0) (x : Ev) (h : IsEv s x) : refOf k x0 = x := by
  obtain ⟨hr, hv, hw⟩ := h
  obtain ⟨j, hj, hkj, hsj⟩ := word_shape x hr
  rw [hw, hs] at hsj
  obtain ⟨e1, e2⟩ := kind_split k j hk hj _ _ hsj
  subst e1
  obtain ⟨k', g, m, p, v⟩ := x
  dsimp only at hkj e2 hv
  simp only [rightOf, decide_eq_true_eq] at hr
  obtain ⟨k0, k1, g0, g1, m0, m1, p0, p1, _⟩ := hr
  rw [e2, ref_back k g m p v g0 g1 m0 m1 p0 p1 hv.1 hv.2, hkj]
theorem no_kind (s : List UInt8) (h : ∀ k : Nat, k < 8 → Lib.hasPrefix s (Lib.encodeRune (kRune k)) = false) : isWord s = false := by
  rw [← Bool.not_eq_true]
  intro hw
  have hx := isWord_evOf hw
  obtain ⟨j, hj, _, hs⟩ := word_shape _ hx.1
  rw [hx.2.2] at hs
  have := h j hj
  rw [hs] at this
  unfold Lib.hasPrefix at this
  rw [← Bool.not_eq_true, List.isPrefixOf_iff_prefix] at this
  exact this (List.prefix_append _ _)

/-! The events of a text. -/
noncomputable def goodN (ws : List (List UInt8)) : Nat := (ws.takeWhile isWord).length
theorem goodN_le (ws : List (List UInt8)) : goodN ws ≤ ws.length := (List.takeWhile_prefix _).length_le
theorem goodN_lt : ∀ (ws : List (List UInt8)) (j : Nat) (w : List UInt8), j ≤ goodN ws → ws[j]? = some w → (isWord w = true → j + 1 ≤ goodN ws) ∧ (isWord w = false → j = goodN ws)
  | [], j, w, _, h => by simp at h
  | a :: r, 0, w, _, h => by
    simp at h
    subst h
    unfold goodN
    constructor
    · intro ha; rw [List.takeWhile_cons, if_pos ha]; simp
    · intro ha; rw [List.takeWhile_cons, if_neg (by simp [ha])]; rfl
  | a :: r, j + 1, w, hj, h => by
    unfold goodN at hj ⊢
    rw [List.takeWhile_cons] at hj ⊢
    split at hj
    · rename_i ha
      rw [if_pos ha]
      have := goodN_lt r j w (by unfold goodN; simpa using hj) (by simpa using h)
      unfold goodN at this
      simp only [List.length_cons]
      exact ⟨fun x => by have := this.1 x; omega, fun x => by have := this.2 x; omega⟩
    · simp at hj
def cnt (w : List UInt8) : Nat := Lib.runeCount ⟨w.toArray⟩
def sumAt (ws : List (List UInt8)) : Nat := (ws.map fun w => cnt w + 1).sum
theorem sumAt_snoc (ws : List (List UInt8)) (w : List UInt8) : sumAt (ws ++ [w]) = sumAt ws + cnt w + 1 := by
  unfold sumAt
  rw [List.map_append, List.sum_append]
  simp
  omega
noncomputable def pEvs (s : List UInt8) : List Ev := if s = [] then [] else ((wordsA [] s).take (goodN (wordsA [] s))).map evOf
noncomputable def pOk (s : List UInt8) : Bool := decide (s = [] ∨ goodN (wordsA [] s) = (wordsA [] s).length)
noncomputable def pWrong (s : List UInt8) : Nat := sumAt ((wordsA [] s).take (goodN (wordsA [] s)))
theorem good_all (ws : List (List UInt8)) (h : goodN ws = ws.length) : ∀ w ∈ ws, isWord w = true := by
  have : ws.takeWhile isWord = ws := (List.takeWhile_prefix _).eq_of_length h
  intro w hw
  rw [← this] at hw
  exact List.all_eq_true.1 (List.all_takeWhile (p := isWord) (l := ws)) w hw
theorem pEvs_mem (s : List UInt8) (e : Ev) (h : e ∈ pEvs s) : rightOf e = true ∧ -9223372036854775808 ≤ e.v ∧ e.v ≤ 9223372036854775807 := by
  unfold pEvs at h
  split at h
  · cases h
  · obtain ⟨w, hw, rfl⟩ := List.mem_map.1 h
    unfold goodN at hw
    rw [← List.prefix_iff_eq_take.1 (List.takeWhile_prefix _)] at hw
    have := isWord_evOf (List.all_eq_true.1 List.all_takeWhile w hw)
    exact ⟨this.1, this.2.1⟩
/-- A text that is parsed is the text of its events. -/
theorem pEvs_text (s : List UInt8) (h : pOk s = true) : textOf (pEvs s) = s := by
  unfold pOk at h
  unfold pEvs
  rw [decide_eq_true_eq] at h
  split
  · rename_i h0; rw [h0]; rfl
  · rename_i h0
    have h := h.resolve_left h0
    rw [h, List.take_length]
    have := words_text s [] ((wordsA [] s).map evOf) (by
      rw [List.map_map]
      conv => lhs; rw [← List.map_id (wordsA [] s)]
      apply List.map_congr_left
      intro w hw
      exact (isWord_evOf (good_all _ h w hw)).2.2.symm)
    rw [List.nil_append] at this
    exact this.symm
theorem wordsA_len : ∀ (s cur : List UInt8), (wordsA cur s).length ≤ s.length + 1
  | [], cur => by simp [wordsA]
  | b :: r, cur => by
    rw [wordsA]
    split
    · have := wordsA_len r []
      simp; omega
    · have := wordsA_len r (cur ++ [b])
      simp; omega
theorem pEvs_len (s : List UInt8) : (pEvs s).length ≤ s.length + 1 := by
  unfold pEvs
  split
  · simp
  · have := wordsA_len s []
    rw [List.length_map, List.length_take]
    omega
theorem takeWhile_all {p : List UInt8 → Bool} : ∀ (l : List (List UInt8)), (∀ w ∈ l, p w = true) → l.takeWhile p = l
  | [], _ => rfl
  | a :: r, h => by
    rw [List.takeWhile_cons, if_pos (h a (List.mem_cons_self ..)), takeWhile_all r (fun w hw => h w (List.mem_cons_of_mem _ hw))]
/-- The text of events is parsed to them. -/
theorem pEvs_back (l : List Ev) (hr : ∀ e ∈ l, rightOf e = true) (hv : inI64 l) : pOk (textOf l) = true ∧ pEvs (textOf l) = l := by
  cases l with
  | nil => simp [pOk, pEvs, text_nil]
  | cons e r =>
    have hne := text_ne e r
    have hw := text_words (e :: r) hr (by simp)
    have hall : ∀ w ∈ (e :: r).map wordOf, isWord w = true := by
      intro w hw
      obtain ⟨x, hx, rfl⟩ := List.mem_map.1 hw
      exact (evOf_is (l := wordOf x) ⟨hr x hx, hv x hx, rfl⟩).1
    have hg : goodN ((e :: r).map wordOf) = ((e :: r).map wordOf).length := by unfold goodN; rw [takeWhile_all _ hall]
    unfold pOk pEvs
    rw [if_neg hne, hw, hg, List.take_length]
    refine ⟨by simp, ?_⟩
    rw [List.map_map]
    conv => rhs; rw [← List.map_id (e :: r)]
    apply List.map_congr_left
    intro x hx
    exact (evOf_is (l := wordOf x) ⟨hr x hx, hv x hx, rfl⟩).2
end Go.Proofs.YtnkbddebafcjbaaDoor
