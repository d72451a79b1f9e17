/-
  The words of a text, and what is read of one: plain laws.
-/
import Derived.Lib.Split
import Derived.Lib.ItoaMem
import Derived.Lib.ParseIntBTie
import Derived.Lib.TrimUEq
import Derived.Test.YtnkbddebafcjbaaDoorGlJoins
namespace Go.Proofs.YtnkbddebafcjbaaDoor
open Go Go.RowKit Go.Proofs

/-! The words of a text. -/
/-- The words of a text, from a place on: 'cur' is the word so far. -/
def wordsA (cur : List UInt8) : List UInt8 → List (List UInt8)
  | [] => [cur]
  | b :: r => if b = 32 then cur :: wordsA [] r else wordsA (cur ++ [b]) r

theorem wordsA_pre : ∀ (a cur r : List UInt8), (∀ b ∈ a, b ≠ 32) → wordsA cur (a ++ r) = wordsA (cur ++ a) r
  | [], cur, r, _ => by simp
  | b :: t, cur, r, h => by
    have hb := h b (List.mem_cons_self ..)
    rw [List.cons_append, wordsA, if_neg hb, wordsA_pre t (cur ++ [b]) r (fun x hx => h x (List.mem_cons_of_mem _ hx))]
    simp
theorem wordsA_cut (a cur r : List UInt8) (h : ∀ b ∈ a, b ≠ 32) : wordsA cur (a ++ 32 :: r) = (cur ++ a) :: wordsA [] r := by
  rw [wordsA_pre a cur _ h, wordsA, if_pos rfl]
theorem wordsA_end (a cur : List UInt8) (h : ∀ b ∈ a, b ≠ 32) : wordsA cur a = [cur ++ a] := by
  have := wordsA_pre a cur [] h
  rw [List.append_nil] at this
  rw [this, wordsA]

theorem occ32 (s : List UInt8) (i : Nat) : Lib.occAt s [32] i = true ↔ s[i]? = some 32 := by
  have h0 : (s.drop i)[0]? = s[i]? := by rw [List.getElem?_drop]; simp
  unfold Lib.occAt
  cases h : s.drop i with
  | nil =>
    have h1 : s[i]? = none := by rw [← h0, h]; rfl
    rw [h1]; simp
  | cons b t =>
    rw [h] at h0
    simp only [List.getElem?_cons_zero] at h0
    rw [← h0]
    simp [List.isPrefixOf]
    exact eq_comm

theorem splitK_words : ∀ (n : Nat) (s : List UInt8), s.length ≤ n → Lib.splitK [32] 0 (Lib.count s [32]) s = wordsA [] s := by
  intro n
  induction n with
  | zero =>
    intro s hs
    have : s = [] := List.length_eq_zero_iff.1 (by omega)
    subst this
    rfl
  | succ n ih =>
    intro s hs
    rcases Lib.index_spec s [32] with ⟨h1, h2⟩ | ⟨i, h1, h2, h3, h4⟩
    · rw [Lib.count_miss h1, wordsA_end s []]
      · rfl
      · intro b hb e
        subst e
        obtain ⟨j, hj⟩ := List.mem_iff_getElem?.1 hb
        have hl := (List.getElem?_eq_some_iff.1 hj).1
        have := h2 j (by omega)
        rw [(occ32 s j).2 hj] at this
        cases this
    · have e0 := (occ32 s i).1 h3
      have hl := (List.getElem?_eq_some_iff.1 e0).1
      rw [Lib.count_hit (by simp) h1, Nat.add_comm, Lib.splitK]
      have hm : ¬ (Lib.index s [32] == -1) = true := fun e => by have := eq_of_beq e; omega
      rw [if_neg hm, show (Lib.index s [32]).toNat = i by omega]
      simp only [Nat.add_zero, List.length_cons, List.length_nil, Nat.zero_add]
      rw [ih (s.drop (i + 1)) (by rw [List.length_drop]; omega)]
      have e1 : s = s.take i ++ 32 :: s.drop (i + 1) := by
        have := List.drop_eq_getElem_cons hl
        rw [(List.getElem?_eq_some_iff.1 e0).2] at this
        rw [← this, List.take_append_drop]
      have hn : ∀ b ∈ s.take i, b ≠ 32 := by
        intro b hb e
        subst e
        obtain ⟨j, hj⟩ := List.mem_iff_getElem?.1 hb
        rw [List.getElem?_take] at hj
        split at hj
        · rename_i hji
          have := h4 j hji
          rw [(occ32 s j).2 hj] at this
          cases this
        · cases hj
      conv => rhs; rw [e1]
      rw [wordsA_cut _ _ _ hn]
      rfl

theorem wordsA_count : ∀ (n : Nat) (s : List UInt8), s.length ≤ n → (wordsA [] s).length = Lib.count s [32] + 1 := by
  intro n
  induction n with
  | zero =>
    intro s hs
    have : s = [] := List.length_eq_zero_iff.1 (by omega)
    subst this
    rfl
  | succ n ih =>
    intro s hs
    rcases Lib.index_spec s [32] with ⟨h1, h2⟩ | ⟨i, h1, h2, h3, h4⟩
    · rw [Lib.count_miss h1, wordsA_end s []]
      · rfl
      · intro b hb e
        subst e
        obtain ⟨j, hj⟩ := List.mem_iff_getElem?.1 hb
        have hl := (List.getElem?_eq_some_iff.1 hj).1
        have := h2 j (by omega)
        rw [(occ32 s j).2 hj] at this
        cases this
    · have e0 := (occ32 s i).1 h3
      have hl := (List.getElem?_eq_some_iff.1 e0).1
      have e1 : s = s.take i ++ 32 :: s.drop (i + 1) := by
        have := List.drop_eq_getElem_cons hl
        rw [(List.getElem?_eq_some_iff.1 e0).2] at this
        rw [← this, List.take_append_drop]
      have hn : ∀ b ∈ s.take i, b ≠ 32 := by
        intro b hb e
        subst e
        obtain ⟨j, hj⟩ := List.mem_iff_getElem?.1 hb
        rw [List.getElem?_take] at hj
        split at hj
        · rename_i hji
          have := h4 j hji
          rw [(occ32 s j).2 hj] at this
          cases this
        · cases hj
      have ih := ih (s.drop (i + 1)) (by rw [List.length_drop]; omega)
      rw [Lib.count_hit (by simp) h1]
      conv => lhs; rw [e1]
      rw [wordsA_cut _ _ _ hn, List.length_cons, ih]
      simp only [List.length_cons, List.length_nil, Nat.zero_add]
      omega
theorem wordsA_mem : ∀ (s cur : List UInt8) (w : List UInt8), w ∈ wordsA cur s → w.length ≤ cur.length + s.length
  | [], cur, w, h => by simp [wordsA] at h; subst h; simp
  | b :: r, cur, w, h => by
    rw [wordsA] at h
    split at h
    · rcases List.mem_cons.1 h with rfl | h
      · simp
      · have := wordsA_mem r [] w h
        simp at this ⊢
        omega
    · have := wordsA_mem r (cur ++ [b]) w h
      simp at this ⊢
      omega

theorem text_words : ∀ (l : List Ev), (∀ e ∈ l, rightOf e = true) → l ≠ [] → wordsA [] (textOf l) = l.map wordOf
  | [], _, h => absurd rfl h
  | [e], h, _ => by
    rw [text_one, wordsA_end _ _ (word_ne32 e (h e (List.mem_cons_self ..)))]
    rfl
  | e :: f :: r, h, _ => by
    rw [text_cons, wordsA_cut _ _ _ (word_ne32 e (h e (List.mem_cons_self ..))), text_words (f :: r) (fun x hx => h x (List.mem_cons_of_mem _ hx)) (by simp)]
    rfl
theorem words_text : ∀ (s cur : List UInt8) (l : List Ev), wordsA cur s = l.map wordOf → cur ++ s = textOf l
  | [], cur, l, h => by
    rw [wordsA] at h
    match l, h with
    | [e], h => simp only [List.map_cons, List.map_nil, List.cons.injEq, and_true] at h; rw [text_one, ← h, List.append_nil]
  | b :: r, cur, l, h => by
    rw [wordsA] at h
    split at h
    · rename_i hb
      subst hb
      match l, h with
      | e :: l, h =>
        simp only [List.map_cons, List.cons.injEq] at h
        have ih := words_text r [] l h.2
        cases l with
        | nil =>
          exfalso
          have := h.2
          cases r with
          | nil => simp [wordsA] at this
          | cons c r =>
            have hne : ∀ (t cur : List UInt8), wordsA cur t ≠ [] := by
              intro t
              induction t with
              | nil => intro cur; simp [wordsA]
              | cons a t ih => intro cur; rw [wordsA]; split; simp; exact ih _
            exact hne _ _ this
        | cons f l => rw [text_cons, ← ih, h.1]; rfl
    · have ih := words_text r (cur ++ [b]) l h
      rw [← ih]; simp

/-! Numbers. -/
def isDig (b : UInt8) : Bool := decide (48 ≤ b.toNat ∧ b.toNat ≤ 57)
def digLen : List UInt8 → Nat
  | [] => 0
  | b :: r => if isDig b then digLen r + 1 else 0
def numLen : List UInt8 → Nat
  | [] => 0
  | b :: r => if b = 45 then digLen r + 1 else digLen (b :: r)
theorem digLen_le : ∀ l, digLen l ≤ l.length
  | [] => Nat.le_refl _
  | b :: r => by
    have := digLen_le r
    rw [digLen]; split
    · simp; omega
    · simp
theorem numLen_le (l : List UInt8) : numLen l ≤ l.length := by
  cases l with
  | nil => exact Nat.le_refl _
  | cons b r =>
    have := digLen_le r
    rw [numLen]; split
    · simp; omega
    · exact digLen_le _
/-- The head of a list is no digit. -/
def noDig (t : List UInt8) : Prop := ∀ b r, t = b :: r → isDig b = false
theorem digLen_app : ∀ (a t : List UInt8), (∀ b ∈ a, 48 ≤ b.toNat ∧ b.toNat ≤ 57) → noDig t → digLen (a ++ t) = a.length
  | [], [], _, _ => rfl
  | [], b :: r, _, h => by rw [List.nil_append, digLen, h b r rfl]; rfl
  | b :: a, t, h, ht => by
    have hb : isDig b = true := by unfold isDig; rw [decide_eq_true_eq]; exact h b (List.mem_cons_self ..)
    rw [List.cons_append, digLen, hb, digLen_app a t (fun x hx => h x (List.mem_cons_of_mem _ hx)) ht]
    rfl
theorem dig_ne45 {b : UInt8} (h : 48 ≤ b.toNat ∧ b.toNat ≤ 57) : b ≠ 45 := by
  rintro rfl
  exact absurd h.1 (by decide)
theorem numLen_itoa (n : Int) (t : List UInt8) (ht : noDig t) : numLen (Lib.itoa n ++ t) = (Lib.itoa n).length := by
  unfold Lib.itoa
  split
  · rw [List.cons_append, numLen, if_pos rfl, digLen_app _ _ (dec_dig _) ht, List.length_cons]
  · cases h : Lib.decDigits n.toNat with
    | nil => exact absurd h (dec_ne _)
    | cons b r =>
      have hd := dec_dig n.toNat
      rw [h] at hd
      have := digLen_app _ t hd ht
      rw [List.cons_append] at this ⊢
      rw [numLen, if_neg (dig_ne45 (hd b (List.mem_cons_self ..))), this]

def valFrom (a : Nat) (l : List UInt8) : Nat := l.foldl (fun a b => 10 * a + (b.toNat - 48)) a
theorem valFrom_ge : ∀ (l : List UInt8) (a : Nat), a ≤ valFrom a l
  | [], a => Nat.le_refl _
  | b :: r, a => Nat.le_trans (by omega) (valFrom_ge r (10 * a + (b.toNat - 48)))
theorem parse_val : ∀ (l : List UInt8) (a : Nat), (∀ b ∈ l, 48 ≤ b.toNat ∧ b.toNat ≤ 57) → valFrom a l < 18446744073709551616 → Lib.parseUint10 a l = .ok (valFrom a l)
  | [], a, _, _ => rfl
  | b :: r, a, h, hv => by
    have hb := h b (List.mem_cons_self ..)
    have e : valFrom a (b :: r) = valFrom (10 * a + (b.toNat - 48)) r := rfl
    have hg := valFrom_ge r (10 * a + (b.toNat - 48))
    rw [e] at hv ⊢
    rw [Lib.parseUint10, if_pos hb, if_neg (by omega), if_neg (by omega)]
    have e2 : a * 10 + (b.toNat - 48) = 10 * a + (b.toNat - 48) := by omega
    rw [e2]
    exact parse_val r _ (fun x hx => h x (List.mem_cons_of_mem _ hx)) hv
theorem parse_dec (u : Nat) (h : u < 18446744073709551616) : Lib.parseMag (Lib.decDigits u) = .ok u := by
  have := parse_val (Lib.decDigits u) 0 (dec_dig u) (by have := dec_val u; unfold numVal at this; unfold valFrom; omega)
  unfold Lib.parseMag
  rw [if_neg (dec_ne u), this]
  have e := dec_val u
  unfold numVal at e
  unfold valFrom
  rw [e]
theorem parse_itoa (n : Int) (h0 : -9223372036854775808 ≤ n) (h1 : n ≤ 9223372036854775807) : Lib.parseIntB 64 (Lib.itoa n) = .ok n := by
  rw [Lib.parseIntB_64]
  unfold Lib.itoa
  split
  · have e45 : (45 : UInt8).toNat = 45 := rfl
    simp only [Lib.atoiAll, e45]
    have := parse_dec n.natAbs (by omega)
    simp [this]
    rw [if_neg (by omega)]
    exact congrArg _ (by omega)
  · cases h : Lib.decDigits n.toNat with
    | nil => exact absurd h (dec_ne _)
    | cons b r =>
      have hd := dec_dig n.toNat b (by rw [h]; exact List.mem_cons_self ..)
      have := parse_dec n.toNat (by omega)
      rw [h] at this
      simp only [Lib.atoiAll]
      rw [if_neg (by omega), this]
      have e45 : ¬ b.toNat = 45 := by omega
      simp [e45]
      rw [if_neg (by omega)]
      exact congrArg _ (by omega)

/-- What a number behind a sign is, and what is left. -/
def numV (s sign : List UInt8) (x : Int) : Int :=
  if Lib.hasPrefix s sign then (match Lib.parseIntB 64 ((Lib.trimPrefix s sign).take (numLen (Lib.trimPrefix s sign))) with | .ok v => v | _ => 0) else x
def numR (s sign : List UInt8) : List UInt8 :=
  if Lib.hasPrefix s sign then (match Lib.parseIntB 64 ((Lib.trimPrefix s sign).take (numLen (Lib.trimPrefix s sign))) with | .ok _ => (Lib.trimPrefix s sign).drop (numLen (Lib.trimPrefix s sign)) | _ => [63]) else s
theorem numR_le (s sign : List UInt8) : (numR s sign).length ≤ s.length + 1 := by
  have ht : (Lib.trimPrefix s sign).length ≤ s.length := by unfold Lib.trimPrefix; split; rw [List.length_drop]; omega; exact Nat.le_refl _
  unfold numR
  split
  · split
    · rw [List.length_drop]; omega
    · simp
  · omega
theorem numV_i64 (s sign : List UInt8) (x : Int) (h0 : -9223372036854775808 ≤ x) (h1 : x ≤ 9223372036854775807) : -9223372036854775808 ≤ numV s sign x ∧ numV s sign x ≤ 9223372036854775807 := by
  unfold numV
  split
  · split
    · rename_i v hv
      have := Lib.parseIntB_bounds hv
      have e : ((2 ^ (64 - 1) : Nat) : Int) = 9223372036854775808 := by decide
      rw [e] at this
      omega
    · omega
  · omega
theorem num_back (a t : List UInt8) (n : Int) (x : Int) (h0 : -9223372036854775808 ≤ n) (h1 : n ≤ 9223372036854775807) (ht : noDig t) : numV (a ++ (Lib.itoa n ++ t)) a x = n ∧ numR (a ++ (Lib.itoa n ++ t)) a = t := by
  have hp : Lib.hasPrefix (a ++ (Lib.itoa n ++ t)) a = true := by unfold Lib.hasPrefix; rw [List.isPrefixOf_iff_prefix]; exact List.prefix_append _ _
  have htp : Lib.trimPrefix (a ++ (Lib.itoa n ++ t)) a = Lib.itoa n ++ t := by unfold Lib.trimPrefix; rw [if_pos hp, List.drop_left]
  unfold numV numR
  rw [if_pos hp, if_pos hp, htp, numLen_itoa n t ht, List.take_left, List.drop_left, parse_itoa n h0 h1]
  exact ⟨rfl, rfl⟩
theorem num_miss (s : List UInt8) (c : UInt8) (x : Int) (h : ∀ b r, s = b :: r → b ≠ c) : numV s [c] x = x ∧ numR s [c] = s := by
  have hp : ¬ Lib.hasPrefix s [c] = true := by
    unfold Lib.hasPrefix
    cases s with
    | nil => simp [List.isPrefixOf]
    | cons b r => simp [List.isPrefixOf]; exact fun e => h b r rfl e.symm
  unfold numV numR
  rw [if_neg hp, if_neg hp]
  exact ⟨rfl, rfl⟩

/-- What is read of a word whose first rune is rn, and that goes on with b0. -/
def oneOf (rn : Int) (b0 : List UInt8) : Ev :=
  { k := kindOf rn, g := numV b0 [] 0, m := numV (numR b0 []) [109] (-1), p := numV (numR (numR b0 []) [109]) [112] (-1), v := numV (numR (numR (numR b0 []) [109]) [112]) [61] 0 }
theorem noDig_of {t : List UInt8} (h : ∀ b r, t = b :: r → b = 109 ∨ b = 112 ∨ b = 61) : noDig t := by
  intro b r e
  rcases h b r e with rfl | rfl | rfl <;> decide
theorem seg_back (c : UInt8) (n : Int) (t : List UInt8) (h0 : -1 ≤ n) (h1 : n ≤ 9223372036854775807) (ht : noDig t) (hc : ∀ b r, t = b :: r → b ≠ c) : numV ((if 0 ≤ n then c :: Lib.itoa n else []) ++ t) [c] (-1) = n ∧ numR ((if 0 ≤ n then c :: Lib.itoa n else []) ++ t) [c] = t := by
  split
  · exact num_back [c] t n (-1) (by omega) h1 ht
  · obtain ⟨e1, e2⟩ := num_miss t c (-1) hc
    rw [List.nil_append]
    exact ⟨by rw [e1]; omega, e2⟩
theorem v_back (v : Int) (h0 : -9223372036854775808 ≤ v) (h1 : v ≤ 9223372036854775807) : numV (vSeg v) [61] 0 = v := by
  unfold vSeg
  split
  · have := (num_back [61] [] v 0 h0 h1 (fun b r e => by cases e)).1
    rw [List.append_nil] at this
    exact this
  · rename_i h
    rw [(num_miss [] 61 0 (fun b r e => by cases e)).1]
    omega
theorem one_back (j : Nat) (hj : j < 8) (g m p v : Int) (g0 : 0 ≤ g) (g1 : g < 4096) (m0 : -1 ≤ m) (m1 : m < 128) (p0 : -1 ≤ p) (p1 : p < 64) (v0 : -9223372036854775808 ≤ v) (v1 : v ≤ 9223372036854775807) :
    oneOf (kRune j) (Lib.itoa g ++ mSeg m p v) = ⟨j, g, m, p, v⟩ := by
  have hk := (kindOf_rune j hj).1
  obtain ⟨a1, a2⟩ := num_back [] (mSeg m p v) g 0 (by omega) (by omega) (noDig_of (mSeg_head m p v))
  rw [List.nil_append] at a1 a2
  have hp : ∀ b r, pSeg p v = b :: r → b ≠ 109 := fun b r e => by rcases pSeg_head p v b r e with rfl | rfl <;> decide
  obtain ⟨b1, b2⟩ := seg_back 109 m (pSeg p v) m0 (by omega) (noDig_of fun b r e => .inr (pSeg_head p v b r e)) hp
  have hv : ∀ b r, vSeg v = b :: r → b ≠ 112 := fun b r e => by rw [vSeg_head v b r e]; decide
  obtain ⟨c1, c2⟩ := seg_back 112 p (vSeg v) p0 (by omega) (noDig_of fun b r e => .inr (.inr (vSeg_head v b r e))) hv
  have d1 := v_back v v0 v1
  change numV (mSeg m p v) [109] (-1) = m at b1
  change numR (mSeg m p v) [109] = pSeg p v at b2
  change numV (pSeg p v) [112] (-1) = p at c1
  change numR (pSeg p v) [112] = vSeg v at c2
  unfold oneOf
  rw [a1, a2, b1, b2, c1, c2, d1, hk]

/-- The first rune of a word. -/
theorem word_rune (j : Nat) (hj : j < 8) (x : List UInt8) : Utf8.decode ⟨(Lib.encodeRune (kRune j) ++ x).toArray⟩ 0 = (kRune j, (Lib.encodeRune (kRune j)).length) := by
  have e : ∀ j < 8, Lib.encodeRune (kRune j) = [[43], [33], [226, 134, 146], [226, 134, 186], [226, 150, 160], [226, 152, 190], [226, 140, 155], [226, 156, 157]].getD j [] := by decide +kernel
  rw [e j hj, Lib.decode_N]
  match j, hj with
  | 0, _ | 1, _ | 2, _ | 3, _ | 4, _ | 5, _ | 6, _ | 7, _ => simp [Lib.decodeN, kRune, List.getD]

/-! Words that are an event's. -/
def IsEv (l : List UInt8) (e : Ev) : Prop := rightOf e = true ∧ (-9223372036854775808 ≤ e.v ∧ e.v ≤ 9223372036854775807) ∧ wordOf e = l
noncomputable def isWord (l : List UInt8) : Bool := @decide (∃ e, IsEv l e) (Classical.propDecidable _)
open Classical in
noncomputable def evOf (l : List UInt8) : Ev := if h : ∃ e, IsEv l e then Classical.choose h else ⟨0, 0, 0, 0, 0⟩
theorem evOf_is {l : List UInt8} {e : Ev} (h : IsEv l e) : isWord l = true ∧ evOf l = e := by
  have hx : ∃ e, IsEv l e := ⟨e, h⟩
  refine ⟨by unfold isWord; rw [@decide_eq_true_eq _ (Classical.propDecidable _)]; exact hx, ?_⟩
  unfold evOf
  rw [dif_pos hx]
  have hc := Classical.choose_spec hx
  exact word_inj _ _ hc.1 h.1 (hc.2.2.trans h.2.2.symm)
theorem isWord_evOf {l : List UInt8} (h : isWord l = true) : IsEv l (evOf l) := by
  unfold isWord at h
  rw [@decide_eq_true_eq _ (Classical.propDecidable _)] at h
  obtain ⟨e, he⟩ := h
  rw [(evOf_is he).2]
  exact he
/-- How a reading that ends in a comparison with the text tells words. -/
theorem isWord_of (l : List UInt8) (e : Ev) (hv : -9223372036854775808 ≤ e.v ∧ e.v ≤ 9223372036854775807) (back : ∀ x, IsEv l x → e = x) : isWord l = (rightOf e && decide (wordOf e = l)) ∧ (isWord l = true → e = evOf l) := by
  refine ⟨?_, fun h => back _ (isWord_evOf h)⟩
  rw [Bool.eq_iff_iff]
  constructor
  · intro h
    have hx := isWord_evOf h
    rw [back _ hx, hx.1, hx.2.2]
    simp
  · intro h
    simp only [Bool.and_eq_true, decide_eq_true_eq] at h
    exact (evOf_is (l := l) ⟨h.1, hv, h.2⟩).1
theorem word_shape (e : Ev) (he : rightOf e = true) : ∃ j : Nat, j < 8 ∧ e.k = j ∧ wordOf e = Lib.encodeRune (kRune j) ++ (Lib.itoa e.g ++ mSeg e.m e.p e.v) := by
  have hq := he
  simp only [rightOf, decide_eq_true_eq] at hq
  obtain ⟨j, hj⟩ : ∃ n : Nat, e.k = n := ⟨e.k.toNat, by omega⟩
  have r1 := kFacts j (by omega)
  refine ⟨j, by omega, hj, ?_⟩
  rw [wordOf_eq, hj, r1.2.2.2.2.2.2]

/-- What glyph.one reads. -/
def oneE (s : ByteArray) : Ev := oneOf (Utf8.decode s 0).1 (s.data.toList.drop (Utf8.decode s 0).2)
theorem oneE_v (s : ByteArray) : -9223372036854775808 ≤ (oneE s).v ∧ (oneE s).v ≤ 9223372036854775807 := numV_i64 _ _ _ (by decide) (by decide)
theorem oneE_back (s : ByteArray) (x : Ev) (h : IsEv s.data.toList x) : isRune (Utf8.decode s 0).1 = true ∧ oneE s = x := by
  obtain ⟨hr, hv, hw⟩ := h
  obtain ⟨j, hj, hk, hs⟩ := word_shape x hr
  rw [hw] at hs
  obtain ⟨k, g, m, p, v⟩ := x
  dsimp only at hs hk hv
  have es : s = ⟨(Lib.encodeRune (kRune j) ++ (Lib.itoa g ++ mSeg m p v)).toArray⟩ := by
    apply ByteArray.ext
    rw [← hs]
  have ed := word_rune j hj (Lib.itoa g ++ mSeg m p v)
  rw [← es] at ed
  simp only [rightOf, decide_eq_true_eq] at hr
  obtain ⟨k0, k1, g0, g1, m0, m1, p0, p1, _⟩ := hr
  refine ⟨by rw [ed]; exact (kindOf_rune j hj).2, ?_⟩
  unfold oneE
  rw [ed, hs, List.drop_left]
  dsimp only
  rw [one_back j hj g m p v g0 g1 m0 m1 p0 p1 hv.1 hv.2, hk]
end Go.Proofs.YtnkbddebafcjbaaDoor
