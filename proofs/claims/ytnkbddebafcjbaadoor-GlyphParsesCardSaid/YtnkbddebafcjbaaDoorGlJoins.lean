/-
  GlyphJoins: unlike rows have unlike texts (plain law), and the walk.
-/
import Derived.Test.YtnkbddebafcjbaaDoorGlPrint
import Derived.Test.YtnkbddebafcjbaaDoorGlKinds
namespace Go.Proofs.YtnkbddebafcjbaaDoor
open Go Go.RowKit Go.Proofs

set_option maxHeartbeats 8000000 in
set_option maxRecDepth 1000000 in
theorem print_nil (pa : Option Addr) (c : Nat) (w : World) :
    Calls Tryd.prog 15 #[.slice pa 0 c] w fun r w' => r = .returned (.tuple #[.string ⟨#[]⟩, .int .i64 0]) ∧ Below w.heap.size w w' := by
  go_enter Tryd.func15, Tryd.ntmps15
  go_wp2
  refine wp_loop_rounds 1 ?_
  rw [rounds_succ]
  go_wp2_with (go_at_call 27; refine (Tryd.strings_Join_none none 0 ⟨#[32]⟩ _).mono ?_)
  rintro e W ⟨rfl, rfl⟩
  go_wp2
  go_returns
  exact ⟨rfl, Below.refl _ _⟩

/-- What a numeral is made of. -/
def isNum (b : UInt8) : Prop := b = 45 ∨ (48 ≤ b.toNat ∧ b.toNat ≤ 57)

/-- A beginning of bytes of one kind, ahead of what doesn't go on with that kind, is found again. -/
theorem pre_split (P : UInt8 → Prop) : ∀ (a a' t t' : List UInt8), (∀ b ∈ a, P b) → (∀ b ∈ a', P b) → (∀ b r, t = b :: r → ¬ P b) → (∀ b r, t' = b :: r → ¬ P b) → a ++ t = a' ++ t' → a = a' ∧ t = t'
  | [], [], _, _, _, _, _, _, h => ⟨rfl, h⟩
  | [], b :: r, t, t', _, h2, h3, _, h => absurd (h2 b (List.mem_cons_self ..)) (h3 b (r ++ t') (by simpa using h))
  | b :: r, [], t, t', h1, _, _, h4, h => absurd (h1 b (List.mem_cons_self ..)) (h4 b (r ++ t) (by simpa using h.symm))
  | b :: r, b' :: r', t, t', h1, h2, h3, h4, h => by
    simp only [List.cons_append, List.cons.injEq] at h
    obtain ⟨rfl, h⟩ := h
    obtain ⟨rfl, rfl⟩ := pre_split P r r' t t' (fun x hx => h1 x (List.mem_cons_of_mem _ hx)) (fun x hx => h2 x (List.mem_cons_of_mem _ hx)) h3 h4 h
    exact ⟨rfl, rfl⟩
theorem num_split (a a' t t' : List UInt8) (h1 : ∀ b ∈ a, isNum b) (h2 : ∀ b ∈ a', isNum b) (h3 : ∀ b r, t = b :: r → ¬ isNum b) (h4 : ∀ b r, t' = b :: r → ¬ isNum b) (h : a ++ t = a' ++ t') : a = a' ∧ t = t' :=
  pre_split isNum a a' t t' h1 h2 h3 h4 h

theorem ofNat_dig (d : Nat) (h : d < 10) : (UInt8.ofNat (48 + d)).toNat = 48 + d := by
  rw [UInt8.toNat_ofNat']
  omega
theorem dec_dig (u : Nat) : ∀ b ∈ Lib.decDigits u, 48 ≤ b.toNat ∧ b.toNat ≤ 57 := by
  induction u using Nat.strongRecOn with
  | ind u ih =>
    rw [Lib.decDigits]
    split
    · intro b hb
      simp only [List.mem_singleton] at hb
      subst hb
      rw [ofNat_dig _ (by omega)]
      omega
    · intro b hb
      rw [List.mem_append] at hb
      rcases hb with hb | hb
      · exact ih (u / 10) (by omega) b hb
      · simp only [List.mem_singleton] at hb
        subst hb
        rw [ofNat_dig _ (by omega)]
        omega
theorem dec_num (u : Nat) : ∀ b ∈ Lib.decDigits u, isNum b := fun b hb => .inr (dec_dig u b hb)
theorem dec_ne (u : Nat) : Lib.decDigits u ≠ [] := by
  rw [Lib.decDigits]
  split <;> simp
def numVal (l : List UInt8) : Nat := l.foldl (fun a b => 10 * a + (b.toNat - 48)) 0
theorem dec_val (u : Nat) : numVal (Lib.decDigits u) = u := by
  induction u using Nat.strongRecOn with
  | ind u ih =>
    rw [Lib.decDigits]
    split
    · simp only [numVal, List.foldl_cons, List.foldl_nil]
      rw [ofNat_dig _ (by omega)]
      omega
    · have := ih (u / 10) (by omega)
      simp only [numVal, List.foldl_append, List.foldl_cons, List.foldl_nil] at this ⊢
      rw [this, ofNat_dig _ (by omega)]
      omega
theorem itoa_num (n : Int) : ∀ b ∈ Lib.itoa n, isNum b := by
  intro b hb
  unfold Lib.itoa at hb
  split at hb
  · rcases List.mem_cons.1 hb with rfl | hb
    · exact .inl rfl
    · exact dec_num _ b hb
  · exact dec_num _ b hb
theorem dec_inj (u v : Nat) (h : Lib.decDigits u = Lib.decDigits v) : u = v := by
  rw [← dec_val u, h, dec_val]
theorem dec_no45 (u : Nat) (l : List UInt8) : Lib.decDigits u ≠ 45 :: l := by
  intro h
  have := dec_dig u 45 (by rw [h]; exact List.mem_cons_self ..)
  exact absurd this.1 (by decide)
theorem itoa_inj (a b : Int) (h : Lib.itoa a = Lib.itoa b) : a = b := by
  unfold Lib.itoa at h
  split at h <;> split at h
  · simp only [List.cons.injEq, true_and] at h
    have := dec_inj _ _ h
    omega
  · exact absurd h.symm (dec_no45 _ _)
  · exact absurd h (dec_no45 _ _)
  · have := dec_inj _ _ h
    omega
theorem itoa_ne (n : Int) : Lib.itoa n ≠ [] := by
  unfold Lib.itoa
  split
  · simp
  · exact dec_ne _

def kCode : List UInt8 → Nat
  | [] => 8
  | [a] => if a = 43 then 0 else if a = 33 then 1 else 8
  | [a, _] => if a = 43 then 0 else if a = 33 then 1 else 8
  | a :: b :: c :: _ => if a = 43 then 0 else if a = 33 then 1 else if b = 134 then (if c = 146 then 2 else 3) else if b = 150 then 4 else if b = 152 then 5 else if b = 140 then 6 else 7
theorem kCode_at (j : Nat) (h : j < 8) (x : List UInt8) (hx : 2 ≤ x.length) : kCode (Lib.encodeRune (kRune j) ++ x) = j := by
  match x, hx with
  | a :: b :: r, _ =>
    match j, h with
    | 0, _ | 1, _ | 2, _ | 3, _ | 4, _ | 5, _ | 6, _ | 7, _ => rfl
theorem kind_split (j j' : Nat) (h : j < 8) (h' : j' < 8) (x x' : List UInt8) (he : Lib.encodeRune (kRune j) ++ x = Lib.encodeRune (kRune j') ++ x') : j = j' ∧ x = x' := by
  have e1 := kCode_at j h (x ++ [0, 0]) (by simp)
  have e2 := kCode_at j' h' (x' ++ [0, 0]) (by simp)
  rw [← List.append_assoc, he, List.append_assoc, e2] at e1
  subst e1
  exact ⟨rfl, List.append_cancel_left he⟩

theorem seg_split (c : UInt8) (n n' : Int) (hn : -1 ≤ n) (hn' : -1 ≤ n') (t t' : List UInt8) (ht : ∀ b r, t = b :: r → ¬ isNum b ∧ b ≠ c) (ht' : ∀ b r, t' = b :: r → ¬ isNum b ∧ b ≠ c)
    (h : (if 0 ≤ n then c :: Lib.itoa n else []) ++ t = (if 0 ≤ n' then c :: Lib.itoa n' else []) ++ t') : n = n' ∧ t = t' := by
  split at h <;> split at h
  · simp only [List.cons_append, List.cons.injEq, true_and] at h
    obtain ⟨e1, e2⟩ := num_split _ _ _ _ (itoa_num n) (itoa_num n') (fun b r e => (ht b r e).1) (fun b r e => (ht' b r e).1) h
    exact ⟨itoa_inj _ _ e1, e2⟩
  · exact absurd rfl (ht' c _ h.symm).2
  · exact absurd rfl (ht c _ h).2
  · exact ⟨by omega, h⟩

def vSeg (v : Int) : List UInt8 := if v ≠ 0 then 61 :: Lib.itoa v else []
theorem vSeg_head (v : Int) : ∀ b r, vSeg v = b :: r → b = 61 := by
  intro b r h
  unfold vSeg at h
  split at h
  · simp only [List.cons.injEq] at h; exact h.1.symm
  · cases h
theorem vSeg_inj (v v' : Int) (h : vSeg v = vSeg v') : v = v' := by
  unfold vSeg at h
  split at h <;> split at h
  · simp only [List.cons.injEq, true_and] at h; exact itoa_inj _ _ h
  · cases h
  · cases h
  · omega
def pSeg (p v : Int) : List UInt8 := (if 0 ≤ p then 112 :: Lib.itoa p else []) ++ vSeg v
theorem pSeg_head (p v : Int) : ∀ b r, pSeg p v = b :: r → b = 112 ∨ b = 61 := by
  intro b r h
  unfold pSeg at h
  split at h
  · simp only [List.cons_append, List.cons.injEq] at h; exact .inl h.1.symm
  · exact .inr (vSeg_head v b r h)
def mSeg (m p v : Int) : List UInt8 := (if 0 ≤ m then 109 :: Lib.itoa m else []) ++ pSeg p v
theorem mSeg_head (m p v : Int) : ∀ b r, mSeg m p v = b :: r → b = 109 ∨ b = 112 ∨ b = 61 := by
  intro b r h
  unfold mSeg at h
  split at h
  · simp only [List.cons_append, List.cons.injEq] at h; exact .inl h.1.symm
  · exact .inr (pSeg_head p v b r h)
theorem notNum {b : UInt8} (h : b = 109 ∨ b = 112 ∨ b = 61) : ¬ isNum b := by
  rcases h with rfl | rfl | rfl <;> (unfold isNum; decide)

theorem wordOf_eq (e : Ev) : wordOf e = Lib.encodeRune (runeOf e.k) ++ (Lib.itoa e.g ++ mSeg e.m e.p e.v) := by
  simp [wordOf, mSeg, pSeg, vSeg]

theorem word_inj (e e' : Ev) (he : rightOf e = true) (he' : rightOf e' = true) (h : wordOf e = wordOf e') : e = e' := by
  obtain ⟨k, g, m, p, v⟩ := e
  obtain ⟨k', g', m', p', v'⟩ := e'
  simp only [rightOf, decide_eq_true_eq] at he he'
  obtain ⟨k0, k1, g0, g1, m0, m1, p0, p1, _⟩ := he
  obtain ⟨k0', k1', g0', g1', m0', m1', p0', p1', _⟩ := he'
  rw [wordOf_eq, wordOf_eq] at h
  dsimp only at h k0 k1 k0' k1' m0 m0' p0 p0'
  obtain ⟨j, rfl⟩ : ∃ n : Nat, k = n := ⟨k.toNat, by omega⟩
  obtain ⟨j', rfl⟩ : ∃ n : Nat, k' = n := ⟨k'.toNat, by omega⟩
  have r1 := kFacts j (by omega)
  have r2 := kFacts j' (by omega)
  rw [r1.2.2.2.2.2.2, r2.2.2.2.2.2.2] at h
  obtain ⟨ej, h1⟩ := kind_split j j' (by omega) (by omega) _ _ h
  subst ej
  clear h
  obtain ⟨e1, h2⟩ := num_split _ _ _ _ (itoa_num g) (itoa_num g') (fun b r e => notNum (mSeg_head _ _ _ b r e)) (fun b r e => notNum (mSeg_head _ _ _ b r e)) h1
  clear h1
  obtain rfl := itoa_inj _ _ e1
  have hp : ∀ p v b r, pSeg p v = b :: r → ¬ isNum b ∧ b ≠ 109 := fun p v b r e => ⟨notNum (.inr (pSeg_head p v b r e)), by rcases pSeg_head p v b r e with rfl | rfl <;> decide⟩
  obtain ⟨em, h3⟩ := seg_split 109 m m' m0 m0' _ _ (hp p v) (hp p' v') h2
  subst em
  clear h2
  have hv : ∀ v b r, vSeg v = b :: r → ¬ isNum b ∧ b ≠ 112 := fun v b r e => ⟨notNum (.inr (.inr (vSeg_head v b r e))), by rw [vSeg_head v b r e]; decide⟩
  obtain ⟨ep, h4⟩ := seg_split 112 p p' p0 p0' _ _ (hv v) (hv v') h3
  subst ep
  obtain rfl := vSeg_inj _ _ h4
  rfl

theorem num_ne32 {b : UInt8} (h : isNum b) : b ≠ 32 := by
  rintro rfl
  exact absurd h (by unfold isNum; decide)
theorem itoa_ne32 (n : Int) : ∀ b ∈ Lib.itoa n, b ≠ 32 := fun b hb => num_ne32 (itoa_num n b hb)
theorem seg_ne32 (c : UInt8) (hc : c ≠ 32) (n : Int) (P : Prop) [Decidable P] : ∀ b ∈ (if P then c :: Lib.itoa n else []), b ≠ 32 := by
  intro b hb
  split at hb
  · rcases List.mem_cons.1 hb with rfl | hb
    · exact hc
    · exact itoa_ne32 n b hb
  · cases hb
theorem rune_ne32 (j : Nat) (h : j < 8) : ∀ b ∈ Lib.encodeRune (kRune j), b ≠ 32 := by
  have : ∀ j < 8, ∀ b ∈ Lib.encodeRune (kRune j), b ≠ 32 := by decide +kernel
  exact this j h
theorem word_ne32 (e : Ev) (he : rightOf e = true) : ∀ b ∈ wordOf e, b ≠ 32 := by
  have hq := he
  simp only [rightOf, decide_eq_true_eq] at hq
  obtain ⟨j, hj⟩ : ∃ n : Nat, e.k = n := ⟨e.k.toNat, by omega⟩
  have r1 := kFacts j (by omega)
  intro b hb
  unfold wordOf at hb
  rw [hj, r1.2.2.2.2.2.2] at hb
  simp only [List.mem_append] at hb
  rcases hb with (((hb | hb) | hb) | hb) | hb
  · exact rune_ne32 j (by omega) b hb
  · exact itoa_ne32 _ b hb
  · exact seg_ne32 109 (by decide) _ _ b hb
  · exact seg_ne32 112 (by decide) _ _ b hb
  · exact seg_ne32 61 (by decide) _ _ b hb
theorem word_ne (e : Ev) : wordOf e ≠ [] := by
  intro h
  unfold wordOf at h
  simp only [List.append_eq_nil_iff] at h
  exact itoa_ne _ h.1.1.1.2

theorem text_nil : textOf [] = [] := rfl
theorem text_one (e : Ev) : textOf [e] = wordOf e := by simp [textOf, Lib.join, List.intercalate]
theorem text_cons (e f : Ev) (r : List Ev) : textOf (e :: f :: r) = wordOf e ++ 32 :: textOf (f :: r) := by simp [textOf, Lib.join, List.intercalate]
theorem text_ne (e : Ev) (r : List Ev) : textOf (e :: r) ≠ [] := by
  cases r with
  | nil => rw [text_one]; exact word_ne e
  | cons f r => rw [text_cons]; simp
theorem text_append (l m : List Ev) (hl : l ≠ []) (hm : m ≠ []) : textOf (l ++ m) = textOf l ++ 32 :: textOf m := by
  induction l with
  | nil => exact absurd rfl hl
  | cons e r ih =>
    cases r with
    | nil =>
      cases m with
      | nil => exact absurd rfl hm
      | cons f s => rw [text_one]; exact text_cons e f s
    | cons f r =>
      have := ih (by simp)
      rw [List.cons_append, List.cons_append, text_cons, text_cons, ← List.cons_append, this]
      simp
theorem text_inj : ∀ (l m : List Ev), (∀ e ∈ l, rightOf e = true) → (∀ e ∈ m, rightOf e = true) → textOf l = textOf m → l = m
  | [], [], _, _, _ => rfl
  | [], e :: r, _, _, h => absurd h.symm (text_ne e r)
  | e :: r, [], _, _, h => absurd h (text_ne e r)
  | e :: r, e' :: r', h1, h2, h => by
    have q1 := h1 e (List.mem_cons_self ..)
    have q2 := h2 e' (List.mem_cons_self ..)
    have key : ∀ (e : Ev) (r : List Ev), ∃ t, textOf (e :: r) = wordOf e ++ t ∧ (∀ b s, t = b :: s → ¬ b ≠ 32) ∧ (r = [] → t = []) ∧ ∀ f s, r = f :: s → t = 32 :: textOf (f :: s) := by
      intro e r
      cases r with
      | nil => exact ⟨[], by rw [text_one]; simp, fun b s e => (by cases e), fun _ => rfl, fun f s e => (by cases e)⟩
      | cons f s => exact ⟨32 :: textOf (f :: s), text_cons e f s, fun b u e => (by simp only [List.cons.injEq] at e; simp [e.1.symm]), fun e => (by cases e), fun f' s' e => (by cases e; rfl)⟩
    obtain ⟨t, ht, ht2, ht3, ht4⟩ := key e r
    obtain ⟨t', ht', ht2', ht3', ht4'⟩ := key e' r'
    rw [ht, ht'] at h
    obtain ⟨hw, htt⟩ := pre_split (· ≠ 32) _ _ _ _ (word_ne32 e q1) (word_ne32 e' q2) ht2 ht2' h
    obtain rfl := word_inj e e' q1 q2 hw
    congr 1
    cases r with
    | nil =>
      cases r' with
      | nil => rfl
      | cons f s => rw [ht3 rfl, ht4' f s rfl] at htt; cases htt
    | cons f s =>
      cases r' with
      | nil => rw [ht3' rfl, ht4 f s rfl] at htt; cases htt
      | cons f' s' =>
        rw [ht4 f s rfl, ht4' f' s' rfl] at htt
        simp only [List.cons.injEq, true_and] at htt
        exact text_inj (f :: s) (f' :: s') (fun x hx => h1 x (List.mem_cons_of_mem _ hx)) (fun x hx => h2 x (List.mem_cons_of_mem _ hx)) htt
end Go.Proofs.YtnkbddebafcjbaaDoor
