/-
  The tally, plain: how many events of a goroutine of a kind there are, its last one, how long it waits.
-/
import Derived.Test.YtfjepdcnikgjeaaGreatDoorPure
set_option linter.unusedVariables false
set_option linter.unusedSimpArgs false
set_option linter.unusedSectionVars false
namespace Hst

def seenG (l : List Ev) (g : Int) : Bool := l.any fun e => e.g == g
def cntK (l : List Ev) (g k : Int) : Nat := l.countP fun e => e.g == g && e.kind == k
/-- The place of the last event of a goroutine; -1: there is none. -/
def lastG : List Ev → Int → Int
  | [], _ => -1
  | e :: t, g => let r := lastG t g; if r ≥ 0 then r + 1 else if e.g = g then 0 else -1
def waitsK (k : Int) : Bool := k == 0 || k == 1 || k == 3
structure Lg where
  best : Int
  fro : Int
  waits : Bool
def lgStep (g : Int) (s : Lg) (i : Int) (e : Ev) : Lg :=
  if e.g = g then { best := if s.waits then max s.best (i - s.fro - 1) else s.best, fro := i, waits := waitsK e.kind } else s
def lgRun (g : Int) : Int → Lg → List Ev → Lg
  | _, s, [] => s
  | i, s, e :: t => lgRun g (i + 1) (lgStep g s i e) t
def lg (l : List Ev) (g : Int) : Lg := lgRun g 0 ⟨0, 0, false⟩ l

theorem lgRun_append (g : Int) (m : List Ev) : ∀ (l : List Ev) (i : Int) (s : Lg), lgRun g i s (l ++ m) = lgRun g (i + l.length) (lgRun g i s l) m
  | [], i, s => by simp [lgRun]
  | e :: t, i, s => by
    simp only [List.cons_append, lgRun]
    rw [lgRun_append g m t]
    congr 1
    simp only [List.length_cons]
    omega
theorem lg_snoc (l : List Ev) (e : Ev) (g : Int) : lg (l ++ [e]) g = lgStep g (lg l g) l.length e := by
  unfold lg
  rw [lgRun_append]
  simp [lgRun]

theorem lgRun_best (g : Int) : ∀ (l : List Ev) (i : Int) (s : Lg), s.best ≤ (lgRun g i s l).best
  | [], i, s => by simp [lgRun]
  | e :: t, i, s => by
    have h := lgRun_best g t (i + 1) (lgStep g s i e)
    refine Int.le_trans ?_ h
    unfold lgStep
    split
    · dsimp only
      split <;> omega
    · omega
theorem lgRun_shift (g d : Int) : ∀ (l : List Ev) (i : Int) (s s' : Lg), s'.best ≤ s.best → (s'.waits = true → s.waits = true ∧ s.fro = s'.fro + d) → (lgRun g i s' l).best ≤ (lgRun g (i + d) s l).best
  | [], i, s, s', h, _ => by simpa [lgRun] using h
  | e :: t, i, s, s', h, hw => by
    simp only [lgRun]
    rw [show i + d + 1 = i + 1 + d by omega]
    refine lgRun_shift g d t (i + 1) _ _ ?_ ?_
    · unfold lgStep
      split
      · dsimp only
        by_cases h' : s'.waits = true
        · obtain ⟨h1, h2⟩ := hw h'
          rw [if_pos h', if_pos h1, h2]
          omega
        · rw [if_neg h']
          split <;> omega
      · exact h
    · unfold lgStep
      split
      · exact fun h => ⟨h, rfl⟩
      · exact hw
/-- Two rows of events: the wait of both is no less than that of each. -/
theorem lg_both (l m : List Ev) (g : Int) : max (lg l g).best (lg m g).best ≤ (lg (l ++ m) g).best := by
  unfold lg
  rw [lgRun_append]
  have h1 := lgRun_best g m (0 + l.length) (lgRun g 0 ⟨0, 0, false⟩ l)
  have h2 := lgRun_shift g l.length m 0 (lgRun g 0 ⟨0, 0, false⟩ l) ⟨0, 0, false⟩ (lgRun_best g l 0 ⟨0, 0, false⟩) (fun h => by cases h)
  omega
/-- Bounds. -/
theorem lgRun_bound (g : Int) : ∀ (l : List Ev) (i : Int) (s : Lg), 0 ≤ i → (0 ≤ s.best ∧ s.best ≤ i) → (0 ≤ s.fro ∧ s.fro ≤ i) →
    (0 ≤ (lgRun g i s l).best ∧ (lgRun g i s l).best ≤ i + l.length) ∧ (0 ≤ (lgRun g i s l).fro ∧ (lgRun g i s l).fro ≤ i + l.length)
  | [], i, s, _, h1, h2 => by simpa [lgRun] using ⟨h1, h2⟩
  | e :: t, i, s, h0, h1, h2 => by
    simp only [lgRun, List.length_cons]
    have := lgRun_bound g t (i + 1) (lgStep g s i e) (by omega) (by unfold lgStep; split; (dsimp only; split <;> omega); omega) (by unfold lgStep; split; (dsimp only; omega); omega)
    omega
theorem lg_bound (l : List Ev) (g : Int) : (0 ≤ (lg l g).best ∧ (lg l g).best ≤ l.length) ∧ (0 ≤ (lg l g).fro ∧ (lg l g).fro ≤ l.length) := by
  have := lgRun_bound g l 0 ⟨0, 0, false⟩ (by omega) (by simp) (by simp)
  simpa [lg] using this

theorem seenG_append (l m : List Ev) (g : Int) : seenG (l ++ m) g = (seenG l g || seenG m g) := by simp [seenG]
theorem cntK_append (l m : List Ev) (g k : Int) : cntK (l ++ m) g k = cntK l g k + cntK m g k := by simp [cntK]
theorem cntK_unseen {l : List Ev} {g k : Int} (h : seenG l g = false) : cntK l g k = 0 := by
  unfold seenG at h
  unfold cntK
  rw [List.countP_eq_zero]
  intro e he
  have := List.any_eq_false.1 h e he
  simp at this ⊢
  exact fun h' => absurd h' this
theorem cntK_le (l : List Ev) (g k : Int) : cntK l g k ≤ l.length := List.countP_le_length

theorem lastG_lo (l : List Ev) (g : Int) : -1 ≤ lastG l g ∧ lastG l g < l.length := by
  induction l with
  | nil => simp [lastG]
  | cons e t ih =>
    unfold lastG
    simp only [List.length_cons]
    split
    · omega
    · split <;> omega
theorem lastG_snoc (l : List Ev) (e : Ev) (g : Int) : lastG (l ++ [e]) g = if e.g = g then (l.length : Int) else lastG l g := by
  induction l with
  | nil => simp [lastG]
  | cons x t ih =>
    simp only [List.cons_append, lastG, ih, List.length_cons]
    have := lastG_lo t g
    by_cases h : e.g = g
    · rw [if_pos h, if_pos h, if_pos (by omega)]; omega
    · rw [if_neg h, if_neg h]
theorem lastG_seen (l : List Ev) (g : Int) : (0 ≤ lastG l g) ↔ seenG l g = true := by
  induction l with
  | nil => simp [lastG, seenG]
  | cons x t ih =>
    simp only [lastG, seenG, List.any_cons, Bool.or_eq_true, beq_iff_eq]
    unfold seenG at ih
    rw [← ih]
    have := lastG_lo t g
    split
    · constructor <;> intro <;> omega
    · split
      · simp_all
      · constructor <;> intro h <;> omega

/-- The goroutines that are dispatched, in order. -/
def orderG (l : List Ev) : List Int := (l.filter fun e => e.kind == 2).map (·.g)
theorem orderG_append (l m : List Ev) : orderG (l ++ m) = orderG l ++ orderG m := by simp [orderG]
theorem orderG_le (l : List Ev) : (orderG l).length ≤ l.length := by unfold orderG; simpa using List.length_filter_le _ _

/-- How many events lie ahead of the next one of a goroutine. -/
def nextD (g : Int) : List Ev → Option Nat
  | [] => none
  | e :: t => if e.g = g then some 0 else (nextD g t).map (· + 1)
def refStep (g b : Int) (e : Ev) (t : List Ev) : Int :=
  if e.g = g ∧ waitsK e.kind = true then (match nextD g t with | some n => max b n | none => b) else b
def refLoop (g : Int) : Int → List Ev → Int
  | b, [] => b
  | b, e :: t => refLoop g (refStep g b e t) t
def endB (g i : Int) (s : Lg) (l : List Ev) : Int :=
  if s.waits = true then (match nextD g l with | some n => max s.best (i + n - s.fro - 1) | none => s.best) else s.best
theorem lg_ref (g : Int) : ∀ (l : List Ev) (i : Int) (s : Lg), (lgRun g i s l).best = refLoop g (endB g i s l) l
  | [], i, s => by unfold endB; simp [lgRun, refLoop, nextD]
  | e :: t, i, s => by
    simp only [lgRun, refLoop]
    rw [lg_ref g t]
    congr 1
    unfold endB refStep lgStep
    by_cases h : e.g = g
    · simp only [h, if_true, nextD, true_and]
      cases nextD g t with
      | none => cases s.waits <;> cases waitsK e.kind <;> simp
      | some n => cases s.waits <;> cases waitsK e.kind <;> simp <;> omega
    · simp only [h, if_false, nextD, false_and]
      cases nextD g t with
      | none => cases s.waits <;> simp
      | some n => cases s.waits <;> simp <;> omega
theorem lg_refs (l : List Ev) (g : Int) : (lg l g).best = refLoop g 0 l := by
  unfold lg
  rw [lg_ref]
  rfl
end Hst
