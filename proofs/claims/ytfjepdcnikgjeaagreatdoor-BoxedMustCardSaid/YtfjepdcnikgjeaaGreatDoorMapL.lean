/-
  Maps of pointers: how a pointer reads; a look-up whose value is known.
-/
import Derived.Maps.OwnSet
import Derived.Test.YtfjepdcnikgjeaaGreatDoorGlobs
set_option linter.unusedVariables false
set_option linter.unusedSimpArgs false
set_option linter.unusedSectionVars false
namespace Go.Proofs.YtfjepdcnikgjeaaGreatDoor
open Go Go.RowKit Hst Go.Proofs
open Go.Maps (Keyed)

/-- A pointer to a block's head, as a number; nil: -1. -/
def ptrR (v : Value) : Option (DataW Unit × List MemPlace) :=
  match v with
  | .pointer none => some (.lit (.int .i64 (-1)), [])
  | .pointer (some ⟨b, 0, none⟩) => some (.lit (.int .i64 (b : Nat)), [])
  | _ => none
theorem ptrR_nil {v : Value} {ps : List MemPlace} (h : ptrR v = some (.lit (.int .i64 (-1)), ps)) : v = .pointer none := by
  unfold ptrR at h
  split at h
  · rfl
  · exfalso
    simp at h
  · cases h
theorem ptrR_some {v : Value} {b : Nat} {ps : List MemPlace} (h : ptrR v = some (.lit (.int .i64 (b : Nat)), ps)) : v = .pointer (some ⟨b, 0, none⟩) := by
  unfold ptrR at h
  split at h
  · exfalso
    simp at h
  · simp at h
    have e := Int.ofNat.inj h.1
    rw [e]
  · cases h

/-- 'm[k]' where what is there is known. -/
theorem wpList_lookup_known {H : Type} {P : Program} (w : World) {ops : Array Oper} {rest : List Oper} {o : Oper} {a : Act} {Q : Exit → Act → World → Prop}
    (hg : o.guard = none) (m x : Operand) (t : TypeId) (hop : o.op = Op.lookup t m x false)
    (k e : TypeId) (K : Keyed P k) (ht : P.underlying t = some (.map k e)) (R : Value → Option (DataW H × List MemPlace)) {z : Value} (hz : (zeroValue e).run P w = .ok z w) (zd : DataW H) (zp : List MemPlace) (hzd : R z = some (zd, zp)) (b n : Nat) (D : DataW H)
    (hm : a.eval m = .map (some b)) (hown : w.ownsMap P k R b n D) (key : Value) (kl : Lit) (hx : a.eval x = key) (hkey : keyOf P k key = some kl)
    (v0 : Value) (hv0 : ∀ v ps, R v = some (D.atKey kl zd, ps) → v = v0)
    (hK : wpList P ops Q rest (a.put o.dst v0) w) :
    wpList P ops Q (o :: rest) a w := by
  refine wpList_plain hg fun K' hK' => ?_
  obtain ⟨v, ps, hrun, hv⟩ := hown.lookup K ht hz hzd hkey
  obtain rfl := hv0 v ps hv
  unfold Oper.wp
  simp [execOp, hop, hm, hx, hrun, Result.andThen]
  exact hK' _ _ hK
end Go.Proofs.YtfjepdcnikgjeaaGreatDoor
