/-
  NARROWER THAN 'FOR EVERY INPUT', by the rows' own cells (each row's printed sentence says how): RoundUntil: laid · RoundHabits: laid · RoundAll: laid · TraceFrom: laid · TraceOrder: laid · TraceNever: laid · WorldModel: laid · TopRun: laid · BoundNone: laid · QuietHolds: laid · QuietAll: laid · WorldConfigs: laid.
  DERIVED. THE GIVEN ROWS OF THIS SEAT. 12 by the template 'for every input the law returns true; each argument reads behind the call as it read before'; 0 by the template 'total and deterministic' (their statements: YtlmmjgekolpekaaGreatDoorTotals.lean).
  GIVEN WITH THE SEED: the statements are not yours to turn. If you find one false, say at which input.
  Laid BY PROGRAM, IN A SANDBOX (cutbox-rows.mjs): the forced cells as the released guide's own fill.sh prints them over the translation 42074c6d301dedb8… (all of the seat's roots in one cut). By AI agents, Wed Nov 11 2026. No macro, syntax, notation, axiom, sorry.
-/
import Derived.Test.YtlmmjgekolpekaaGreatDoorChecked
import GoSem.Claim
import GoSem.ClaimJoined
import GoSem.ClaimMapViews
import Derived.JoinedTies
import Derived.KernelRfl
namespace Go.Proofs.YtlmmjgekolpekaaGreatDoor
/- THE CELL 'sum', in the pinned program and in every row, IS THE sha256 OF THE DUMP (.gsa) THAT YtlmmjgekolpekaaGreatDoorProg.lean LOADS. Nothing in Lean hashes anything: it is a label: what it is worth is what the hold of that sum in a sandbox is worth. -/
noncomputable def Tryz.pinned : Pinned := { name := "ytlmmjgekolpekaagreatdoor", sum := "42074c6d301dedb801af66dcefe305d764d33df3a01e24df5c0bb85596391088", checked := Tryz.checked }
namespace Rows
def none {H : Type} : Left H := { results := [], args := [] }

/- WHAT THE LISTED PACKAGE-LEVEL VARIABLES READ AS WHEN THE CALL BEGINS. Each datum BY PROGRAM (the guide's laid-datum.mjs) off the statement by which the dump's own 'gosem.cut.vars' lays the variable. In a bare row this is a premise. The card (YtlmmjgekolpekaaGreatDoorCards.lean) ties it to the program's text. -/
def laid_math_bits_deBruijn64tab {H : Type} : DataW H := .agg [.lit (.int .u8 0), .lit (.int .u8 1), .lit (.int .u8 56), .lit (.int .u8 2), .lit (.int .u8 57), .lit (.int .u8 49), .lit (.int .u8 28), .lit (.int .u8 3), .lit (.int .u8 61), .lit (.int .u8 58), .lit (.int .u8 42), .lit (.int .u8 50), .lit (.int .u8 38), .lit (.int .u8 29), .lit (.int .u8 17), .lit (.int .u8 4), .lit (.int .u8 62), .lit (.int .u8 47), .lit (.int .u8 59), .lit (.int .u8 36), .lit (.int .u8 45), .lit (.int .u8 43), .lit (.int .u8 51), .lit (.int .u8 22), .lit (.int .u8 53), .lit (.int .u8 39), .lit (.int .u8 33), .lit (.int .u8 30), .lit (.int .u8 24), .lit (.int .u8 18), .lit (.int .u8 12), .lit (.int .u8 5), .lit (.int .u8 63), .lit (.int .u8 55), .lit (.int .u8 48), .lit (.int .u8 27), .lit (.int .u8 60), .lit (.int .u8 41), .lit (.int .u8 37), .lit (.int .u8 16), .lit (.int .u8 46), .lit (.int .u8 35), .lit (.int .u8 44), .lit (.int .u8 21), .lit (.int .u8 52), .lit (.int .u8 32), .lit (.int .u8 23), .lit (.int .u8 11), .lit (.int .u8 54), .lit (.int .u8 26), .lit (.int .u8 40), .lit (.int .u8 15), .lit (.int .u8 34), .lit (.int .u8 20), .lit (.int .u8 31), .lit (.int .u8 10), .lit (.int .u8 25), .lit (.int .u8 14), .lit (.int .u8 19), .lit (.int .u8 9), .lit (.int .u8 13), .lit (.int .u8 8), .lit (.int .u8 7), .lit (.int .u8 6)]
def laid_hostler_status_next {H : Type} : DataW H := .agg [.slice [.lit (.int .u64 1)] [], .slice [.lit (.int .u64 2)] [], .slice [.lit (.int .u64 1), .lit (.int .u64 3), .lit (.int .u64 4), .lit (.int .u64 5), .lit (.int .u64 6)] [], .slice [.lit (.int .u64 1)] [], .slice [.lit (.int .u64 1)] [], .slice [.lit (.int .u64 1)] [], .slice [] []]
def laid_hostler_event_all {H : Type} : DataW H := .agg [.agg [.lit (.string [115, 112, 97, 119, 110]), .lit (.int .u64 0), .lit (.int .u64 1)], .agg [.lit (.string [114, 101, 97, 100, 121]), .lit (.int .u64 0), .lit (.int .u64 1)], .agg [.lit (.string [100, 105, 115, 112, 97, 116, 99, 104]), .lit (.int .u64 1), .lit (.int .u64 2)], .agg [.lit (.string [121, 105, 101, 108, 100]), .lit (.int .u64 2), .lit (.int .u64 1)], .agg [.lit (.string [98, 108, 111, 99, 107]), .lit (.int .u64 2), .lit (.int .u64 3)], .agg [.lit (.string [115, 108, 101, 101, 112]), .lit (.int .u64 2), .lit (.int .u64 4)], .agg [.lit (.string [119, 97, 105, 116]), .lit (.int .u64 2), .lit (.int .u64 5)], .agg [.lit (.string [101, 120, 105, 116]), .lit (.int .u64 2), .lit (.int .u64 6)]]
def laid_hostler_mach_places {H : Type} : DataW H := .agg [.agg [.lit (.string [101, 120, 101, 99]), .lit (.int .i64 0)], .agg [.lit (.string [115, 99, 104, 101, 100]), .lit (.int .i64 0)], .agg [.lit (.string [111, 110, 101]), .lit (.int .i64 1)], .agg [.lit (.string [108, 111, 99, 97, 108]), .lit (.int .i64 2)], .agg [.lit (.string [103, 108, 111, 98, 97, 108]), .lit (.int .i64 1)], .agg [.lit (.string [115, 112, 105, 110, 117, 112]), .lit (.int .i64 0)], .agg [.lit (.string [115, 116, 101, 97, 108]), .lit (.int .i64 3)], .agg [.lit (.string [114, 101, 108, 101, 97, 115, 101]), .lit (.int .i64 1)], .agg [.lit (.string [100, 114, 111, 112]), .lit (.int .i64 0)], .agg [.lit (.string [108, 111, 111, 107]), .lit (.int .i64 4)], .agg [.lit (.string [108, 111, 111, 107, 103, 108, 111, 98, 97, 108]), .lit (.int .i64 1)], .agg [.lit (.string [114, 101, 116, 97, 107, 101]), .lit (.int .i64 1)], .agg [.lit (.string [115, 112, 105, 110, 98, 97, 99, 107]), .lit (.int .i64 0)], .agg [.lit (.string [115, 116, 111, 112]), .lit (.int .i64 1)], .agg [.lit (.string [99, 104, 101, 99, 107]), .lit (.int .i64 5)], .agg [.lit (.string [117, 110, 112, 111, 108, 108]), .lit (.int .i64 1)], .agg [.lit (.string [115, 108, 101, 101, 112]), .lit (.int .i64 0)], .agg [.lit (.string [112, 117, 116, 114, 101, 115, 116]), .lit (.int .i64 2)], .agg [.lit (.string [112, 117, 116, 111, 118, 101, 114]), .lit (.int .i64 1)], .agg [.lit (.string [117, 110, 115, 112, 105, 110]), .lit (.int .i64 0)], .agg [.lit (.string [100, 105, 115, 112, 97, 116, 99, 104]), .lit (.int .i64 0)], .agg [.lit (.string [108, 111, 97, 100]), .lit (.int .i64 0)], .agg [.lit (.string [99, 108, 97, 105, 109]), .lit (.int .i64 0)], .agg [.lit (.string [102, 105, 110, 100]), .lit (.int .i64 1)], .agg [.lit (.string [119, 97, 107, 101]), .lit (.int .i64 0)], .agg [.lit (.string [100, 101, 108, 105, 118, 101, 114]), .lit (.int .i64 5)], .agg [.lit (.string [109, 97, 114, 107]), .lit (.int .i64 0)], .agg [.lit (.string [112, 117, 116, 111, 110, 101]), .lit (.int .i64 1)], .agg [.lit (.string [112, 117, 116, 110, 101, 120, 116]), .lit (.int .i64 2)], .agg [.lit (.string [112, 97, 114, 107]), .lit (.int .i64 5)], .agg [.lit (.string [97, 119, 97, 105, 116]), .lit (.int .i64 5)]]

/-- 'hostlerlaw22.RoundUntil': WHATEVER THE INPUT: true; the input reads as it did. -/
def roundUntilSpec : ChangeSpec := { name := "roundUntil", fn := fun _ => fun
  | [d1, d2, d3, d4, d5, d6] => { results := [.lit (.bool true)], args := [d1, d2, d3, d4, d5, d6] }
  | _ => none }
def roundUntilRow : OpenClaim := { program := "ytlmmjgekolpekaagreatdoor", sum := "42074c6d301dedb801af66dcefe305d764d33df3a01e24df5c0bb85596391088", func := "hostler/hostlerlaw22.RoundUntil", spec := "roundUntil", unfollowed := true, recurses := true, named := ["hostler/status.next", "hostler/event.all", "hostler/mach.places", "math/bits.deBruijn64tab"], apart := false, laid := [("math/bits.deBruijn64tab", laid_math_bits_deBruijn64tab), ("hostler/status.next", laid_hostler_status_next), ("hostler/event.all", laid_hostler_event_all), ("hostler/mach.places", laid_hostler_mach_places)] }
def RoundUntilSaid : Prop := roundUntilRow.holds Tryz.pinned (OpenSpec.ofChange roundUntilSpec)

/-- ITS FALSE NEIGHBOUR: 'it returns false'. Refute it at one input. -/
def roundUntilWrong : ChangeSpec := { name := "roundUntil", fn := fun _ => fun
  | [d1, d2, d3, d4, d5, d6] => { results := [.lit (.bool false)], args := [d1, d2, d3, d4, d5, d6] }
  | _ => none }
def RoundUntilWrongFalsely : Prop := roundUntilRow.holds Tryz.pinned (OpenSpec.ofChange roundUntilWrong)

/-- 'hostlerlaw22.RoundHabits': WHATEVER THE INPUT: true; the input reads as it did. -/
def roundHabitsSpec : ChangeSpec := { name := "roundHabits", fn := fun _ => fun
  | [d1, d2, d3, d4, d5] => { results := [.lit (.bool true)], args := [d1, d2, d3, d4, d5] }
  | _ => none }
def roundHabitsRow : OpenClaim := { program := "ytlmmjgekolpekaagreatdoor", sum := "42074c6d301dedb801af66dcefe305d764d33df3a01e24df5c0bb85596391088", func := "hostler/hostlerlaw22.RoundHabits", spec := "roundHabits", unfollowed := true, recurses := true, named := ["hostler/status.next", "hostler/event.all", "hostler/mach.places", "math/bits.deBruijn64tab"], apart := false, laid := [("math/bits.deBruijn64tab", laid_math_bits_deBruijn64tab), ("hostler/status.next", laid_hostler_status_next), ("hostler/event.all", laid_hostler_event_all), ("hostler/mach.places", laid_hostler_mach_places)] }
def RoundHabitsSaid : Prop := roundHabitsRow.holds Tryz.pinned (OpenSpec.ofChange roundHabitsSpec)

/-- ITS FALSE NEIGHBOUR: 'it returns false'. Refute it at one input. -/
def roundHabitsWrong : ChangeSpec := { name := "roundHabits", fn := fun _ => fun
  | [d1, d2, d3, d4, d5] => { results := [.lit (.bool false)], args := [d1, d2, d3, d4, d5] }
  | _ => none }
def RoundHabitsWrongFalsely : Prop := roundHabitsRow.holds Tryz.pinned (OpenSpec.ofChange roundHabitsWrong)

/-- 'hostlerlaw22.RoundAll': WHATEVER THE INPUT: true; the input reads as it did. -/
def roundAllSpec : ChangeSpec := { name := "roundAll", fn := fun _ => fun
  | [d1, d2, d3, d4] => { results := [.lit (.bool true)], args := [d1, d2, d3, d4] }
  | _ => none }
def roundAllRow : OpenClaim := { program := "ytlmmjgekolpekaagreatdoor", sum := "42074c6d301dedb801af66dcefe305d764d33df3a01e24df5c0bb85596391088", func := "hostler/hostlerlaw22.RoundAll", spec := "roundAll", unfollowed := true, recurses := true, named := ["hostler/status.next", "hostler/event.all", "hostler/mach.places", "math/bits.deBruijn64tab"], apart := false, laid := [("math/bits.deBruijn64tab", laid_math_bits_deBruijn64tab), ("hostler/status.next", laid_hostler_status_next), ("hostler/event.all", laid_hostler_event_all), ("hostler/mach.places", laid_hostler_mach_places)] }
def RoundAllSaid : Prop := roundAllRow.holds Tryz.pinned (OpenSpec.ofChange roundAllSpec)

/-- ITS FALSE NEIGHBOUR: 'it returns false'. Refute it at one input. -/
def roundAllWrong : ChangeSpec := { name := "roundAll", fn := fun _ => fun
  | [d1, d2, d3, d4] => { results := [.lit (.bool false)], args := [d1, d2, d3, d4] }
  | _ => none }
def RoundAllWrongFalsely : Prop := roundAllRow.holds Tryz.pinned (OpenSpec.ofChange roundAllWrong)

/-- 'hostlerlaw25.TraceFrom': WHATEVER THE INPUT: true; the input reads as it did. -/
def traceFromSpec : ChangeSpec := { name := "traceFrom", fn := fun _ => fun
  | [d1, d2, d3, d4, d5] => { results := [.lit (.bool true)], args := [d1, d2, d3, d4, d5] }
  | _ => none }
def traceFromRow : OpenClaim := { program := "ytlmmjgekolpekaagreatdoor", sum := "42074c6d301dedb801af66dcefe305d764d33df3a01e24df5c0bb85596391088", func := "hostler/hostlerlaw25.TraceFrom", spec := "traceFrom", inPlace := ["maps.clone"], unfollowed := true, recurses := true, named := ["hostler/status.next", "hostler/event.all", "hostler/mach.places", "math/bits.deBruijn64tab"], apart := false, laid := [("math/bits.deBruijn64tab", laid_math_bits_deBruijn64tab), ("hostler/status.next", laid_hostler_status_next), ("hostler/event.all", laid_hostler_event_all), ("hostler/mach.places", laid_hostler_mach_places)] }
def TraceFromSaid : Prop := traceFromRow.holds Tryz.pinned (OpenSpec.ofChange traceFromSpec)

/-- ITS FALSE NEIGHBOUR: 'it returns false'. Refute it at one input. -/
def traceFromWrong : ChangeSpec := { name := "traceFrom", fn := fun _ => fun
  | [d1, d2, d3, d4, d5] => { results := [.lit (.bool false)], args := [d1, d2, d3, d4, d5] }
  | _ => none }
def TraceFromWrongFalsely : Prop := traceFromRow.holds Tryz.pinned (OpenSpec.ofChange traceFromWrong)

/-- 'hostlerlaw25.TraceOrder': WHATEVER THE INPUT: true; the input reads as it did. -/
def traceOrderSpec : ChangeSpec := { name := "traceOrder", fn := fun _ => fun
  | [d1, d2, d3, d4] => { results := [.lit (.bool true)], args := [d1, d2, d3, d4] }
  | _ => none }
def traceOrderRow : OpenClaim := { program := "ytlmmjgekolpekaagreatdoor", sum := "42074c6d301dedb801af66dcefe305d764d33df3a01e24df5c0bb85596391088", func := "hostler/hostlerlaw25.TraceOrder", spec := "traceOrder", inPlace := ["maps.clone"], unfollowed := true, recurses := true, named := ["hostler/status.next", "hostler/event.all", "hostler/mach.places", "math/bits.deBruijn64tab"], apart := false, laid := [("math/bits.deBruijn64tab", laid_math_bits_deBruijn64tab), ("hostler/status.next", laid_hostler_status_next), ("hostler/event.all", laid_hostler_event_all), ("hostler/mach.places", laid_hostler_mach_places)] }
def TraceOrderSaid : Prop := traceOrderRow.holds Tryz.pinned (OpenSpec.ofChange traceOrderSpec)

/-- ITS FALSE NEIGHBOUR: 'it returns false'. Refute it at one input. -/
def traceOrderWrong : ChangeSpec := { name := "traceOrder", fn := fun _ => fun
  | [d1, d2, d3, d4] => { results := [.lit (.bool false)], args := [d1, d2, d3, d4] }
  | _ => none }
def TraceOrderWrongFalsely : Prop := traceOrderRow.holds Tryz.pinned (OpenSpec.ofChange traceOrderWrong)

/-- 'hostlerlaw25.TraceNever': WHATEVER THE INPUT: true; the input reads as it did. -/
def traceNeverSpec : ChangeSpec := { name := "traceNever", fn := fun _ => fun
  | [d1, d2, d3, d4] => { results := [.lit (.bool true)], args := [d1, d2, d3, d4] }
  | _ => none }
def traceNeverRow : OpenClaim := { program := "ytlmmjgekolpekaagreatdoor", sum := "42074c6d301dedb801af66dcefe305d764d33df3a01e24df5c0bb85596391088", func := "hostler/hostlerlaw25.TraceNever", spec := "traceNever", inPlace := ["maps.clone"], unfollowed := true, recurses := true, named := ["hostler/status.next", "hostler/event.all", "hostler/mach.places", "math/bits.deBruijn64tab"], apart := false, laid := [("math/bits.deBruijn64tab", laid_math_bits_deBruijn64tab), ("hostler/status.next", laid_hostler_status_next), ("hostler/event.all", laid_hostler_event_all), ("hostler/mach.places", laid_hostler_mach_places)] }
def TraceNeverSaid : Prop := traceNeverRow.holds Tryz.pinned (OpenSpec.ofChange traceNeverSpec)

/-- ITS FALSE NEIGHBOUR: 'it returns false'. Refute it at one input. -/
def traceNeverWrong : ChangeSpec := { name := "traceNever", fn := fun _ => fun
  | [d1, d2, d3, d4] => { results := [.lit (.bool false)], args := [d1, d2, d3, d4] }
  | _ => none }
def TraceNeverWrongFalsely : Prop := traceNeverRow.holds Tryz.pinned (OpenSpec.ofChange traceNeverWrong)

/-- 'hostlerlaw20.WorldModel': WHATEVER THE INPUT: true; the input reads as it did. -/
def worldModelSpec : ChangeSpec := { name := "worldModel", fn := fun _ => fun
  | [d1, d2, d3, d4] => { results := [.lit (.bool true)], args := [d1, d2, d3, d4] }
  | _ => none }
def worldModelRow : OpenClaim := { program := "ytlmmjgekolpekaagreatdoor", sum := "42074c6d301dedb801af66dcefe305d764d33df3a01e24df5c0bb85596391088", func := "hostler/hostlerlaw20.WorldModel", spec := "worldModel", unfollowed := true, recurses := true, named := ["hostler/status.next", "hostler/event.all", "hostler/mach.places", "math/bits.deBruijn64tab"], apart := false, laid := [("math/bits.deBruijn64tab", laid_math_bits_deBruijn64tab), ("hostler/status.next", laid_hostler_status_next), ("hostler/event.all", laid_hostler_event_all), ("hostler/mach.places", laid_hostler_mach_places)] }
def WorldModelSaid : Prop := worldModelRow.holds Tryz.pinned (OpenSpec.ofChange worldModelSpec)

/-- ITS FALSE NEIGHBOUR: 'it returns false'. Refute it at one input. -/
def worldModelWrong : ChangeSpec := { name := "worldModel", fn := fun _ => fun
  | [d1, d2, d3, d4] => { results := [.lit (.bool false)], args := [d1, d2, d3, d4] }
  | _ => none }
def WorldModelWrongFalsely : Prop := worldModelRow.holds Tryz.pinned (OpenSpec.ofChange worldModelWrong)

/-- 'hostlertop.TopRun': WHATEVER THE INPUT: true; the input reads as it did. -/
def topRunSpec : ChangeSpec := { name := "topRun", fn := fun _ => fun
  | [d1, d2, d3, d4] => { results := [.lit (.bool true)], args := [d1, d2, d3, d4] }
  | _ => none }
def topRunRow : OpenClaim := { program := "ytlmmjgekolpekaagreatdoor", sum := "42074c6d301dedb801af66dcefe305d764d33df3a01e24df5c0bb85596391088", func := "hostler/hostlertop.TopRun", spec := "topRun", inPlace := ["maps.clone"], unfollowed := true, recurses := true, named := ["hostler/status.next", "hostler/event.all", "hostler/mach.places", "math/bits.deBruijn64tab"], apart := false, laid := [("math/bits.deBruijn64tab", laid_math_bits_deBruijn64tab), ("hostler/status.next", laid_hostler_status_next), ("hostler/event.all", laid_hostler_event_all), ("hostler/mach.places", laid_hostler_mach_places)] }
def TopRunSaid : Prop := topRunRow.holds Tryz.pinned (OpenSpec.ofChange topRunSpec)

/-- ITS FALSE NEIGHBOUR: 'it returns false'. Refute it at one input. -/
def topRunWrong : ChangeSpec := { name := "topRun", fn := fun _ => fun
  | [d1, d2, d3, d4] => { results := [.lit (.bool false)], args := [d1, d2, d3, d4] }
  | _ => none }
def TopRunWrongFalsely : Prop := topRunRow.holds Tryz.pinned (OpenSpec.ofChange topRunWrong)

/-- 'hostlerlaw24.BoundNone': WHATEVER THE INPUT: true; the input reads as it did. -/
def boundNoneSpec : ChangeSpec := { name := "boundNone", fn := fun _ => fun
  | [d1, d2, d3, d4, d5] => { results := [.lit (.bool true)], args := [d1, d2, d3, d4, d5] }
  | _ => none }
def boundNoneRow : OpenClaim := { program := "ytlmmjgekolpekaagreatdoor", sum := "42074c6d301dedb801af66dcefe305d764d33df3a01e24df5c0bb85596391088", func := "hostler/hostlerlaw24.BoundNone", spec := "boundNone", inPlace := ["maps.clone"], unfollowed := true, recurses := true, named := ["hostler/status.next", "hostler/event.all", "hostler/mach.places", "math/bits.deBruijn64tab"], apart := false, laid := [("math/bits.deBruijn64tab", laid_math_bits_deBruijn64tab), ("hostler/status.next", laid_hostler_status_next), ("hostler/event.all", laid_hostler_event_all), ("hostler/mach.places", laid_hostler_mach_places)] }
def BoundNoneSaid : Prop := boundNoneRow.holds Tryz.pinned (OpenSpec.ofChange boundNoneSpec)

/-- ITS FALSE NEIGHBOUR: 'it returns false'. Refute it at one input. -/
def boundNoneWrong : ChangeSpec := { name := "boundNone", fn := fun _ => fun
  | [d1, d2, d3, d4, d5] => { results := [.lit (.bool false)], args := [d1, d2, d3, d4, d5] }
  | _ => none }
def BoundNoneWrongFalsely : Prop := boundNoneRow.holds Tryz.pinned (OpenSpec.ofChange boundNoneWrong)

/-- 'hostlerlaw23.QuietHolds': WHATEVER THE INPUT: true; the input reads as it did. -/
def quietHoldsSpec : ChangeSpec := { name := "quietHolds", fn := fun _ => fun
  | [d1, d2, d3, d4] => { results := [.lit (.bool true)], args := [d1, d2, d3, d4] }
  | _ => none }
def quietHoldsRow : OpenClaim := { program := "ytlmmjgekolpekaagreatdoor", sum := "42074c6d301dedb801af66dcefe305d764d33df3a01e24df5c0bb85596391088", func := "hostler/hostlerlaw23.QuietHolds", spec := "quietHolds", inPlace := ["maps.clone"], unfollowed := true, recurses := true, named := ["hostler/status.next", "hostler/event.all", "hostler/mach.places", "math/bits.deBruijn64tab"], apart := false, laid := [("math/bits.deBruijn64tab", laid_math_bits_deBruijn64tab), ("hostler/status.next", laid_hostler_status_next), ("hostler/event.all", laid_hostler_event_all), ("hostler/mach.places", laid_hostler_mach_places)] }
def QuietHoldsSaid : Prop := quietHoldsRow.holds Tryz.pinned (OpenSpec.ofChange quietHoldsSpec)

/-- ITS FALSE NEIGHBOUR: 'it returns false'. Refute it at one input. -/
def quietHoldsWrong : ChangeSpec := { name := "quietHolds", fn := fun _ => fun
  | [d1, d2, d3, d4] => { results := [.lit (.bool false)], args := [d1, d2, d3, d4] }
  | _ => none }
def QuietHoldsWrongFalsely : Prop := quietHoldsRow.holds Tryz.pinned (OpenSpec.ofChange quietHoldsWrong)

/-- 'hostlerlaw23.QuietAll': WHATEVER THE INPUT: true; the input reads as it did. -/
def quietAllSpec : ChangeSpec := { name := "quietAll", fn := fun _ => fun
  | [d1, d2, d3, d4] => { results := [.lit (.bool true)], args := [d1, d2, d3, d4] }
  | _ => none }
def quietAllRow : OpenClaim := { program := "ytlmmjgekolpekaagreatdoor", sum := "42074c6d301dedb801af66dcefe305d764d33df3a01e24df5c0bb85596391088", func := "hostler/hostlerlaw23.QuietAll", spec := "quietAll", inPlace := ["maps.clone"], unfollowed := true, recurses := true, named := ["hostler/status.next", "hostler/event.all", "hostler/mach.places", "math/bits.deBruijn64tab"], apart := false, laid := [("math/bits.deBruijn64tab", laid_math_bits_deBruijn64tab), ("hostler/status.next", laid_hostler_status_next), ("hostler/event.all", laid_hostler_event_all), ("hostler/mach.places", laid_hostler_mach_places)] }
def QuietAllSaid : Prop := quietAllRow.holds Tryz.pinned (OpenSpec.ofChange quietAllSpec)

/-- ITS FALSE NEIGHBOUR: 'it returns false'. Refute it at one input. -/
def quietAllWrong : ChangeSpec := { name := "quietAll", fn := fun _ => fun
  | [d1, d2, d3, d4] => { results := [.lit (.bool false)], args := [d1, d2, d3, d4] }
  | _ => none }
def QuietAllWrongFalsely : Prop := quietAllRow.holds Tryz.pinned (OpenSpec.ofChange quietAllWrong)

/-- 'hostlerlaw20.WorldConfigs': WHATEVER THE INPUT: true; the input reads as it did. -/
def worldConfigsSpec : ChangeSpec := { name := "worldConfigs", fn := fun _ => fun
  | [d1, d2, d3] => { results := [.lit (.bool true)], args := [d1, d2, d3] }
  | _ => none }
def worldConfigsRow : OpenClaim := { program := "ytlmmjgekolpekaagreatdoor", sum := "42074c6d301dedb801af66dcefe305d764d33df3a01e24df5c0bb85596391088", func := "hostler/hostlerlaw20.WorldConfigs", spec := "worldConfigs", unfollowed := true, recurses := true, named := ["hostler/status.next", "hostler/event.all", "hostler/mach.places", "math/bits.deBruijn64tab"], apart := false, laid := [("math/bits.deBruijn64tab", laid_math_bits_deBruijn64tab), ("hostler/status.next", laid_hostler_status_next), ("hostler/event.all", laid_hostler_event_all), ("hostler/mach.places", laid_hostler_mach_places)] }
def WorldConfigsSaid : Prop := worldConfigsRow.holds Tryz.pinned (OpenSpec.ofChange worldConfigsSpec)

/-- ITS FALSE NEIGHBOUR: 'it returns false'. Refute it at one input. -/
def worldConfigsWrong : ChangeSpec := { name := "worldConfigs", fn := fun _ => fun
  | [d1, d2, d3] => { results := [.lit (.bool false)], args := [d1, d2, d3] }
  | _ => none }
def WorldConfigsWrongFalsely : Prop := worldConfigsRow.holds Tryz.pinned (OpenSpec.ofChange worldConfigsWrong)

/- THE SECOND FORM. 'bulk': how many values and letters a reading holds, each counted each time it is reached (what is shared counts as often as it is met; a slice's spare places count too). A statement '..UptoSaid' is the law's where the arguments, and the package variables that the reading takes, are together of bulk at most 1048576: NARROWER than '..Said'. Prove '..Said' where nothing that the law and all that it calls make is longer than what came in: it says more and counts as full. Else prove '..UptoSaid'. A law counts once. -/
mutual
def uptoBulk {H : Type} : DataW H → Nat
  | .lit (.string bytes) => bytes.length + 1
  | .lit _ => 1
  | .nil => 1
  | .ptr d => uptoBulk d + 1
  | .slice elems spare => uptoBulkAll elems + uptoBulkAll spare + 1
  | .agg parts => uptoBulkAll parts + 1
  | .iface _ d => uptoBulk d + 1
  | .map entries => uptoBulkEntries entries + 1
  | .held _ => 1
def uptoBulkAll {H : Type} : List (DataW H) → Nat
  | [] => 0
  | d :: r => uptoBulk d + uptoBulkAll r
def uptoBulkEntries {H : Type} : List (Lit × DataW H) → Nat
  | [] => 0
  | x :: r => uptoBulkEntry x + uptoBulkEntries r
def uptoBulkEntry {H : Type} : Lit × DataW H → Nat
  | (.string bytes, d) => bytes.length + uptoBulk d + 1
  | (_, d) => uptoBulk d + 1
 end
def uptoSmall : (H : Type) → List (DataW H) → Bool := fun _ ds => decide (uptoBulkAll ds ≤ 1048576)
def OpenSpec.upto (s : _root_.Go.ChangeSpec) : _root_.Go.OpenSpec := { _root_.Go.OpenSpec.ofChange s with cond := some uptoSmall }

/-- 'hostlerlaw22.RoundUntil', WHERE WHAT IT READS IS OF BULK AT MOST 1048576: true; the input reads as it did. -/
def roundUntilUptoRow : OpenClaim := { program := "ytlmmjgekolpekaagreatdoor", sum := "42074c6d301dedb801af66dcefe305d764d33df3a01e24df5c0bb85596391088", func := "hostler/hostlerlaw22.RoundUntil", spec := "roundUntil", unfollowed := true, recurses := true, named := ["hostler/status.next", "hostler/event.all", "hostler/mach.places", "math/bits.deBruijn64tab"], apart := false, laid := [("math/bits.deBruijn64tab", laid_math_bits_deBruijn64tab), ("hostler/status.next", laid_hostler_status_next), ("hostler/event.all", laid_hostler_event_all), ("hostler/mach.places", laid_hostler_mach_places)], narrowed := true }
def RoundUntilUptoSaid : Prop := roundUntilUptoRow.holds Tryz.pinned (OpenSpec.upto roundUntilSpec)

/-- 'hostlerlaw22.RoundHabits', WHERE WHAT IT READS IS OF BULK AT MOST 1048576: true; the input reads as it did. -/
def roundHabitsUptoRow : OpenClaim := { program := "ytlmmjgekolpekaagreatdoor", sum := "42074c6d301dedb801af66dcefe305d764d33df3a01e24df5c0bb85596391088", func := "hostler/hostlerlaw22.RoundHabits", spec := "roundHabits", unfollowed := true, recurses := true, named := ["hostler/status.next", "hostler/event.all", "hostler/mach.places", "math/bits.deBruijn64tab"], apart := false, laid := [("math/bits.deBruijn64tab", laid_math_bits_deBruijn64tab), ("hostler/status.next", laid_hostler_status_next), ("hostler/event.all", laid_hostler_event_all), ("hostler/mach.places", laid_hostler_mach_places)], narrowed := true }
def RoundHabitsUptoSaid : Prop := roundHabitsUptoRow.holds Tryz.pinned (OpenSpec.upto roundHabitsSpec)

/-- 'hostlerlaw22.RoundAll', WHERE WHAT IT READS IS OF BULK AT MOST 1048576: true; the input reads as it did. -/
def roundAllUptoRow : OpenClaim := { program := "ytlmmjgekolpekaagreatdoor", sum := "42074c6d301dedb801af66dcefe305d764d33df3a01e24df5c0bb85596391088", func := "hostler/hostlerlaw22.RoundAll", spec := "roundAll", unfollowed := true, recurses := true, named := ["hostler/status.next", "hostler/event.all", "hostler/mach.places", "math/bits.deBruijn64tab"], apart := false, laid := [("math/bits.deBruijn64tab", laid_math_bits_deBruijn64tab), ("hostler/status.next", laid_hostler_status_next), ("hostler/event.all", laid_hostler_event_all), ("hostler/mach.places", laid_hostler_mach_places)], narrowed := true }
def RoundAllUptoSaid : Prop := roundAllUptoRow.holds Tryz.pinned (OpenSpec.upto roundAllSpec)

/-- 'hostlerlaw25.TraceFrom', WHERE WHAT IT READS IS OF BULK AT MOST 1048576: true; the input reads as it did. -/
def traceFromUptoRow : OpenClaim := { program := "ytlmmjgekolpekaagreatdoor", sum := "42074c6d301dedb801af66dcefe305d764d33df3a01e24df5c0bb85596391088", func := "hostler/hostlerlaw25.TraceFrom", spec := "traceFrom", inPlace := ["maps.clone"], unfollowed := true, recurses := true, named := ["hostler/status.next", "hostler/event.all", "hostler/mach.places", "math/bits.deBruijn64tab"], apart := false, laid := [("math/bits.deBruijn64tab", laid_math_bits_deBruijn64tab), ("hostler/status.next", laid_hostler_status_next), ("hostler/event.all", laid_hostler_event_all), ("hostler/mach.places", laid_hostler_mach_places)], narrowed := true }
def TraceFromUptoSaid : Prop := traceFromUptoRow.holds Tryz.pinned (OpenSpec.upto traceFromSpec)

/-- 'hostlerlaw25.TraceOrder', WHERE WHAT IT READS IS OF BULK AT MOST 1048576: true; the input reads as it did. -/
def traceOrderUptoRow : OpenClaim := { program := "ytlmmjgekolpekaagreatdoor", sum := "42074c6d301dedb801af66dcefe305d764d33df3a01e24df5c0bb85596391088", func := "hostler/hostlerlaw25.TraceOrder", spec := "traceOrder", inPlace := ["maps.clone"], unfollowed := true, recurses := true, named := ["hostler/status.next", "hostler/event.all", "hostler/mach.places", "math/bits.deBruijn64tab"], apart := false, laid := [("math/bits.deBruijn64tab", laid_math_bits_deBruijn64tab), ("hostler/status.next", laid_hostler_status_next), ("hostler/event.all", laid_hostler_event_all), ("hostler/mach.places", laid_hostler_mach_places)], narrowed := true }
def TraceOrderUptoSaid : Prop := traceOrderUptoRow.holds Tryz.pinned (OpenSpec.upto traceOrderSpec)

/-- 'hostlerlaw25.TraceNever', WHERE WHAT IT READS IS OF BULK AT MOST 1048576: true; the input reads as it did. -/
def traceNeverUptoRow : OpenClaim := { program := "ytlmmjgekolpekaagreatdoor", sum := "42074c6d301dedb801af66dcefe305d764d33df3a01e24df5c0bb85596391088", func := "hostler/hostlerlaw25.TraceNever", spec := "traceNever", inPlace := ["maps.clone"], unfollowed := true, recurses := true, named := ["hostler/status.next", "hostler/event.all", "hostler/mach.places", "math/bits.deBruijn64tab"], apart := false, laid := [("math/bits.deBruijn64tab", laid_math_bits_deBruijn64tab), ("hostler/status.next", laid_hostler_status_next), ("hostler/event.all", laid_hostler_event_all), ("hostler/mach.places", laid_hostler_mach_places)], narrowed := true }
def TraceNeverUptoSaid : Prop := traceNeverUptoRow.holds Tryz.pinned (OpenSpec.upto traceNeverSpec)

/-- 'hostlerlaw20.WorldModel', WHERE WHAT IT READS IS OF BULK AT MOST 1048576: true; the input reads as it did. -/
def worldModelUptoRow : OpenClaim := { program := "ytlmmjgekolpekaagreatdoor", sum := "42074c6d301dedb801af66dcefe305d764d33df3a01e24df5c0bb85596391088", func := "hostler/hostlerlaw20.WorldModel", spec := "worldModel", unfollowed := true, recurses := true, named := ["hostler/status.next", "hostler/event.all", "hostler/mach.places", "math/bits.deBruijn64tab"], apart := false, laid := [("math/bits.deBruijn64tab", laid_math_bits_deBruijn64tab), ("hostler/status.next", laid_hostler_status_next), ("hostler/event.all", laid_hostler_event_all), ("hostler/mach.places", laid_hostler_mach_places)], narrowed := true }
def WorldModelUptoSaid : Prop := worldModelUptoRow.holds Tryz.pinned (OpenSpec.upto worldModelSpec)

/-- 'hostlertop.TopRun', WHERE WHAT IT READS IS OF BULK AT MOST 1048576: true; the input reads as it did. -/
def topRunUptoRow : OpenClaim := { program := "ytlmmjgekolpekaagreatdoor", sum := "42074c6d301dedb801af66dcefe305d764d33df3a01e24df5c0bb85596391088", func := "hostler/hostlertop.TopRun", spec := "topRun", inPlace := ["maps.clone"], unfollowed := true, recurses := true, named := ["hostler/status.next", "hostler/event.all", "hostler/mach.places", "math/bits.deBruijn64tab"], apart := false, laid := [("math/bits.deBruijn64tab", laid_math_bits_deBruijn64tab), ("hostler/status.next", laid_hostler_status_next), ("hostler/event.all", laid_hostler_event_all), ("hostler/mach.places", laid_hostler_mach_places)], narrowed := true }
def TopRunUptoSaid : Prop := topRunUptoRow.holds Tryz.pinned (OpenSpec.upto topRunSpec)

/-- 'hostlerlaw24.BoundNone', WHERE WHAT IT READS IS OF BULK AT MOST 1048576: true; the input reads as it did. -/
def boundNoneUptoRow : OpenClaim := { program := "ytlmmjgekolpekaagreatdoor", sum := "42074c6d301dedb801af66dcefe305d764d33df3a01e24df5c0bb85596391088", func := "hostler/hostlerlaw24.BoundNone", spec := "boundNone", inPlace := ["maps.clone"], unfollowed := true, recurses := true, named := ["hostler/status.next", "hostler/event.all", "hostler/mach.places", "math/bits.deBruijn64tab"], apart := false, laid := [("math/bits.deBruijn64tab", laid_math_bits_deBruijn64tab), ("hostler/status.next", laid_hostler_status_next), ("hostler/event.all", laid_hostler_event_all), ("hostler/mach.places", laid_hostler_mach_places)], narrowed := true }
def BoundNoneUptoSaid : Prop := boundNoneUptoRow.holds Tryz.pinned (OpenSpec.upto boundNoneSpec)

/-- 'hostlerlaw23.QuietHolds', WHERE WHAT IT READS IS OF BULK AT MOST 1048576: true; the input reads as it did. -/
def quietHoldsUptoRow : OpenClaim := { program := "ytlmmjgekolpekaagreatdoor", sum := "42074c6d301dedb801af66dcefe305d764d33df3a01e24df5c0bb85596391088", func := "hostler/hostlerlaw23.QuietHolds", spec := "quietHolds", inPlace := ["maps.clone"], unfollowed := true, recurses := true, named := ["hostler/status.next", "hostler/event.all", "hostler/mach.places", "math/bits.deBruijn64tab"], apart := false, laid := [("math/bits.deBruijn64tab", laid_math_bits_deBruijn64tab), ("hostler/status.next", laid_hostler_status_next), ("hostler/event.all", laid_hostler_event_all), ("hostler/mach.places", laid_hostler_mach_places)], narrowed := true }
def QuietHoldsUptoSaid : Prop := quietHoldsUptoRow.holds Tryz.pinned (OpenSpec.upto quietHoldsSpec)

/-- 'hostlerlaw23.QuietAll', WHERE WHAT IT READS IS OF BULK AT MOST 1048576: true; the input reads as it did. -/
def quietAllUptoRow : OpenClaim := { program := "ytlmmjgekolpekaagreatdoor", sum := "42074c6d301dedb801af66dcefe305d764d33df3a01e24df5c0bb85596391088", func := "hostler/hostlerlaw23.QuietAll", spec := "quietAll", inPlace := ["maps.clone"], unfollowed := true, recurses := true, named := ["hostler/status.next", "hostler/event.all", "hostler/mach.places", "math/bits.deBruijn64tab"], apart := false, laid := [("math/bits.deBruijn64tab", laid_math_bits_deBruijn64tab), ("hostler/status.next", laid_hostler_status_next), ("hostler/event.all", laid_hostler_event_all), ("hostler/mach.places", laid_hostler_mach_places)], narrowed := true }
def QuietAllUptoSaid : Prop := quietAllUptoRow.holds Tryz.pinned (OpenSpec.upto quietAllSpec)

/-- 'hostlerlaw20.WorldConfigs', WHERE WHAT IT READS IS OF BULK AT MOST 1048576: true; the input reads as it did. -/
def worldConfigsUptoRow : OpenClaim := { program := "ytlmmjgekolpekaagreatdoor", sum := "42074c6d301dedb801af66dcefe305d764d33df3a01e24df5c0bb85596391088", func := "hostler/hostlerlaw20.WorldConfigs", spec := "worldConfigs", unfollowed := true, recurses := true, named := ["hostler/status.next", "hostler/event.all", "hostler/mach.places", "math/bits.deBruijn64tab"], apart := false, laid := [("math/bits.deBruijn64tab", laid_math_bits_deBruijn64tab), ("hostler/status.next", laid_hostler_status_next), ("hostler/event.all", laid_hostler_event_all), ("hostler/mach.places", laid_hostler_mach_places)], narrowed := true }
def WorldConfigsUptoSaid : Prop := worldConfigsUptoRow.holds Tryz.pinned (OpenSpec.upto worldConfigsSpec)

end Rows
end Go.Proofs.YtlmmjgekolpekaaGreatDoor
