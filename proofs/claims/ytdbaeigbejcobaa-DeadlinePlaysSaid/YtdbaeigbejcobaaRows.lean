/-
  No cell of these rows narrows 'for every input' (looked for: loops, veiled, ifaces, maps, wideKeys, modest, calm, conditions, laid).
  DERIVED. THE GIVEN ROWS OF THIS SEAT. 7 by the template 'for every input the law returns true; each argument reads behind the call as it read before'; 0 by the template 'total and deterministic' (their statements: YtdbaeigbejcobaaTotals.lean).
  GIVEN WITH THE SEED: the statements are not yours to turn. If you find one false, say at which input.
  Laid BY PROGRAM, IN A SANDBOX (cutbox-rows.mjs): the forced cells as the released guide's own fill.sh prints them over the translation 137d15e04444ab38… (all of the seat's roots in one cut). By AI agents, Wed Nov 11 2026. No macro, syntax, notation, axiom, sorry.
-/
import Derived.Test.YtdbaeigbejcobaaChecked
import GoSem.Claim
import GoSem.ClaimJoined
import GoSem.ClaimMapViews
import Derived.JoinedTies
import Derived.KernelRfl
namespace Go.Proofs.Ytdbaeigbejcobaa
/- THE CELL 'sum', in the pinned program and in every row, IS THE sha256 OF THE DUMP (.gsa) THAT YtdbaeigbejcobaaProg.lean LOADS. Nothing in Lean hashes anything: it is a label: what it is worth is what the hold of that sum in a sandbox is worth. -/
noncomputable def Try.pinned : Pinned := { name := "ytdbaeigbejcobaa", sum := "137d15e04444ab38ccfed0f0b39ef1ffcceb7fa2b8cbe16f15301a2d639fc042", checked := Try.checked }
namespace Rows
def none {H : Type} : Left H := { results := [], args := [] }

/-- 'fuseelaw34.DeadlinePlays': WHATEVER THE INPUT: true; the input reads as it did. -/
def deadlinePlaysSpec : ChangeSpec := { name := "deadlinePlays", fn := fun _ => fun
  | [d1, d2] => { results := [.lit (.bool true)], args := [d1, d2] }
  | _ => none }
def deadlinePlaysRow : OpenClaim := { program := "ytdbaeigbejcobaa", sum := "137d15e04444ab38ccfed0f0b39ef1ffcceb7fa2b8cbe16f15301a2d639fc042", func := "fusee/fuseelaw34.DeadlinePlays", spec := "deadlinePlays", apart := false }
def DeadlinePlaysSaid : Prop := deadlinePlaysRow.holds Try.pinned (OpenSpec.ofChange deadlinePlaysSpec)

/-- ITS FALSE NEIGHBOUR: 'it returns false'. Refute it at one input. -/
def deadlinePlaysWrong : ChangeSpec := { name := "deadlinePlays", fn := fun _ => fun
  | [d1, d2] => { results := [.lit (.bool false)], args := [d1, d2] }
  | _ => none }
def DeadlinePlaysWrongFalsely : Prop := deadlinePlaysRow.holds Try.pinned (OpenSpec.ofChange deadlinePlaysWrong)

/-- 'fuseelaw34.DeadlineLoads': WHATEVER THE INPUT: true; the input reads as it did. -/
def deadlineLoadsSpec : ChangeSpec := { name := "deadlineLoads", fn := fun _ => fun
  | [d] => { results := [.lit (.bool true)], args := [d] }
  | _ => none }
def deadlineLoadsRow : OpenClaim := { program := "ytdbaeigbejcobaa", sum := "137d15e04444ab38ccfed0f0b39ef1ffcceb7fa2b8cbe16f15301a2d639fc042", func := "fusee/fuseelaw34.DeadlineLoads", spec := "deadlineLoads", apart := false }
def DeadlineLoadsSaid : Prop := deadlineLoadsRow.holds Try.pinned (OpenSpec.ofChange deadlineLoadsSpec)

/-- ITS FALSE NEIGHBOUR: 'it returns false'. Refute it at one input. -/
def deadlineLoadsWrong : ChangeSpec := { name := "deadlineLoads", fn := fun _ => fun
  | [d] => { results := [.lit (.bool false)], args := [d] }
  | _ => none }
def DeadlineLoadsWrongFalsely : Prop := deadlineLoadsRow.holds Try.pinned (OpenSpec.ofChange deadlineLoadsWrong)

/-- 'fuseelaw34.DeadlineMeets': WHATEVER THE INPUT: true; the input reads as it did. -/
def deadlineMeetsSpec : ChangeSpec := { name := "deadlineMeets", fn := fun _ => fun
  | [d1, d2] => { results := [.lit (.bool true)], args := [d1, d2] }
  | _ => none }
def deadlineMeetsRow : OpenClaim := { program := "ytdbaeigbejcobaa", sum := "137d15e04444ab38ccfed0f0b39ef1ffcceb7fa2b8cbe16f15301a2d639fc042", func := "fusee/fuseelaw34.DeadlineMeets", spec := "deadlineMeets", apart := false }
def DeadlineMeetsSaid : Prop := deadlineMeetsRow.holds Try.pinned (OpenSpec.ofChange deadlineMeetsSpec)

/-- ITS FALSE NEIGHBOUR: 'it returns false'. Refute it at one input. -/
def deadlineMeetsWrong : ChangeSpec := { name := "deadlineMeets", fn := fun _ => fun
  | [d1, d2] => { results := [.lit (.bool false)], args := [d1, d2] }
  | _ => none }
def DeadlineMeetsWrongFalsely : Prop := deadlineMeetsRow.holds Try.pinned (OpenSpec.ofChange deadlineMeetsWrong)

/-- 'fuseelaw39.CalendarMonths': WHATEVER THE INPUT: true; the input reads as it did. -/
def calendarMonthsSpec : ChangeSpec := { name := "calendarMonths", fn := fun _ => fun
  | [d1, d2] => { results := [.lit (.bool true)], args := [d1, d2] }
  | _ => none }
def calendarMonthsRow : OpenClaim := { program := "ytdbaeigbejcobaa", sum := "137d15e04444ab38ccfed0f0b39ef1ffcceb7fa2b8cbe16f15301a2d639fc042", func := "fusee/fuseelaw39.CalendarMonths", spec := "calendarMonths", apart := false }
def CalendarMonthsSaid : Prop := calendarMonthsRow.holds Try.pinned (OpenSpec.ofChange calendarMonthsSpec)

/-- ITS FALSE NEIGHBOUR: 'it returns false'. Refute it at one input. -/
def calendarMonthsWrong : ChangeSpec := { name := "calendarMonths", fn := fun _ => fun
  | [d1, d2] => { results := [.lit (.bool false)], args := [d1, d2] }
  | _ => none }
def CalendarMonthsWrongFalsely : Prop := calendarMonthsRow.holds Try.pinned (OpenSpec.ofChange calendarMonthsWrong)

/-- 'fuseelaw39.CalendarBetween': WHATEVER THE INPUT: true; the input reads as it did. -/
def calendarBetweenSpec : ChangeSpec := { name := "calendarBetween", fn := fun _ => fun
  | [d1, d2] => { results := [.lit (.bool true)], args := [d1, d2] }
  | _ => none }
def calendarBetweenRow : OpenClaim := { program := "ytdbaeigbejcobaa", sum := "137d15e04444ab38ccfed0f0b39ef1ffcceb7fa2b8cbe16f15301a2d639fc042", func := "fusee/fuseelaw39.CalendarBetween", spec := "calendarBetween", apart := false }
def CalendarBetweenSaid : Prop := calendarBetweenRow.holds Try.pinned (OpenSpec.ofChange calendarBetweenSpec)

/-- ITS FALSE NEIGHBOUR: 'it returns false'. Refute it at one input. -/
def calendarBetweenWrong : ChangeSpec := { name := "calendarBetween", fn := fun _ => fun
  | [d1, d2] => { results := [.lit (.bool false)], args := [d1, d2] }
  | _ => none }
def CalendarBetweenWrongFalsely : Prop := calendarBetweenRow.holds Try.pinned (OpenSpec.ofChange calendarBetweenWrong)

/-- 'fuseelaw39.CalendarNth': WHATEVER THE INPUT: true; the input reads as it did. -/
def calendarNthSpec : ChangeSpec := { name := "calendarNth", fn := fun _ => fun
  | [d1, d2, d3, d4] => { results := [.lit (.bool true)], args := [d1, d2, d3, d4] }
  | _ => none }
def calendarNthRow : OpenClaim := { program := "ytdbaeigbejcobaa", sum := "137d15e04444ab38ccfed0f0b39ef1ffcceb7fa2b8cbe16f15301a2d639fc042", func := "fusee/fuseelaw39.CalendarNth", spec := "calendarNth", apart := false }
def CalendarNthSaid : Prop := calendarNthRow.holds Try.pinned (OpenSpec.ofChange calendarNthSpec)

/-- ITS FALSE NEIGHBOUR: 'it returns false'. Refute it at one input. -/
def calendarNthWrong : ChangeSpec := { name := "calendarNth", fn := fun _ => fun
  | [d1, d2, d3, d4] => { results := [.lit (.bool false)], args := [d1, d2, d3, d4] }
  | _ => none }
def CalendarNthWrongFalsely : Prop := calendarNthRow.holds Try.pinned (OpenSpec.ofChange calendarNthWrong)

/-- 'fuseelaw39.CalendarWork': WHATEVER THE INPUT: true; the input reads as it did. -/
def calendarWorkSpec : ChangeSpec := { name := "calendarWork", fn := fun _ => fun
  | [d1, d2, d3, d4] => { results := [.lit (.bool true)], args := [d1, d2, d3, d4] }
  | _ => none }
def calendarWorkRow : OpenClaim := { program := "ytdbaeigbejcobaa", sum := "137d15e04444ab38ccfed0f0b39ef1ffcceb7fa2b8cbe16f15301a2d639fc042", func := "fusee/fuseelaw39.CalendarWork", spec := "calendarWork", apart := false }
def CalendarWorkSaid : Prop := calendarWorkRow.holds Try.pinned (OpenSpec.ofChange calendarWorkSpec)

/-- ITS FALSE NEIGHBOUR: 'it returns false'. Refute it at one input. -/
def calendarWorkWrong : ChangeSpec := { name := "calendarWork", fn := fun _ => fun
  | [d1, d2, d3, d4] => { results := [.lit (.bool false)], args := [d1, d2, d3, d4] }
  | _ => none }
def CalendarWorkWrongFalsely : Prop := calendarWorkRow.holds Try.pinned (OpenSpec.ofChange calendarWorkWrong)

/- THE SECOND FORM. 'bulk': how many values and letters a reading holds, each counted each time it is reached (what is shared counts as often as it is met; a slice's spare places count too). A statement '..UptoSaid' is the law's where the arguments, and the package variables that the reading takes, are together of bulk at most 1048576: NARROWER than '..Said'. Prove '..Said' where nothing that the law and all that it calls make is longer than what came in: it says more and counts as full. Else prove '..UptoSaid'. A law counts once. -/
mutual
def uptoBulk {H : Type} : DataW H → Nat
  | .lit (.string bytes) => bytes.length + 1
  | .lit _ => 1
  | .nil => 1
  | .ptr d => uptoBulk d + 1
  | .slice elems spare => uptoBulkAll elems + uptoBulkAll spare + 1
  | .agg parts => uptoBulkAll parts + 1
  | .iface _ d => uptoBulk d + 1
  | .map entries => uptoBulkEntries entries + 1
  | .held _ => 1
def uptoBulkAll {H : Type} : List (DataW H) → Nat
  | [] => 0
  | d :: r => uptoBulk d + uptoBulkAll r
def uptoBulkEntries {H : Type} : List (Lit × DataW H) → Nat
  | [] => 0
  | x :: r => uptoBulkEntry x + uptoBulkEntries r
def uptoBulkEntry {H : Type} : Lit × DataW H → Nat
  | (.string bytes, d) => bytes.length + uptoBulk d + 1
  | (_, d) => uptoBulk d + 1
 end
def uptoSmall : (H : Type) → List (DataW H) → Bool := fun _ ds => decide (uptoBulkAll ds ≤ 1048576)
def OpenSpec.upto (s : _root_.Go.ChangeSpec) : _root_.Go.OpenSpec := { _root_.Go.OpenSpec.ofChange s with cond := some uptoSmall }

/-- 'fuseelaw34.DeadlinePlays', WHERE WHAT IT READS IS OF BULK AT MOST 1048576: true; the input reads as it did. -/
def deadlinePlaysUptoRow : OpenClaim := { program := "ytdbaeigbejcobaa", sum := "137d15e04444ab38ccfed0f0b39ef1ffcceb7fa2b8cbe16f15301a2d639fc042", func := "fusee/fuseelaw34.DeadlinePlays", spec := "deadlinePlays", apart := false, narrowed := true }
def DeadlinePlaysUptoSaid : Prop := deadlinePlaysUptoRow.holds Try.pinned (OpenSpec.upto deadlinePlaysSpec)

/-- 'fuseelaw34.DeadlineLoads', WHERE WHAT IT READS IS OF BULK AT MOST 1048576: true; the input reads as it did. -/
def deadlineLoadsUptoRow : OpenClaim := { program := "ytdbaeigbejcobaa", sum := "137d15e04444ab38ccfed0f0b39ef1ffcceb7fa2b8cbe16f15301a2d639fc042", func := "fusee/fuseelaw34.DeadlineLoads", spec := "deadlineLoads", apart := false, narrowed := true }
def DeadlineLoadsUptoSaid : Prop := deadlineLoadsUptoRow.holds Try.pinned (OpenSpec.upto deadlineLoadsSpec)

/-- 'fuseelaw34.DeadlineMeets', WHERE WHAT IT READS IS OF BULK AT MOST 1048576: true; the input reads as it did. -/
def deadlineMeetsUptoRow : OpenClaim := { program := "ytdbaeigbejcobaa", sum := "137d15e04444ab38ccfed0f0b39ef1ffcceb7fa2b8cbe16f15301a2d639fc042", func := "fusee/fuseelaw34.DeadlineMeets", spec := "deadlineMeets", apart := false, narrowed := true }
def DeadlineMeetsUptoSaid : Prop := deadlineMeetsUptoRow.holds Try.pinned (OpenSpec.upto deadlineMeetsSpec)

/-- 'fuseelaw39.CalendarMonths', WHERE WHAT IT READS IS OF BULK AT MOST 1048576: true; the input reads as it did. -/
def calendarMonthsUptoRow : OpenClaim := { program := "ytdbaeigbejcobaa", sum := "137d15e04444ab38ccfed0f0b39ef1ffcceb7fa2b8cbe16f15301a2d639fc042", func := "fusee/fuseelaw39.CalendarMonths", spec := "calendarMonths", apart := false, narrowed := true }
def CalendarMonthsUptoSaid : Prop := calendarMonthsUptoRow.holds Try.pinned (OpenSpec.upto calendarMonthsSpec)

/-- 'fuseelaw39.CalendarBetween', WHERE WHAT IT READS IS OF BULK AT MOST 1048576: true; the input reads as it did. -/
def calendarBetweenUptoRow : OpenClaim := { program := "ytdbaeigbejcobaa", sum := "137d15e04444ab38ccfed0f0b39ef1ffcceb7fa2b8cbe16f15301a2d639fc042", func := "fusee/fuseelaw39.CalendarBetween", spec := "calendarBetween", apart := false, narrowed := true }
def CalendarBetweenUptoSaid : Prop := calendarBetweenUptoRow.holds Try.pinned (OpenSpec.upto calendarBetweenSpec)

/-- 'fuseelaw39.CalendarNth', WHERE WHAT IT READS IS OF BULK AT MOST 1048576: true; the input reads as it did. -/
def calendarNthUptoRow : OpenClaim := { program := "ytdbaeigbejcobaa", sum := "137d15e04444ab38ccfed0f0b39ef1ffcceb7fa2b8cbe16f15301a2d639fc042", func := "fusee/fuseelaw39.CalendarNth", spec := "calendarNth", apart := false, narrowed := true }
def CalendarNthUptoSaid : Prop := calendarNthUptoRow.holds Try.pinned (OpenSpec.upto calendarNthSpec)

/-- 'fuseelaw39.CalendarWork', WHERE WHAT IT READS IS OF BULK AT MOST 1048576: true; the input reads as it did. -/
def calendarWorkUptoRow : OpenClaim := { program := "ytdbaeigbejcobaa", sum := "137d15e04444ab38ccfed0f0b39ef1ffcceb7fa2b8cbe16f15301a2d639fc042", func := "fusee/fuseelaw39.CalendarWork", spec := "calendarWork", apart := false, narrowed := true }
def CalendarWorkUptoSaid : Prop := calendarWorkUptoRow.holds Try.pinned (OpenSpec.upto calendarWorkSpec)

end Rows
end Go.Proofs.Ytdbaeigbejcobaa
