/-
  No cell of these rows narrows 'for every input' (looked for: loops, veiled, ifaces, maps, wideKeys, modest, calm, conditions, laid).
  DERIVED. THE GIVEN ROWS OF THIS SEAT. 7 by the template 'for every input the law returns true; each argument reads behind the call as it read before'; 0 by the template 'total and deterministic' (their statements: YtapebhefbokcfaaTotals.lean).
  GIVEN WITH THE SEED: the statements are not yours to turn. If you find one false, say at which input.
  Laid BY PROGRAM, IN A SANDBOX (cutbox-rows.mjs): the forced cells as the released guide's own fill.sh prints them over the translation 89e5c2e031089486… (all of the seat's roots in one cut). By AI agents, Wed Nov 11 2026. No macro, syntax, notation, axiom, sorry.
-/
import Derived.Test.YtapebhefbokcfaaChecked
import GoSem.Claim
import GoSem.ClaimJoined
import GoSem.ClaimMapViews
import Derived.JoinedTies
import Derived.KernelRfl
namespace Go.Proofs.Ytapebhefbokcfaa
/- THE CELL 'sum', in the pinned program and in every row, IS THE sha256 OF THE DUMP (.gsa) THAT YtapebhefbokcfaaProg.lean LOADS. Nothing in Lean hashes anything: it is a label: what it is worth is what the hold of that sum in a sandbox is worth. -/
noncomputable def Try.pinned : Pinned := { name := "ytapebhefbokcfaa", sum := "89e5c2e031089486b9f01e7aed31e02a4fc1080caabdd131e7db9406aab36172", checked := Try.checked }
namespace Rows
def none {H : Type} : Left H := { results := [], args := [] }

/-- 'fuseelaw42.DebouncePlays': WHATEVER THE INPUT: true; the input reads as it did. -/
def debouncePlaysSpec : ChangeSpec := { name := "debouncePlays", fn := fun _ => fun
  | [d1, d2, d3] => { results := [.lit (.bool true)], args := [d1, d2, d3] }
  | _ => none }
def debouncePlaysRow : OpenClaim := { program := "ytapebhefbokcfaa", sum := "89e5c2e031089486b9f01e7aed31e02a4fc1080caabdd131e7db9406aab36172", func := "fusee/fuseelaw42.DebouncePlays", spec := "debouncePlays", apart := false }
def DebouncePlaysSaid : Prop := debouncePlaysRow.holds Try.pinned (OpenSpec.ofChange debouncePlaysSpec)

/-- ITS FALSE NEIGHBOUR: 'it returns false'. Refute it at one input. -/
def debouncePlaysWrong : ChangeSpec := { name := "debouncePlays", fn := fun _ => fun
  | [d1, d2, d3] => { results := [.lit (.bool false)], args := [d1, d2, d3] }
  | _ => none }
def DebouncePlaysWrongFalsely : Prop := debouncePlaysRow.holds Try.pinned (OpenSpec.ofChange debouncePlaysWrong)

/-- 'fuseelaw42.DebounceOnce': WHATEVER THE INPUT: true; the input reads as it did. -/
def debounceOnceSpec : ChangeSpec := { name := "debounceOnce", fn := fun _ => fun
  | [d1, d2, d3] => { results := [.lit (.bool true)], args := [d1, d2, d3] }
  | _ => none }
def debounceOnceRow : OpenClaim := { program := "ytapebhefbokcfaa", sum := "89e5c2e031089486b9f01e7aed31e02a4fc1080caabdd131e7db9406aab36172", func := "fusee/fuseelaw42.DebounceOnce", spec := "debounceOnce", apart := false }
def DebounceOnceSaid : Prop := debounceOnceRow.holds Try.pinned (OpenSpec.ofChange debounceOnceSpec)

/-- ITS FALSE NEIGHBOUR: 'it returns false'. Refute it at one input. -/
def debounceOnceWrong : ChangeSpec := { name := "debounceOnce", fn := fun _ => fun
  | [d1, d2, d3] => { results := [.lit (.bool false)], args := [d1, d2, d3] }
  | _ => none }
def DebounceOnceWrongFalsely : Prop := debounceOnceRow.holds Try.pinned (OpenSpec.ofChange debounceOnceWrong)

/-- 'fuseelaw37.WindowPlays': WHATEVER THE INPUT: true; the input reads as it did. -/
def windowPlaysSpec : ChangeSpec := { name := "windowPlays", fn := fun _ => fun
  | [d1, d2, d3] => { results := [.lit (.bool true)], args := [d1, d2, d3] }
  | _ => none }
def windowPlaysRow : OpenClaim := { program := "ytapebhefbokcfaa", sum := "89e5c2e031089486b9f01e7aed31e02a4fc1080caabdd131e7db9406aab36172", func := "fusee/fuseelaw37.WindowPlays", spec := "windowPlays", apart := false }
def WindowPlaysSaid : Prop := windowPlaysRow.holds Try.pinned (OpenSpec.ofChange windowPlaysSpec)

/-- ITS FALSE NEIGHBOUR: 'it returns false'. Refute it at one input. -/
def windowPlaysWrong : ChangeSpec := { name := "windowPlays", fn := fun _ => fun
  | [d1, d2, d3] => { results := [.lit (.bool false)], args := [d1, d2, d3] }
  | _ => none }
def WindowPlaysWrongFalsely : Prop := windowPlaysRow.holds Try.pinned (OpenSpec.ofChange windowPlaysWrong)

/-- 'fuseelaw37.WindowBounds': WHATEVER THE INPUT: true; the input reads as it did. -/
def windowBoundsSpec : ChangeSpec := { name := "windowBounds", fn := fun _ => fun
  | [d1, d2, d3] => { results := [.lit (.bool true)], args := [d1, d2, d3] }
  | _ => none }
def windowBoundsRow : OpenClaim := { program := "ytapebhefbokcfaa", sum := "89e5c2e031089486b9f01e7aed31e02a4fc1080caabdd131e7db9406aab36172", func := "fusee/fuseelaw37.WindowBounds", spec := "windowBounds", apart := false }
def WindowBoundsSaid : Prop := windowBoundsRow.holds Try.pinned (OpenSpec.ofChange windowBoundsSpec)

/-- ITS FALSE NEIGHBOUR: 'it returns false'. Refute it at one input. -/
def windowBoundsWrong : ChangeSpec := { name := "windowBounds", fn := fun _ => fun
  | [d1, d2, d3] => { results := [.lit (.bool false)], args := [d1, d2, d3] }
  | _ => none }
def WindowBoundsWrongFalsely : Prop := windowBoundsRow.holds Try.pinned (OpenSpec.ofChange windowBoundsWrong)

/-- 'fuseelaw38.DriftTells': WHATEVER THE INPUT: true; the input reads as it did. -/
def driftTellsSpec : ChangeSpec := { name := "driftTells", fn := fun _ => fun
  | [d1, d2, d3] => { results := [.lit (.bool true)], args := [d1, d2, d3] }
  | _ => none }
def driftTellsRow : OpenClaim := { program := "ytapebhefbokcfaa", sum := "89e5c2e031089486b9f01e7aed31e02a4fc1080caabdd131e7db9406aab36172", func := "fusee/fuseelaw38.DriftTells", spec := "driftTells", apart := false }
def DriftTellsSaid : Prop := driftTellsRow.holds Try.pinned (OpenSpec.ofChange driftTellsSpec)

/-- ITS FALSE NEIGHBOUR: 'it returns false'. Refute it at one input. -/
def driftTellsWrong : ChangeSpec := { name := "driftTells", fn := fun _ => fun
  | [d1, d2, d3] => { results := [.lit (.bool false)], args := [d1, d2, d3] }
  | _ => none }
def DriftTellsWrongFalsely : Prop := driftTellsRow.holds Try.pinned (OpenSpec.ofChange driftTellsWrong)

/-- 'fuseelaw38.DriftBack': WHATEVER THE INPUT: true; the input reads as it did. -/
def driftBackSpec : ChangeSpec := { name := "driftBack", fn := fun _ => fun
  | [d1, d2, d3] => { results := [.lit (.bool true)], args := [d1, d2, d3] }
  | _ => none }
def driftBackRow : OpenClaim := { program := "ytapebhefbokcfaa", sum := "89e5c2e031089486b9f01e7aed31e02a4fc1080caabdd131e7db9406aab36172", func := "fusee/fuseelaw38.DriftBack", spec := "driftBack", apart := false }
def DriftBackSaid : Prop := driftBackRow.holds Try.pinned (OpenSpec.ofChange driftBackSpec)

/-- ITS FALSE NEIGHBOUR: 'it returns false'. Refute it at one input. -/
def driftBackWrong : ChangeSpec := { name := "driftBack", fn := fun _ => fun
  | [d1, d2, d3] => { results := [.lit (.bool false)], args := [d1, d2, d3] }
  | _ => none }
def DriftBackWrongFalsely : Prop := driftBackRow.holds Try.pinned (OpenSpec.ofChange driftBackWrong)

/-- 'fuseelaw38.DriftFits': WHATEVER THE INPUT: true; the input reads as it did. -/
def driftFitsSpec : ChangeSpec := { name := "driftFits", fn := fun _ => fun
  | [d1, d2, d3, d4] => { results := [.lit (.bool true)], args := [d1, d2, d3, d4] }
  | _ => none }
def driftFitsRow : OpenClaim := { program := "ytapebhefbokcfaa", sum := "89e5c2e031089486b9f01e7aed31e02a4fc1080caabdd131e7db9406aab36172", func := "fusee/fuseelaw38.DriftFits", spec := "driftFits", apart := false }
def DriftFitsSaid : Prop := driftFitsRow.holds Try.pinned (OpenSpec.ofChange driftFitsSpec)

/-- ITS FALSE NEIGHBOUR: 'it returns false'. Refute it at one input. -/
def driftFitsWrong : ChangeSpec := { name := "driftFits", fn := fun _ => fun
  | [d1, d2, d3, d4] => { results := [.lit (.bool false)], args := [d1, d2, d3, d4] }
  | _ => none }
def DriftFitsWrongFalsely : Prop := driftFitsRow.holds Try.pinned (OpenSpec.ofChange driftFitsWrong)

/- THE SECOND FORM. 'bulk': how many values and letters a reading holds, each counted each time it is reached (what is shared counts as often as it is met; a slice's spare places count too). A statement '..UptoSaid' is the law's where the arguments, and the package variables that the reading takes, are together of bulk at most 1048576: NARROWER than '..Said'. Prove '..Said' where nothing that the law and all that it calls make is longer than what came in: it says more and counts as full. Else prove '..UptoSaid'. A law counts once. -/
mutual
def uptoBulk {H : Type} : DataW H → Nat
  | .lit (.string bytes) => bytes.length + 1
  | .lit _ => 1
  | .nil => 1
  | .ptr d => uptoBulk d + 1
  | .slice elems spare => uptoBulkAll elems + uptoBulkAll spare + 1
  | .agg parts => uptoBulkAll parts + 1
  | .iface _ d => uptoBulk d + 1
  | .map entries => uptoBulkEntries entries + 1
  | .held _ => 1
def uptoBulkAll {H : Type} : List (DataW H) → Nat
  | [] => 0
  | d :: r => uptoBulk d + uptoBulkAll r
def uptoBulkEntries {H : Type} : List (Lit × DataW H) → Nat
  | [] => 0
  | x :: r => uptoBulkEntry x + uptoBulkEntries r
def uptoBulkEntry {H : Type} : Lit × DataW H → Nat
  | (.string bytes, d) => bytes.length + uptoBulk d + 1
  | (_, d) => uptoBulk d + 1
 end
def uptoSmall : (H : Type) → List (DataW H) → Bool := fun _ ds => decide (uptoBulkAll ds ≤ 1048576)
def OpenSpec.upto (s : _root_.Go.ChangeSpec) : _root_.Go.OpenSpec := { _root_.Go.OpenSpec.ofChange s with cond := some uptoSmall }

/-- 'fuseelaw42.DebouncePlays', WHERE WHAT IT READS IS OF BULK AT MOST 1048576: true; the input reads as it did. -/
def debouncePlaysUptoRow : OpenClaim := { program := "ytapebhefbokcfaa", sum := "89e5c2e031089486b9f01e7aed31e02a4fc1080caabdd131e7db9406aab36172", func := "fusee/fuseelaw42.DebouncePlays", spec := "debouncePlays", apart := false, narrowed := true }
def DebouncePlaysUptoSaid : Prop := debouncePlaysUptoRow.holds Try.pinned (OpenSpec.upto debouncePlaysSpec)

/-- 'fuseelaw42.DebounceOnce', WHERE WHAT IT READS IS OF BULK AT MOST 1048576: true; the input reads as it did. -/
def debounceOnceUptoRow : OpenClaim := { program := "ytapebhefbokcfaa", sum := "89e5c2e031089486b9f01e7aed31e02a4fc1080caabdd131e7db9406aab36172", func := "fusee/fuseelaw42.DebounceOnce", spec := "debounceOnce", apart := false, narrowed := true }
def DebounceOnceUptoSaid : Prop := debounceOnceUptoRow.holds Try.pinned (OpenSpec.upto debounceOnceSpec)

/-- 'fuseelaw37.WindowPlays', WHERE WHAT IT READS IS OF BULK AT MOST 1048576: true; the input reads as it did. -/
def windowPlaysUptoRow : OpenClaim := { program := "ytapebhefbokcfaa", sum := "89e5c2e031089486b9f01e7aed31e02a4fc1080caabdd131e7db9406aab36172", func := "fusee/fuseelaw37.WindowPlays", spec := "windowPlays", apart := false, narrowed := true }
def WindowPlaysUptoSaid : Prop := windowPlaysUptoRow.holds Try.pinned (OpenSpec.upto windowPlaysSpec)

/-- 'fuseelaw37.WindowBounds', WHERE WHAT IT READS IS OF BULK AT MOST 1048576: true; the input reads as it did. -/
def windowBoundsUptoRow : OpenClaim := { program := "ytapebhefbokcfaa", sum := "89e5c2e031089486b9f01e7aed31e02a4fc1080caabdd131e7db9406aab36172", func := "fusee/fuseelaw37.WindowBounds", spec := "windowBounds", apart := false, narrowed := true }
def WindowBoundsUptoSaid : Prop := windowBoundsUptoRow.holds Try.pinned (OpenSpec.upto windowBoundsSpec)

/-- 'fuseelaw38.DriftTells', WHERE WHAT IT READS IS OF BULK AT MOST 1048576: true; the input reads as it did. -/
def driftTellsUptoRow : OpenClaim := { program := "ytapebhefbokcfaa", sum := "89e5c2e031089486b9f01e7aed31e02a4fc1080caabdd131e7db9406aab36172", func := "fusee/fuseelaw38.DriftTells", spec := "driftTells", apart := false, narrowed := true }
def DriftTellsUptoSaid : Prop := driftTellsUptoRow.holds Try.pinned (OpenSpec.upto driftTellsSpec)

/-- 'fuseelaw38.DriftBack', WHERE WHAT IT READS IS OF BULK AT MOST 1048576: true; the input reads as it did. -/
def driftBackUptoRow : OpenClaim := { program := "ytapebhefbokcfaa", sum := "89e5c2e031089486b9f01e7aed31e02a4fc1080caabdd131e7db9406aab36172", func := "fusee/fuseelaw38.DriftBack", spec := "driftBack", apart := false, narrowed := true }
def DriftBackUptoSaid : Prop := driftBackUptoRow.holds Try.pinned (OpenSpec.upto driftBackSpec)

/-- 'fuseelaw38.DriftFits', WHERE WHAT IT READS IS OF BULK AT MOST 1048576: true; the input reads as it did. -/
def driftFitsUptoRow : OpenClaim := { program := "ytapebhefbokcfaa", sum := "89e5c2e031089486b9f01e7aed31e02a4fc1080caabdd131e7db9406aab36172", func := "fusee/fuseelaw38.DriftFits", spec := "driftFits", apart := false, narrowed := true }
def DriftFitsUptoSaid : Prop := driftFitsUptoRow.holds Try.pinned (OpenSpec.upto driftFitsSpec)

end Rows
end Go.Proofs.Ytapebhefbokcfaa
