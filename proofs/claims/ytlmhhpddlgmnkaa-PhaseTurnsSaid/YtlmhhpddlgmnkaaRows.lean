/-
  No cell of these rows narrows 'for every input' (looked for: loops, veiled, ifaces, maps, wideKeys, modest, calm, conditions, laid).
  DERIVED. THE GIVEN ROWS OF THIS SEAT. 4 by the template 'for every input the law returns true; each argument reads behind the call as it read before'; 0 by the template 'total and deterministic' (their statements: YtlmhhpddlgmnkaaTotals.lean).
  GIVEN WITH THE SEED: the statements are not yours to turn. If you find one false, say at which input.
  Laid BY PROGRAM, IN A SANDBOX (cutbox-rows.mjs): the forced cells as the released guide's own fill.sh prints them over the translation 65684926363bab1e… (all of the seat's roots in one cut). By AI agents, Wed Nov 11 2026. No macro, syntax, notation, axiom, sorry.
-/
import Derived.Test.YtlmhhpddlgmnkaaChecked
import GoSem.Claim
import GoSem.ClaimJoined
import GoSem.ClaimMapViews
import Derived.JoinedTies
import Derived.KernelRfl
namespace Go.Proofs.Ytlmhhpddlgmnkaa
/- THE CELL 'sum', in the pinned program and in every row, IS THE sha256 OF THE DUMP (.gsa) THAT YtlmhhpddlgmnkaaProg.lean LOADS. Nothing in Lean hashes anything: it is a label: what it is worth is what the hold of that sum in a sandbox is worth. -/
noncomputable def Try.pinned : Pinned := { name := "ytlmhhpddlgmnkaa", sum := "65684926363bab1ea520a38641924573f8305e21f00c1bdecdde479721ec9a52", checked := Try.checked }
namespace Rows
def none {H : Type} : Left H := { results := [], args := [] }

/-- 'fuseelaw05.PhaseWhole': WHATEVER THE INPUT: true; the input reads as it did. -/
def phaseWholeSpec : ChangeSpec := { name := "phaseWhole", fn := fun _ => fun
  | [d1, d2, d3] => { results := [.lit (.bool true)], args := [d1, d2, d3] }
  | _ => none }
def phaseWholeRow : OpenClaim := { program := "ytlmhhpddlgmnkaa", sum := "65684926363bab1ea520a38641924573f8305e21f00c1bdecdde479721ec9a52", func := "fusee/fuseelaw05.PhaseWhole", spec := "phaseWhole", apart := false }
def PhaseWholeSaid : Prop := phaseWholeRow.holds Try.pinned (OpenSpec.ofChange phaseWholeSpec)

/-- ITS FALSE NEIGHBOUR: 'it returns false'. Refute it at one input. -/
def phaseWholeWrong : ChangeSpec := { name := "phaseWhole", fn := fun _ => fun
  | [d1, d2, d3] => { results := [.lit (.bool false)], args := [d1, d2, d3] }
  | _ => none }
def PhaseWholeWrongFalsely : Prop := phaseWholeRow.holds Try.pinned (OpenSpec.ofChange phaseWholeWrong)

/-- 'fuseelaw05.PhaseMuls': WHATEVER THE INPUT: true; the input reads as it did. -/
def phaseMulsSpec : ChangeSpec := { name := "phaseMuls", fn := fun _ => fun
  | [d1, d2, d3, d4] => { results := [.lit (.bool true)], args := [d1, d2, d3, d4] }
  | _ => none }
def phaseMulsRow : OpenClaim := { program := "ytlmhhpddlgmnkaa", sum := "65684926363bab1ea520a38641924573f8305e21f00c1bdecdde479721ec9a52", func := "fusee/fuseelaw05.PhaseMuls", spec := "phaseMuls", apart := false }
def PhaseMulsSaid : Prop := phaseMulsRow.holds Try.pinned (OpenSpec.ofChange phaseMulsSpec)

/-- ITS FALSE NEIGHBOUR: 'it returns false'. Refute it at one input. -/
def phaseMulsWrong : ChangeSpec := { name := "phaseMuls", fn := fun _ => fun
  | [d1, d2, d3, d4] => { results := [.lit (.bool false)], args := [d1, d2, d3, d4] }
  | _ => none }
def PhaseMulsWrongFalsely : Prop := phaseMulsRow.holds Try.pinned (OpenSpec.ofChange phaseMulsWrong)

/-- 'fuseelaw05.PhaseWalks': WHATEVER THE INPUT: true; the input reads as it did. -/
def phaseWalksSpec : ChangeSpec := { name := "phaseWalks", fn := fun _ => fun
  | [d] => { results := [.lit (.bool true)], args := [d] }
  | _ => none }
def phaseWalksRow : OpenClaim := { program := "ytlmhhpddlgmnkaa", sum := "65684926363bab1ea520a38641924573f8305e21f00c1bdecdde479721ec9a52", func := "fusee/fuseelaw05.PhaseWalks", spec := "phaseWalks", apart := false }
def PhaseWalksSaid : Prop := phaseWalksRow.holds Try.pinned (OpenSpec.ofChange phaseWalksSpec)

/-- ITS FALSE NEIGHBOUR: 'it returns false'. Refute it at one input. -/
def phaseWalksWrong : ChangeSpec := { name := "phaseWalks", fn := fun _ => fun
  | [d] => { results := [.lit (.bool false)], args := [d] }
  | _ => none }
def PhaseWalksWrongFalsely : Prop := phaseWalksRow.holds Try.pinned (OpenSpec.ofChange phaseWalksWrong)

/-- 'fuseelaw05.PhaseTurns': WHATEVER THE INPUT: true; the input reads as it did. -/
def phaseTurnsSpec : ChangeSpec := { name := "phaseTurns", fn := fun _ => fun
  | [d1, d2] => { results := [.lit (.bool true)], args := [d1, d2] }
  | _ => none }
def phaseTurnsRow : OpenClaim := { program := "ytlmhhpddlgmnkaa", sum := "65684926363bab1ea520a38641924573f8305e21f00c1bdecdde479721ec9a52", func := "fusee/fuseelaw05.PhaseTurns", spec := "phaseTurns", apart := false }
def PhaseTurnsSaid : Prop := phaseTurnsRow.holds Try.pinned (OpenSpec.ofChange phaseTurnsSpec)

/-- ITS FALSE NEIGHBOUR: 'it returns false'. Refute it at one input. -/
def phaseTurnsWrong : ChangeSpec := { name := "phaseTurns", fn := fun _ => fun
  | [d1, d2] => { results := [.lit (.bool false)], args := [d1, d2] }
  | _ => none }
def PhaseTurnsWrongFalsely : Prop := phaseTurnsRow.holds Try.pinned (OpenSpec.ofChange phaseTurnsWrong)

/- THE SECOND FORM. 'bulk': how many values and letters a reading holds, each counted each time it is reached (what is shared counts as often as it is met; a slice's spare places count too). A statement '..UptoSaid' is the law's where the arguments, and the package variables that the reading takes, are together of bulk at most 1048576: NARROWER than '..Said'. Prove '..Said' where nothing that the law and all that it calls make is longer than what came in: it says more and counts as full. Else prove '..UptoSaid'. A law counts once. -/
mutual
def uptoBulk {H : Type} : DataW H → Nat
  | .lit (.string bytes) => bytes.length + 1
  | .lit _ => 1
  | .nil => 1
  | .ptr d => uptoBulk d + 1
  | .slice elems spare => uptoBulkAll elems + uptoBulkAll spare + 1
  | .agg parts => uptoBulkAll parts + 1
  | .iface _ d => uptoBulk d + 1
  | .map entries => uptoBulkEntries entries + 1
  | .held _ => 1
def uptoBulkAll {H : Type} : List (DataW H) → Nat
  | [] => 0
  | d :: r => uptoBulk d + uptoBulkAll r
def uptoBulkEntries {H : Type} : List (Lit × DataW H) → Nat
  | [] => 0
  | x :: r => uptoBulkEntry x + uptoBulkEntries r
def uptoBulkEntry {H : Type} : Lit × DataW H → Nat
  | (.string bytes, d) => bytes.length + uptoBulk d + 1
  | (_, d) => uptoBulk d + 1
 end
def uptoSmall : (H : Type) → List (DataW H) → Bool := fun _ ds => decide (uptoBulkAll ds ≤ 1048576)
def OpenSpec.upto (s : _root_.Go.ChangeSpec) : _root_.Go.OpenSpec := { _root_.Go.OpenSpec.ofChange s with cond := some uptoSmall }

/-- 'fuseelaw05.PhaseWhole', WHERE WHAT IT READS IS OF BULK AT MOST 1048576: true; the input reads as it did. -/
def phaseWholeUptoRow : OpenClaim := { program := "ytlmhhpddlgmnkaa", sum := "65684926363bab1ea520a38641924573f8305e21f00c1bdecdde479721ec9a52", func := "fusee/fuseelaw05.PhaseWhole", spec := "phaseWhole", apart := false, narrowed := true }
def PhaseWholeUptoSaid : Prop := phaseWholeUptoRow.holds Try.pinned (OpenSpec.upto phaseWholeSpec)

/-- 'fuseelaw05.PhaseMuls', WHERE WHAT IT READS IS OF BULK AT MOST 1048576: true; the input reads as it did. -/
def phaseMulsUptoRow : OpenClaim := { program := "ytlmhhpddlgmnkaa", sum := "65684926363bab1ea520a38641924573f8305e21f00c1bdecdde479721ec9a52", func := "fusee/fuseelaw05.PhaseMuls", spec := "phaseMuls", apart := false, narrowed := true }
def PhaseMulsUptoSaid : Prop := phaseMulsUptoRow.holds Try.pinned (OpenSpec.upto phaseMulsSpec)

/-- 'fuseelaw05.PhaseWalks', WHERE WHAT IT READS IS OF BULK AT MOST 1048576: true; the input reads as it did. -/
def phaseWalksUptoRow : OpenClaim := { program := "ytlmhhpddlgmnkaa", sum := "65684926363bab1ea520a38641924573f8305e21f00c1bdecdde479721ec9a52", func := "fusee/fuseelaw05.PhaseWalks", spec := "phaseWalks", apart := false, narrowed := true }
def PhaseWalksUptoSaid : Prop := phaseWalksUptoRow.holds Try.pinned (OpenSpec.upto phaseWalksSpec)

/-- 'fuseelaw05.PhaseTurns', WHERE WHAT IT READS IS OF BULK AT MOST 1048576: true; the input reads as it did. -/
def phaseTurnsUptoRow : OpenClaim := { program := "ytlmhhpddlgmnkaa", sum := "65684926363bab1ea520a38641924573f8305e21f00c1bdecdde479721ec9a52", func := "fusee/fuseelaw05.PhaseTurns", spec := "phaseTurns", apart := false, narrowed := true }
def PhaseTurnsUptoSaid : Prop := phaseTurnsUptoRow.holds Try.pinned (OpenSpec.upto phaseTurnsSpec)

end Rows
end Go.Proofs.Ytlmhhpddlgmnkaa
