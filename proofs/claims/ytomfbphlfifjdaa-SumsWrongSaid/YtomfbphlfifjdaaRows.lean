/-
  No cell of these rows narrows 'for every input' (looked for: loops, veiled, ifaces, maps, wideKeys, modest, calm, conditions, laid).
  DERIVED. THE GIVEN ROWS OF THIS SEAT. 5 by the template 'for every input the law returns true; each argument reads behind the call as it read before'; 0 by the template 'total and deterministic' (their statements: YtomfbphlfifjdaaTotals.lean).
  GIVEN WITH THE SEED: the statements are not yours to turn. If you find one false, say at which input.
  Laid BY PROGRAM, IN A SANDBOX (cutbox-rows.mjs): the forced cells as the released guide's own fill.sh prints them over the translation 36fb1460ca203885… (all of the seat's roots in one cut). By AI agents, Wed Nov 11 2026. No macro, syntax, notation, axiom, sorry.
-/
import Derived.Test.YtomfbphlfifjdaaChecked
import GoSem.Claim
import GoSem.ClaimJoined
import GoSem.ClaimMapViews
import Derived.JoinedTies
import Derived.KernelRfl
namespace Go.Proofs.Ytomfbphlfifjdaa
/- THE CELL 'sum', in the pinned program and in every row, IS THE sha256 OF THE DUMP (.gsa) THAT YtomfbphlfifjdaaProg.lean LOADS. Nothing in Lean hashes anything: it is a label: what it is worth is what the hold of that sum in a sandbox is worth. -/
noncomputable def Try.pinned : Pinned := { name := "ytomfbphlfifjdaa", sum := "36fb1460ca2038853c5075893786c22ca81cfb3e0ade5e0e38fb3f90b166f7b9", checked := Try.checked }
namespace Rows
def none {H : Type} : Left H := { results := [], args := [] }

/-- 'pantlerlaw01.SumsParts': WHATEVER THE INPUT: true; the input reads as it did. -/
def sumsPartsSpec : ChangeSpec := { name := "sumsParts", fn := fun _ => fun
  | [d] => { results := [.lit (.bool true)], args := [d] }
  | _ => none }
def sumsPartsRow : OpenClaim := { program := "ytomfbphlfifjdaa", sum := "36fb1460ca2038853c5075893786c22ca81cfb3e0ade5e0e38fb3f90b166f7b9", func := "pantler/pantlerlaw01.SumsParts", spec := "sumsParts", inPlace := ["math.archTrunc", "math.Float64bits", "math.Float64frombits"], apart := false }
def SumsPartsSaid : Prop := sumsPartsRow.holds Try.pinned (OpenSpec.ofChange sumsPartsSpec)

/-- ITS FALSE NEIGHBOUR: 'it returns false'. Refute it at one input. -/
def sumsPartsWrong : ChangeSpec := { name := "sumsParts", fn := fun _ => fun
  | [d] => { results := [.lit (.bool false)], args := [d] }
  | _ => none }
def SumsPartsWrongFalsely : Prop := sumsPartsRow.holds Try.pinned (OpenSpec.ofChange sumsPartsWrong)

/-- 'pantlerlaw01.SumsJoins': WHATEVER THE INPUT: true; the input reads as it did. -/
def sumsJoinsSpec : ChangeSpec := { name := "sumsJoins", fn := fun _ => fun
  | [d1, d2, d3, d4] => { results := [.lit (.bool true)], args := [d1, d2, d3, d4] }
  | _ => none }
def sumsJoinsRow : OpenClaim := { program := "ytomfbphlfifjdaa", sum := "36fb1460ca2038853c5075893786c22ca81cfb3e0ade5e0e38fb3f90b166f7b9", func := "pantler/pantlerlaw01.SumsJoins", spec := "sumsJoins", inPlace := ["math.archTrunc", "math.Float64bits", "math.Float64frombits"], apart := false }
def SumsJoinsSaid : Prop := sumsJoinsRow.holds Try.pinned (OpenSpec.ofChange sumsJoinsSpec)

/-- ITS FALSE NEIGHBOUR: 'it returns false'. Refute it at one input. -/
def sumsJoinsWrong : ChangeSpec := { name := "sumsJoins", fn := fun _ => fun
  | [d1, d2, d3, d4] => { results := [.lit (.bool false)], args := [d1, d2, d3, d4] }
  | _ => none }
def SumsJoinsWrongFalsely : Prop := sumsJoinsRow.holds Try.pinned (OpenSpec.ofChange sumsJoinsWrong)

/-- 'pantlerlaw01.SumsWords': WHATEVER THE INPUT: true; the input reads as it did. -/
def sumsWordsSpec : ChangeSpec := { name := "sumsWords", fn := fun _ => fun
  | [d1, d2, d3, d4] => { results := [.lit (.bool true)], args := [d1, d2, d3, d4] }
  | _ => none }
def sumsWordsRow : OpenClaim := { program := "ytomfbphlfifjdaa", sum := "36fb1460ca2038853c5075893786c22ca81cfb3e0ade5e0e38fb3f90b166f7b9", func := "pantler/pantlerlaw01.SumsWords", spec := "sumsWords", inPlace := ["math.archTrunc", "math.Float64bits", "math.Float64frombits"], apart := false }
def SumsWordsSaid : Prop := sumsWordsRow.holds Try.pinned (OpenSpec.ofChange sumsWordsSpec)

/-- ITS FALSE NEIGHBOUR: 'it returns false'. Refute it at one input. -/
def sumsWordsWrong : ChangeSpec := { name := "sumsWords", fn := fun _ => fun
  | [d1, d2, d3, d4] => { results := [.lit (.bool false)], args := [d1, d2, d3, d4] }
  | _ => none }
def SumsWordsWrongFalsely : Prop := sumsWordsRow.holds Try.pinned (OpenSpec.ofChange sumsWordsWrong)

/-- 'pantlerlaw01.SumsWrong': WHATEVER THE INPUT: true; the input reads as it did. -/
def sumsWrongSpec : ChangeSpec := { name := "sumsWrong", fn := fun _ => fun
  | [d1, d2, d3] => { results := [.lit (.bool true)], args := [d1, d2, d3] }
  | _ => none }
def sumsWrongRow : OpenClaim := { program := "ytomfbphlfifjdaa", sum := "36fb1460ca2038853c5075893786c22ca81cfb3e0ade5e0e38fb3f90b166f7b9", func := "pantler/pantlerlaw01.SumsWrong", spec := "sumsWrong", inPlace := ["math.archTrunc", "math.Float64bits", "math.Float64frombits"], apart := false }
def SumsWrongSaid : Prop := sumsWrongRow.holds Try.pinned (OpenSpec.ofChange sumsWrongSpec)

/-- ITS FALSE NEIGHBOUR: 'it returns false'. Refute it at one input. -/
def sumsWrongWrong : ChangeSpec := { name := "sumsWrong", fn := fun _ => fun
  | [d1, d2, d3] => { results := [.lit (.bool false)], args := [d1, d2, d3] }
  | _ => none }
def SumsWrongWrongFalsely : Prop := sumsWrongRow.holds Try.pinned (OpenSpec.ofChange sumsWrongWrong)

/-- 'pantlerlaw01.SumsCuts': WHATEVER THE INPUT: true; the input reads as it did. -/
def sumsCutsSpec : ChangeSpec := { name := "sumsCuts", fn := fun _ => fun
  | [d1, d2, d3] => { results := [.lit (.bool true)], args := [d1, d2, d3] }
  | _ => none }
def sumsCutsRow : OpenClaim := { program := "ytomfbphlfifjdaa", sum := "36fb1460ca2038853c5075893786c22ca81cfb3e0ade5e0e38fb3f90b166f7b9", func := "pantler/pantlerlaw01.SumsCuts", spec := "sumsCuts", inPlace := ["math.archTrunc", "math.Float64bits", "math.Float64frombits"], apart := false }
def SumsCutsSaid : Prop := sumsCutsRow.holds Try.pinned (OpenSpec.ofChange sumsCutsSpec)

/-- ITS FALSE NEIGHBOUR: 'it returns false'. Refute it at one input. -/
def sumsCutsWrong : ChangeSpec := { name := "sumsCuts", fn := fun _ => fun
  | [d1, d2, d3] => { results := [.lit (.bool false)], args := [d1, d2, d3] }
  | _ => none }
def SumsCutsWrongFalsely : Prop := sumsCutsRow.holds Try.pinned (OpenSpec.ofChange sumsCutsWrong)

/- THE SECOND FORM. 'bulk': how many values and letters a reading holds, each counted each time it is reached (what is shared counts as often as it is met; a slice's spare places count too). A statement '..UptoSaid' is the law's where the arguments, and the package variables that the reading takes, are together of bulk at most 1048576: NARROWER than '..Said'. Prove '..Said' where nothing that the law and all that it calls make is longer than what came in: it says more and counts as full. Else prove '..UptoSaid'. A law counts once. -/
mutual
def uptoBulk {H : Type} : DataW H → Nat
  | .lit (.string bytes) => bytes.length + 1
  | .lit _ => 1
  | .nil => 1
  | .ptr d => uptoBulk d + 1
  | .slice elems spare => uptoBulkAll elems + uptoBulkAll spare + 1
  | .agg parts => uptoBulkAll parts + 1
  | .iface _ d => uptoBulk d + 1
  | .map entries => uptoBulkEntries entries + 1
  | .held _ => 1
def uptoBulkAll {H : Type} : List (DataW H) → Nat
  | [] => 0
  | d :: r => uptoBulk d + uptoBulkAll r
def uptoBulkEntries {H : Type} : List (Lit × DataW H) → Nat
  | [] => 0
  | x :: r => uptoBulkEntry x + uptoBulkEntries r
def uptoBulkEntry {H : Type} : Lit × DataW H → Nat
  | (.string bytes, d) => bytes.length + uptoBulk d + 1
  | (_, d) => uptoBulk d + 1
 end
def uptoSmall : (H : Type) → List (DataW H) → Bool := fun _ ds => decide (uptoBulkAll ds ≤ 1048576)
def OpenSpec.upto (s : _root_.Go.ChangeSpec) : _root_.Go.OpenSpec := { _root_.Go.OpenSpec.ofChange s with cond := some uptoSmall }

/-- 'pantlerlaw01.SumsParts', WHERE WHAT IT READS IS OF BULK AT MOST 1048576: true; the input reads as it did. -/
def sumsPartsUptoRow : OpenClaim := { program := "ytomfbphlfifjdaa", sum := "36fb1460ca2038853c5075893786c22ca81cfb3e0ade5e0e38fb3f90b166f7b9", func := "pantler/pantlerlaw01.SumsParts", spec := "sumsParts", inPlace := ["math.archTrunc", "math.Float64bits", "math.Float64frombits"], apart := false, narrowed := true }
def SumsPartsUptoSaid : Prop := sumsPartsUptoRow.holds Try.pinned (OpenSpec.upto sumsPartsSpec)

/-- 'pantlerlaw01.SumsJoins', WHERE WHAT IT READS IS OF BULK AT MOST 1048576: true; the input reads as it did. -/
def sumsJoinsUptoRow : OpenClaim := { program := "ytomfbphlfifjdaa", sum := "36fb1460ca2038853c5075893786c22ca81cfb3e0ade5e0e38fb3f90b166f7b9", func := "pantler/pantlerlaw01.SumsJoins", spec := "sumsJoins", inPlace := ["math.archTrunc", "math.Float64bits", "math.Float64frombits"], apart := false, narrowed := true }
def SumsJoinsUptoSaid : Prop := sumsJoinsUptoRow.holds Try.pinned (OpenSpec.upto sumsJoinsSpec)

/-- 'pantlerlaw01.SumsWords', WHERE WHAT IT READS IS OF BULK AT MOST 1048576: true; the input reads as it did. -/
def sumsWordsUptoRow : OpenClaim := { program := "ytomfbphlfifjdaa", sum := "36fb1460ca2038853c5075893786c22ca81cfb3e0ade5e0e38fb3f90b166f7b9", func := "pantler/pantlerlaw01.SumsWords", spec := "sumsWords", inPlace := ["math.archTrunc", "math.Float64bits", "math.Float64frombits"], apart := false, narrowed := true }
def SumsWordsUptoSaid : Prop := sumsWordsUptoRow.holds Try.pinned (OpenSpec.upto sumsWordsSpec)

/-- 'pantlerlaw01.SumsWrong', WHERE WHAT IT READS IS OF BULK AT MOST 1048576: true; the input reads as it did. -/
def sumsWrongUptoRow : OpenClaim := { program := "ytomfbphlfifjdaa", sum := "36fb1460ca2038853c5075893786c22ca81cfb3e0ade5e0e38fb3f90b166f7b9", func := "pantler/pantlerlaw01.SumsWrong", spec := "sumsWrong", inPlace := ["math.archTrunc", "math.Float64bits", "math.Float64frombits"], apart := false, narrowed := true }
def SumsWrongUptoSaid : Prop := sumsWrongUptoRow.holds Try.pinned (OpenSpec.upto sumsWrongSpec)

/-- 'pantlerlaw01.SumsCuts', WHERE WHAT IT READS IS OF BULK AT MOST 1048576: true; the input reads as it did. -/
def sumsCutsUptoRow : OpenClaim := { program := "ytomfbphlfifjdaa", sum := "36fb1460ca2038853c5075893786c22ca81cfb3e0ade5e0e38fb3f90b166f7b9", func := "pantler/pantlerlaw01.SumsCuts", spec := "sumsCuts", inPlace := ["math.archTrunc", "math.Float64bits", "math.Float64frombits"], apart := false, narrowed := true }
def SumsCutsUptoSaid : Prop := sumsCutsUptoRow.holds Try.pinned (OpenSpec.upto sumsCutsSpec)

end Rows
end Go.Proofs.Ytomfbphlfifjdaa
