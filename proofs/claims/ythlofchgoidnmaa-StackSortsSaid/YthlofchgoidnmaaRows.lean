/-
  No cell of these rows narrows 'for every input' (looked for: loops, veiled, ifaces, maps, wideKeys, modest, calm, conditions, laid).
  DERIVED. THE GIVEN ROWS OF THIS SEAT. 5 by the template 'for every input the law returns true; each argument reads behind the call as it read before'; 0 by the template 'total and deterministic' (their statements: YthlofchgoidnmaaTotals.lean).
  GIVEN WITH THE SEED: the statements are not yours to turn. If you find one false, say at which input.
  Laid BY PROGRAM, IN A SANDBOX (cutbox-rows.mjs): the forced cells as the released guide's own fill.sh prints them over the translation 9f6304b2778db71a… (all of the seat's roots in one cut). By AI agents, Wed Nov 11 2026. No macro, syntax, notation, axiom, sorry.
-/
import Derived.Test.YthlofchgoidnmaaChecked
import GoSem.Claim
import GoSem.ClaimJoined
import GoSem.ClaimMapViews
import Derived.JoinedTies
import Derived.KernelRfl
namespace Go.Proofs.Ythlofchgoidnmaa
/- THE CELL 'sum', in the pinned program and in every row, IS THE sha256 OF THE DUMP (.gsa) THAT YthlofchgoidnmaaProg.lean LOADS. Nothing in Lean hashes anything: it is a label: what it is worth is what the hold of that sum in a sandbox is worth. -/
noncomputable def Try.pinned : Pinned := { name := "ythlofchgoidnmaa", sum := "9f6304b2778db71a64ecd6228f509792c0f14f7e814e057eef8b01e7ba585c59", checked := Try.checked }
namespace Rows
def none {H : Type} : Left H := { results := [], args := [] }

/-- 'pantlerlaw29.StackSorts': WHATEVER THE INPUT: true; the input reads as it did. -/
def stackSortsSpec : ChangeSpec := { name := "stackSorts", fn := fun _ => fun
  | [d1, d2, d3] => { results := [.lit (.bool true)], args := [d1, d2, d3] }
  | _ => none }
def stackSortsRow : OpenClaim := { program := "ythlofchgoidnmaa", sum := "9f6304b2778db71a64ecd6228f509792c0f14f7e814e057eef8b01e7ba585c59", func := "pantler/pantlerlaw29.StackSorts", spec := "stackSorts", inPlace := ["math.archTrunc", "math.Float64bits", "math.Float64frombits"], apart := false }
def StackSortsSaid : Prop := stackSortsRow.holds Try.pinned (OpenSpec.ofChange stackSortsSpec)

/-- ITS FALSE NEIGHBOUR: 'it returns false'. Refute it at one input. -/
def stackSortsWrong : ChangeSpec := { name := "stackSorts", fn := fun _ => fun
  | [d1, d2, d3] => { results := [.lit (.bool false)], args := [d1, d2, d3] }
  | _ => none }
def StackSortsWrongFalsely : Prop := stackSortsRow.holds Try.pinned (OpenSpec.ofChange stackSortsWrong)

/-- 'pantlerlaw29.StackWraps': WHATEVER THE INPUT: true; the input reads as it did. -/
def stackWrapsSpec : ChangeSpec := { name := "stackWraps", fn := fun _ => fun
  | [d1, d2, d3, d4, d5, d6] => { results := [.lit (.bool true)], args := [d1, d2, d3, d4, d5, d6] }
  | _ => none }
def stackWrapsRow : OpenClaim := { program := "ythlofchgoidnmaa", sum := "9f6304b2778db71a64ecd6228f509792c0f14f7e814e057eef8b01e7ba585c59", func := "pantler/pantlerlaw29.StackWraps", spec := "stackWraps", inPlace := ["math.archTrunc", "math.Float64bits", "math.Float64frombits"], apart := false }
def StackWrapsSaid : Prop := stackWrapsRow.holds Try.pinned (OpenSpec.ofChange stackWrapsSpec)

/-- ITS FALSE NEIGHBOUR: 'it returns false'. Refute it at one input. -/
def stackWrapsWrong : ChangeSpec := { name := "stackWraps", fn := fun _ => fun
  | [d1, d2, d3, d4, d5, d6] => { results := [.lit (.bool false)], args := [d1, d2, d3, d4, d5, d6] }
  | _ => none }
def StackWrapsWrongFalsely : Prop := stackWrapsRow.holds Try.pinned (OpenSpec.ofChange stackWrapsWrong)

/-- 'pantlerlaw29.StackMeets': WHATEVER THE INPUT: true; the input reads as it did. -/
def stackMeetsSpec : ChangeSpec := { name := "stackMeets", fn := fun _ => fun
  | [d1, d2, d3, d4, d5, d6] => { results := [.lit (.bool true)], args := [d1, d2, d3, d4, d5, d6] }
  | _ => none }
def stackMeetsRow : OpenClaim := { program := "ythlofchgoidnmaa", sum := "9f6304b2778db71a64ecd6228f509792c0f14f7e814e057eef8b01e7ba585c59", func := "pantler/pantlerlaw29.StackMeets", spec := "stackMeets", inPlace := ["math.archTrunc", "math.Float64bits", "math.Float64frombits"], apart := false }
def StackMeetsSaid : Prop := stackMeetsRow.holds Try.pinned (OpenSpec.ofChange stackMeetsSpec)

/-- ITS FALSE NEIGHBOUR: 'it returns false'. Refute it at one input. -/
def stackMeetsWrong : ChangeSpec := { name := "stackMeets", fn := fun _ => fun
  | [d1, d2, d3, d4, d5, d6] => { results := [.lit (.bool false)], args := [d1, d2, d3, d4, d5, d6] }
  | _ => none }
def StackMeetsWrongFalsely : Prop := stackMeetsRow.holds Try.pinned (OpenSpec.ofChange stackMeetsWrong)

/-- 'pantlerlaw29.StackPads': WHATEVER THE INPUT: true; the input reads as it did. -/
def stackPadsSpec : ChangeSpec := { name := "stackPads", fn := fun _ => fun
  | [d1, d2, d3, d4, d5] => { results := [.lit (.bool true)], args := [d1, d2, d3, d4, d5] }
  | _ => none }
def stackPadsRow : OpenClaim := { program := "ythlofchgoidnmaa", sum := "9f6304b2778db71a64ecd6228f509792c0f14f7e814e057eef8b01e7ba585c59", func := "pantler/pantlerlaw29.StackPads", spec := "stackPads", inPlace := ["math.archTrunc", "math.Float64bits", "math.Float64frombits"], apart := false }
def StackPadsSaid : Prop := stackPadsRow.holds Try.pinned (OpenSpec.ofChange stackPadsSpec)

/-- ITS FALSE NEIGHBOUR: 'it returns false'. Refute it at one input. -/
def stackPadsWrong : ChangeSpec := { name := "stackPads", fn := fun _ => fun
  | [d1, d2, d3, d4, d5] => { results := [.lit (.bool false)], args := [d1, d2, d3, d4, d5] }
  | _ => none }
def StackPadsWrongFalsely : Prop := stackPadsRow.holds Try.pinned (OpenSpec.ofChange stackPadsWrong)

/-- 'pantlerlaw29.StackRefuses': WHATEVER THE INPUT: true; the input reads as it did. -/
def stackRefusesSpec : ChangeSpec := { name := "stackRefuses", fn := fun _ => fun
  | [d1, d2, d3, d4, d5] => { results := [.lit (.bool true)], args := [d1, d2, d3, d4, d5] }
  | _ => none }
def stackRefusesRow : OpenClaim := { program := "ythlofchgoidnmaa", sum := "9f6304b2778db71a64ecd6228f509792c0f14f7e814e057eef8b01e7ba585c59", func := "pantler/pantlerlaw29.StackRefuses", spec := "stackRefuses", inPlace := ["math.archTrunc", "math.Float64bits", "math.Float64frombits"], apart := false }
def StackRefusesSaid : Prop := stackRefusesRow.holds Try.pinned (OpenSpec.ofChange stackRefusesSpec)

/-- ITS FALSE NEIGHBOUR: 'it returns false'. Refute it at one input. -/
def stackRefusesWrong : ChangeSpec := { name := "stackRefuses", fn := fun _ => fun
  | [d1, d2, d3, d4, d5] => { results := [.lit (.bool false)], args := [d1, d2, d3, d4, d5] }
  | _ => none }
def StackRefusesWrongFalsely : Prop := stackRefusesRow.holds Try.pinned (OpenSpec.ofChange stackRefusesWrong)

/- THE SECOND FORM. 'bulk': how many values and letters a reading holds, each counted each time it is reached (what is shared counts as often as it is met; a slice's spare places count too). A statement '..UptoSaid' is the law's where the arguments, and the package variables that the reading takes, are together of bulk at most 1048576: NARROWER than '..Said'. Prove '..Said' where nothing that the law and all that it calls make is longer than what came in: it says more and counts as full. Else prove '..UptoSaid'. A law counts once. -/
mutual
def uptoBulk {H : Type} : DataW H → Nat
  | .lit (.string bytes) => bytes.length + 1
  | .lit _ => 1
  | .nil => 1
  | .ptr d => uptoBulk d + 1
  | .slice elems spare => uptoBulkAll elems + uptoBulkAll spare + 1
  | .agg parts => uptoBulkAll parts + 1
  | .iface _ d => uptoBulk d + 1
  | .map entries => uptoBulkEntries entries + 1
  | .held _ => 1
def uptoBulkAll {H : Type} : List (DataW H) → Nat
  | [] => 0
  | d :: r => uptoBulk d + uptoBulkAll r
def uptoBulkEntries {H : Type} : List (Lit × DataW H) → Nat
  | [] => 0
  | x :: r => uptoBulkEntry x + uptoBulkEntries r
def uptoBulkEntry {H : Type} : Lit × DataW H → Nat
  | (.string bytes, d) => bytes.length + uptoBulk d + 1
  | (_, d) => uptoBulk d + 1
 end
def uptoSmall : (H : Type) → List (DataW H) → Bool := fun _ ds => decide (uptoBulkAll ds ≤ 1048576)
def OpenSpec.upto (s : _root_.Go.ChangeSpec) : _root_.Go.OpenSpec := { _root_.Go.OpenSpec.ofChange s with cond := some uptoSmall }

/-- 'pantlerlaw29.StackSorts', WHERE WHAT IT READS IS OF BULK AT MOST 1048576: true; the input reads as it did. -/
def stackSortsUptoRow : OpenClaim := { program := "ythlofchgoidnmaa", sum := "9f6304b2778db71a64ecd6228f509792c0f14f7e814e057eef8b01e7ba585c59", func := "pantler/pantlerlaw29.StackSorts", spec := "stackSorts", inPlace := ["math.archTrunc", "math.Float64bits", "math.Float64frombits"], apart := false, narrowed := true }
def StackSortsUptoSaid : Prop := stackSortsUptoRow.holds Try.pinned (OpenSpec.upto stackSortsSpec)

/-- 'pantlerlaw29.StackWraps', WHERE WHAT IT READS IS OF BULK AT MOST 1048576: true; the input reads as it did. -/
def stackWrapsUptoRow : OpenClaim := { program := "ythlofchgoidnmaa", sum := "9f6304b2778db71a64ecd6228f509792c0f14f7e814e057eef8b01e7ba585c59", func := "pantler/pantlerlaw29.StackWraps", spec := "stackWraps", inPlace := ["math.archTrunc", "math.Float64bits", "math.Float64frombits"], apart := false, narrowed := true }
def StackWrapsUptoSaid : Prop := stackWrapsUptoRow.holds Try.pinned (OpenSpec.upto stackWrapsSpec)

/-- 'pantlerlaw29.StackMeets', WHERE WHAT IT READS IS OF BULK AT MOST 1048576: true; the input reads as it did. -/
def stackMeetsUptoRow : OpenClaim := { program := "ythlofchgoidnmaa", sum := "9f6304b2778db71a64ecd6228f509792c0f14f7e814e057eef8b01e7ba585c59", func := "pantler/pantlerlaw29.StackMeets", spec := "stackMeets", inPlace := ["math.archTrunc", "math.Float64bits", "math.Float64frombits"], apart := false, narrowed := true }
def StackMeetsUptoSaid : Prop := stackMeetsUptoRow.holds Try.pinned (OpenSpec.upto stackMeetsSpec)

/-- 'pantlerlaw29.StackPads', WHERE WHAT IT READS IS OF BULK AT MOST 1048576: true; the input reads as it did. -/
def stackPadsUptoRow : OpenClaim := { program := "ythlofchgoidnmaa", sum := "9f6304b2778db71a64ecd6228f509792c0f14f7e814e057eef8b01e7ba585c59", func := "pantler/pantlerlaw29.StackPads", spec := "stackPads", inPlace := ["math.archTrunc", "math.Float64bits", "math.Float64frombits"], apart := false, narrowed := true }
def StackPadsUptoSaid : Prop := stackPadsUptoRow.holds Try.pinned (OpenSpec.upto stackPadsSpec)

/-- 'pantlerlaw29.StackRefuses', WHERE WHAT IT READS IS OF BULK AT MOST 1048576: true; the input reads as it did. -/
def stackRefusesUptoRow : OpenClaim := { program := "ythlofchgoidnmaa", sum := "9f6304b2778db71a64ecd6228f509792c0f14f7e814e057eef8b01e7ba585c59", func := "pantler/pantlerlaw29.StackRefuses", spec := "stackRefuses", inPlace := ["math.archTrunc", "math.Float64bits", "math.Float64frombits"], apart := false, narrowed := true }
def StackRefusesUptoSaid : Prop := stackRefusesUptoRow.holds Try.pinned (OpenSpec.upto stackRefusesSpec)

end Rows
end Go.Proofs.Ythlofchgoidnmaa
