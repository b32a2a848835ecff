/-
  No cell of these rows narrows 'for every input' (looked for: loops, veiled, ifaces, maps, wideKeys, modest, calm, conditions, laid).
  DERIVED. THE GIVEN ROWS OF THIS SEAT. 4 by the template 'for every input the law returns true; each argument reads behind the call as it read before'; 0 by the template 'total and deterministic' (their statements: YtdigknahglleiaaTotals.lean).
  GIVEN WITH THE SEED: the statements are not yours to turn. If you find one false, say at which input.
  Laid BY PROGRAM, IN A SANDBOX (cutbox-rows.mjs): the forced cells as the released guide's own fill.sh prints them over the translation 261f6759e6a8bb53… (all of the seat's roots in one cut). By AI agents, Wed Nov 11 2026. No macro, syntax, notation, axiom, sorry.
-/
import Derived.Test.YtdigknahglleiaaChecked
import GoSem.Claim
import GoSem.ClaimJoined
import GoSem.ClaimMapViews
import Derived.JoinedTies
import Derived.KernelRfl
namespace Go.Proofs.Ytdigknahglleiaa
/- THE CELL 'sum', in the pinned program and in every row, IS THE sha256 OF THE DUMP (.gsa) THAT YtdigknahglleiaaProg.lean LOADS. Nothing in Lean hashes anything: it is a label: what it is worth is what the hold of that sum in a sandbox is worth. -/
noncomputable def Try.pinned : Pinned := { name := "ytdigknahglleiaa", sum := "261f6759e6a8bb5316cd64259ea618499ece470c61596f7e78f3517704340e51", checked := Try.checked }
namespace Rows
def none {H : Type} : Left H := { results := [], args := [] }

/-- 'pantlerlaw32.WireOne': WHATEVER THE INPUT: true; the input reads as it did. -/
def wireOneSpec : ChangeSpec := { name := "wireOne", fn := fun _ => fun
  | [d] => { results := [.lit (.bool true)], args := [d] }
  | _ => none }
def wireOneRow : OpenClaim := { program := "ytdigknahglleiaa", sum := "261f6759e6a8bb5316cd64259ea618499ece470c61596f7e78f3517704340e51", func := "pantler/pantlerlaw32.WireOne", spec := "wireOne", apart := false }
def WireOneSaid : Prop := wireOneRow.holds Try.pinned (OpenSpec.ofChange wireOneSpec)

/-- ITS FALSE NEIGHBOUR: 'it returns false'. Refute it at one input. -/
def wireOneWrong : ChangeSpec := { name := "wireOne", fn := fun _ => fun
  | [d] => { results := [.lit (.bool false)], args := [d] }
  | _ => none }
def WireOneWrongFalsely : Prop := wireOneRow.holds Try.pinned (OpenSpec.ofChange wireOneWrong)

/-- 'pantlerlaw32.WireOrder': WHATEVER THE INPUT: true; the input reads as it did. -/
def wireOrderSpec : ChangeSpec := { name := "wireOrder", fn := fun _ => fun
  | [d1, d2] => { results := [.lit (.bool true)], args := [d1, d2] }
  | _ => none }
def wireOrderRow : OpenClaim := { program := "ytdigknahglleiaa", sum := "261f6759e6a8bb5316cd64259ea618499ece470c61596f7e78f3517704340e51", func := "pantler/pantlerlaw32.WireOrder", spec := "wireOrder", apart := false }
def WireOrderSaid : Prop := wireOrderRow.holds Try.pinned (OpenSpec.ofChange wireOrderSpec)

/-- ITS FALSE NEIGHBOUR: 'it returns false'. Refute it at one input. -/
def wireOrderWrong : ChangeSpec := { name := "wireOrder", fn := fun _ => fun
  | [d1, d2] => { results := [.lit (.bool false)], args := [d1, d2] }
  | _ => none }
def WireOrderWrongFalsely : Prop := wireOrderRow.holds Try.pinned (OpenSpec.ofChange wireOrderWrong)

/-- 'pantlerlaw32.WirePlays': WHATEVER THE INPUT: true; the input reads as it did. -/
def wirePlaysSpec : ChangeSpec := { name := "wirePlays", fn := fun _ => fun
  | [d] => { results := [.lit (.bool true)], args := [d] }
  | _ => none }
def wirePlaysRow : OpenClaim := { program := "ytdigknahglleiaa", sum := "261f6759e6a8bb5316cd64259ea618499ece470c61596f7e78f3517704340e51", func := "pantler/pantlerlaw32.WirePlays", spec := "wirePlays", apart := false }
def WirePlaysSaid : Prop := wirePlaysRow.holds Try.pinned (OpenSpec.ofChange wirePlaysSpec)

/-- ITS FALSE NEIGHBOUR: 'it returns false'. Refute it at one input. -/
def wirePlaysWrong : ChangeSpec := { name := "wirePlays", fn := fun _ => fun
  | [d] => { results := [.lit (.bool false)], args := [d] }
  | _ => none }
def WirePlaysWrongFalsely : Prop := wirePlaysRow.holds Try.pinned (OpenSpec.ofChange wirePlaysWrong)

/-- 'pantlerlaw32.WireNil': WHATEVER THE INPUT: true; the input reads as it did. -/
def wireNilSpec : ChangeSpec := { name := "wireNil", fn := fun _ => fun
  | [d] => { results := [.lit (.bool true)], args := [d] }
  | _ => none }
def wireNilRow : OpenClaim := { program := "ytdigknahglleiaa", sum := "261f6759e6a8bb5316cd64259ea618499ece470c61596f7e78f3517704340e51", func := "pantler/pantlerlaw32.WireNil", spec := "wireNil", apart := false }
def WireNilSaid : Prop := wireNilRow.holds Try.pinned (OpenSpec.ofChange wireNilSpec)

/-- ITS FALSE NEIGHBOUR: 'it returns false'. Refute it at one input. -/
def wireNilWrong : ChangeSpec := { name := "wireNil", fn := fun _ => fun
  | [d] => { results := [.lit (.bool false)], args := [d] }
  | _ => none }
def WireNilWrongFalsely : Prop := wireNilRow.holds Try.pinned (OpenSpec.ofChange wireNilWrong)

/- THE SECOND FORM. 'bulk': how many values and letters a reading holds, each counted each time it is reached (what is shared counts as often as it is met; a slice's spare places count too). A statement '..UptoSaid' is the law's where the arguments, and the package variables that the reading takes, are together of bulk at most 1048576: NARROWER than '..Said'. Prove '..Said' where nothing that the law and all that it calls make is longer than what came in: it says more and counts as full. Else prove '..UptoSaid'. A law counts once. -/
mutual
def uptoBulk {H : Type} : DataW H → Nat
  | .lit (.string bytes) => bytes.length + 1
  | .lit _ => 1
  | .nil => 1
  | .ptr d => uptoBulk d + 1
  | .slice elems spare => uptoBulkAll elems + uptoBulkAll spare + 1
  | .agg parts => uptoBulkAll parts + 1
  | .iface _ d => uptoBulk d + 1
  | .map entries => uptoBulkEntries entries + 1
  | .held _ => 1
def uptoBulkAll {H : Type} : List (DataW H) → Nat
  | [] => 0
  | d :: r => uptoBulk d + uptoBulkAll r
def uptoBulkEntries {H : Type} : List (Lit × DataW H) → Nat
  | [] => 0
  | x :: r => uptoBulkEntry x + uptoBulkEntries r
def uptoBulkEntry {H : Type} : Lit × DataW H → Nat
  | (.string bytes, d) => bytes.length + uptoBulk d + 1
  | (_, d) => uptoBulk d + 1
 end
def uptoSmall : (H : Type) → List (DataW H) → Bool := fun _ ds => decide (uptoBulkAll ds ≤ 1048576)
def OpenSpec.upto (s : _root_.Go.ChangeSpec) : _root_.Go.OpenSpec := { _root_.Go.OpenSpec.ofChange s with cond := some uptoSmall }

/-- 'pantlerlaw32.WireOne', WHERE WHAT IT READS IS OF BULK AT MOST 1048576: true; the input reads as it did. -/
def wireOneUptoRow : OpenClaim := { program := "ytdigknahglleiaa", sum := "261f6759e6a8bb5316cd64259ea618499ece470c61596f7e78f3517704340e51", func := "pantler/pantlerlaw32.WireOne", spec := "wireOne", apart := false, narrowed := true }
def WireOneUptoSaid : Prop := wireOneUptoRow.holds Try.pinned (OpenSpec.upto wireOneSpec)

/-- 'pantlerlaw32.WireOrder', WHERE WHAT IT READS IS OF BULK AT MOST 1048576: true; the input reads as it did. -/
def wireOrderUptoRow : OpenClaim := { program := "ytdigknahglleiaa", sum := "261f6759e6a8bb5316cd64259ea618499ece470c61596f7e78f3517704340e51", func := "pantler/pantlerlaw32.WireOrder", spec := "wireOrder", apart := false, narrowed := true }
def WireOrderUptoSaid : Prop := wireOrderUptoRow.holds Try.pinned (OpenSpec.upto wireOrderSpec)

/-- 'pantlerlaw32.WirePlays', WHERE WHAT IT READS IS OF BULK AT MOST 1048576: true; the input reads as it did. -/
def wirePlaysUptoRow : OpenClaim := { program := "ytdigknahglleiaa", sum := "261f6759e6a8bb5316cd64259ea618499ece470c61596f7e78f3517704340e51", func := "pantler/pantlerlaw32.WirePlays", spec := "wirePlays", apart := false, narrowed := true }
def WirePlaysUptoSaid : Prop := wirePlaysUptoRow.holds Try.pinned (OpenSpec.upto wirePlaysSpec)

/-- 'pantlerlaw32.WireNil', WHERE WHAT IT READS IS OF BULK AT MOST 1048576: true; the input reads as it did. -/
def wireNilUptoRow : OpenClaim := { program := "ytdigknahglleiaa", sum := "261f6759e6a8bb5316cd64259ea618499ece470c61596f7e78f3517704340e51", func := "pantler/pantlerlaw32.WireNil", spec := "wireNil", apart := false, narrowed := true }
def WireNilUptoSaid : Prop := wireNilUptoRow.holds Try.pinned (OpenSpec.upto wireNilSpec)

end Rows
end Go.Proofs.Ytdigknahglleiaa
