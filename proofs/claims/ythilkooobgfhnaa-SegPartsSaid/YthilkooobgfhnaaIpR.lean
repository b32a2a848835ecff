
/- Contracts of the reference of IP: Head, Bytes, Pseudo. -/
import Derived.Test.YthilkooobgfhnaaIp
import Derived.Deep.RegionHeld3
import Derived.Laws.StructEq
namespace Go.Proofs.Ythilkooobgfhnaa
open Go.RowKit Go.Sort
set_option linter.unusedVariables false

theorem lo1' {x : Int} (h0 : 0 ≤ x) (h1 : x < 256) : lo x 1 = [x] := by rw [lo1, Int.emod_eq_of_lt h0 h1]
theorem lo2' {x : Int} (h0 : 0 ≤ x) (h1 : x ≤ 65535) : lo x 2 = [x / 256, x % 256] := by
  rw [lo2]
  have e : x / 256 % 256 = x / 256 := by omega
  rw [e]
def rhS (id ttl pr src dst n : Int) : ByteArray := if lenOk n then strOfNums (hB id ttl pr src dst n) else ByteArray.empty
def rhE (n : Int) : Int := if lenOk n then 0 else 2
def rbS (id ttl pr src dst : Int) (b : ByteArray) : ByteArray := if lenOk b.size then strOfNums (hB id ttl pr src dst b.size) ++ b else ByteArray.empty
end Go.Proofs.Ythilkooobgfhnaa
