
/- Contract of the reference of IP: Parse. -/
import Derived.Test.YtpdhoojjcgohpaaIpQ
import Derived.Laws.StructEq
namespace Go.Proofs.Ytpdhoojjcgohpaa
set_option maxRecDepth 4000
open Go.RowKit Go.Sort
set_option linter.unusedVariables false

def RIQPost (w : World) (p : Iq) (e : Ending) (w' : World) : Prop :=
  e = .returned (.tuple #[.agg #[.int .u16 p.id, .int .u8 p.ttl, .int .u8 p.pr, .int .u32 p.src, .int .u32 p.dst, .string (strOfNums p.l)], .int .i64 p.e]) ∧ Only (fun _ => False) w w'
theorem u8_of (u : UInt8) (n : Nat) (hn : n < 256) (h : (u.toNat : Int) = n) : u = UInt8.ofNat n := by
  apply UInt8.toNat.inj
  rw [UInt8.toNat_ofNat_of_lt' (by simp [UInt8.size]; omega)]
  omega
theorem extract_mid (s : ByteArray) (a b : Nat) : s.extract a b = strOfNums (((codes s).take b).drop a) := by
  apply codes_inj
  rw [codes_extract, codes_str (((codes_bd s).take b).drop a), List.drop_take]
end Go.Proofs.Ytpdhoojjcgohpaa
