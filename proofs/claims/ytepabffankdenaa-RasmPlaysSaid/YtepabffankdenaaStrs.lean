/- Put of a string's bytes; strings cut and joined. -/
import Derived.Test.YtepabffankdenaaAlive
import Derived.Test.YtepabffankdenaaStreamPlain
namespace Go.Proofs.Ytepabffankdenaa
open Go.RowKit
set_option linter.unusedVariables false

theorem put_str (g kb kh room next : Nat) (L : List Int) (at_ : Int) (s : ByteArray) (w : World) (x : Buf w g kb kh room next L) (hn : next ≤ 1000000000) (hs : s.size ≤ 1000000000) :
    Calls Try.prog 14 #[.pointer (some ⟨g, 0, none⟩), .int .i64 at_, .slice (some ⟨w.heap.size, 0, none⟩) s.size (grownCap w s.size 0 5)] (Lib.bytesWorld w 5 s) fun e w' => e = .returned (.int .i64 (wonL L (at_ - next) (codes s))) ∧
      Buf w' g kb kh room next (putL L (at_ - next) (codes s)) ∧ Only (fun k => k = g ∨ k = kb ∨ k = kh) w w' :=
  put_fresh g kb kh room next L at_ s.size _ (codes s) w _ x (only_bytesWorld w 5 s) hn hs (grownCap_ge w _ _ _) (grownCap_le_maxLen w _ _ _ (by unfold maxLen; omega)) (byt_bytesWorld w s)

theorem codes_extract (s : ByteArray) (a b : Nat) : codes (s.extract a b) = ((codes s).drop a).take (b - a) := by
  unfold codes
  rw [ByteArray.data_extract, Array.toList_extract, List.extract_eq_take_drop, List.map_take, List.map_drop]
theorem str_app (a b : List Int) : strOfNums a ++ strOfNums b = strOfNums (a ++ b) := by
  apply ByteArray.ext
  rw [ByteArray.data_append]
  apply Array.ext'
  rw [Array.toList_append, strOfNums_data, strOfNums_data, strOfNums_data, List.map_append]
theorem str_nil : strOfNums [] = { data := #[] } := rfl
theorem extract_to (s : ByteArray) (k : Nat) : s.extract 0 k = strOfNums ((codes s).take k) := by
  apply codes_inj
  rw [codes_extract, codes_str ((codes_bd s).take k)]
  simp
end Go.Proofs.Ytepabffankdenaa
