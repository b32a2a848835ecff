
/- The document's Whole: what it answers. -/
import Derived.Test.YtpdhoojjcgohpaaStk
namespace Go.Proofs.Ytpdhoojjcgohpaa
set_option maxRecDepth 4000
open Go.RowKit Go.Sort
set_option linter.unusedVariables false

def whS (x : Wp) (d : ByteArray) : ByteArray := if wE x d.size = 0 then strOfNums (wL x d.size (ev (codes d)) (od (codes d))) ++ d else ByteArray.empty
end Go.Proofs.Ytpdhoojjcgohpaa
