/-
  The contract of the law ItemLimits.
-/
import Derived.Test.YtfikklbaceidfaaV1
namespace Go.Proofs.Ytfikklbaceidfaa
open Go.Avc
def ct3 : Ct := { ps := [itemP, i64, .str], bs := [], pre := fun _ => True, res := fun _ => .ret .bool [] [.b true] }
end Go.Proofs.Ytfikklbaceidfaa
