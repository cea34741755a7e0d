/-
  The seat's own context: zero values, the program, no contract yet.
-/
import Derived.Test.YtfikklbaceidfaaDoorProg
import Derived.Test.YtfikklbaceidfaaDoorAvcT0
import Derived.KernelRfl
namespace Go.Proofs.YtfikklbaceidfaaDoor
open Go.Avc Go.Proofs
def zt : List (TypeId × List SV) := [(3, [.int .i64 0]), (4, [.bool false]), (5, [.int .u8 0]), (9, [.str []]), (32, [.int .i64 0, .int .i64 0, .int .i64 0, .str []]), (51, [.int .i64 0, .int .i64 0, .int .i64 0, .str []]), (79, [.nils, .bool false]), (50, [.nils, .int .i64 0, .nilp]), (59, [.int .i64 0])]
theorem zt_ok : ztab Tryd.prog zt = true := by kernel_rfl
noncomputable def base : Ctx := ⟨Tryd.prog, zlook zt, fun _ => none, spec0⟩
theorem base_ok : (base.with spec0).Ok := ⟨ztab_ok zt_ok, fun f => spec0_ok f, by kernel_rfl, fun _ _ h => by cases h⟩
noncomputable def bodyOf (fn : Func) : Code := match fn.body with | some c => c | none => .skip
def noAnn : List Dat → Ann := fun _ => { cut := [], loop := [] }
end Go.Proofs.YtfikklbaceidfaaDoor
