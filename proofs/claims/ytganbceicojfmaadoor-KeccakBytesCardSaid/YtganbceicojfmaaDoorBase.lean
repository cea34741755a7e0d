/-
  The seat's own context: zero values, the program, the table of constants, no contract yet.
-/
import Derived.Test.YtganbceicojfmaaDoorProg
import Derived.Test.YtganbceicojfmaaDoorAvcT0
import Derived.KernelRfl
namespace Go.Proofs.YtganbceicojfmaaDoor
open Go.Avc Go.Proofs
abbrev z64 (n : Nat) : SV := .arrI n .u64 (List.replicate n 0)
def zt : List (TypeId × List SV) := [(3, [.int .i64 0]), (4, [.bool false]), (5, [.int .u8 0]), (22, [.int .u64 0]), (23, [z64 25]), (24, [z64 25]), (27, [.arrB 64 (List.replicate 64 false)]), (28, [.arrB 320 (List.replicate 320 false)]), (30, [.arrB 1600 (List.replicate 1600 false)]),
  (46, [.arrI 200 .u8 (List.replicate 200 0)]), (51, [.arrI 32 .u8 (List.replicate 32 0)]), (56, [z64 25, .int .i64 0]), (69, [z64 5])]
set_option maxRecDepth 100000 in
theorem zt_ok : ztab Tryd.prog zt = true := by kernel_rfl
/-- The constants of the rounds, as the program's text lays them. -/
def rcL : List Int := [1, 32898, 9223372036854808714, 9223372039002292224, 32907, 2147483649, 9223372039002292353, 9223372036854808585, 138, 136, 2147516425, 2147483658, 2147516555, 9223372036854775947, 9223372036854808713, 9223372036854808579,
  9223372036854808578, 9223372036854775936, 32778, 9223372039002259466, 9223372039002292353, 9223372036854808704, 2147483649, 9223372039002292232]
def rcRows : List (List CD) := rcL.map fun n => [.int n]
def gl : Nat → Option SV := fun g => bif Nat.beq g 0 then some (.eptr [.int .u64] rcRows 0 0) else none
noncomputable def base : Ctx := ⟨Tryd.prog, zlook zt, gl, spec0⟩
theorem base_ok : (base.with spec0).Ok := ⟨ztab_ok zt_ok, fun f => spec0_ok f, by kernel_rfl, fun g sv h => by
  have h' : gl g = some sv := h
  unfold gl at h'
  cases hb : Nat.beq g 0 with
  | true => rw [hb] at h'; cases h'; exact ⟨_, _, _, _, rfl⟩
  | false => rw [hb] at h'; cases h'⟩
noncomputable def bodyOf (fn : Func) : Code := match fn.body with | some c => c | none => .skip
def noAnn : List Dat → Ann := fun _ => { cut := [], loop := [] }
end Go.Proofs.YtganbceicojfmaaDoor
