/-
  The laws of keccak: contracts.
-/
import Derived.Test.YtganbceicojfmaaDoorL6
namespace Go.Proofs.YtganbceicojfmaaDoor
open Go Go.Avc
set_option linter.unusedVariables false
abbrev yes : Res := .ret .bool [] [.b true]
def ct3 : Ct := { ps := [st, i64], bs := [], pre := fun | [.li s, _] => areW s | _ => False, res := fun _ => yes }
def ct4 : Ct := { ps := [i64], bs := [], pre := fun _ => True, res := fun _ => yes }
def ann4 : List Dat → Ann := fun _ => ⟨[], [(4, [la 27 [(9, .rd [.int .i64]), (10, i64), (11, i64)] [] (fun | [.r l, .i n, .i i] => l.length = 25 ∧ n = 25 ∧ 0 ≤ i ∧ i ≤ 25 | _ => False) (fun | [_, _, .i i] => (25 - i).toNat | _ => 0)])], []⟩
def ct5 : Ct := { ps := [st, st], bs := [], pre := fun | [.li s, .li t] => areW s ∧ areW t | _ => False, res := fun _ => yes }
def ann5 : List Dat → Ann
  | [.li s, .li t] => ⟨[], [(5, [la 39 [(2, .ptr 0 0), (3, .ptr 1 0), (5, .ptr 2 0), (6, .ptr 3 0), (12, i64)] [q24, q24, q24, q24] (fun | [.i i, .li s', .li t', .li a, .li b] => s' = s ∧ t' = t ∧ 0 ≤ i ∧ i ≤ 24 ∧ a = permN s i.toNat ∧ b = permN t i.toNat | _ => False) (fun | [.i i, _, _, _, _] => (24 - i).toNat | _ => 0)])], []⟩
  | _ => { cut := [], loop := [] }
def ct6 : Ct := { ps := [rb], bs := [], pre := fun | [.r l] => areB l | _ => False, res := fun _ => yes }
def ct7 : Ct := { ps := [st, i64], bs := [], pre := fun | [.li s, _] => areW s | _ => False, res := fun _ => yes }
end Go.Proofs.YtganbceicojfmaaDoor
