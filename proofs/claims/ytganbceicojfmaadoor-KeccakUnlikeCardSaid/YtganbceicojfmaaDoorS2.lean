/-
  The reference's constants of the rounds: contracts.
-/
import Derived.Test.YtganbceicojfmaaDoorV1
namespace Go.Proofs.YtganbceicojfmaaDoor
open Go.Avc
set_option linter.unusedVariables false
def flip1 (m r : Int) : Int := if r / m % 2 = 1 then r - m else r + m
def msL : List Int := [64, 32, 16, 1]
def flN (r : Int) : Nat → Int
  | 0 => r
  | j + 1 => flip1 (msL.getD j 0) (flN r j)
def lfs (r : Int) : Int := if 256 ≤ r * 2 then flN (r * 2 - 256) 4 else r * 2
def lfN : Nat → Int
  | 0 => 1
  | n + 1 => lfs (lfN n)
def rcB (t : Nat) : Bool := decide (lfN t % 2 = 1)
def cbN (r : Nat) : Nat → List Bool
  | 0 => List.replicate 64 false
  | j + 1 => (cbN r j).set (2 ^ j - 1) (rcB (j + 7 * r))
def cbits (r : Int) : List Bool := if r < 0 ∨ 23 < r then List.replicate 64 false else cbN r.toNat 7
def ct38 : Ct := { ps := [i64], bs := [], pre := fun | [.i t] => 0 ≤ t ∧ t ≤ 1000 | _ => False, res := fun | [.i t] => .ret .bool [] [.b (rcB t.toNat)] | _ => noRes }
def sl38 : List (Nat × Pat) := [(0, i64), (3, i64), (4, i64), (18, .rd [.int .i64]), (19, i64), (20, i64)]
def ann38 : List Dat → Ann
  | [.i t] => ⟨[], [(3, [la 39 [(0, i64), (3, i64), (4, i64)] [] (fun | [.i t', .i r, .i i] => t' = t ∧ 0 ≤ i ∧ i ≤ t ∧ r = lfN i.toNat | _ => False) (fun | [.i t', _, .i i] => (t' - i).toNat | _ => 0)])],
      [(9, [la 39 sl38 [] (fun _ => True) (fun _ => 0)], fun | [.i t0, .i r0, .i i0, .r l0, .i n0, .i _] => [la 39 sl38 []
        (fun | [.i t', .i r, .i i, .r l, .i n, .i j] => t' = t0 ∧ i = i0 ∧ l = l0 ∧ n = n0 ∧ 0 ≤ j ∧ j ≤ 4 ∧ r = flN r0 j.toNat | _ => False) (fun | [_, _, _, _, _, .i j] => (4 - j).toNat | _ => 0)] | _ => [])]⟩
  | _ => { cut := [], loop := [] }
abbrev b64 : Pat := .agg [.arrB 64]
abbrev q27 : BPat := .cells 27 [.arrB 64]
def ct19 : Ct := { ps := [i64], bs := [], pre := fun _ => True, res := fun | [.i r] => .ret b64 [] [.lb (cbits r)] | _ => noRes }
def ann19 : List Dat → Ann
  | [.i r] => ⟨[], [(6, [la 29 [(0, i64), (2, .ptr 0 0), (3, .ptr 1 0), (4, i64), (5, i64)] [q27, q27] (fun | [.i r', .i p, .i j, .lb z, .lb c] => r' = r ∧ 0 ≤ r ∧ r ≤ 23 ∧ 0 ≤ j ∧ j ≤ 7 ∧ p = 2 ^ j.toNat ∧ c = cbN r.toNat j.toNat | _ => False) (fun | [_, _, .i j, _, _] => (7 - j).toNat | _ => 0)])], []⟩
  | _ => { cut := [], loop := [] }
end Go.Proofs.YtganbceicojfmaaDoor
