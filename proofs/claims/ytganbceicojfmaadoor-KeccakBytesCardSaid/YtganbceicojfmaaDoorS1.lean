/-
  Keccak on 25 words: what the program's functions compute; contracts.
-/
import Derived.Test.YtganbceicojfmaaDoorBase
namespace Go.Proofs.YtganbceicojfmaaDoor
open Go.Avc
set_option linter.unusedVariables false
abbrev i64 : Pat := .int .i64
abbrev u64 : Pat := .int .u64
abbrev noRes : Res := .ret .skip [] []
abbrev a25 : Pat := .arrI 25 .u64
abbrev st : Pat := .agg [a25]
def la (n : Nat) (slots : List (Nat × Pat)) (bs : List BPat) (R : List Dat → Prop) (m : List Dat → Nat) : LA := ⟨n, pl n 0 slots, bs, R, m⟩

/-! ### Words -/
def xr (a b : Int) : Int := bXor .u64 a b
def rotW (x s : Int) : Int := bOr .u64 (bShl .u64 x s) (bShr .u64 x (64 - s))
def cols (s : List Int) : Nat → List Int
  | 0 => List.replicate 5 0
  | i + 1 => (cols s i).set (i % 5) (xr ((cols s i).getD (i % 5) 0) (s.getD i 0))
def thN (c s : List Int) : Nat → List Int
  | 0 => s
  | i + 1 => (thN c s i).set i (xr ((thN c s i).getD i 0) (xr (c.getD ((i % 5 + 4) % 5) 0) (rotW (c.getD ((i % 5 + 1) % 5) 0) 1)))
def theta (s : List Int) : List Int := thN (cols s 25) s 25
def xyN : Nat → Nat × Nat
  | 0 => (1, 0)
  | i + 1 => ((xyN i).2, (2 * (xyN i).1 + 3 * (xyN i).2) % 5)
def rpN (s : List Int) : Nat → List Int
  | 0 => (List.replicate 25 0).set 0 (s.getD 0 0)
  | i + 1 => (rpN s i).set ((xyN i).2 + 5 * ((2 * (xyN i).1 + 3 * (xyN i).2) % 5)) (rotW (s.getD ((xyN i).1 + 5 * (xyN i).2) 0) (((i + 1) * (i + 2) / 2 : Nat) % 64 : Nat))
def rhoPi (s : List Int) : List Int := rpN s 24
def chN (s : List Int) : Nat → List Int
  | 0 => s
  | i + 1 => (chN s i).set i (xr ((chN s i).getD i 0) (bAndNot .u64 (s.getD (i - i % 5 + (i + 2) % 5) 0) (s.getD (i - i % 5 + (i + 1) % 5) 0)))
def chi (s : List Int) : List Int := chN s 25
def rcOf (r : Int) : Int := if r < 0 ∨ 24 ≤ r then 0 else rcL.getD r.toNat 0
def round (s : List Int) (r : Int) : List Int := (chi (rhoPi (theta s))).set 0 (xr ((chi (rhoPi (theta s))).getD 0 0) (rcOf r))
def permN (s : List Int) : Nat → List Int
  | 0 => s
  | i + 1 => round (permN s i) i
/-- (Behind a choice, so that nobody reckons it out.) -/
noncomputable def perm : List Int → List Int := Classical.choose (⟨fun s => permN s 24, rfl⟩ : ∃ f : List Int → List Int, f = fun s => permN s 24)
theorem perm_eq (s : List Int) : perm s = permN s 24 := congrFun (Classical.choose_spec (⟨fun s => permN s 24, rfl⟩ : ∃ f : List Int → List Int, f = fun s => permN s 24)) s

/-! ### Contracts -/
def ct43 : Ct := { ps := [u64, i64], bs := [], pre := fun | [.i _, .i k] => 0 ≤ k ∧ k ≤ 1000 | _ => False, res := fun | [.i x, .i k] => .ret u64 [] [.i (rotW x (k % 64))] | _ => noRes }
def ct20 : Ct := { ps := [i64], bs := [], pre := fun _ => True, res := fun | [.i r] => .ret u64 [] [.i (rcOf r)] | _ => noRes }
abbrev q24 : BPat := .cells 24 [a25]
def ct35 : Ct := { ps := [st], bs := [], pre := fun _ => True, res := fun | [.li s] => .ret st [] [.li (theta s)] | _ => noRes }
def ann35 : List Dat → Ann
  | [.li s] => { cut := [], loop := [
    (3, [la 45 [(1, .ptr 0 0), (2, .ptr 1 0), (3, .ptr 2 0), (8, st), (9, i64)] [q24, q24, .cells 69 [.arrI 5 .u64]] (fun | [.li s', .i i, .li s'', .li z, .li c] => s' = s ∧ s'' = s ∧ 0 ≤ i ∧ i ≤ 25 ∧ c = cols s i.toNat | _ => False) (fun | [_, .i i, _, _, _] => (25 - i).toNat | _ => 0)]),
    (8, [la 45 [(1, .ptr 0 0), (2, .ptr 1 0), (3, .ptr 2 0), (21, i64)] [q24, q24, .cells 69 [.arrI 5 .u64]] (fun | [.i i, .li t, .li z, .li c] => 0 ≤ i ∧ i ≤ 25 ∧ c = cols s 25 ∧ t = thN c s i.toNat | _ => False) (fun | [.i i, _, _, _] => (25 - i).toNat | _ => 0)])] }
  | _ => { cut := [], loop := [] }
def ct36 : Ct := { ps := [st], bs := [], pre := fun _ => True, res := fun | [.li s] => .ret st [] [.li (rhoPi s)] | _ => noRes }
def ann36 : List Dat → Ann
  | [.li s] => { cut := [], loop := [
    (4, [la 42 [(1, .ptr 0 0), (2, .ptr 1 0), (3, .ptr 2 0), (4, i64), (5, i64), (11, i64)] [q24, q24, q24] (fun | [.i x, .i y, .i i, .li s', .li z, .li t] => s' = s ∧ 0 ≤ i ∧ i ≤ 24 ∧ x = (xyN i.toNat).1 ∧ y = (xyN i.toNat).2 ∧ t = rpN s i.toNat | _ => False) (fun | [_, _, .i i, _, _, _] => (24 - i).toNat | _ => 0)])] }
  | _ => { cut := [], loop := [] }
def ct37 : Ct := { ps := [st], bs := [], pre := fun _ => True, res := fun | [.li s] => .ret st [] [.li (chi s)] | _ => noRes }
def ann37 : List Dat → Ann
  | [.li s] => { cut := [], loop := [
    (3, [la 36 [(1, .ptr 0 0), (2, .ptr 1 0), (3, .ptr 2 0), (7, i64)] [q24, q24, q24] (fun | [.i i, .li s', .li z, .li t] => s' = s ∧ 0 ≤ i ∧ i ≤ 25 ∧ t = chN s i.toNat | _ => False) (fun | [.i i, _, _, _] => (25 - i).toNat | _ => 0)])] }
  | _ => { cut := [], loop := [] }
def ct16 : Ct := { ps := [st, i64], bs := [], pre := fun _ => True, res := fun | [.li s, .i r] => .ret st [] [.li (round s r)] | _ => noRes }
noncomputable def ct17 : Ct := { ps := [st], bs := [], pre := fun _ => True, res := fun | [.li s] => .ret st [] [.li (perm s)] | _ => noRes }
def ann17 : List Dat → Ann
  | [.li s] => { cut := [], loop := [
    (2, [la 12 [(1, .ptr 0 0), (2, .ptr 1 0), (4, i64)] [q24, q24] (fun | [.i i, .li t, .li z] => 0 ≤ i ∧ i ≤ 24 ∧ t = permN s i.toNat | _ => False) (fun | [.i i, _, _] => (24 - i).toNat | _ => 0)])] }
  | _ => { cut := [], loop := [] }
def ct12 : Ct := { ps := [], bs := [], pre := fun _ => True, res := fun _ => .ret .bool [] [.b true] }
end Go.Proofs.YtganbceicojfmaaDoor
