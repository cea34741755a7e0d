/-
  The guard; looking in patterns: contracts.
-/
import Derived.Test.YtfikklbaceidfaaDoorV5
namespace Go.Proofs.YtfikklbaceidfaaDoor
open Go.Avc
set_option linter.unusedVariables false

def eqvIt (x y : List It) : Bool := decide (x.length = y.length) && prefIt x y
def idxL : List It → List UInt8 → Int
  | [], _ => -1
  | x :: l, k => if x.l = k then 0 else if idxL l k < 0 then -1 else idxL l k + 1
def cnt (k : Int) (x : It) : Int := if x.k = k ∧ 0 < x.c ∧ x.c ≤ 1048576 then x.c else 0
def tot : List It → Int → Int
  | [], _ => 0
  | x :: l, k => cnt k x + tot l k

/-! ### The guard -/
abbrev gA : BPat := .cells 50 [.rd itemE, i64, .nilp]
abbrev gB : BPat := .cells 50 [.rd itemE, i64, .ptr 1 0]
abbrev eB : BPat := .cells 59 [i64]
def pre6 (l : List (List CD)) : Prop := pre22 l ∧ (prs (bytesOfRows l)).2.2 = 0
def ct6 : Ct := { ps := [.rd u8E], bs := [], pre := fun | [.r l] => pre6 l | _ => False, res := fun | [.r l] => .ret (.tup [.ptr 0 0, i64, i64]) [gA] [.i (-1), .i 0, .r (rowsIt (prs (bytesOfRows l)).1), .i 0] | _ => noRes }
def ct23a : Ct := { ps := [.ptr 0 0, i64], bs := [gA], pre := fun _ => True, res := fun
  | [.i e, .r l, .i n] => .ite (decide (e = 0)) (.ret i64 [gA] [.i 0, .r l, .i n]) (.ret i64 [gB, eB] [.i e, .r l, .i n, .i e])
  | _ => noRes }
def ct23b : Ct := { ps := [.ptr 0 0, i64], bs := [gB, eB], pre := fun _ => True, res := fun
  | [.i _, .r l, .i n, .i w] => .ret i64 [gB, eB] [.i w, .r l, .i n, .i w]
  | _ => noRes }
def ct15a : Ct := { ps := [.ptr 0 0, .bool, i64], bs := [gA], pre := fun | [.b _, .i e, .r _, .i _] => e ≠ 0 | _ => False, res := fun
  | [.b ok, .i e, .r l, .i n] => .ite ok (.ret i64 [gA] [.i 0, .r l, .i n]) (.ret i64 [gB, eB] [.i e, .r l, .i n, .i e])
  | _ => noRes }
def ct15b : Ct := { ps := [.ptr 0 0, .bool, i64], bs := [gB, eB], pre := fun _ => True, res := fun
  | [.b _, .i _, .r l, .i n, .i w] => .ret i64 [gB, eB] [.i w, .r l, .i n, .i w]
  | _ => noRes }
/-- The next item is this one, its label apart. -/
def hit (l : List (List CD)) (n a b c : Int) : Bool := decide (n < l.length) && sameB (itRow (l.getD n.toNat [])).k (itRow (l.getD n.toNat [])).t (itRow (l.getD n.toNat [])).c a b c
def pre10 (l : List (List CD)) (n : Int) : Prop := 0 ≤ n ∧ n ≤ 1000000
def ct10a : Ct := { ps := [.ptr 0 0, i64, i64, i64], bs := [gA], pre := fun | [.i _, .i _, .i _, .r l, .i n] => pre10 l n | _ => False, res := fun
  | [.i a, .i b, .i c, .r l, .i n] => .ite (hit l n a b c) (.ret i64 [gA] [.i 0, .r l, .i (n + 1)]) (.ret i64 [gB, eB] [.i 10, .r l, .i n, .i 10])
  | _ => noRes }
def ct10b : Ct := { ps := [.ptr 0 0, i64, i64, i64], bs := [gB, eB], pre := fun | [.i _, .i _, .i _, .r l, .i n, .i w] => pre10 l n ∧ w ≠ 0 | _ => False, res := fun
  | [.i _, .i _, .i _, .r l, .i n, .i w] => .ret i64 [gB, eB] [.i w, .r l, .i n, .i w]
  | _ => noRes }
def ct11a : Ct := { ps := [.ptr 0 0], bs := [gA], pre := fun _ => True, res := fun
  | [.r l, .i n] => .ite (decide (n = l.length)) (.ret i64 [gA] [.i 0, .r l, .i n]) (.ret i64 [gB, eB] [.i 12, .r l, .i n, .i 12])
  | _ => noRes }
def ct11b : Ct := { ps := [.ptr 0 0], bs := [gB, eB], pre := fun _ => True, res := fun
  | [.r l, .i n, .i w] => .ret i64 [gB, eB] [.i w, .r l, .i n, .i w]
  | _ => noRes }
def ct4 : Ct := { ps := [], bs := [], pre := fun _ => True, res := fun _ => .ret .bool [] [.b true] }
/-! ### What the guard tells -/
def ct8 : Ct := { ps := [.ptr 0 0], bs := [gA], pre := fun _ => True, res := fun | [.r l, .i n] => .ret i64 [gA] [.i n, .r l, .i n] | _ => noRes }
def ct9 : Ct := { ps := [.ptr 0 0], bs := [gA], pre := fun _ => True, res := fun | [.r l, .i n] => .ret .nili [gA] [.r l, .i n] | _ => noRes }
def lab (l : List (List CD)) (n : Int) : List UInt8 := if n = l.length then [] else (itRow (l.getD n.toNat [])).l
def ct7 : Ct := { ps := [.ptr 0 0], bs := [gA], pre := fun | [.r l, .i n] => 0 ≤ n ∧ n ≤ l.length | _ => False, res := fun | [.r l, .i n] => .ret (.tup [.str, i64]) [gA] [.s (lab l n), .i (if n = l.length then 13 else 0), .r l, .i n] | _ => noRes }
def ct12 : Ct := { ps := [.ptr 0 0], bs := [gA], pre := fun _ => True, res := fun | [.r l, .i n] => .ret i64 [gA] [.i 0, .r l, .i n] | _ => noRes }
def ct3 : Ct := { ps := [.rd itemE], bs := [], pre := fun _ => True, res := fun _ => .ret .bool [] [.b true] }
def R3 (x x' : List (List CD)) : Prop := x' = x ∧ x.length ≤ 40 ∧ (ser (itsOf x)).2.2 = 0
def R3L (x x' z its : List (List CD)) (n i k : Int) : Prop := x' = x ∧ z = x ∧ x.length ≤ 40 ∧ n = x.length ∧ 0 ≤ i ∧ i ≤ n ∧ k = i ∧ its = rowsIt (itsOf x)
def ann3 : List Dat → Ann
  | [.r x] => ⟨[(6, [la 114 [(0, .rd itemE), (3, .rd u8E)] [] (fun | [.r x', .r l] => R3 x x' ∧ l = rowsOfBytes (ser (itsOf x)).1 | _ => False) (fun _ => 0)])],
      [(10, [la 114 [(0, .rd itemE), (6, .ptr 0 0), (43, .rd itemE), (44, i64), (45, i64)] [gA] (fun | [.r x', .r z, .i n, .i i, .r its, .i k] => R3L x x' z its n i k | _ => False) (fun | [_, _, .i n, .i i, _, _] => (n - i).toNat | _ => 0)])], []⟩
  | _ => { cut := [], loop := [] }
end Go.Proofs.YtfikklbaceidfaaDoor
