/-
  The guard; looking in patterns: contracts.
-/
import Derived.Test.YtfikklbaceidfaaV5
namespace Go.Proofs.Ytfikklbaceidfaa
open Go.Avc
set_option linter.unusedVariables false

def eqvIt (x y : List It) : Bool := decide (x.length = y.length) && prefIt x y
def idxL : List It → List UInt8 → Int
  | [], _ => -1
  | x :: l, k => if x.l = k then 0 else if idxL l k < 0 then -1 else idxL l k + 1
def cnt (k : Int) (x : It) : Int := if x.k = k ∧ 0 < x.c ∧ x.c ≤ 1048576 then x.c else 0
def tot : List It → Int → Int
  | [], _ => 0
  | x :: l, k => cnt k x + tot l k

/-! ### The guard -/
abbrev gA : BPat := .cells 89 [.rd itemE, i64, .nilp]
abbrev gB : BPat := .cells 89 [.rd itemE, i64, .ptr 1 0]
abbrev eB : BPat := .cells 98 [i64]
def pre31 (l : List (List CD)) : Prop := pre20 l ∧ (prs (bytesOfRows l)).2.2 = 0
def ct31 : Ct := { ps := [.rd u8E], bs := [], pre := fun | [.r l] => pre31 l | _ => False, res := fun | [.r l] => .ret (.tup [.ptr 0 0, i64, i64]) [gA] [.i (-1), .i 0, .r (rowsIt (prs (bytesOfRows l)).1), .i 0] | _ => noRes }
def ct55a : Ct := { ps := [.ptr 0 0, i64], bs := [gA], pre := fun _ => True, res := fun
  | [.i e, .r l, .i n] => .ite (decide (e = 0)) (.ret i64 [gA] [.i 0, .r l, .i n]) (.ret i64 [gB, eB] [.i e, .r l, .i n, .i e])
  | _ => noRes }
def ct55b : Ct := { ps := [.ptr 0 0, i64], bs := [gB, eB], pre := fun _ => True, res := fun
  | [.i _, .r l, .i n, .i w] => .ret i64 [gB, eB] [.i w, .r l, .i n, .i w]
  | _ => noRes }
def ct50a : Ct := { ps := [.ptr 0 0, .bool, i64], bs := [gA], pre := fun | [.b _, .i e, .r _, .i _] => e ≠ 0 | _ => False, res := fun
  | [.b ok, .i e, .r l, .i n] => .ite ok (.ret i64 [gA] [.i 0, .r l, .i n]) (.ret i64 [gB, eB] [.i e, .r l, .i n, .i e])
  | _ => noRes }
def ct50b : Ct := { ps := [.ptr 0 0, .bool, i64], bs := [gB, eB], pre := fun _ => True, res := fun
  | [.b _, .i _, .r l, .i n, .i w] => .ret i64 [gB, eB] [.i w, .r l, .i n, .i w]
  | _ => noRes }
/-- The next item is this one, its label apart. -/
def hit (l : List (List CD)) (n a b c : Int) : Bool := decide (n < l.length) && sameB (itRow (l.getD n.toNat [])).k (itRow (l.getD n.toNat [])).t (itRow (l.getD n.toNat [])).c a b c
def pre33 (l : List (List CD)) (n : Int) : Prop := 0 ≤ n ∧ n ≤ 1000000
def ct33a : Ct := { ps := [.ptr 0 0, i64, i64, i64], bs := [gA], pre := fun | [.i _, .i _, .i _, .r l, .i n] => pre33 l n | _ => False, res := fun
  | [.i a, .i b, .i c, .r l, .i n] => .ite (hit l n a b c) (.ret i64 [gA] [.i 0, .r l, .i (n + 1)]) (.ret i64 [gB, eB] [.i 10, .r l, .i n, .i 10])
  | _ => noRes }
def ct33b : Ct := { ps := [.ptr 0 0, i64, i64, i64], bs := [gB, eB], pre := fun | [.i _, .i _, .i _, .r l, .i n, .i w] => pre33 l n ∧ w ≠ 0 | _ => False, res := fun
  | [.i _, .i _, .i _, .r l, .i n, .i w] => .ret i64 [gB, eB] [.i w, .r l, .i n, .i w]
  | _ => noRes }
def ct34a : Ct := { ps := [.ptr 0 0], bs := [gA], pre := fun _ => True, res := fun
  | [.r l, .i n] => .ite (decide (n = l.length)) (.ret i64 [gA] [.i 0, .r l, .i n]) (.ret i64 [gB, eB] [.i 12, .r l, .i n, .i 12])
  | _ => noRes }
def ct34b : Ct := { ps := [.ptr 0 0], bs := [gB, eB], pre := fun _ => True, res := fun
  | [.r l, .i n, .i w] => .ret i64 [gB, eB] [.i w, .r l, .i n, .i w]
  | _ => noRes }
def ct29 : Ct := { ps := [], bs := [], pre := fun _ => True, res := fun _ => .ret .bool [] [.b true] }
def ct9 : Ct := { ps := [.rd itemE, .rd itemE], bs := [], pre := fun _ => True, res := fun _ => .ret .bool [] [.b true] }
def R9 (x y x' y' l : List (List CD)) : Prop := x' = x ∧ y' = y ∧ x.length ≤ 40 ∧ y.length ≤ 40 ∧ (ser (itsOf x)).2.2 = 0 ∧ l = rowsOfBytes (ser (itsOf x)).1
def R9A (x y x' y' z : List (List CD)) (n i : Int) (its : List (List CD)) (k : Int) : Prop :=
  x' = x ∧ y' = y ∧ z = y ∧ x.length ≤ 40 ∧ y.length ≤ 40 ∧ n = y.length ∧ 0 ≤ i ∧ i ≤ n ∧ its = rowsIt (itsOf x) ∧ k = i ∧ i ≤ x.length ∧ prefIt (itsOf x) ((itsOf y).take i.toNat) = true
def R9B (x y x' y' z : List (List CD)) (n i : Int) (its : List (List CD)) (k w : Int) : Prop :=
  x' = x ∧ y' = y ∧ z = y ∧ x.length ≤ 40 ∧ y.length ≤ 40 ∧ n = y.length ∧ 0 ≤ i ∧ i ≤ n ∧ its = rowsIt (itsOf x) ∧ 0 ≤ k ∧ k ≤ 40 ∧ w ≠ 0 ∧ prefIt (itsOf x) ((itsOf y).take i.toNat) = false
def sl9 : List (Nat × Pat) := [(0, .rd itemE), (1, .rd itemE), (8, .ptr 0 0), (48, .rd itemE), (49, i64), (50, i64)]
def ann9 : List Dat → Ann
  | [.r x, .r y] => ⟨[(6, [la 88 [(0, .rd itemE), (1, .rd itemE), (5, .rd u8E)] [] (fun | [.r x', .r y', .r l] => R9 x y x' y' l | _ => False) (fun _ => 0)])],
      [(10, [la 88 sl9 [gA] (fun | [.r x', .r y', .r z, .i n, .i i, .r its, .i k] => R9A x y x' y' z n i its k | _ => False) (fun | [_, _, _, .i n, .i i, _, _] => (n - i).toNat | _ => 0),
        la 88 sl9 [gB, eB] (fun | [.r x', .r y', .r z, .i n, .i i, .r its, .i k, .i w] => R9B x y x' y' z n i its k w | _ => False) (fun | [_, _, _, .i n, .i i, _, _, _] => (n - i).toNat | _ => 0)])]⟩
  | _ => ⟨[], []⟩

/-! ### Looking in patterns -/
def ct51 : Ct := { ps := [.rd itemE, .rd itemE, .fn 18 []], bs := [], pre := fun _ => True, res := fun | [.r x, .r y] => .ret .bool [] [.b (eqvIt (itsOf x) (itsOf y))] | _ => noRes }
def R51 (x y x' y' : List (List CD)) (n i : Int) : Prop := x' = x ∧ y' = y ∧ n = x.length ∧ x.length = y.length ∧ 0 ≤ i ∧ i ≤ n ∧ prefIt (itsOf x) (itsOf y) = prefIt ((itsOf x).drop i.toNat) ((itsOf y).drop i.toNat)
def ann51 : List Dat → Ann
  | [.r x, .r y] => { cut := [], loop := [(4, [la 32 [(1, .rd itemE), (2, .fn 18 []), (15, .rd itemE), (16, i64), (17, i64)] [] (fun | [.r y', .r x', .i n, .i i] => R51 x y x' y' n i | _ => False) (fun | [_, _, .i n, .i i] => (n - i).toNat | _ => 0)])] }
  | _ => ⟨[], []⟩
def ct36 : Ct := { ps := [.rd itemE, .rd itemE], bs := [], pre := fun _ => True, res := fun | [.r x, .r y] => .ret .bool [] [.b (prefIt (itsOf x) (itsOf y))] | _ => noRes }
def ct53 : Ct := { ps := [itemP, .ptr 0 0], bs := [.cells 9 [.str]], pre := fun _ => True, res := fun | [.i _, .i _, .i _, .s l, .s k] => .ret .bool [.cells 9 [.str]] [.b (decide (l = k)), .s k] | _ => noRes }
def ct52 : Ct := { ps := [.rd itemE, .fn 53 [.ptr 0 0]], bs := [.cells 9 [.str]], pre := fun _ => True, res := fun | [.r l, .s k] => .ret i64 [.cells 9 [.str]] [.i (idxL (itsOf l) k), .s k] | _ => noRes }
def R52 (l : List (List CD)) (k : List UInt8) (l' : List (List CD)) (n i : Int) (k' : List UInt8) : Prop := l' = l ∧ k' = k ∧ n = l.length ∧ 0 ≤ i ∧ i ≤ n ∧ ∀ x ∈ (itsOf l).take i.toNat, x.l ≠ k
def ann52 : List Dat → Ann
  | [.r l, .s k] => { cut := [], loop := [(2, [la 19 [(0, .rd itemE), (1, .fn 53 [.ptr 0 0]), (7, i64), (8, i64)] [.cells 9 [.str]] (fun | [.r l', .i n, .i i, .s k'] => R52 l k l' n i k' | _ => False) (fun | [_, .i n, .i i, _] => (n - i).toNat | _ => 0)])] }
  | _ => ⟨[], []⟩
def fnd (l : List It) (k : List UInt8) : Int × Int := if idxL l k < 0 then (-1, 13) else (idxL l k, 0)
def ct38 : Ct := { ps := [.rd itemE, .str], bs := [], pre := fun _ => True, res := fun | [.r l, .s k] => .ret (.tup [i64, i64]) [] [.i (fnd (itsOf l) k).1, .i (fnd (itsOf l) k).2] | _ => noRes }
def ct39 : Ct := { ps := [.rd itemE, .str], bs := [], pre := fun _ => True, res := fun | [.r l, .s k] => .ret (.tup [i64, i64]) [] [.i (fnd (itsOf l) k).1, .i (fnd (itsOf l) k).2] | _ => noRes }
def ann39 : List Dat → Ann
  | [.r l, .s k] => { cut := [], loop := [(2, [la 21 [(0, .rd itemE), (1, .str), (6, i64)] [] (fun | [.r l', .s k', .i i] => R52 l k l' l.length i k' | _ => False) (fun | [.r l', _, .i i] => (l'.length - i).toNat | _ => 0)])] }
  | _ => ⟨[], []⟩
def ct40 : Ct := { ps := [.rd itemE, i64], bs := [], pre := fun | [.r l, .i _] => preL l | _ => False, res := fun | [.r l, .i k] => .ret i64 [] [.i (tot (itsOf l) k)] | _ => noRes }
def R40 (l : List (List CD)) (k : Int) (l' : List (List CD)) (k' t i : Int) : Prop := l' = l ∧ k' = k ∧ 0 ≤ i ∧ i ≤ l.length ∧ 0 ≤ t ∧ t ≤ 1048576 * i ∧ tot (itsOf l) k = t + tot ((itsOf l).drop i.toNat) k
def ann40 : List Dat → Ann
  | [.r l, .i k] => { cut := [], loop := [(3, [la 44 [(0, .rd itemE), (1, i64), (5, i64), (6, i64)] [] (fun | [.r l', .i k', .i t, .i i] => R40 l k l' k' t i | _ => False) (fun | [.r l', _, _, .i i] => (l'.length - i).toNat | _ => 0)])] }
  | _ => ⟨[], []⟩
def ct10 : Ct := { ps := [.rd itemE, .rd itemE], bs := [], pre := fun _ => True, res := fun _ => .ret .bool [] [.b true] }
end Go.Proofs.Ytfikklbaceidfaa
