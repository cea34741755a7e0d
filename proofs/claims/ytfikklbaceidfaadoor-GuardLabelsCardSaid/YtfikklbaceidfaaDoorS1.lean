/-
  What the functions on items answer, in numbers and lists; their contracts.
-/
import Derived.Test.YtfikklbaceidfaaDoorBase
namespace Go.Proofs.YtfikklbaceidfaaDoor
open Go.Avc
set_option linter.unusedVariables false

/-! ### Numbers and lists -/
/-- What is wrong with an item; 0: nothing. -/
def chk (a b c : Int) (l : List UInt8) : Int :=
  if a < 1 ∨ 3 < a then 5
  else if (a = 1 ∧ (b < 1 ∨ 4 < b)) ∨ (a = 2 ∧ b ≠ 1 ∧ b ≠ 3) ∨ (a = 3 ∧ b ≠ 0) then 6
  else if c < 1 ∨ 1048576 < c ∨ (a = 3 ∧ c ≠ 1) then 7
  else if (255 : Int) < l.length then 8 else 0
def byteAt (n : Int) (i : Nat) : UInt8 := UInt8.ofNat (n / 256 ^ i % 256).toNat
/-- The bytes of a number, the lowest first. -/
def numB (n : Int) (w : Nat) : List UInt8 := (List.range w).map (byteAt n)
def encB (a b c : Int) (l : List UInt8) : List UInt8 := numB a 1 ++ numB b 1 ++ numB c 4 ++ numB l.length 2 ++ l
def intsOf (l : List (List CD)) : List Int := l.map fun r => (r.getD 0 .d0).toInt
def idxI : List Int → Int → Int
  | [], _ => -1
  | x :: l, v => if x = v then 0 else if idxI l v < 0 then -1 else idxI l v + 1
def typesOf (a : Int) : List Int := if a = 1 then [1, 2, 3, 4] else if a = 2 then [1, 3] else if a = 3 then [0] else []
def mostOf (a : Int) : Int := if a = 1 ∨ a = 2 then 1048576 else if a = 3 then 1 else 0
def rowsI (l : List Int) : List (List CD) := l.map fun n => [.int n]

/-! ### Shapes -/
abbrev i64 : Pat := .int .i64
abbrev itemP : Pat := .agg [i64, i64, i64, .str]
abbrev u8E : List CSh := [.int .u8]
abbrev intE : List CSh := [.int .i64]
abbrev itemE : List CSh := [.int .i64, .int .i64, .int .i64, .str]
abbrev noRes : Res := .ret .skip [] []
def la (n : Nat) (slots : List (Nat × Pat)) (bs : List BPat) (R : List Dat → Prop) (m : List Dat → Nat) : LA := ⟨n, pl n 0 slots, bs, R, m⟩

/-! ### Contracts -/
def ct20 : Ct := { ps := [itemP], bs := [], pre := fun _ => True, res := fun | [.i a, .i b, .i c, .s l] => .ret i64 [] [.i (chk a b c l)] | _ => noRes }
def ct90015 : Ct := { ps := [itemP], bs := [], pre := fun _ => True, res := fun | [.i a, .i b, .i c, .s l] => .ret itemP [] [.i a, .i b, .i c, .s l] | _ => noRes }
def ct40 : Ct := { ps := [.rd intE, i64], bs := [], pre := fun _ => True, res := fun | [.r l, .i v] => .ret i64 [] [.i (idxI (intsOf l) v)] | _ => noRes }
def R40 (l : List (List CD)) (v : Int) (l' : List (List CD)) (v' n i : Int) : Prop := l' = l ∧ v' = v ∧ n = l.length ∧ 0 ≤ i ∧ i ≤ l.length ∧ v ∉ (intsOf l).take i.toNat
def ann40 : List Dat → Ann
  | [.r l, .i v] => { cut := [], loop := [(2, [la 19 [(0, .rd intE), (1, i64), (7, i64), (8, i64)] [] (fun | [.r l', .i v', .i n, .i i] => R40 l v l' v' n i | _ => False) (fun | [_, _, .i n, .i i] => (n - i).toNat | _ => 0)])] }
  | _ => { cut := [], loop := [] }
def ct38 : Ct := { ps := [.rd intE, i64], bs := [], pre := fun _ => True, res := fun | [.r l, .i v] => .ret .bool [] [.b (decide (v ∈ intsOf l))] | _ => noRes }
def ct37 : Ct := { ps := [i64], bs := [], pre := fun _ => True, res := fun | [.i a] => .ret (.tup [.own 0, i64]) [.own 3 intE] [.i (mostOf a), .r (rowsI (typesOf a))] | _ => noRes }
def ct31 : Ct := { ps := [itemP], bs := [], pre := fun _ => True, res := fun | [.i a, .i b, .i c, .s l] => .ret i64 [] [.i (chk a b c l)] | _ => noRes }
def pre90043 (n w : Int) (l : List (List CD)) : Prop := 0 ≤ n ∧ 0 ≤ w ∧ w ≤ 8 ∧ l.length ≤ 1000000
def ct90043 : Ct := { ps := [.own 0, i64, i64], bs := [.own 5 u8E], pre := fun | [.i n, .i w, .r l] => pre90043 n w l | _ => False, res := fun | [.i n, .i w, .r l] => .ret (.own 1) [.none, .own 5 u8E] [.r (l ++ rowsOfBytes (numB n w.toNat))] | _ => noRes }
def R90043 (n w : Int) (l : List (List CD)) (n' w' i : Int) (out : List (List CD)) : Prop := n' = n ∧ w' = w ∧ 0 ≤ i ∧ i ≤ w ∧ out = l ++ rowsOfBytes (numB n i.toNat)
def ann90043 : List Dat → Ann
  | [.i n, .i w, .r l] => { cut := [], loop := [(2, [la 22 [(0, .own 1), (1, i64), (8, i64), (9, i64)] [.none, .own 5 u8E] (fun | [.i n', .i w', .i i, .r out] => R90043 n w l n' w' i out | _ => False) (fun | [_, .i w', .i i, _] => (w' - i).toNat | _ => 0)])] }
  | _ => { cut := [], loop := [] }
def encR (a b c : Int) (l : List UInt8) : List (List CD) := if chk a b c l = 0 then rowsOfBytes (encB a b c l) else []
def ct90017 : Ct := { ps := [itemP], bs := [], pre := fun _ => True, res := fun | [.i a, .i b, .i c, .s l] => .ret (.tup [.own 0, i64]) [.own 5 u8E] [.i (chk a b c l), .r (encR a b c l)] | _ => noRes }
def ct90013 : Ct := { ps := [], bs := [], pre := fun _ => True, res := fun _ => .ret .bool [] [.b true] }
end Go.Proofs.YtfikklbaceidfaaDoor
