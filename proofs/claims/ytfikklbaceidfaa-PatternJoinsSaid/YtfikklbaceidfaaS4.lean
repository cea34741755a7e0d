/-
  The contracts of the laws on items.
-/
import Derived.Test.YtfikklbaceidfaaV3
namespace Go.Proofs.Ytfikklbaceidfaa
open Go.Avc
set_option linter.unusedVariables false
def ct4 : Ct := { ps := [itemP, itemP], bs := [], pre := fun _ => True, res := fun _ => .ret .bool [] [.b true] }
abbrev itemC (T : Nat) : BPat := .cells T [i64, i64, i64, .str]
def R4 (a b c : Int) (l : List UInt8) (a' b' c' : Int) (l' : List UInt8) (x y : List (List CD)) (n : Int) (i1 i2 i3 : Int) (i4 : List UInt8) (j1 j2 j3 : Int) (j4 : List UInt8) : Prop :=
  x = encR a b c l ∧ y = encR a' b' c' l' ∧ n = min (x.length : Int) y.length ∧ i1 = a ∧ i2 = b ∧ i3 = c ∧ i4 = l ∧ j1 = a' ∧ j2 = b' ∧ j3 = c' ∧ j4 = l' ∧ chk a b c l = 0 ∧ chk a' b' c' l' = 0
def ann4 : List Dat → Ann
  | [.i a, .i b, .i c, .s l, .i a', .i b', .i c', .s l'] => { cut := [(8, [la 78 [(2, .ptr 0 0), (3, .ptr 1 0), (5, .rd u8E), (7, .rd u8E), (9, i64)] [itemC 23, itemC 23]
      (fun | [.r x, .r y, .i n, .i i1, .i i2, .i i3, .s i4, .i j1, .i j2, .i j3, .s j4] => R4 a b c l a' b' c' l' x y n i1 i2 i3 i4 j1 j2 j3 j4 | _ => False) (fun _ => 0)])], loop := [] }
  | _ => ⟨[], []⟩
def ct5 : Ct := { ps := [itemP, .rd u8E], bs := [], pre := fun | [_, _, _, _, .r l] => isB l | _ => False, res := fun _ => .ret .bool [] [.b true] }
def ct6 : Ct := { ps := [.rd u8E], bs := [], pre := fun | [.r l] => isB l | _ => False, res := fun _ => .ret .bool [] [.b true] }
end Go.Proofs.Ytfikklbaceidfaa
