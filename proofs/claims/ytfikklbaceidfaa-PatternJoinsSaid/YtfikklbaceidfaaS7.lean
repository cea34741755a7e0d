/-
  The last two laws on patterns: contracts.
-/
import Derived.Test.YtfikklbaceidfaaM37
namespace Go.Proofs.Ytfikklbaceidfaa
open Go.Avc
set_option linter.unusedVariables false
noncomputable def sp37 : SpecT := addS sp10 37 (mkF ct37)
theorem c37 : (base.with sp37).Ok := addS_ok c10 (ok37 c10 rfl)
def wfIts (l : List (List CD)) : Prop := ∀ x ∈ itsOf l, wf64 x.k
def ct11 : Ct := { ps := [.rd itemE, .str], bs := [], pre := fun | [.r l, .s _] => wfIts l | _ => False, res := fun _ => .ret .bool [] [.b true] }
def R11 (l : List (List CD)) (k : List UInt8) (l' : List (List CD)) (k' : List UInt8) (z : List (List CD)) (n i : Int) : Prop := l' = l ∧ k' = k ∧ z = l ∧ l.length ≤ 1100 ∧ n = l.length ∧ 0 ≤ i ∧ i ≤ n
def ann11 : List Dat → Ann
  | [.r l, .s k] => ⟨[], [(4, [la 105 [(0, .rd itemE), (1, .str), (28, .rd itemE), (29, i64), (30, i64)] [] (fun | [.r l', .s k', .r z, .i n, .i i] => R11 l k l' k' z n i | _ => False) (fun | [_, _, _, .i n, .i i] => (n - i).toNat | _ => 0)])]⟩
  | _ => ⟨[], []⟩
def ct12 : Ct := { ps := [.rd itemE, .rd itemE, .int .u8], bs := [], pre := fun | [.r x, .r y, .i h] => wfIts x ∧ wfIts y ∧ 0 ≤ h ∧ h ≤ 255 | _ => False, res := fun _ => .ret .bool [] [.b true] }
def R12 (x y : List (List CD)) (h : Int) (x' : List (List CD)) (h' : Int) (z : List (List CD)) (a1 a2 b1 b2 c1 c2 : Int) : Prop :=
  x' = x ∧ h' = h ∧ x.length ≤ 30 ∧ y.length ≤ 30 ∧ z = rowsIt (itsOf x ++ itsOf y) ∧ a1 = tot (itsOf x) 1 ∧ a2 = tot (itsOf x) 2 ∧ b1 = tot (itsOf y) 1 ∧ b2 = tot (itsOf y) 2 ∧ c1 = tot (itsOf x ++ itsOf y) 1 ∧ c2 = tot (itsOf x ++ itsOf y) 2
def ann12 : List Dat → Ann
  | [.r x, .r y, .i h] => ⟨[(14, [la 131 [(0, .rd itemE), (2, .int .u8), (13, .rd itemE), (17, i64), (18, i64), (19, i64), (20, i64), (21, i64), (22, i64)] []
      (fun | [.r x', .i h', .r z, .i a1, .i a2, .i b1, .i b2, .i c1, .i c2] => R12 x y h x' h' z a1 a2 b1 b2 c1 c2 | _ => False) (fun _ => 0)])], []⟩
  | _ => ⟨[], []⟩
end Go.Proofs.Ytfikklbaceidfaa
