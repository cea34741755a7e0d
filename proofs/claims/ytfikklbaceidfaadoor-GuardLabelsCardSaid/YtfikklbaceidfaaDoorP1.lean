/-
  Conditions of contracts, as the kernel reckons them (printed by a program of ours, checked by the kernel).
-/
import Derived.Test.YtfikklbaceidfaaDoorS1
namespace Go.Proofs.YtfikklbaceidfaaDoor
open Go Go.Avc Go.Proofs
set_option linter.unusedVariables false
set_option maxRecDepth 100000
def P20 : Prop :=
  ∀ (n n_1 n_2 : Int) (l : List UInt8),
    l.length ≤ (9223372036854775807 : Nat) →
      True →
        bif decide (n < (1 : Int)) || decide ((3 : Int) < n) then (5 : Int) = chk n n_1 n_2 l
        else
          bif
              decide (n = (1 : Int)) && (decide (n_1 < (1 : Int)) || decide ((4 : Int) < n_1)) || decide (n = (2 : Int)) && decide (n_1 ≠ (1 : Int)) && decide (n_1 ≠ (3 : Int)) ||
                decide (n = (3 : Int)) && decide (n_1 ≠ (0 : Int)) then
            (6 : Int) = chk n n_1 n_2 l
          else
            bif decide (n_2 < (1 : Int)) || decide ((1048576 : Int) < n_2) || decide (n = (3 : Int)) && decide (n_2 ≠ (1 : Int)) then
              (7 : Int) = chk n n_1 n_2 l
            else
              l.length ≤ (9223372036854775807 : Nat) →
                bif decide ((255 : Int) < (↑l.length : Int)) then (8 : Int) = chk n n_1 n_2 l
                else (0 : Int) = chk n n_1 n_2 l
theorem e20 : ct20.VC (base.with spec0) Tryd.f20.results.toList Tryd.f20.ntmps (Tryd.f20.ntmps - ct20.ps.length) (bodyOf Tryd.f20) noAnn = P20 := by kernel_rfl
noncomputable def sp20 : SpecT := addS spec0 20 (mkF ct20)
def P40 : Prop :=
  ∀ (l : List (List CD)) (n : Int),
    l.length ≤ (9223372036854775807 : Nat) →
      True →
        l.length ≤ (9223372036854775807 : Nat) →
          (R40 l n l n (↑l.length : Int) (0 : Int) ∧ True) ∧
            ∀ (l_1 : List (List CD)) (n_1 n_2 n_3 : Int),
              l_1.length ≤ (9223372036854775807 : Nat) →
                R40 l n l_1 n_1 n_2 n_3 →
                  bif decide (n_3 < n_2) then
                    ((0 : Int) ≤ n_3 ∧ n_3 < (↑l_1.length : Int)) ∧
                      n_3.toNat < l_1.length ∧
                        bif decide (n_1 = ((l_1.getD n_3.toNat []).getD (0 : Nat) (CD.int (0 : Int))).toInt) then
                          n_3 = idxI (intsOf l) n
                        else
                          ((-9223372036854775808 : Int) ≤ n_3 + (1 : Int) ∧ n_3 + (1 : Int) ≤ (9223372036854775807 : Int)) ∧
                            R40 l n l_1 n_1 n_2 (n_3 + (1 : Int)) ∧ (n_2 - (n_3 + (1 : Int))).toNat < (n_2 - n_3).toNat
                  else (-1 : Int) = idxI (intsOf l) n
theorem e40 : ct40.VC (base.with sp20) Tryd.f40.results.toList Tryd.f40.ntmps (Tryd.f40.ntmps - ct40.ps.length) (bodyOf Tryd.f40) ann40 = P40 := by kernel_rfl
noncomputable def sp40 : SpecT := addS sp20 40 (mkF ct40)
def P38 : Prop :=
  ∀ (l : List (List CD)) (n : Int),
    l.length ≤ (9223372036854775807 : Nat) →
      True → True ∧ decide ((0 : Int) ≤ idxI (intsOf l) n) = decide (n ∈ intsOf l)
theorem e38 : ct38.VC (base.with sp40) Tryd.f38.results.toList Tryd.f38.ntmps (Tryd.f38.ntmps - ct38.ps.length) (bodyOf Tryd.f38) noAnn = P38 := by kernel_rfl
noncomputable def sp38 : SpecT := addS sp40 38 (mkF ct38)
def P37 : Prop :=
  ∀ (n : Int),
    True →
      bif decide (n = (1 : Int)) then
        (1048576 : Int) = mostOf n ∧
          [[CD.int (1 : Int)], [CD.int (2 : Int)], [CD.int (3 : Int)], [CD.int (4 : Int)]] =
            rowsI (typesOf n)
      else
        bif decide (n = (2 : Int)) then
          (1048576 : Int) = mostOf n ∧
            [[CD.int (1 : Int)], [CD.int (3 : Int)]] = rowsI (typesOf n)
        else
          bif decide (n = (3 : Int)) then
            (1 : Int) = mostOf n ∧ [[CD.int (0 : Int)]] = rowsI (typesOf n)
          else (0 : Int) = mostOf n ∧ [] = rowsI (typesOf n)
theorem e37 : ct37.VC (base.with sp38) Tryd.f37.results.toList Tryd.f37.ntmps (Tryd.f37.ntmps - ct37.ps.length) (bodyOf Tryd.f37) noAnn = P37 := by kernel_rfl
noncomputable def sp37 : SpecT := addS sp38 37 (mkF ct37)
def P31 : Prop :=
  ∀ (n n_1 n_2 : Int) (l : List UInt8),
    l.length ≤ (9223372036854775807 : Nat) →
      True →
        True ∧
          ((rowsI (typesOf n)).length ≤ (9223372036854775807 : Nat) →
            bif decide ((↑(rowsI (typesOf n)).length : Int) = (0 : Int)) then
              (5 : Int) = chk n n_1 n_2 l
            else
              True ∧
                bif !decide (n_1 ∈ intsOf (rowsI (typesOf n))) then
                  (6 : Int) = chk n n_1 n_2 l
                else
                  bif decide (n_2 < (1 : Int)) || decide (mostOf n < n_2) then (7 : Int) = chk n n_1 n_2 l
                  else
                    l.length ≤ (9223372036854775807 : Nat) →
                      bif decide ((255 : Int) < (↑l.length : Int)) then (8 : Int) = chk n n_1 n_2 l
                      else (0 : Int) = chk n n_1 n_2 l)
theorem e31 : ct31.VC (base.with sp37) Tryd.f31.results.toList Tryd.f31.ntmps (Tryd.f31.ntmps - ct31.ps.length) (bodyOf Tryd.f31) noAnn = P31 := by kernel_rfl
noncomputable def sp31 : SpecT := addS sp37 31 (mkF ct31)
end Go.Proofs.YtfikklbaceidfaaDoor
