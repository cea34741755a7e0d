/-
  Conditions of contracts, as the kernel reckons them (printed by a program of ours, checked by the kernel).
-/
import Derived.Test.YtfikklbaceidfaaS2
namespace Go.Proofs.Ytfikklbaceidfaa
open Go Go.Avc Go.Proofs
set_option linter.unusedVariables false
set_option maxRecDepth 100000
def P3 : Prop :=
  ∀ (n n_1 n_2 : Int) (l : List UInt8) (n_3 : Int) (l_1 : List UInt8),
    l.length ≤ (9223372036854775807 : Nat) →
      l_1.length ≤ (9223372036854775807 : Nat) →
        True →
          True ∧
            ((!!true) = true → True) ∧
              ((bw false (!true || decide (chk n n_1 n_2 l ≠ (0 : Int))) = true → l_1.length ≤ (9223372036854775807 : Nat)) →
                bif !true || decide (chk n n_1 n_2 l ≠ (0 : Int)) || decide ((400 : Int) < (↑l_1.length : Int)) then True ∧ true = true
                else
                  True ∧
                    True ∧
                      (l_1.length ≤ (9223372036854775807 : Nat) →
                        bif decide (chk n n_1 n_2 l_1 = (0 : Int)) != decide ((↑l_1.length : Int) ≤ (255 : Int)) then false = true
                        else
                          True ∧
                            bif decide (n = (3 : Int)) then
                              True ∧ (decide (chk n n_1 n_3 l = (0 : Int)) == (decide ((1 : Int) ≤ n_3) && decide (n_3 ≤ (1 : Int)))) = true
                            else True ∧ (decide (chk n n_1 n_3 l = (0 : Int)) == (decide ((1 : Int) ≤ n_3) && decide (n_3 ≤ (1048576 : Int)))) = true))
theorem e3 : ct3.VC (base.with sp13) Try.f3.results.toList Try.f3.ntmps (Try.f3.ntmps - ct3.ps.length) (bodyOf Try.f3) noAnn = P3 := by kernel_rfl
noncomputable def sp3 : SpecT := addS sp13 3 (mkF ct3)
end Go.Proofs.Ytfikklbaceidfaa
