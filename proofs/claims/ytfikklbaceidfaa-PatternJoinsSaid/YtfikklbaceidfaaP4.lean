/-
  Conditions of contracts, as the kernel reckons them (printed by a program of ours, checked by the kernel).
-/
import Derived.Test.YtfikklbaceidfaaS4
namespace Go.Proofs.Ytfikklbaceidfaa
open Go Go.Avc Go.Proofs
set_option linter.unusedVariables false
set_option maxRecDepth 100000
def P4 : Prop :=
  ∀ (n n_1 n_2 : Int) (l : List UInt8) (n_3 n_4 n_5 : Int) (l_1 : List UInt8),
    l.length ≤ (9223372036854775807 : Nat) →
      l_1.length ≤ (9223372036854775807 : Nat) →
        True →
          True ∧
            ((!!true) = true → True) ∧
              ((!(!true || decide (chk n n_1 n_2 l ≠ (0 : Int)))) = true → True) ∧
                bif !true || decide (chk n n_1 n_2 l ≠ (0 : Int)) || decide (chk n_3 n_4 n_5 l_1 ≠ (0 : Int)) then
                  True ∧ true = true
                else
                  True ∧
                    True ∧
                      True ∧
                        True ∧
                          True ∧
                            True ∧
                              True ∧
                                bif sameB n n_1 n_2 n_3 n_4 n_5 != (decide (n = n_3) && decide (n_1 = n_4) && decide (n_2 = n_5)) then false = true
                                else
                                  ((encR n n_1 n_2 l).length ≤ (9223372036854775807 : Nat) →
                                      (encR n_3 n_4 n_5 l_1).length ≤ (9223372036854775807 : Nat) →
                                        R4 n n_1 n_2 l n_3 n_4 n_5 l_1 (encR n n_1 n_2 l)
                                            (encR n_3 n_4 n_5 l_1)
                                            (min (↑(encR n n_1 n_2 l).length : Int) (↑(encR n_3 n_4 n_5 l_1).length : Int)) n
                                            n_1 n_2 l n_3 n_4 n_5 l_1 ∧
                                          True) ∧
                                    ∀ (l_2 l_3 : List (List CD)) (n_6 n_7 n_8 n_9 : Int) (l_4 : List UInt8) (n_10 n_11 n_12 : Int) (l_5 : List UInt8),
                                      l_2.length ≤ (9223372036854775807 : Nat) →
                                        l_3.length ≤ (9223372036854775807 : Nat) →
                                          l_4.length ≤ (9223372036854775807 : Nat) →
                                            l_5.length ≤ (9223372036854775807 : Nat) →
                                              R4 n n_1 n_2 l n_3 n_4 n_5 l_1 l_2 l_3 n_6 n_7 n_8 n_9 l_4 n_10 n_11 n_12 l_5 →
                                                ((0 : Int) ≤ (0 : Int) ∧ (0 : Int) ≤ n_6 ∧ n_6 ≤ (↑l_2.length : Int)) ∧
                                                  ((0 : Int) ≤ (0 : Int) ∧ (0 : Int) ≤ n_6 ∧ n_6 ≤ (↑l_3.length : Int)) ∧
                                                    (decide
                                                          (bytesOfRows (List.drop (0 : Nat) (List.take n_6.toNat l_2)) =
                                                            bytesOfRows (List.drop (0 : Nat) (List.take n_6.toNat l_3))) ==
                                                        (decide (n_7 = n_10) && (decide (n_8 = n_11) && (decide (n_9 = n_12) && (decide (l_4 = l_5) && true))))) =
                                                      true
theorem e4 : ct4.VC (base.with sp22) Try.f4.results.toList Try.f4.ntmps (Try.f4.ntmps - ct4.ps.length) (bodyOf Try.f4) ann4 = P4 := by kernel_rfl
noncomputable def sp4 : SpecT := addS sp22 4 (mkF ct4)
def P5 : Prop :=
  ∀ (n n_1 n_2 : Int) (l : List UInt8) (l_1 : List (List CD)),
    l.length ≤ (9223372036854775807 : Nat) →
      l_1.length ≤ (9223372036854775807 : Nat) →
        isB l_1 →
          True ∧
            (((bw false !true) = true → l.length ≤ (9223372036854775807 : Nat)) →
              (bw false (!true || decide ((400 : Int) < (↑l.length : Int))) = true → l_1.length ≤ (9223372036854775807 : Nat)) →
                bif !true || decide ((400 : Int) < (↑l.length : Int)) || decide ((100 : Int) < (↑l_1.length : Int)) then True ∧ true = true
                else
                  True ∧
                    True ∧
                      True ∧
                        ((!decide (chk n n_1 n_2 l ≠ chk n n_1 n_2 l)) = true → True) ∧
                          ((!decide (chk n n_1 n_2 l ≠ chk n n_1 n_2 l)) = true → True) ∧
                            bif
                                decide (chk n n_1 n_2 l ≠ chk n n_1 n_2 l) ||
                                    decide (chk n n_1 n_2 l ≠ chk n n_1 n_2 l) ||
                                  decide (bytesOfRows (encR n n_1 n_2 l) ≠ bytesOfRows (encR n n_1 n_2 l)) then
                              false = true
                            else
                              bif decide (chk n n_1 n_2 l ≠ (0 : Int)) then true = true
                              else
                                (((encR n n_1 n_2 l).length + l_1.length) * (1 : Nat) ≤ (140737488355328 : Nat) ∧
                                    (encR n n_1 n_2 l).length + l_1.length ≤ (9223372036854775807 : Nat)) ∧
                                  pre20 (encR n n_1 n_2 l ++ l_1) ∧
                                    (decide (decE (bytesOfRows (encR n n_1 n_2 l ++ l_1)) = (0 : Int)) = true → True) ∧
                                      (decide (decE (bytesOfRows (encR n n_1 n_2 l ++ l_1)) = (0 : Int)) &&
                                            (decide ((decI (bytesOfRows (encR n n_1 n_2 l ++ l_1))).k = n) &&
                                              (decide ((decI (bytesOfRows (encR n n_1 n_2 l ++ l_1))).t = n_1) &&
                                                (decide ((decI (bytesOfRows (encR n n_1 n_2 l ++ l_1))).c = n_2) &&
                                                  (decide ((decI (bytesOfRows (encR n n_1 n_2 l ++ l_1))).l = l) &&
                                                    true)))) &&
                                          decide
                                            (bytesOfRows
                                                (rowsOfBytes (decR (bytesOfRows (encR n n_1 n_2 l ++ l_1)))) =
                                              bytesOfRows l_1)) =
                                        true)
theorem e5 : ct5.VC (base.with sp4) Try.f5.results.toList Try.f5.ntmps (Try.f5.ntmps - ct5.ps.length) (bodyOf Try.f5) noAnn = P5 := by kernel_rfl
noncomputable def sp5 : SpecT := addS sp4 5 (mkF ct5)
def P6 : Prop :=
  ∀ (l : List (List CD)),
    l.length ≤ (9223372036854775807 : Nat) →
      isB l →
        True ∧
          (((bw false !true) = true → l.length ≤ (9223372036854775807 : Nat)) →
            bif !true || decide ((700 : Int) < (↑l.length : Int)) then True ∧ true = true
            else
              pre20 l ∧
                pre20 l ∧
                  ((!decide (decE (bytesOfRows l) ≠ decE (bytesOfRows l))) = true → True) ∧
                    bif
                        decide (decE (bytesOfRows l) ≠ decE (bytesOfRows l)) ||
                            !(decide ((decI (bytesOfRows l)).k = (decI (bytesOfRows l)).k) &&
                                (decide ((decI (bytesOfRows l)).t = (decI (bytesOfRows l)).t) &&
                                  (decide ((decI (bytesOfRows l)).c = (decI (bytesOfRows l)).c) &&
                                    (decide ((decI (bytesOfRows l)).l = (decI (bytesOfRows l)).l) && true)))) ||
                          decide
                            (bytesOfRows (rowsOfBytes (decR (bytesOfRows l))) ≠
                              bytesOfRows (rowsOfBytes (decR (bytesOfRows l)))) then
                      false = true
                    else
                      bif decide (decE (bytesOfRows l) ≠ (0 : Int)) then
                        (rowsOfBytes (decR (bytesOfRows l))).length ≤ (9223372036854775807 : Nat) →
                          decide ((↑(rowsOfBytes (decR (bytesOfRows l))).length : Int) = (0 : Int)) = true
                      else
                        True ∧
                          (decide
                                  (chk (decI (bytesOfRows l)).k
                                      (decI (bytesOfRows l)).t (decI (bytesOfRows l)).c
                                      (decI (bytesOfRows l)).l =
                                    (0 : Int)) =
                                true →
                              (bytesOfRows
                                      (encR (decI (bytesOfRows l)).k
                                        (decI (bytesOfRows l)).t (decI (bytesOfRows l)).c
                                        (decI (bytesOfRows l)).l)).length +
                                  (bytesOfRows (rowsOfBytes (decR (bytesOfRows l)))).length ≤
                                (9223372036854775807 : Nat)) ∧
                            (decide
                                  (chk (decI (bytesOfRows l)).k
                                      (decI (bytesOfRows l)).t (decI (bytesOfRows l)).c
                                      (decI (bytesOfRows l)).l =
                                    (0 : Int)) &&
                                decide
                                  (bytesOfRows
                                        (encR (decI (bytesOfRows l)).k
                                          (decI (bytesOfRows l)).t (decI (bytesOfRows l)).c
                                          (decI (bytesOfRows l)).l) ++
                                      bytesOfRows (rowsOfBytes (decR (bytesOfRows l))) =
                                    bytesOfRows l)) =
                              true)
theorem e6 : ct6.VC (base.with sp5) Try.f6.results.toList Try.f6.ntmps (Try.f6.ntmps - ct6.ps.length) (bodyOf Try.f6) noAnn = P6 := by kernel_rfl
noncomputable def sp6 : SpecT := addS sp5 6 (mkF ct6)
end Go.Proofs.Ytfikklbaceidfaa
