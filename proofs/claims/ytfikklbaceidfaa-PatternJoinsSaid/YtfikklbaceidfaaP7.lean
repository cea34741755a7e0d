/-
  Conditions of contracts, as the kernel reckons them (printed by a program of ours, checked by the kernel).
-/
import Derived.Test.YtfikklbaceidfaaS7
namespace Go.Proofs.Ytfikklbaceidfaa
open Go Go.Avc Go.Proofs
set_option linter.unusedVariables false
set_option maxRecDepth 100000
def P11 : Prop :=
  ∀ (l : List (List CD)) (l_1 : List UInt8),
    l.length ≤ (9223372036854775807 : Nat) →
      l_1.length ≤ (9223372036854775807 : Nat) →
        wfIts l →
          True ∧
            (((bw false !true) = true → l.length ≤ (9223372036854775807 : Nat)) →
              bif !true || decide ((1100 : Int) < (↑l.length : Int)) then True ∧ true = true
              else
                l.length ≤ (9223372036854775807 : Nat) →
                  (R11 l l_1 l l_1 l (↑l.length : Int) (0 : Int) ∧ True) ∧
                    ∀ (l_2 : List (List CD)) (l_3 : List UInt8) (l_4 : List (List CD)) (n n_1 : Int),
                      l_2.length ≤ (9223372036854775807 : Nat) →
                        l_3.length ≤ (9223372036854775807 : Nat) →
                          l_4.length ≤ (9223372036854775807 : Nat) →
                            R11 l l_1 l_2 l_3 l_4 n n_1 →
                              bif decide (n_1 < n) then
                                ((0 : Int) ≤ n_1 ∧ n_1 < (↑l_4.length : Int)) ∧
                                  n_1.toNat < l_4.length ∧
                                    (((l_4.getD n_1.toNat []).getD (3 : Nat) (CD.int (0 : Int))).toStr.length ≤ (9223372036854775807 : Nat) →
                                      bif decide ((400 : Int) < (↑((l_4.getD n_1.toNat []).getD (3 : Nat) (CD.int (0 : Int))).toStr.length : Int)) then true = true
                                      else
                                        ((-9223372036854775808 : Int) ≤ n_1 + (1 : Int) ∧ n_1 + (1 : Int) ≤ (9223372036854775807 : Int)) ∧
                                          R11 l l_1 l_2 l_3 l_4 n (n_1 + (1 : Int)) ∧ (n - (n_1 + (1 : Int))).toNat < (n - n_1).toNat)
                              else
                                preL l_2 ∧
                                  preL (rowsIt (itsOf l_2)) ∧
                                    preL l_2 ∧
                                      bif
                                          decide
                                                ((ser
                                                        (itsOf (rowsIt (itsOf l_2)))).snd.snd ≠
                                                  (ser (itsOf l_2)).snd.snd) ||
                                              decide
                                                ((ser
                                                        (itsOf (rowsIt (itsOf l_2)))).snd.fst ≠
                                                  (ser (itsOf l_2)).snd.fst) ||
                                            decide
                                              (bytesOfRows
                                                  (rowsOfBytes
                                                    (ser
                                                        (itsOf (rowsIt (itsOf l_2)))).fst) ≠
                                                bytesOfRows (rowsOfBytes (ser (itsOf l_2)).fst)) then
                                        false = true
                                      else
                                        pre37 (rowsIt (itsOf l_2)) ∧
                                          True ∧
                                            True ∧
                                              preL l_2 ∧
                                                (decide
                                                        (tot
                                                            (itsOf (rowsIt (itsOf l_2))) (1 : Int) =
                                                          tot (itsOf l_2) (1 : Int)) =
                                                      true →
                                                    preL l_2) ∧
                                                  (decide
                                                            (tot
                                                                (itsOf (rowsIt (itsOf l_2)))
                                                                (1 : Int) =
                                                              tot (itsOf l_2) (1 : Int)) &&
                                                          decide
                                                            (tot
                                                                (itsOf (rowsIt (itsOf l_2)))
                                                                (2 : Int) =
                                                              tot (itsOf l_2) (2 : Int)) &&
                                                        decide
                                                          ((fnd
                                                                (itsOf (rowsIt (itsOf l_2)))
                                                                l_3).fst =
                                                            (fnd (itsOf l_2) l_3).fst) &&
                                                      decide
                                                        ((fnd
                                                              (itsOf (rowsIt (itsOf l_2))) l_3).snd =
                                                          (fnd (itsOf l_2) l_3).snd)) =
                                                    true)
theorem e11 : ct11.VC (base.with sp37) Try.f11.results.toList Try.f11.ntmps (Try.f11.ntmps - ct11.ps.length) (bodyOf Try.f11) ann11 = P11 := by kernel_rfl
noncomputable def sp11 : SpecT := addS sp37 11 (mkF ct11)
def P12 : Prop :=
  ∀ (l l_1 : List (List CD)) (n : Int),
    l.length ≤ (9223372036854775807 : Nat) →
      l_1.length ≤ (9223372036854775807 : Nat) →
        wfIts l ∧ wfIts l_1 ∧ (0 : Int) ≤ n ∧ n ≤ (255 : Int) →
          True ∧
            (((bw false !true) = true → l.length ≤ (9223372036854775807 : Nat)) →
              (bw false (!true || decide ((30 : Int) < (↑l.length : Int))) = true → l_1.length ≤ (9223372036854775807 : Nat)) →
                bif !true || decide ((30 : Int) < (↑l.length : Int)) || decide ((30 : Int) < (↑l_1.length : Int)) then True ∧ true = true
                else
                  preL l ∧
                    preL (rowsIt (itsOf l)) ∧
                      preL l_1 ∧
                        preL (rowsIt (itsOf l_1)) ∧
                          bif
                              decide
                                  ((ser
                                          (itsOf (rowsIt (itsOf l)))).snd.snd ≠
                                    (0 : Int)) ||
                                decide
                                  ((ser
                                          (itsOf (rowsIt (itsOf l_1)))).snd.snd ≠
                                    (0 : Int)) then
                            true = true
                          else
                            (((0 : Nat) +
                                      (rowsOfBytes
                                          (ser
                                              (itsOf (rowsIt (itsOf l)))).fst).length) *
                                    (1 : Nat) ≤
                                  (140737488355328 : Nat) ∧
                                (0 : Nat) +
                                    (rowsOfBytes
                                        (ser
                                            (itsOf (rowsIt (itsOf l)))).fst).length ≤
                                  (9223372036854775807 : Nat)) ∧
                              ((([] ++
                                            rowsOfBytes
                                              (ser
                                                  (itsOf (rowsIt (itsOf l)))).fst).length +
                                        (rowsOfBytes
                                            (ser
                                                (itsOf (rowsIt (itsOf l_1)))).fst).length) *
                                      (1 : Nat) ≤
                                    (140737488355328 : Nat) ∧
                                  ([] ++
                                          rowsOfBytes
                                            (ser
                                                (itsOf (rowsIt (itsOf l)))).fst).length +
                                      (rowsOfBytes
                                          (ser
                                              (itsOf (rowsIt (itsOf l_1)))).fst).length ≤
                                    (9223372036854775807 : Nat)) ∧
                                pre20
                                    ([] ++
                                        rowsOfBytes
                                          (ser
                                              (itsOf (rowsIt (itsOf l)))).fst ++
                                      rowsOfBytes
                                        (ser
                                            (itsOf (rowsIt (itsOf l_1)))).fst) ∧
                                  (((0 : Nat) + l.length) * (40 : Nat) ≤ (140737488355328 : Nat) ∧ (0 : Nat) + l.length ≤ (9223372036854775807 : Nat)) ∧
                                    ((([] ++ l).length + l_1.length) * (40 : Nat) ≤ (140737488355328 : Nat) ∧ ([] ++ l).length + l_1.length ≤ (9223372036854775807 : Nat)) ∧
                                      ((!(decide
                                                  ((prs
                                                          (bytesOfRows
                                                            ([] ++
                                                                rowsOfBytes
                                                                  (ser
                                                                      (itsOf
                                                                        (rowsIt (itsOf l)))).fst ++
                                                              rowsOfBytes
                                                                (ser
                                                                    (itsOf
                                                                      (rowsIt (itsOf l_1)))).fst))).snd.snd ≠
                                                    (0 : Int)) ||
                                                decide
                                                  ((prs
                                                          (bytesOfRows
                                                            ([] ++
                                                                rowsOfBytes
                                                                  (ser
                                                                      (itsOf
                                                                        (rowsIt (itsOf l)))).fst ++
                                                              rowsOfBytes
                                                                (ser
                                                                    (itsOf
                                                                      (rowsIt (itsOf l_1)))).fst))).snd.fst ≠
                                                    (-1 : Int)))) =
                                            true →
                                          preL
                                            (rowsIt
                                              (prs
                                                  (bytesOfRows
                                                    ([] ++
                                                        rowsOfBytes
                                                          (ser
                                                              (itsOf (rowsIt (itsOf l)))).fst ++
                                                      rowsOfBytes
                                                        (ser
                                                            (itsOf
                                                              (rowsIt (itsOf l_1)))).fst))).fst)) ∧
                                        ((!(decide
                                                    ((prs
                                                            (bytesOfRows
                                                              ([] ++
                                                                  rowsOfBytes
                                                                    (ser
                                                                        (itsOf
                                                                          (rowsIt (itsOf l)))).fst ++
                                                                rowsOfBytes
                                                                  (ser
                                                                      (itsOf
                                                                        (rowsIt (itsOf l_1)))).fst))).snd.snd ≠
                                                      (0 : Int)) ||
                                                  decide
                                                    ((prs
                                                            (bytesOfRows
                                                              ([] ++
                                                                  rowsOfBytes
                                                                    (ser
                                                                        (itsOf
                                                                          (rowsIt (itsOf l)))).fst ++
                                                                rowsOfBytes
                                                                  (ser
                                                                      (itsOf
                                                                        (rowsIt (itsOf l_1)))).fst))).snd.fst ≠
                                                      (-1 : Int)))) =
                                              true →
                                            ((!false) = true → True) ∧
                                              bif
                                                  false ||
                                                    !decide
                                                        (itsOf
                                                            (rowsIt
                                                              (itsOf
                                                                (rowsIt
                                                                  (prs
                                                                      (bytesOfRows
                                                                        ([] ++
                                                                            rowsOfBytes
                                                                              (ser
                                                                                  (itsOf
                                                                                    (rowsIt (itsOf l)))).fst ++
                                                                          rowsOfBytes
                                                                            (ser
                                                                                (itsOf
                                                                                  (rowsIt (itsOf l_1)))).fst))).fst))) =
                                                          itsOf ([] ++ l ++ l_1)) then
                                                false = true
                                              else
                                                preL l ∧
                                                  pre37 (rowsIt (itsOf l)) ∧
                                                    preL l_1 ∧
                                                      pre37 (rowsIt (itsOf l_1)) ∧
                                                        (pre37
                                                              (rowsIt
                                                                (prs
                                                                    (bytesOfRows
                                                                      ([] ++
                                                                          rowsOfBytes
                                                                            (ser
                                                                                (itsOf
                                                                                  (rowsIt (itsOf l)))).fst ++
                                                                        rowsOfBytes
                                                                          (ser
                                                                              (itsOf
                                                                                (rowsIt (itsOf l_1)))).fst))).fst) ∧
                                                            R12 l l_1 n l n
                                                                (rowsIt
                                                                  (prs
                                                                      (bytesOfRows
                                                                        ([] ++
                                                                            rowsOfBytes
                                                                              (ser
                                                                                  (itsOf
                                                                                    (rowsIt (itsOf l)))).fst ++
                                                                          rowsOfBytes
                                                                            (ser
                                                                                (itsOf
                                                                                  (rowsIt (itsOf l_1)))).fst))).fst)
                                                                (tot
                                                                  (itsOf (rowsIt (itsOf l)))
                                                                  (1 : Int))
                                                                (tot
                                                                  (itsOf (rowsIt (itsOf l)))
                                                                  (2 : Int))
                                                                (tot
                                                                  (itsOf (rowsIt (itsOf l_1)))
                                                                  (1 : Int))
                                                                (tot
                                                                  (itsOf (rowsIt (itsOf l_1)))
                                                                  (2 : Int))
                                                                (tot
                                                                  (itsOf
                                                                    (rowsIt
                                                                      (prs
                                                                          (bytesOfRows
                                                                            ([] ++
                                                                                rowsOfBytes
                                                                                  (ser
                                                                                      (itsOf
                                                                                        (rowsIt (itsOf l)))).fst ++
                                                                              rowsOfBytes
                                                                                (ser
                                                                                    (itsOf
                                                                                      (rowsIt (itsOf l_1)))).fst))).fst))
                                                                  (1 : Int))
                                                                (tot
                                                                  (itsOf
                                                                    (rowsIt
                                                                      (prs
                                                                          (bytesOfRows
                                                                            ([] ++
                                                                                rowsOfBytes
                                                                                  (ser
                                                                                      (itsOf
                                                                                        (rowsIt (itsOf l)))).fst ++
                                                                              rowsOfBytes
                                                                                (ser
                                                                                    (itsOf
                                                                                      (rowsIt (itsOf l_1)))).fst))).fst))
                                                                  (2 : Int)) ∧
                                                              True) ∧
                                                          ∀ (l_2 : List (List CD)) (n_1 : Int) (l_3 : List (List CD)) (n_2 n_3 n_4 n_5 n_6 n_7 : Int),
                                                            l_2.length ≤ (9223372036854775807 : Nat) →
                                                              l_3.length ≤ (9223372036854775807 : Nat) →
                                                                R12 l l_1 n l_2 n_1 l_3 n_2 n_3 n_4 n_5 n_6 n_7 →
                                                                  ((-9223372036854775808 : Int) ≤ n_2 + n_4 ∧ n_2 + n_4 ≤ (9223372036854775807 : Int)) ∧
                                                                    (decide (n_2 + n_4 = n_6) = true →
                                                                        (-9223372036854775808 : Int) ≤ n_3 + n_5 ∧ n_3 + n_5 ≤ (9223372036854775807 : Int)) ∧
                                                                      ((bw true (decide (n_2 + n_4 = n_6) && decide (n_3 + n_5 = n_7)) = true →
                                                                          l_3.length ≤ (9223372036854775807 : Nat)) →
                                                                        ((decide (n_2 + n_4 = n_6) && decide (n_3 + n_5 = n_7)) = true →
                                                                            (-9223372036854775808 : Int) ≤ (↑l_3.length : Int) + (1 : Int) ∧
                                                                              (↑l_3.length : Int) + (1 : Int) ≤ (9223372036854775807 : Int)) ∧
                                                                          ((decide (n_2 + n_4 = n_6) && decide (n_3 + n_5 = n_7)) = true →
                                                                              (0 : Int) ≤ Go.IntKind.i64.wrap n_1 ∧ (0 : Int) < (↑l_3.length : Int) + (1 : Int)) ∧
                                                                            ((decide (n_2 + n_4 = n_6) && decide (n_3 + n_5 = n_7)) = true →
                                                                                (0 : Int) ≤ (0 : Int) ∧
                                                                                  (0 : Int) ≤ Go.IntKind.i64.wrap n_1 % ((↑l_3.length : Int) + (1 : Int)) ∧
                                                                                    Go.IntKind.i64.wrap n_1 % ((↑l_3.length : Int) + (1 : Int)) ≤ (↑l_3.length : Int)) ∧
                                                                              ((decide (n_2 + n_4 = n_6) && decide (n_3 + n_5 = n_7)) = true → True) ∧
                                                                                ((decide (n_2 + n_4 = n_6) && decide (n_3 + n_5 = n_7) &&
                                                                                        prefIt (itsOf l_3)
                                                                                          (itsOf
                                                                                            (List.drop (0 : Nat)
                                                                                              (List.take (Go.IntKind.i64.wrap n_1 % ((↑l_3.length : Int) + (1 : Int))).toNat l_3)))) =
                                                                                      true →
                                                                                    preL l_2) ∧
                                                                                  ((decide (n_2 + n_4 = n_6) && decide (n_3 + n_5 = n_7) &&
                                                                                          prefIt (itsOf l_3)
                                                                                            (itsOf
                                                                                              (List.drop (0 : Nat)
                                                                                                (List.take (Go.IntKind.i64.wrap n_1 % ((↑l_3.length : Int) + (1 : Int))).toNat
                                                                                                  l_3)))) =
                                                                                        true →
                                                                                      (true = true → True) ∧
                                                                                        (true &&
                                                                                            prefIt (itsOf l_3)
                                                                                              (itsOf
                                                                                                (rowsIt (itsOf l_2)))) =
                                                                                          true) ∧
                                                                                    ((decide (n_2 + n_4 = n_6) && decide (n_3 + n_5 = n_7) &&
                                                                                          prefIt (itsOf l_3)
                                                                                            (itsOf
                                                                                              (List.drop (0 : Nat)
                                                                                                (List.take (Go.IntKind.i64.wrap n_1 % ((↑l_3.length : Int) + (1 : Int))).toNat
                                                                                                  l_3)))) =
                                                                                        false →
                                                                                      ((!true) = true → False) ∧ false = true))) ∧
                                          ((!(decide
                                                    ((prs
                                                            (bytesOfRows
                                                              ([] ++
                                                                  rowsOfBytes
                                                                    (ser
                                                                        (itsOf
                                                                          (rowsIt (itsOf l)))).fst ++
                                                                rowsOfBytes
                                                                  (ser
                                                                      (itsOf
                                                                        (rowsIt (itsOf l_1)))).fst))).snd.snd ≠
                                                      (0 : Int)) ||
                                                  decide
                                                    ((prs
                                                            (bytesOfRows
                                                              ([] ++
                                                                  rowsOfBytes
                                                                    (ser
                                                                        (itsOf
                                                                          (rowsIt (itsOf l)))).fst ++
                                                                rowsOfBytes
                                                                  (ser
                                                                      (itsOf
                                                                        (rowsIt (itsOf l_1)))).fst))).snd.fst ≠
                                                      (-1 : Int)))) =
                                              false →
                                            ((!!false) = true → False) ∧ ((!!false) = true → False) ∧ false = true))
theorem e12 : ct12.VC (base.with sp11) Try.f12.results.toList Try.f12.ntmps (Try.f12.ntmps - ct12.ps.length) (bodyOf Try.f12) ann12 = P12 := by kernel_rfl
noncomputable def sp12 : SpecT := addS sp11 12 (mkF ct12)
end Go.Proofs.Ytfikklbaceidfaa
