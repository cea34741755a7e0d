/-
  Conditions of contracts, as the kernel reckons them (printed by a program of ours, checked by the kernel).
-/
import Derived.Test.YtfikklbaceidfaaDoorS5
namespace Go.Proofs.YtfikklbaceidfaaDoor
open Go Go.Avc Go.Proofs
set_option linter.unusedVariables false
set_option maxRecDepth 100000
def P14 : Prop :=
  ∀ (l : List (List CD)),
    l.length ≤ (9223372036854775807 : Nat) →
      pre22 l →
        (R14 l l (0 : Int) [] ∧ True) ∧
          ∀ (l_1 : List (List CD)) (n : Int) (l_2 : List (List CD)),
            l_1.length ≤ (9223372036854775807 : Nat) →
              l_2.length ≤ (9223372036854775807 : Nat) →
                R14 l l_1 n l_2 →
                  l_1.length ≤ (9223372036854775807 : Nat) →
                    bif decide ((0 : Int) < (↑l_1.length : Int)) then
                      bif decide (n = (1024 : Int)) then
                        n = (prs (bytesOfRows l)).snd.fst ∧
                          (9 : Int) = (prs (bytesOfRows l)).snd.snd ∧
                            [] = rowsIt (prs (bytesOfRows l)).fst
                      else
                        pre22 l_1 ∧
                          bif decide (decE (bytesOfRows l_1) ≠ (0 : Int)) then
                            n = (prs (bytesOfRows l)).snd.fst ∧
                              decE (bytesOfRows l_1) = (prs (bytesOfRows l)).snd.snd ∧
                                [] = rowsIt (prs (bytesOfRows l)).fst
                          else
                            ((l_2.length + (1 : Nat)) * (40 : Nat) ≤ (140737488355328 : Nat) ∧ l_2.length + (1 : Nat) ≤ (9223372036854775807 : Nat)) ∧
                              ((-9223372036854775808 : Int) ≤ n + (1 : Int) ∧ n + (1 : Int) ≤ (9223372036854775807 : Int)) ∧
                                R14 l (rowsOfBytes (decR (bytesOfRows l_1))) (n + (1 : Int))
                                    (l_2 ++
                                      [[CD.int (decI (bytesOfRows l_1)).k,
                                          CD.int (decI (bytesOfRows l_1)).t,
                                          CD.int (decI (bytesOfRows l_1)).c,
                                          CD.str (decI (bytesOfRows l_1)).l]]) ∧
                                  ((1025 : Int) - (n + (1 : Int))).toNat < ((1025 : Int) - n).toNat
                    else
                      (-1 : Int) = (prs (bytesOfRows l)).snd.fst ∧
                        (0 : Int) = (prs (bytesOfRows l)).snd.snd ∧
                          l_2 = rowsIt (prs (bytesOfRows l)).fst
theorem e14 : ct14.VC (base.with sp22) Tryd.f14.results.toList Tryd.f14.ntmps (Tryd.f14.ntmps - ct14.ps.length) (bodyOf Tryd.f14) ann14 = P14 := by kernel_rfl
noncomputable def sp14 : SpecT := addS sp22 14 (mkF ct14)
def P5 : Prop :=
  ∀ (l : List (List CD)),
    l.length ≤ (9223372036854775807 : Nat) →
      preL l →
        (R90028 l [] l (↑l.length : Int) (0 : Int) ∧ True) ∧
          ∀ (l_1 : List (List CD)) (n : Int) (l_2 : List (List CD)),
            l_1.length ≤ (9223372036854775807 : Nat) →
              l_2.length ≤ (9223372036854775807 : Nat) →
                R90028 l l_2 l_1 (↑l.length : Int) n →
                  l_1.length ≤ (9223372036854775807 : Nat) →
                    bif decide (n < (↑l_1.length : Int)) then
                      bif decide (n = (1024 : Int)) then
                        n = (ser (itsOf l)).snd.fst ∧
                          (9 : Int) = (ser (itsOf l)).snd.snd ∧
                            [] = rowsOfBytes (ser (itsOf l)).fst
                      else
                        ((0 : Int) ≤ n ∧ n < (↑l_1.length : Int)) ∧
                          n.toNat < l_1.length ∧
                            True ∧
                              bif
                                  decide
                                    (chk ((l_1.getD n.toNat []).getD (0 : Nat) (CD.int (0 : Int))).toInt
                                        ((l_1.getD n.toNat []).getD (1 : Nat) (CD.int (0 : Int))).toInt ((l_1.getD n.toNat []).getD (2 : Nat) (CD.int (0 : Int))).toInt
                                        ((l_1.getD n.toNat []).getD (3 : Nat) (CD.int (0 : Int))).toStr ≠
                                      (0 : Int)) then
                                n = (ser (itsOf l)).snd.fst ∧
                                  chk ((l_1.getD n.toNat []).getD (0 : Nat) (CD.int (0 : Int))).toInt
                                        ((l_1.getD n.toNat []).getD (1 : Nat) (CD.int (0 : Int))).toInt ((l_1.getD n.toNat []).getD (2 : Nat) (CD.int (0 : Int))).toInt
                                        ((l_1.getD n.toNat []).getD (3 : Nat) (CD.int (0 : Int))).toStr =
                                      (ser (itsOf l)).snd.snd ∧
                                    [] = rowsOfBytes (ser (itsOf l)).fst
                              else
                                ((l_2.length +
                                          (encR ((l_1.getD n.toNat []).getD (0 : Nat) (CD.int (0 : Int))).toInt
                                              ((l_1.getD n.toNat []).getD (1 : Nat) (CD.int (0 : Int))).toInt
                                              ((l_1.getD n.toNat []).getD (2 : Nat) (CD.int (0 : Int))).toInt
                                              ((l_1.getD n.toNat []).getD (3 : Nat) (CD.int (0 : Int))).toStr).length) *
                                        (1 : Nat) ≤
                                      (140737488355328 : Nat) ∧
                                    l_2.length +
                                        (encR ((l_1.getD n.toNat []).getD (0 : Nat) (CD.int (0 : Int))).toInt
                                            ((l_1.getD n.toNat []).getD (1 : Nat) (CD.int (0 : Int))).toInt
                                            ((l_1.getD n.toNat []).getD (2 : Nat) (CD.int (0 : Int))).toInt
                                            ((l_1.getD n.toNat []).getD (3 : Nat) (CD.int (0 : Int))).toStr).length ≤
                                      (9223372036854775807 : Nat)) ∧
                                  ((-9223372036854775808 : Int) ≤ n + (1 : Int) ∧ n + (1 : Int) ≤ (9223372036854775807 : Int)) ∧
                                    R90028 l
                                        (l_2 ++
                                          encR ((l_1.getD n.toNat []).getD (0 : Nat) (CD.int (0 : Int))).toInt
                                            ((l_1.getD n.toNat []).getD (1 : Nat) (CD.int (0 : Int))).toInt
                                            ((l_1.getD n.toNat []).getD (2 : Nat) (CD.int (0 : Int))).toInt
                                            ((l_1.getD n.toNat []).getD (3 : Nat) (CD.int (0 : Int))).toStr)
                                        l_1 (↑l.length : Int) (n + (1 : Int)) ∧
                                      ((↑l_1.length : Int) - (n + (1 : Int))).toNat < ((↑l_1.length : Int) - n).toNat
                    else
                      (-1 : Int) = (ser (itsOf l)).snd.fst ∧
                        (0 : Int) = (ser (itsOf l)).snd.snd ∧
                          l_2 = rowsOfBytes (ser (itsOf l)).fst
theorem e5 : ct5.VC (base.with sp14) Tryd.f5.results.toList Tryd.f5.ntmps (Tryd.f5.ntmps - ct5.ps.length) (bodyOf Tryd.f5) ann5 = P5 := by kernel_rfl
noncomputable def sp5 : SpecT := addS sp14 5 (mkF ct5)
end Go.Proofs.YtfikklbaceidfaaDoor
