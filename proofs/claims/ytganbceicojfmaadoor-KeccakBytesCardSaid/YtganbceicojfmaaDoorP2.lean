/-
  Conditions of contracts, as the kernel reckons them (printed by a program of ours, checked by the kernel).
-/
import Derived.Test.YtganbceicojfmaaDoorS2
namespace Go.Proofs.YtganbceicojfmaaDoor
open Go Go.Avc Go.Proofs
set_option linter.unusedVariables false
set_option maxRecDepth 100000
def P38 : Prop :=
  ∀ (n : Int),
    (0 : Int) ≤ n ∧ n ≤ (1000 : Int) →
      ((n = n ∧ (0 : Int) ≤ (0 : Int) ∧ (0 : Int) ≤ n ∧ (1 : Int) = lfN (0 : Nat)) ∧ True) ∧
        ∀ (n_1 n_2 n_3 : Int),
          n_1 = n ∧ (0 : Int) ≤ n_3 ∧ n_3 ≤ n ∧ n_2 = lfN n_3.toNat →
            bif decide (n_3 < n_1) then
              ((-9223372036854775808 : Int) ≤ n_2 * (2 : Int) ∧ n_2 * (2 : Int) ≤ (9223372036854775807 : Int)) ∧
                bif decide ((256 : Int) ≤ n_2 * (2 : Int)) then
                  ((-9223372036854775808 : Int) ≤ n_2 * (2 : Int) - (256 : Int) ∧ n_2 * (2 : Int) - (256 : Int) ≤ (9223372036854775807 : Int)) ∧
                    ((4 : Nat) ≤ (9223372036854775807 : Nat) →
                      ((n_1 = n_1 ∧
                            n_3 = n_3 ∧
                              [[CD.int (64 : Int)], [CD.int (32 : Int)], [CD.int (16 : Int)], [CD.int (1 : Int)]] =
                                  [[CD.int (64 : Int)], [CD.int (32 : Int)], [CD.int (16 : Int)], [CD.int (1 : Int)]] ∧
                                (↑(4 : Nat) : Int) = (↑(4 : Nat) : Int) ∧
                                  (0 : Int) ≤ (0 : Int) ∧
                                    (0 : Int) ≤ (4 : Int) ∧ n_2 * (2 : Int) - (256 : Int) = flN (n_2 * (2 : Int) - (256 : Int)) (0 : Nat)) ∧
                          True) ∧
                        ∀ (n_4 n_5 n_6 : Int) (l : List (List CD)) (n_7 n_8 : Int),
                          l.length ≤ (9223372036854775807 : Nat) →
                            n_4 = n_1 ∧
                                n_6 = n_3 ∧
                                  l = [[CD.int (64 : Int)], [CD.int (32 : Int)], [CD.int (16 : Int)], [CD.int (1 : Int)]] ∧
                                    n_7 = (↑(4 : Nat) : Int) ∧
                                      (0 : Int) ≤ n_8 ∧ n_8 ≤ (4 : Int) ∧ n_5 = flN (n_2 * (2 : Int) - (256 : Int)) n_8.toNat →
                              bif decide (n_8 < n_7) then
                                ((0 : Int) ≤ n_8 ∧ n_8 < (↑l.length : Int)) ∧
                                  n_8.toNat < l.length ∧
                                    ((0 : Int) ≤ n_5 ∧ (0 : Int) < ((l.getD n_8.toNat []).getD (0 : Nat) (CD.int (0 : Int))).toInt ∧ n_5 ≤ Go.IntKind.i64.max) ∧
                                      ((0 : Int) ≤ n_5 / ((l.getD n_8.toNat []).getD (0 : Nat) (CD.int (0 : Int))).toInt ∧ (0 : Int) < (2 : Int)) ∧
                                        bif decide (n_5 / ((l.getD n_8.toNat []).getD (0 : Nat) (CD.int (0 : Int))).toInt % (2 : Int) = (1 : Int)) then
                                          ((-9223372036854775808 : Int) ≤ n_5 - ((l.getD n_8.toNat []).getD (0 : Nat) (CD.int (0 : Int))).toInt ∧
                                              n_5 - ((l.getD n_8.toNat []).getD (0 : Nat) (CD.int (0 : Int))).toInt ≤ (9223372036854775807 : Int)) ∧
                                            ((-9223372036854775808 : Int) ≤ n_8 + (1 : Int) ∧ n_8 + (1 : Int) ≤ (9223372036854775807 : Int)) ∧
                                              (n_4 = n_1 ∧
                                                  n_6 = n_3 ∧
                                                    l = [[CD.int (64 : Int)], [CD.int (32 : Int)], [CD.int (16 : Int)], [CD.int (1 : Int)]] ∧
                                                      n_7 = (↑(4 : Nat) : Int) ∧
                                                        (0 : Int) ≤ n_8 + (1 : Int) ∧
                                                          n_8 + (1 : Int) ≤ (4 : Int) ∧
                                                            n_5 - ((l.getD n_8.toNat []).getD (0 : Nat) (CD.int (0 : Int))).toInt =
                                                              flN (n_2 * (2 : Int) - (256 : Int)) (n_8 + (1 : Int)).toNat) ∧
                                                ((4 : Int) - (n_8 + (1 : Int))).toNat < ((4 : Int) - n_8).toNat
                                        else
                                          ((-9223372036854775808 : Int) ≤ n_5 + ((l.getD n_8.toNat []).getD (0 : Nat) (CD.int (0 : Int))).toInt ∧
                                              n_5 + ((l.getD n_8.toNat []).getD (0 : Nat) (CD.int (0 : Int))).toInt ≤ (9223372036854775807 : Int)) ∧
                                            ((-9223372036854775808 : Int) ≤ n_8 + (1 : Int) ∧ n_8 + (1 : Int) ≤ (9223372036854775807 : Int)) ∧
                                              (n_4 = n_1 ∧
                                                  n_6 = n_3 ∧
                                                    l = [[CD.int (64 : Int)], [CD.int (32 : Int)], [CD.int (16 : Int)], [CD.int (1 : Int)]] ∧
                                                      n_7 = (↑(4 : Nat) : Int) ∧
                                                        (0 : Int) ≤ n_8 + (1 : Int) ∧
                                                          n_8 + (1 : Int) ≤ (4 : Int) ∧
                                                            n_5 + ((l.getD n_8.toNat []).getD (0 : Nat) (CD.int (0 : Int))).toInt =
                                                              flN (n_2 * (2 : Int) - (256 : Int)) (n_8 + (1 : Int)).toNat) ∧
                                                ((4 : Int) - (n_8 + (1 : Int))).toNat < ((4 : Int) - n_8).toNat
                              else
                                ((-9223372036854775808 : Int) ≤ n_6 + (1 : Int) ∧ n_6 + (1 : Int) ≤ (9223372036854775807 : Int)) ∧
                                  (n_4 = n ∧ (0 : Int) ≤ n_6 + (1 : Int) ∧ n_6 + (1 : Int) ≤ n ∧ n_5 = lfN (n_6 + (1 : Int)).toNat) ∧
                                    (n_4 - (n_6 + (1 : Int))).toNat < (n_1 - n_3).toNat)
                else
                  ((-9223372036854775808 : Int) ≤ n_3 + (1 : Int) ∧ n_3 + (1 : Int) ≤ (9223372036854775807 : Int)) ∧
                    (n_1 = n ∧ (0 : Int) ≤ n_3 + (1 : Int) ∧ n_3 + (1 : Int) ≤ n ∧ n_2 * (2 : Int) = lfN (n_3 + (1 : Int)).toNat) ∧
                      (n_1 - (n_3 + (1 : Int))).toNat < (n_1 - n_3).toNat
            else ((0 : Int) ≤ n_2 ∧ (0 : Int) < (2 : Int)) ∧ decide (n_2 % (2 : Int) = (1 : Int)) = rcB n.toNat
theorem e38 : ct38.VC (base.with sp12) Tryd.f38.results.toList Tryd.f38.ntmps (Tryd.f38.ntmps - ct38.ps.length) (bodyOf Tryd.f38) ann38 = P38 := by kernel_rfl
noncomputable def sp38 : SpecT := addS sp12 38 (mkF ct38)
def P19 : Prop :=
  ∀ (n : Int),
    True →
      bif decide (n < (0 : Int)) || decide ((23 : Int) < n) then
        [false, false, false, false, false, false, false, false, false, false, false, false, false, false, false, false, false, false, false, false, false, false, false, false,
            false, false, false, false, false, false, false, false, false, false, false, false, false, false, false, false, false, false, false, false, false, false, false, false,
            false, false, false, false, false, false, false, false, false, false, false, false, false, false, false, false] =
          cbits n
      else
        ((n = n ∧
              (0 : Int) ≤ n ∧
                n ≤ (23 : Int) ∧
                  (0 : Int) ≤ (0 : Int) ∧
                    (0 : Int) ≤ (7 : Int) ∧
                      (1 : Int) = (2 : Int) ^ (0 : Nat) ∧
                        [false, false, false, false, false, false, false, false, false, false, false, false, false, false, false, false, false, false, false, false, false, false,
                            false, false, false, false, false, false, false, false, false, false, false, false, false, false, false, false, false, false, false, false, false, false,
                            false, false, false, false, false, false, false, false, false, false, false, false, false, false, false, false, false, false, false, false] =
                          cbN n.toNat (0 : Nat)) ∧
            True) ∧
          ∀ (n_1 n_2 n_3 : Int) (l l_1 : List Bool),
            l.length = (64 : Nat) →
              l_1.length = (64 : Nat) →
                n_1 = n ∧
                    (0 : Int) ≤ n ∧ n ≤ (23 : Int) ∧ (0 : Int) ≤ n_3 ∧ n_3 ≤ (7 : Int) ∧ n_2 = (2 : Int) ^ n_3.toNat ∧ l_1 = cbN n.toNat n_3.toNat →
                  bif decide (n_3 < (7 : Int)) then
                    ((-9223372036854775808 : Int) ≤ n_2 - (1 : Int) ∧ n_2 - (1 : Int) ≤ (9223372036854775807 : Int)) ∧
                      ((-9223372036854775808 : Int) ≤ (7 : Int) * n_1 ∧ (7 : Int) * n_1 ≤ (9223372036854775807 : Int)) ∧
                        ((-9223372036854775808 : Int) ≤ n_3 + (7 : Int) * n_1 ∧ n_3 + (7 : Int) * n_1 ≤ (9223372036854775807 : Int)) ∧
                          ((0 : Int) ≤ n_3 + (7 : Int) * n_1 ∧ n_3 + (7 : Int) * n_1 ≤ (1000 : Int)) ∧
                            ((0 : Int) ≤ n_2 - (1 : Int) ∧ n_2 - (1 : Int) < (↑(64 : Nat) : Int)) ∧
                              (n_2 - (1 : Int)).toNat * (1 : Nat) < (64 : Nat) ∧
                                ((-9223372036854775808 : Int) ≤ n_2 * (2 : Int) ∧ n_2 * (2 : Int) ≤ (9223372036854775807 : Int)) ∧
                                  ((-9223372036854775808 : Int) ≤ n_3 + (1 : Int) ∧ n_3 + (1 : Int) ≤ (9223372036854775807 : Int)) ∧
                                    (n_1 = n ∧
                                        (0 : Int) ≤ n ∧
                                          n ≤ (23 : Int) ∧
                                            (0 : Int) ≤ n_3 + (1 : Int) ∧
                                              n_3 + (1 : Int) ≤ (7 : Int) ∧
                                                n_2 * (2 : Int) = (2 : Int) ^ (n_3 + (1 : Int)).toNat ∧
                                                  l_1.set ((n_2 - (1 : Int)).toNat * (1 : Nat)) (rcB (n_3 + (7 : Int) * n_1).toNat) =
                                                    cbN n.toNat (n_3 + (1 : Int)).toNat) ∧
                                      ((7 : Int) - (n_3 + (1 : Int))).toNat < ((7 : Int) - n_3).toNat
                  else l_1 = cbits n
theorem e19 : ct19.VC (base.with sp38) Tryd.f19.results.toList Tryd.f19.ntmps (Tryd.f19.ntmps - ct19.ps.length) (bodyOf Tryd.f19) ann19 = P19 := by kernel_rfl
noncomputable def sp19 : SpecT := addS sp38 19 (mkF ct19)
end Go.Proofs.YtganbceicojfmaaDoor
