/-
  Conditions of contracts, as the kernel reckons them (printed by a program of ours, checked by the kernel).
-/
import Derived.Test.YtganbceicojfmaaDoorS1
namespace Go.Proofs.YtganbceicojfmaaDoor
open Go Go.Avc Go.Proofs
set_option linter.unusedVariables false
set_option maxRecDepth 100000
def P43 : Prop :=
  ∀ (n n_1 : Int),
    (0 : Int) ≤ n_1 ∧ n_1 ≤ (1000 : Int) →
      (0 : Int) ≤ bAnd Go.IntKind.u64 (Go.IntKind.u64.wrap n_1) (63 : Int) ∧
        (0 : Int) ≤ Go.IntKind.u64.wrap ((64 : Int) - bAnd Go.IntKind.u64 (Go.IntKind.u64.wrap n_1) (63 : Int)) ∧
          bOr Go.IntKind.u64 (bShl Go.IntKind.u64 n (bAnd Go.IntKind.u64 (Go.IntKind.u64.wrap n_1) (63 : Int)))
              (bShr Go.IntKind.u64 n (Go.IntKind.u64.wrap ((64 : Int) - bAnd Go.IntKind.u64 (Go.IntKind.u64.wrap n_1) (63 : Int)))) =
            rotW n (n_1 % (64 : Int))
theorem e43 : ct43.VC (base.with spec0) Tryd.f43.results.toList Tryd.f43.ntmps (Tryd.f43.ntmps - ct43.ps.length) (bodyOf Tryd.f43) noAnn = P43 := by kernel_rfl
noncomputable def sp43 : SpecT := addS spec0 43 (mkF ct43)
def P20 : Prop :=
  ∀ (n : Int),
    True →
      bif decide (n < (0 : Int)) || decide ((24 : Int) ≤ n) then (0 : Int) = rcOf n
      else
        ((0 : Int) ≤ n ∧ n < (↑(24 : Nat) : Int) ∧ (0 : Nat) + n.toNat < (24 : Nat)) ∧
          (0 : Nat) + n.toNat < (24 : Nat) ∧
            (([[CD.int (1 : Int)], [CD.int (32898 : Int)], [CD.int (9223372036854808714 : Int)], [CD.int (9223372039002292224 : Int)],
                          [CD.int (32907 : Int)], [CD.int (2147483649 : Int)], [CD.int (9223372039002292353 : Int)], [CD.int (9223372036854808585 : Int)],
                          [CD.int (138 : Int)], [CD.int (136 : Int)], [CD.int (2147516425 : Int)], [CD.int (2147483658 : Int)],
                          [CD.int (2147516555 : Int)], [CD.int (9223372036854775947 : Int)], [CD.int (9223372036854808713 : Int)],
                          [CD.int (9223372036854808579 : Int)], [CD.int (9223372036854808578 : Int)], [CD.int (9223372036854775936 : Int)],
                          [CD.int (32778 : Int)], [CD.int (9223372039002259466 : Int)], [CD.int (9223372039002292353 : Int)],
                          [CD.int (9223372036854808704 : Int)], [CD.int (2147483649 : Int)], [CD.int (9223372039002292232 : Int)]].getD
                      ((0 : Nat) + n.toNat) []).getD
                  (0 : Nat) (CD.int (0 : Int))).toInt =
              rcOf n
theorem e20 : ct20.VC (base.with sp43) Tryd.f20.results.toList Tryd.f20.ntmps (Tryd.f20.ntmps - ct20.ps.length) (bodyOf Tryd.f20) noAnn = P20 := by kernel_rfl
noncomputable def sp20 : SpecT := addS sp43 20 (mkF ct20)
def P35 : Prop :=
  ∀ (l : List Int),
    l.length = (25 : Nat) →
      True →
        ((l = l ∧
              l = l ∧ (0 : Int) ≤ (0 : Int) ∧ (0 : Int) ≤ (25 : Int) ∧ [(0 : Int), (0 : Int), (0 : Int), (0 : Int), (0 : Int)] = cols l (0 : Nat)) ∧
            True) ∧
          ∀ (l_1 : List Int) (n : Int) (l_2 l_3 l_4 : List Int),
            l_1.length = (25 : Nat) →
              l_2.length = (25 : Nat) →
                l_3.length = (25 : Nat) →
                  l_4.length = (5 : Nat) →
                    l_1 = l ∧ l_2 = l ∧ (0 : Int) ≤ n ∧ n ≤ (25 : Int) ∧ l_4 = cols l n.toNat →
                      bif decide (n < (25 : Int)) then
                        ((0 : Int) ≤ n ∧ n < (↑(25 : Nat) : Int) ∧ n.toNat * (1 : Nat) < (25 : Nat)) ∧
                          ((0 : Int) ≤ n ∧ (0 : Int) < (5 : Int)) ∧
                            ((0 : Int) ≤ n % (5 : Int) ∧ n % (5 : Int) < (↑(5 : Nat) : Int)) ∧
                              (n % (5 : Int)).toNat * (1 : Nat) < (5 : Nat) ∧
                                ((0 : Int) ≤ n % (5 : Int) ∧ n % (5 : Int) < (↑(5 : Nat) : Int)) ∧
                                  (n % (5 : Int)).toNat * (1 : Nat) < (5 : Nat) ∧
                                    ((-9223372036854775808 : Int) ≤ n + (1 : Int) ∧ n + (1 : Int) ≤ (9223372036854775807 : Int)) ∧
                                      (l_1 = l ∧
                                          l_2 = l ∧
                                            (0 : Int) ≤ n + (1 : Int) ∧
                                              n + (1 : Int) ≤ (25 : Int) ∧
                                                l_4.set ((n % (5 : Int)).toNat * (1 : Nat))
                                                    (bXor Go.IntKind.u64 (l_4.getD ((n % (5 : Int)).toNat * (1 : Nat)) (0 : Int)) (l_1.getD (n.toNat * (1 : Nat)) (0 : Int))) =
                                                  cols l (n + (1 : Int)).toNat) ∧
                                        ((25 : Int) - (n + (1 : Int))).toNat < ((25 : Int) - n).toNat
                      else
                        (((0 : Int) ≤ (0 : Int) ∧
                              (0 : Int) ≤ (25 : Int) ∧ l_4 = cols l (25 : Nat) ∧ l_2 = thN l_4 l (0 : Nat)) ∧
                            True) ∧
                          ∀ (n : Int) (l_5 l_6 l_7 : List Int),
                            l_5.length = (25 : Nat) →
                              l_6.length = (25 : Nat) →
                                l_7.length = (5 : Nat) →
                                  (0 : Int) ≤ n ∧ n ≤ (25 : Int) ∧ l_7 = cols l (25 : Nat) ∧ l_5 = thN l_7 l n.toNat →
                                    bif decide (n < (25 : Int)) then
                                      ((0 : Int) ≤ n ∧ (0 : Int) < (5 : Int)) ∧
                                        ((0 : Int) ≤ n ∧ n < (↑(25 : Nat) : Int)) ∧
                                          n.toNat * (1 : Nat) < (25 : Nat) ∧
                                            ((-9223372036854775808 : Int) ≤ n % (5 : Int) + (4 : Int) ∧ n % (5 : Int) + (4 : Int) ≤ (9223372036854775807 : Int)) ∧
                                              ((0 : Int) ≤ n % (5 : Int) + (4 : Int) ∧ (0 : Int) < (5 : Int)) ∧
                                                ((0 : Int) ≤ (n % (5 : Int) + (4 : Int)) % (5 : Int) ∧ (n % (5 : Int) + (4 : Int)) % (5 : Int) < (↑(5 : Nat) : Int)) ∧
                                                  ((n % (5 : Int) + (4 : Int)) % (5 : Int)).toNat * (1 : Nat) < (5 : Nat) ∧
                                                    ((-9223372036854775808 : Int) ≤ n % (5 : Int) + (1 : Int) ∧ n % (5 : Int) + (1 : Int) ≤ (9223372036854775807 : Int)) ∧
                                                      ((0 : Int) ≤ n % (5 : Int) + (1 : Int) ∧ (0 : Int) < (5 : Int)) ∧
                                                        ((0 : Int) ≤ (n % (5 : Int) + (1 : Int)) % (5 : Int) ∧ (n % (5 : Int) + (1 : Int)) % (5 : Int) < (↑(5 : Nat) : Int)) ∧
                                                          ((n % (5 : Int) + (1 : Int)) % (5 : Int)).toNat * (1 : Nat) < (5 : Nat) ∧
                                                            ((0 : Int) ≤ (1 : Int) ∧ (1 : Int) ≤ (1000 : Int)) ∧
                                                              ((0 : Int) ≤ n ∧ n < (↑(25 : Nat) : Int)) ∧
                                                                n.toNat * (1 : Nat) < (25 : Nat) ∧
                                                                  ((-9223372036854775808 : Int) ≤ n + (1 : Int) ∧ n + (1 : Int) ≤ (9223372036854775807 : Int)) ∧
                                                                    ((0 : Int) ≤ n + (1 : Int) ∧
                                                                        n + (1 : Int) ≤ (25 : Int) ∧
                                                                          l_7 = cols l (25 : Nat) ∧
                                                                            l_5.set (n.toNat * (1 : Nat))
                                                                                (bXor Go.IntKind.u64 (l_5.getD (n.toNat * (1 : Nat)) (0 : Int))
                                                                                  (bXor Go.IntKind.u64
                                                                                    (l_7.getD (((n % (5 : Int) + (4 : Int)) % (5 : Int)).toNat * (1 : Nat)) (0 : Int))
                                                                                    (rotW
                                                                                      (l_7.getD (((n % (5 : Int) + (1 : Int)) % (5 : Int)).toNat * (1 : Nat)) (0 : Int))
                                                                                      ((1 : Int) % (64 : Int))))) =
                                                                              thN l_7 l (n + (1 : Int)).toNat) ∧
                                                                      ((25 : Int) - (n + (1 : Int))).toNat < ((25 : Int) - n).toNat
                                    else l_5 = theta l
theorem e35 : ct35.VC (base.with sp20) Tryd.f35.results.toList Tryd.f35.ntmps (Tryd.f35.ntmps - ct35.ps.length) (bodyOf Tryd.f35) ann35 = P35 := by kernel_rfl
noncomputable def sp35 : SpecT := addS sp20 35 (mkF ct35)
def P36 : Prop :=
  ∀ (l : List Int),
    l.length = (25 : Nat) →
      True →
        ((0 : Int) ≤ (0 : Int) ∧ (0 : Int) < (↑(25 : Nat) : Int)) ∧
          (0 : Nat) < (25 : Nat) ∧
            ((l = l ∧
                  (0 : Int) ≤ (0 : Int) ∧
                    (0 : Int) ≤ (24 : Int) ∧
                      (1 : Int) = (↑(1 : Nat) : Int) ∧
                        (0 : Int) = (↑(0 : Nat) : Int) ∧
                          [(0 : Int), (0 : Int), (0 : Int), (0 : Int), (0 : Int), (0 : Int), (0 : Int), (0 : Int), (0 : Int), (0 : Int), (0 : Int), (0 : Int), (0 : Int), (0 : Int),
                                  (0 : Int), (0 : Int), (0 : Int), (0 : Int), (0 : Int), (0 : Int), (0 : Int), (0 : Int), (0 : Int), (0 : Int), (0 : Int)].set
                              (0 : Nat) (l.getD (0 : Nat) (0 : Int)) =
                            rpN l (0 : Nat)) ∧
                True) ∧
              ∀ (n n_1 n_2 : Int) (l_1 l_2 l_3 : List Int),
                l_1.length = (25 : Nat) →
                  l_2.length = (25 : Nat) →
                    l_3.length = (25 : Nat) →
                      l_1 = l ∧
                          (0 : Int) ≤ n_2 ∧
                            n_2 ≤ (24 : Int) ∧
                              n = (↑(xyN n_2.toNat).fst : Int) ∧
                                n_1 = (↑(xyN n_2.toNat).snd : Int) ∧ l_3 = rpN l n_2.toNat →
                        bif decide (n_2 < (24 : Int)) then
                          ((-9223372036854775808 : Int) ≤ (2 : Int) * n ∧ (2 : Int) * n ≤ (9223372036854775807 : Int)) ∧
                            ((-9223372036854775808 : Int) ≤ (3 : Int) * n_1 ∧ (3 : Int) * n_1 ≤ (9223372036854775807 : Int)) ∧
                              ((-9223372036854775808 : Int) ≤ (2 : Int) * n + (3 : Int) * n_1 ∧ (2 : Int) * n + (3 : Int) * n_1 ≤ (9223372036854775807 : Int)) ∧
                                ((0 : Int) ≤ (2 : Int) * n + (3 : Int) * n_1 ∧ (0 : Int) < (5 : Int)) ∧
                                  ((-9223372036854775808 : Int) ≤ (5 : Int) * (((2 : Int) * n + (3 : Int) * n_1) % (5 : Int)) ∧
                                      (5 : Int) * (((2 : Int) * n + (3 : Int) * n_1) % (5 : Int)) ≤ (9223372036854775807 : Int)) ∧
                                    ((-9223372036854775808 : Int) ≤ n_1 + (5 : Int) * (((2 : Int) * n + (3 : Int) * n_1) % (5 : Int)) ∧
                                        n_1 + (5 : Int) * (((2 : Int) * n + (3 : Int) * n_1) % (5 : Int)) ≤ (9223372036854775807 : Int)) ∧
                                      ((-9223372036854775808 : Int) ≤ (5 : Int) * n_1 ∧ (5 : Int) * n_1 ≤ (9223372036854775807 : Int)) ∧
                                        ((-9223372036854775808 : Int) ≤ n + (5 : Int) * n_1 ∧ n + (5 : Int) * n_1 ≤ (9223372036854775807 : Int)) ∧
                                          ((0 : Int) ≤ n + (5 : Int) * n_1 ∧ n + (5 : Int) * n_1 < (↑(25 : Nat) : Int)) ∧
                                            (n + (5 : Int) * n_1).toNat * (1 : Nat) < (25 : Nat) ∧
                                              ((-9223372036854775808 : Int) ≤ n_2 + (1 : Int) ∧ n_2 + (1 : Int) ≤ (9223372036854775807 : Int)) ∧
                                                ((-9223372036854775808 : Int) ≤ n_2 + (2 : Int) ∧ n_2 + (2 : Int) ≤ (9223372036854775807 : Int)) ∧
                                                  ((-9223372036854775808 : Int) ≤ (n_2 + (1 : Int)) * (n_2 + (2 : Int)) ∧
                                                      (n_2 + (1 : Int)) * (n_2 + (2 : Int)) ≤ (9223372036854775807 : Int)) ∧
                                                    ((0 : Int) ≤ (n_2 + (1 : Int)) * (n_2 + (2 : Int)) ∧
                                                        (0 : Int) < (2 : Int) ∧ (n_2 + (1 : Int)) * (n_2 + (2 : Int)) ≤ Go.IntKind.i64.max) ∧
                                                      ((0 : Int) ≤ (n_2 + (1 : Int)) * (n_2 + (2 : Int)) / (2 : Int) ∧
                                                          (n_2 + (1 : Int)) * (n_2 + (2 : Int)) / (2 : Int) ≤ (1000 : Int)) ∧
                                                        ((0 : Int) ≤ n_1 + (5 : Int) * (((2 : Int) * n + (3 : Int) * n_1) % (5 : Int)) ∧
                                                            n_1 + (5 : Int) * (((2 : Int) * n + (3 : Int) * n_1) % (5 : Int)) < (↑(25 : Nat) : Int)) ∧
                                                          (n_1 + (5 : Int) * (((2 : Int) * n + (3 : Int) * n_1) % (5 : Int))).toNat * (1 : Nat) < (25 : Nat) ∧
                                                            ((-9223372036854775808 : Int) ≤ n_2 + (1 : Int) ∧ n_2 + (1 : Int) ≤ (9223372036854775807 : Int)) ∧
                                                              (l_1 = l ∧
                                                                  (0 : Int) ≤ n_2 + (1 : Int) ∧
                                                                    n_2 + (1 : Int) ≤ (24 : Int) ∧
                                                                      n_1 = (↑(xyN (n_2 + (1 : Int)).toNat).fst : Int) ∧
                                                                        ((2 : Int) * n + (3 : Int) * n_1) % (5 : Int) =
                                                                            (↑(xyN (n_2 + (1 : Int)).toNat).snd : Int) ∧
                                                                          l_3.set ((n_1 + (5 : Int) * (((2 : Int) * n + (3 : Int) * n_1) % (5 : Int))).toNat * (1 : Nat))
                                                                              (rotW (l_1.getD ((n + (5 : Int) * n_1).toNat * (1 : Nat)) (0 : Int))
                                                                                ((n_2 + (1 : Int)) * (n_2 + (2 : Int)) / (2 : Int) % (64 : Int))) =
                                                                            rpN l (n_2 + (1 : Int)).toNat) ∧
                                                                ((24 : Int) - (n_2 + (1 : Int))).toNat < ((24 : Int) - n_2).toNat
                        else l_3 = rhoPi l
theorem e36 : ct36.VC (base.with sp35) Tryd.f36.results.toList Tryd.f36.ntmps (Tryd.f36.ntmps - ct36.ps.length) (bodyOf Tryd.f36) ann36 = P36 := by kernel_rfl
noncomputable def sp36 : SpecT := addS sp35 36 (mkF ct36)
def P37 : Prop :=
  ∀ (l : List Int),
    l.length = (25 : Nat) →
      True →
        ((l = l ∧ (0 : Int) ≤ (0 : Int) ∧ (0 : Int) ≤ (25 : Int) ∧ l = chN l (0 : Nat)) ∧ True) ∧
          ∀ (n : Int) (l_1 l_2 l_3 : List Int),
            l_1.length = (25 : Nat) →
              l_2.length = (25 : Nat) →
                l_3.length = (25 : Nat) →
                  l_1 = l ∧ (0 : Int) ≤ n ∧ n ≤ (25 : Int) ∧ l_3 = chN l n.toNat →
                    bif decide (n < (25 : Int)) then
                      ((0 : Int) ≤ n ∧ (0 : Int) < (5 : Int)) ∧
                        ((-9223372036854775808 : Int) ≤ n - n % (5 : Int) ∧ n - n % (5 : Int) ≤ (9223372036854775807 : Int)) ∧
                          ((0 : Int) ≤ n ∧ n < (↑(25 : Nat) : Int)) ∧
                            n.toNat * (1 : Nat) < (25 : Nat) ∧
                              ((-9223372036854775808 : Int) ≤ n + (2 : Int) ∧ n + (2 : Int) ≤ (9223372036854775807 : Int)) ∧
                                ((0 : Int) ≤ n + (2 : Int) ∧ (0 : Int) < (5 : Int)) ∧
                                  ((-9223372036854775808 : Int) ≤ n - n % (5 : Int) + (n + (2 : Int)) % (5 : Int) ∧
                                      n - n % (5 : Int) + (n + (2 : Int)) % (5 : Int) ≤ (9223372036854775807 : Int)) ∧
                                    ((0 : Int) ≤ n - n % (5 : Int) + (n + (2 : Int)) % (5 : Int) ∧ n - n % (5 : Int) + (n + (2 : Int)) % (5 : Int) < (↑(25 : Nat) : Int)) ∧
                                      (n - n % (5 : Int) + (n + (2 : Int)) % (5 : Int)).toNat * (1 : Nat) < (25 : Nat) ∧
                                        ((-9223372036854775808 : Int) ≤ n + (1 : Int) ∧ n + (1 : Int) ≤ (9223372036854775807 : Int)) ∧
                                          ((0 : Int) ≤ n + (1 : Int) ∧ (0 : Int) < (5 : Int)) ∧
                                            ((-9223372036854775808 : Int) ≤ n - n % (5 : Int) + (n + (1 : Int)) % (5 : Int) ∧
                                                n - n % (5 : Int) + (n + (1 : Int)) % (5 : Int) ≤ (9223372036854775807 : Int)) ∧
                                              ((0 : Int) ≤ n - n % (5 : Int) + (n + (1 : Int)) % (5 : Int) ∧ n - n % (5 : Int) + (n + (1 : Int)) % (5 : Int) < (↑(25 : Nat) : Int)) ∧
                                                (n - n % (5 : Int) + (n + (1 : Int)) % (5 : Int)).toNat * (1 : Nat) < (25 : Nat) ∧
                                                  ((0 : Int) ≤ n ∧ n < (↑(25 : Nat) : Int)) ∧
                                                    n.toNat * (1 : Nat) < (25 : Nat) ∧
                                                      ((-9223372036854775808 : Int) ≤ n + (1 : Int) ∧ n + (1 : Int) ≤ (9223372036854775807 : Int)) ∧
                                                        (l_1 = l ∧
                                                            (0 : Int) ≤ n + (1 : Int) ∧
                                                              n + (1 : Int) ≤ (25 : Int) ∧
                                                                l_3.set (n.toNat * (1 : Nat))
                                                                    (bXor Go.IntKind.u64 (l_3.getD (n.toNat * (1 : Nat)) (0 : Int))
                                                                      (bAndNot Go.IntKind.u64
                                                                        (l_1.getD ((n - n % (5 : Int) + (n + (2 : Int)) % (5 : Int)).toNat * (1 : Nat)) (0 : Int))
                                                                        (l_1.getD ((n - n % (5 : Int) + (n + (1 : Int)) % (5 : Int)).toNat * (1 : Nat)) (0 : Int)))) =
                                                                  chN l (n + (1 : Int)).toNat) ∧
                                                          ((25 : Int) - (n + (1 : Int))).toNat < ((25 : Int) - n).toNat
                    else l_3 = chi l
theorem e37 : ct37.VC (base.with sp36) Tryd.f37.results.toList Tryd.f37.ntmps (Tryd.f37.ntmps - ct37.ps.length) (bodyOf Tryd.f37) ann37 = P37 := by kernel_rfl
noncomputable def sp37 : SpecT := addS sp36 37 (mkF ct37)
def P16 : Prop :=
  ∀ (l : List Int) (n : Int),
    l.length = (25 : Nat) →
      True →
        True ∧
          True ∧
            True ∧
              ((0 : Int) ≤ (0 : Int) ∧ (0 : Int) < (↑(25 : Nat) : Int)) ∧
                (0 : Nat) < (25 : Nat) ∧
                  True ∧
                    ((0 : Int) ≤ (0 : Int) ∧ (0 : Int) < (↑(25 : Nat) : Int)) ∧
                      (0 : Nat) < (25 : Nat) ∧
                        (chi (rhoPi (theta l))).set (0 : Nat)
                            (bXor Go.IntKind.u64
                              ((chi (rhoPi (theta l))).getD (0 : Nat) (0 : Int))
                              (rcOf n)) =
                          round l n
theorem e16 : ct16.VC (base.with sp37) Tryd.f16.results.toList Tryd.f16.ntmps (Tryd.f16.ntmps - ct16.ps.length) (bodyOf Tryd.f16) noAnn = P16 := by kernel_rfl
noncomputable def sp16 : SpecT := addS sp37 16 (mkF ct16)
def P17 : Prop :=
  ∀ (l : List Int),
    l.length = (25 : Nat) →
      True →
        (((0 : Int) ≤ (0 : Int) ∧ (0 : Int) ≤ (24 : Int) ∧ l = permN l (0 : Nat)) ∧ True) ∧
          ∀ (n : Int) (l_1 l_2 : List Int),
            l_1.length = (25 : Nat) →
              l_2.length = (25 : Nat) →
                (0 : Int) ≤ n ∧ n ≤ (24 : Int) ∧ l_1 = permN l n.toNat →
                  bif decide (n < (24 : Int)) then
                    True ∧
                      ((-9223372036854775808 : Int) ≤ n + (1 : Int) ∧ n + (1 : Int) ≤ (9223372036854775807 : Int)) ∧
                        ((0 : Int) ≤ n + (1 : Int) ∧
                            n + (1 : Int) ≤ (24 : Int) ∧ round l_1 n = permN l (n + (1 : Int)).toNat) ∧
                          ((24 : Int) - (n + (1 : Int))).toNat < ((24 : Int) - n).toNat
                  else l_1 = perm l
theorem e17 : ct17.VC (base.with sp16) Tryd.f17.results.toList Tryd.f17.ntmps (Tryd.f17.ntmps - ct17.ps.length) (bodyOf Tryd.f17) ann17 = P17 := by kernel_rfl
noncomputable def sp17 : SpecT := addS sp16 17 (mkF ct17)
def P12 : Prop :=
  True →
    True ∧
      ((0 : Int) ≤ (0 : Int) ∧ (0 : Int) < (↑(25 : Nat) : Int) ∧ (0 : Nat) < (25 : Nat)) ∧
        decide
            ((perm
                    [(0 : Int), (0 : Int), (0 : Int), (0 : Int), (0 : Int), (0 : Int), (0 : Int), (0 : Int), (0 : Int), (0 : Int), (0 : Int), (0 : Int), (0 : Int), (0 : Int),
                      (0 : Int), (0 : Int), (0 : Int), (0 : Int), (0 : Int), (0 : Int), (0 : Int), (0 : Int), (0 : Int), (0 : Int), (0 : Int)]).getD
                (0 : Nat) (0 : Int) =
              (17376452488221285863 : Int)) =
          true
theorem e12 : ct12.VC (base.with sp17) Tryd.f12.results.toList Tryd.f12.ntmps (Tryd.f12.ntmps - ct12.ps.length) (bodyOf Tryd.f12) noAnn = P12 := by kernel_rfl
noncomputable def sp12 : SpecT := addS sp17 12 (mkF ct12)
end Go.Proofs.YtganbceicojfmaaDoor
