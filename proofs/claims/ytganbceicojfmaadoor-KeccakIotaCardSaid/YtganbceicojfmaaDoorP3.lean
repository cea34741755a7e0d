/-
  Conditions of contracts, as the kernel reckons them (printed by a program of ours, checked by the kernel).
-/
import Derived.Test.YtganbceicojfmaaDoorS3
namespace Go.Proofs.YtganbceicojfmaaDoor
open Go Go.Avc Go.Proofs
set_option linter.unusedVariables false
set_option maxRecDepth 100000
def P31 : Prop :=
  ∀ (l : List Bool),
    l.length = (1600 : Nat) →
      True →
        ((l = l ∧
              (0 : Int) ≤ (0 : Int) ∧
                (0 : Int) ≤ (5 : Int) ∧
                  List.replicate (1600 : Nat) false =
                    fill3 at3 (chV l) (5 : Nat) (64 : Nat)
                      (List.replicate (1600 : Nat) false) (0 : Nat)) ∧
            True) ∧
          ∀ (n : Int) (l_1 l_2 l_3 : List Bool),
            l_1.length = (1600 : Nat) →
              l_2.length = (1600 : Nat) →
                l_3.length = (1600 : Nat) →
                  l_1 = l ∧
                      (0 : Int) ≤ n ∧
                        n ≤ (5 : Int) ∧
                          l_3 =
                            fill3 at3 (chV l) (5 : Nat) (64 : Nat)
                              (List.replicate (1600 : Nat) false) n.toNat →
                    bif decide (n < (5 : Int)) then
                      ((n = n ∧
                            l_1 = l_1 ∧
                              (0 : Int) ≤ (0 : Int) ∧
                                (0 : Int) ≤ (5 : Int) ∧
                                  l_3 =
                                    fill2 (at3 n.toNat) (chV l_1 n.toNat) (64 : Nat) l_3
                                      (0 : Nat)) ∧
                          True) ∧
                        ∀ (n_1 n_2 : Int) (l_4 l_5 l_6 : List Bool),
                          l_4.length = (1600 : Nat) →
                            l_5.length = (1600 : Nat) →
                              l_6.length = (1600 : Nat) →
                                n_1 = n ∧
                                    l_4 = l_1 ∧
                                      (0 : Int) ≤ n_2 ∧
                                        n_2 ≤ (5 : Int) ∧
                                          l_6 =
                                            fill2 (at3 n.toNat) (chV l_1 n.toNat)
                                              (64 : Nat) l_3 n_2.toNat →
                                  bif decide (n_2 < (5 : Int)) then
                                    ((n_1 = n_1 ∧
                                          n_2 = n_2 ∧
                                            l_4 = l_4 ∧
                                              (0 : Int) ≤ (0 : Int) ∧
                                                (0 : Int) ≤ (64 : Int) ∧
                                                  l_6 =
                                                    fillN (at3 n_1.toNat n_2.toNat)
                                                      (chV l_4 n_1.toNat n_2.toNat) l_6 (0 : Nat)) ∧
                                        True) ∧
                                      ∀ (n_3 n_4 n_5 : Int) (l l_7 l_8 : List Bool),
                                        l.length = (1600 : Nat) →
                                          l_7.length = (1600 : Nat) →
                                            l_8.length = (1600 : Nat) →
                                              n_3 = n_1 ∧
                                                  n_4 = n_2 ∧
                                                    l = l_4 ∧
                                                      (0 : Int) ≤ n_5 ∧
                                                        n_5 ≤ (64 : Int) ∧
                                                          l_8 =
                                                            fillN (at3 n_1.toNat n_2.toNat)
                                                              (chV l_4 n_1.toNat n_2.toNat) l_6 n_5.toNat →
                                                bif decide (n_5 < (64 : Int)) then
                                                  ((0 : Int) ≤ n_3 ∧ n_3 < (↑(5 : Nat) : Int)) ∧
                                                    ((0 : Int) ≤ n_4 ∧ n_4 < (↑(5 : Nat) : Int)) ∧
                                                      ((0 : Int) ≤ n_5 ∧ n_5 < (↑(64 : Nat) : Int)) ∧
                                                        n_3.toNat * (320 : Nat) + n_4.toNat * (64 : Nat) + n_5.toNat * (1 : Nat) < (1600 : Nat) ∧
                                                          ((-9223372036854775808 : Int) ≤ n_3 + (1 : Int) ∧ n_3 + (1 : Int) ≤ (9223372036854775807 : Int)) ∧
                                                            ((0 : Int) ≤ n_3 + (1 : Int) ∧ (0 : Int) < (5 : Int)) ∧
                                                              ((0 : Int) ≤ (n_3 + (1 : Int)) % (5 : Int) ∧ (n_3 + (1 : Int)) % (5 : Int) < (↑(5 : Nat) : Int)) ∧
                                                                ((0 : Int) ≤ n_4 ∧ n_4 < (↑(5 : Nat) : Int)) ∧
                                                                  ((0 : Int) ≤ n_5 ∧ n_5 < (↑(64 : Nat) : Int)) ∧
                                                                    ((n_3 + (1 : Int)) % (5 : Int)).toNat * (320 : Nat) + n_4.toNat * (64 : Nat) + n_5.toNat * (1 : Nat) <
                                                                        (1600 : Nat) ∧
                                                                      ((!l.getD (((n_3 + (1 : Int)) % (5 : Int)).toNat * (320 : Nat) + n_4.toNat * (64 : Nat) + n_5.toNat * (1 : Nat))
                                                                                false) =
                                                                            true →
                                                                          (-9223372036854775808 : Int) ≤ n_3 + (2 : Int) ∧ n_3 + (2 : Int) ≤ (9223372036854775807 : Int)) ∧
                                                                        ((!l.getD
                                                                                  (((n_3 + (1 : Int)) % (5 : Int)).toNat * (320 : Nat) + n_4.toNat * (64 : Nat) +
                                                                                    n_5.toNat * (1 : Nat))
                                                                                  false) =
                                                                              true →
                                                                            (0 : Int) ≤ n_3 + (2 : Int) ∧ (0 : Int) < (5 : Int)) ∧
                                                                          ((!l.getD
                                                                                    (((n_3 + (1 : Int)) % (5 : Int)).toNat * (320 : Nat) + n_4.toNat * (64 : Nat) +
                                                                                      n_5.toNat * (1 : Nat))
                                                                                    false) =
                                                                                true →
                                                                              (0 : Int) ≤ (n_3 + (2 : Int)) % (5 : Int) ∧ (n_3 + (2 : Int)) % (5 : Int) < (↑(5 : Nat) : Int)) ∧
                                                                            ((!l.getD
                                                                                      (((n_3 + (1 : Int)) % (5 : Int)).toNat * (320 : Nat) + n_4.toNat * (64 : Nat) +
                                                                                        n_5.toNat * (1 : Nat))
                                                                                      false) =
                                                                                  true →
                                                                                (0 : Int) ≤ n_4 ∧ n_4 < (↑(5 : Nat) : Int)) ∧
                                                                              ((!l.getD
                                                                                        (((n_3 + (1 : Int)) % (5 : Int)).toNat * (320 : Nat) + n_4.toNat * (64 : Nat) +
                                                                                          n_5.toNat * (1 : Nat))
                                                                                        false) =
                                                                                    true →
                                                                                  (0 : Int) ≤ n_5 ∧ n_5 < (↑(64 : Nat) : Int)) ∧
                                                                                ((!l.getD
                                                                                          (((n_3 + (1 : Int)) % (5 : Int)).toNat * (320 : Nat) + n_4.toNat * (64 : Nat) +
                                                                                            n_5.toNat * (1 : Nat))
                                                                                          false) =
                                                                                      true →
                                                                                    ((n_3 + (2 : Int)) % (5 : Int)).toNat * (320 : Nat) + n_4.toNat * (64 : Nat) +
                                                                                        n_5.toNat * (1 : Nat) <
                                                                                      (1600 : Nat)) ∧
                                                                                  ((0 : Int) ≤ n_3 ∧ n_3 < (↑(5 : Nat) : Int)) ∧
                                                                                    ((0 : Int) ≤ n_4 ∧ n_4 < (↑(5 : Nat) : Int)) ∧
                                                                                      ((0 : Int) ≤ n_5 ∧ n_5 < (↑(64 : Nat) : Int)) ∧
                                                                                        n_3.toNat * (320 : Nat) + n_4.toNat * (64 : Nat) + n_5.toNat * (1 : Nat) < (1600 : Nat) ∧
                                                                                          ((-9223372036854775808 : Int) ≤ n_5 + (1 : Int) ∧
                                                                                              n_5 + (1 : Int) ≤ (9223372036854775807 : Int)) ∧
                                                                                            (n_3 = n_1 ∧
                                                                                                n_4 = n_2 ∧
                                                                                                  l = l_4 ∧
                                                                                                    (0 : Int) ≤ n_5 + (1 : Int) ∧
                                                                                                      n_5 + (1 : Int) ≤ (64 : Int) ∧
                                                                                                        l_8.set
                                                                                                            (n_3.toNat * (320 : Nat) + n_4.toNat * (64 : Nat) + n_5.toNat * (1 : Nat))
                                                                                                            (l.getD
                                                                                                                (n_3.toNat * (320 : Nat) + n_4.toNat * (64 : Nat) +
                                                                                                                  n_5.toNat * (1 : Nat))
                                                                                                                false !=
                                                                                                              (!l.getD
                                                                                                                    (((n_3 + (1 : Int)) % (5 : Int)).toNat * (320 : Nat) +
                                                                                                                        n_4.toNat * (64 : Nat) +
                                                                                                                      n_5.toNat * (1 : Nat))
                                                                                                                    false &&
                                                                                                                l.getD
                                                                                                                  (((n_3 + (2 : Int)) % (5 : Int)).toNat * (320 : Nat) +
                                                                                                                      n_4.toNat * (64 : Nat) +
                                                                                                                    n_5.toNat * (1 : Nat))
                                                                                                                  false)) =
                                                                                                          fillN
                                                                                                            (at3 n_1.toNat n_2.toNat)
                                                                                                            (chV l_4 n_1.toNat n_2.toNat) l_6
                                                                                                            (n_5 + (1 : Int)).toNat) ∧
                                                                                              ((64 : Int) - (n_5 + (1 : Int))).toNat < ((64 : Int) - n_5).toNat
                                                else
                                                  ((-9223372036854775808 : Int) ≤ n_4 + (1 : Int) ∧ n_4 + (1 : Int) ≤ (9223372036854775807 : Int)) ∧
                                                    (n_3 = n ∧
                                                        l = l_1 ∧
                                                          (0 : Int) ≤ n_4 + (1 : Int) ∧
                                                            n_4 + (1 : Int) ≤ (5 : Int) ∧
                                                              l_8 =
                                                                fill2 (at3 n.toNat)
                                                                  (chV l_1 n.toNat) (64 : Nat) l_3 (n_4 + (1 : Int)).toNat) ∧
                                                      ((5 : Int) - (n_4 + (1 : Int))).toNat < ((5 : Int) - n_2).toNat
                                  else
                                    ((-9223372036854775808 : Int) ≤ n_1 + (1 : Int) ∧ n_1 + (1 : Int) ≤ (9223372036854775807 : Int)) ∧
                                      (l_4 = l ∧
                                          (0 : Int) ≤ n_1 + (1 : Int) ∧
                                            n_1 + (1 : Int) ≤ (5 : Int) ∧
                                              l_6 =
                                                fill3 at3 (chV l) (5 : Nat) (64 : Nat)
                                                  (List.replicate (1600 : Nat) false) (n_1 + (1 : Int)).toNat) ∧
                                        ((5 : Int) - (n_1 + (1 : Int))).toNat < ((5 : Int) - n).toNat
                    else l_3 = chiB l
theorem e31 : ct31.VC (base.with sp19) Tryd.f31.results.toList Tryd.f31.ntmps (Tryd.f31.ntmps - ct31.ps.length) (bodyOf Tryd.f31) ann31 = P31 := by kernel_rfl
noncomputable def sp31 : SpecT := addS sp19 31 (mkF ct31)
def P32 : Prop :=
  ∀ (l : List Bool),
    l.length = (1600 : Nat) →
      True →
        ((l = l ∧
              (0 : Int) ≤ (0 : Int) ∧
                (0 : Int) ≤ (5 : Int) ∧ List.replicate (1600 : Nat) false = piX l (List.replicate (1600 : Nat) false) (0 : Nat)) ∧
            True) ∧
          ∀ (n : Int) (l_1 l_2 l_3 : List Bool),
            l_1.length = (1600 : Nat) →
              l_2.length = (1600 : Nat) →
                l_3.length = (1600 : Nat) →
                  l_1 = l ∧ (0 : Int) ≤ n ∧ n ≤ (5 : Int) ∧ l_3 = piX l (List.replicate (1600 : Nat) false) n.toNat →
                    bif decide (n < (5 : Int)) then
                      ((n = n ∧ l_1 = l_1 ∧ (0 : Int) ≤ (0 : Int) ∧ (0 : Int) ≤ (5 : Int) ∧ l_3 = piY l_1 n.toNat l_3 (0 : Nat)) ∧ True) ∧
                        ∀ (n_1 n_2 : Int) (l_4 l_5 l_6 : List Bool),
                          l_4.length = (1600 : Nat) →
                            l_5.length = (1600 : Nat) →
                              l_6.length = (1600 : Nat) →
                                n_1 = n ∧ l_4 = l_1 ∧ (0 : Int) ≤ n_2 ∧ n_2 ≤ (5 : Int) ∧ l_6 = piY l_1 n.toNat l_3 n_2.toNat →
                                  bif decide (n_2 < (5 : Int)) then
                                    ((-9223372036854775808 : Int) ≤ (2 : Int) * n_1 ∧ (2 : Int) * n_1 ≤ (9223372036854775807 : Int)) ∧
                                      ((-9223372036854775808 : Int) ≤ (3 : Int) * n_2 ∧ (3 : Int) * n_2 ≤ (9223372036854775807 : Int)) ∧
                                        ((-9223372036854775808 : Int) ≤ (2 : Int) * n_1 + (3 : Int) * n_2 ∧ (2 : Int) * n_1 + (3 : Int) * n_2 ≤ (9223372036854775807 : Int)) ∧
                                          ((0 : Int) ≤ (2 : Int) * n_1 + (3 : Int) * n_2 ∧ (0 : Int) < (5 : Int)) ∧
                                            ((0 : Int) ≤ n_1 ∧ n_1 < (↑(5 : Nat) : Int)) ∧
                                              ((0 : Int) ≤ n_2 ∧ n_2 < (↑(5 : Nat) : Int)) ∧
                                                n_1.toNat * (320 : Nat) + n_2.toNat * (64 : Nat) + (64 : Nat) ≤ (1600 : Nat) ∧
                                                  ((0 : Int) ≤ n_2 ∧ n_2 < (↑(5 : Nat) : Int)) ∧
                                                    ((0 : Int) ≤ ((2 : Int) * n_1 + (3 : Int) * n_2) % (5 : Int) ∧
                                                        ((2 : Int) * n_1 + (3 : Int) * n_2) % (5 : Int) < (↑(5 : Nat) : Int)) ∧
                                                      n_2.toNat * (320 : Nat) + (((2 : Int) * n_1 + (3 : Int) * n_2) % (5 : Int)).toNat * (64 : Nat) + (64 : Nat) ≤ (1600 : Nat) ∧
                                                        ((-9223372036854775808 : Int) ≤ n_2 + (1 : Int) ∧ n_2 + (1 : Int) ≤ (9223372036854775807 : Int)) ∧
                                                          (n_1 = n ∧
                                                              l_4 = l_1 ∧
                                                                (0 : Int) ≤ n_2 + (1 : Int) ∧
                                                                  n_2 + (1 : Int) ≤ (5 : Int) ∧
                                                                    List.take (n_2.toNat * (320 : Nat) + (((2 : Int) * n_1 + (3 : Int) * n_2) % (5 : Int)).toNat * (64 : Nat)) l_6 ++
                                                                          List.take (64 : Nat) (List.drop (n_1.toNat * (320 : Nat) + n_2.toNat * (64 : Nat)) l_4) ++
                                                                        List.drop
                                                                          (n_2.toNat * (320 : Nat) + (((2 : Int) * n_1 + (3 : Int) * n_2) % (5 : Int)).toNat * (64 : Nat) +
                                                                            (64 : Nat))
                                                                          l_6 =
                                                                      piY l_1 n.toNat l_3 (n_2 + (1 : Int)).toNat) ∧
                                                            ((5 : Int) - (n_2 + (1 : Int))).toNat < ((5 : Int) - n_2).toNat
                                  else
                                    ((-9223372036854775808 : Int) ≤ n_1 + (1 : Int) ∧ n_1 + (1 : Int) ≤ (9223372036854775807 : Int)) ∧
                                      (l_4 = l ∧
                                          (0 : Int) ≤ n_1 + (1 : Int) ∧
                                            n_1 + (1 : Int) ≤ (5 : Int) ∧ l_6 = piX l (List.replicate (1600 : Nat) false) (n_1 + (1 : Int)).toNat) ∧
                                        ((5 : Int) - (n_1 + (1 : Int))).toNat < ((5 : Int) - n).toNat
                    else l_3 = piB l
theorem e32 : ct32.VC (base.with sp31) Tryd.f32.results.toList Tryd.f32.ntmps (Tryd.f32.ntmps - ct32.ps.length) (bodyOf Tryd.f32) ann32 = P32 := by kernel_rfl
noncomputable def sp32 : SpecT := addS sp31 32 (mkF ct32)
def P33 : Prop :=
  ∀ (l : List Bool),
    l.length = (1600 : Nat) →
      True →
        ((0 : Int) ≤ (0 : Int) ∧ (0 : Int) < (↑(5 : Nat) : Int)) ∧
          ((0 : Int) ≤ (0 : Int) ∧ (0 : Int) < (↑(5 : Nat) : Int)) ∧
            (64 : Nat) ≤ (1600 : Nat) ∧
              ((0 : Int) ≤ (0 : Int) ∧ (0 : Int) < (↑(5 : Nat) : Int)) ∧
                ((0 : Int) ≤ (0 : Int) ∧ (0 : Int) < (↑(5 : Nat) : Int)) ∧
                  (64 : Nat) ≤ (1600 : Nat) ∧
                    ((l = l ∧
                          (0 : Int) ≤ (0 : Int) ∧
                            (0 : Int) ≤ (24 : Int) ∧
                              (1 : Int) = (↑(1 : Nat) : Int) ∧
                                (0 : Int) = (↑(0 : Nat) : Int) ∧
                                  [] ++ List.take (64 : Nat) (List.drop (0 : Nat) l) ++ List.replicate 1536 false = rhN l (0 : Nat)) ∧
                        True) ∧
                      ∀ (n n_1 n_2 : Int) (l_1 l_2 l_3 : List Bool),
                        l_1.length = (1600 : Nat) →
                          l_2.length = (1600 : Nat) →
                            l_3.length = (1600 : Nat) →
                              l_1 = l ∧
                                  (0 : Int) ≤ n_2 ∧
                                    n_2 ≤ (24 : Int) ∧
                                      n = (↑(xyN n_2.toNat).fst : Int) ∧
                                        n_1 = (↑(xyN n_2.toNat).snd : Int) ∧ l_3 = rhN l n_2.toNat →
                                bif decide (n_2 < (24 : Int)) then
                                  ((n = n ∧
                                        n_1 = n_1 ∧
                                          n_2 = n_2 ∧
                                            l_1 = l_1 ∧ (0 : Int) ≤ (0 : Int) ∧ (0 : Int) ≤ (64 : Int) ∧ l_3 = rhZ l_1 n_2.toNat l_3 (0 : Nat)) ∧
                                      True) ∧
                                    ∀ (n_3 n_4 n_5 n_6 : Int) (l_4 l_5 l_6 : List Bool),
                                      l_4.length = (1600 : Nat) →
                                        l_5.length = (1600 : Nat) →
                                          l_6.length = (1600 : Nat) →
                                            n_3 = n ∧
                                                n_4 = n_1 ∧
                                                  n_5 = n_2 ∧ l_4 = l_1 ∧ (0 : Int) ≤ n_6 ∧ n_6 ≤ (64 : Int) ∧ l_6 = rhZ l_1 n_2.toNat l_3 n_6.toNat →
                                              bif decide (n_6 < (64 : Int)) then
                                                ((-9223372036854775808 : Int) ≤ n_5 + (1 : Int) ∧ n_5 + (1 : Int) ≤ (9223372036854775807 : Int)) ∧
                                                  ((-9223372036854775808 : Int) ≤ n_5 + (2 : Int) ∧ n_5 + (2 : Int) ≤ (9223372036854775807 : Int)) ∧
                                                    ((-9223372036854775808 : Int) ≤ (n_5 + (1 : Int)) * (n_5 + (2 : Int)) ∧
                                                        (n_5 + (1 : Int)) * (n_5 + (2 : Int)) ≤ (9223372036854775807 : Int)) ∧
                                                      ((0 : Int) ≤ (n_5 + (1 : Int)) * (n_5 + (2 : Int)) ∧
                                                          (0 : Int) < (2 : Int) ∧ (n_5 + (1 : Int)) * (n_5 + (2 : Int)) ≤ Go.IntKind.i64.max) ∧
                                                        ((-9223372036854775808 : Int) ≤ n_6 + (n_5 + (1 : Int)) * (n_5 + (2 : Int)) / (2 : Int) ∧
                                                            n_6 + (n_5 + (1 : Int)) * (n_5 + (2 : Int)) / (2 : Int) ≤ (9223372036854775807 : Int)) ∧
                                                          ((0 : Int) ≤ n_6 + (n_5 + (1 : Int)) * (n_5 + (2 : Int)) / (2 : Int) ∧ (0 : Int) < (64 : Int)) ∧
                                                            ((0 : Int) ≤ n_3 ∧ n_3 < (↑(5 : Nat) : Int)) ∧
                                                              ((0 : Int) ≤ n_4 ∧ n_4 < (↑(5 : Nat) : Int)) ∧
                                                                ((0 : Int) ≤ n_6 ∧ n_6 < (↑(64 : Nat) : Int)) ∧
                                                                  n_3.toNat * (320 : Nat) + n_4.toNat * (64 : Nat) + n_6.toNat * (1 : Nat) < (1600 : Nat) ∧
                                                                    ((0 : Int) ≤ n_3 ∧ n_3 < (↑(5 : Nat) : Int)) ∧
                                                                      ((0 : Int) ≤ n_4 ∧ n_4 < (↑(5 : Nat) : Int)) ∧
                                                                        ((0 : Int) ≤ (n_6 + (n_5 + (1 : Int)) * (n_5 + (2 : Int)) / (2 : Int)) % (64 : Int) ∧
                                                                            (n_6 + (n_5 + (1 : Int)) * (n_5 + (2 : Int)) / (2 : Int)) % (64 : Int) < (↑(64 : Nat) : Int)) ∧
                                                                          n_3.toNat * (320 : Nat) + n_4.toNat * (64 : Nat) +
                                                                                ((n_6 + (n_5 + (1 : Int)) * (n_5 + (2 : Int)) / (2 : Int)) % (64 : Int)).toNat * (1 : Nat) <
                                                                              (1600 : Nat) ∧
                                                                            ((-9223372036854775808 : Int) ≤ n_6 + (1 : Int) ∧ n_6 + (1 : Int) ≤ (9223372036854775807 : Int)) ∧
                                                                              (n_3 = n ∧
                                                                                  n_4 = n_1 ∧
                                                                                    n_5 = n_2 ∧
                                                                                      l_4 = l_1 ∧
                                                                                        (0 : Int) ≤ n_6 + (1 : Int) ∧
                                                                                          n_6 + (1 : Int) ≤ (64 : Int) ∧
                                                                                            l_6.set
                                                                                                (n_3.toNat * (320 : Nat) + n_4.toNat * (64 : Nat) +
                                                                                                  ((n_6 + (n_5 + (1 : Int)) * (n_5 + (2 : Int)) / (2 : Int)) % (64 : Int)).toNat *
                                                                                                    (1 : Nat))
                                                                                                (l_4.getD (n_3.toNat * (320 : Nat) + n_4.toNat * (64 : Nat) + n_6.toNat * (1 : Nat))
                                                                                                  false) =
                                                                                              rhZ l_1 n_2.toNat l_3 (n_6 + (1 : Int)).toNat) ∧
                                                                                ((64 : Int) - (n_6 + (1 : Int))).toNat < ((64 : Int) - n_6).toNat
                                              else
                                                ((-9223372036854775808 : Int) ≤ (2 : Int) * n_3 ∧ (2 : Int) * n_3 ≤ (9223372036854775807 : Int)) ∧
                                                  ((-9223372036854775808 : Int) ≤ (3 : Int) * n_4 ∧ (3 : Int) * n_4 ≤ (9223372036854775807 : Int)) ∧
                                                    ((-9223372036854775808 : Int) ≤ (2 : Int) * n_3 + (3 : Int) * n_4 ∧
                                                        (2 : Int) * n_3 + (3 : Int) * n_4 ≤ (9223372036854775807 : Int)) ∧
                                                      ((0 : Int) ≤ (2 : Int) * n_3 + (3 : Int) * n_4 ∧ (0 : Int) < (5 : Int)) ∧
                                                        ((-9223372036854775808 : Int) ≤ n_5 + (1 : Int) ∧ n_5 + (1 : Int) ≤ (9223372036854775807 : Int)) ∧
                                                          (l_4 = l ∧
                                                              (0 : Int) ≤ n_5 + (1 : Int) ∧
                                                                n_5 + (1 : Int) ≤ (24 : Int) ∧
                                                                  n_4 = (↑(xyN (n_5 + (1 : Int)).toNat).fst : Int) ∧
                                                                    ((2 : Int) * n_3 + (3 : Int) * n_4) % (5 : Int) =
                                                                        (↑(xyN (n_5 + (1 : Int)).toNat).snd : Int) ∧
                                                                      l_6 = rhN l (n_5 + (1 : Int)).toNat) ∧
                                                            ((24 : Int) - (n_5 + (1 : Int))).toNat < ((24 : Int) - n_2).toNat
                                else l_3 = rhoB l
theorem e33 : ct33.VC (base.with sp32) Tryd.f33.results.toList Tryd.f33.ntmps (Tryd.f33.ntmps - ct33.ps.length) (bodyOf Tryd.f33) ann33 = P33 := by kernel_rfl
noncomputable def sp33 : SpecT := addS sp32 33 (mkF ct33)
def P34 : Prop :=
  ∀ (l : List Bool),
    l.length = (1600 : Nat) →
      True →
        ((l = l ∧
              (0 : Int) ≤ (0 : Int) ∧
                (0 : Int) ≤ (5 : Int) ∧
                  List.replicate (320 : Nat) false =
                    fill2 (fun x z => x * (64 : Nat) + z)
                      (fun x z => decide (cnt l x z (5 : Nat) % (2 : Int) = (1 : Int))) (64 : Nat) (List.replicate (320 : Nat) false) (0 : Nat)) ∧
            True) ∧
          ∀ (n : Int) (l_1 l_2 l_3 : List Bool),
            l_1.length = (1600 : Nat) →
              l_2.length = (1600 : Nat) →
                l_3.length = (320 : Nat) →
                  l_1 = l ∧
                      (0 : Int) ≤ n ∧
                        n ≤ (5 : Int) ∧
                          l_3 =
                            fill2 (fun x z => x * (64 : Nat) + z)
                              (fun x z => decide (cnt l x z (5 : Nat) % (2 : Int) = (1 : Int))) (64 : Nat) (List.replicate (320 : Nat) false) n.toNat →
                    bif decide (n < (5 : Int)) then
                      ((n = n ∧
                            l_1 = l_1 ∧
                              (0 : Int) ≤ (0 : Int) ∧
                                (0 : Int) ≤ (64 : Int) ∧
                                  l_3 =
                                    fillN (fun z => n.toNat * (64 : Nat) + z)
                                      (fun z => decide (cnt l_1 n.toNat z (5 : Nat) % (2 : Int) = (1 : Int))) l_3 (0 : Nat)) ∧
                          True) ∧
                        ∀ (n_1 n_2 : Int) (l_4 l_5 l_6 : List Bool),
                          l_4.length = (1600 : Nat) →
                            l_5.length = (1600 : Nat) →
                              l_6.length = (320 : Nat) →
                                n_1 = n ∧
                                    l_4 = l_1 ∧
                                      (0 : Int) ≤ n_2 ∧
                                        n_2 ≤ (64 : Int) ∧
                                          l_6 =
                                            fillN (fun z => n.toNat * (64 : Nat) + z)
                                              (fun z => decide (cnt l_1 n.toNat z (5 : Nat) % (2 : Int) = (1 : Int))) l_3 n_2.toNat →
                                  bif decide (n_2 < (64 : Int)) then
                                    ((n_1 = n_1 ∧
                                          n_2 = n_2 ∧
                                            l_4 = l_4 ∧
                                              l_6 = l_6 ∧
                                                (0 : Int) ≤ (0 : Int) ∧
                                                  (0 : Int) ≤ (5 : Int) ∧
                                                    (0 : Int) = cnt l_4 n_1.toNat n_2.toNat (0 : Nat) ∧
                                                      (0 : Int) ≤ (0 : Int) ∧ (0 : Int) ≤ (0 : Int)) ∧
                                        True) ∧
                                      ∀ (n_3 n_4 n_5 n_6 : Int) (l l_7 l_8 : List Bool),
                                        l.length = (1600 : Nat) →
                                          l_7.length = (1600 : Nat) →
                                            l_8.length = (320 : Nat) →
                                              n_3 = n_1 ∧
                                                  n_4 = n_2 ∧
                                                    l = l_4 ∧
                                                      l_8 = l_6 ∧
                                                        (0 : Int) ≤ n_6 ∧
                                                          n_6 ≤ (5 : Int) ∧ n_5 = cnt l_4 n_1.toNat n_2.toNat n_6.toNat ∧ (0 : Int) ≤ n_5 ∧ n_5 ≤ n_6 →
                                                bif decide (n_6 < (5 : Int)) then
                                                  ((0 : Int) ≤ n_3 ∧ n_3 < (↑(5 : Nat) : Int)) ∧
                                                    ((0 : Int) ≤ n_6 ∧ n_6 < (↑(5 : Nat) : Int)) ∧
                                                      ((0 : Int) ≤ n_4 ∧ n_4 < (↑(64 : Nat) : Int)) ∧
                                                        n_3.toNat * (320 : Nat) + n_6.toNat * (64 : Nat) + n_4.toNat * (1 : Nat) < (1600 : Nat) ∧
                                                          bif l.getD (n_3.toNat * (320 : Nat) + n_6.toNat * (64 : Nat) + n_4.toNat * (1 : Nat)) false then
                                                            ((-9223372036854775808 : Int) ≤ n_5 + (1 : Int) ∧ n_5 + (1 : Int) ≤ (9223372036854775807 : Int)) ∧
                                                              ((-9223372036854775808 : Int) ≤ n_6 + (1 : Int) ∧ n_6 + (1 : Int) ≤ (9223372036854775807 : Int)) ∧
                                                                (n_3 = n_1 ∧
                                                                    n_4 = n_2 ∧
                                                                      l = l_4 ∧
                                                                        l_8 = l_6 ∧
                                                                          (0 : Int) ≤ n_6 + (1 : Int) ∧
                                                                            n_6 + (1 : Int) ≤ (5 : Int) ∧
                                                                              n_5 + (1 : Int) = cnt l_4 n_1.toNat n_2.toNat (n_6 + (1 : Int)).toNat ∧
                                                                                (0 : Int) ≤ n_5 + (1 : Int) ∧ n_5 + (1 : Int) ≤ n_6 + (1 : Int)) ∧
                                                                  ((5 : Int) - (n_6 + (1 : Int))).toNat < ((5 : Int) - n_6).toNat
                                                          else
                                                            ((-9223372036854775808 : Int) ≤ n_6 + (1 : Int) ∧ n_6 + (1 : Int) ≤ (9223372036854775807 : Int)) ∧
                                                              (n_3 = n_1 ∧
                                                                  n_4 = n_2 ∧
                                                                    l = l_4 ∧
                                                                      l_8 = l_6 ∧
                                                                        (0 : Int) ≤ n_6 + (1 : Int) ∧
                                                                          n_6 + (1 : Int) ≤ (5 : Int) ∧
                                                                            n_5 = cnt l_4 n_1.toNat n_2.toNat (n_6 + (1 : Int)).toNat ∧
                                                                              (0 : Int) ≤ n_5 ∧ n_5 ≤ n_6 + (1 : Int)) ∧
                                                                ((5 : Int) - (n_6 + (1 : Int))).toNat < ((5 : Int) - n_6).toNat
                                                else
                                                  ((0 : Int) ≤ n_5 ∧ (0 : Int) < (2 : Int)) ∧
                                                    ((0 : Int) ≤ n_3 ∧ n_3 < (↑(5 : Nat) : Int)) ∧
                                                      ((0 : Int) ≤ n_4 ∧ n_4 < (↑(64 : Nat) : Int)) ∧
                                                        n_3.toNat * (64 : Nat) + n_4.toNat * (1 : Nat) < (320 : Nat) ∧
                                                          ((-9223372036854775808 : Int) ≤ n_4 + (1 : Int) ∧ n_4 + (1 : Int) ≤ (9223372036854775807 : Int)) ∧
                                                            (n_3 = n ∧
                                                                l = l_1 ∧
                                                                  (0 : Int) ≤ n_4 + (1 : Int) ∧
                                                                    n_4 + (1 : Int) ≤ (64 : Int) ∧
                                                                      l_8.set (n_3.toNat * (64 : Nat) + n_4.toNat * (1 : Nat)) (decide (n_5 % (2 : Int) = (1 : Int))) =
                                                                        fillN (fun z => n.toNat * (64 : Nat) + z)
                                                                          (fun z => decide (cnt l_1 n.toNat z (5 : Nat) % (2 : Int) = (1 : Int))) l_3
                                                                          (n_4 + (1 : Int)).toNat) ∧
                                                              ((64 : Int) - (n_4 + (1 : Int))).toNat < ((64 : Int) - n_2).toNat
                                  else
                                    ((-9223372036854775808 : Int) ≤ n_1 + (1 : Int) ∧ n_1 + (1 : Int) ≤ (9223372036854775807 : Int)) ∧
                                      (l_4 = l ∧
                                          (0 : Int) ≤ n_1 + (1 : Int) ∧
                                            n_1 + (1 : Int) ≤ (5 : Int) ∧
                                              l_6 =
                                                fill2 (fun x z => x * (64 : Nat) + z)
                                                  (fun x z => decide (cnt l x z (5 : Nat) % (2 : Int) = (1 : Int))) (64 : Nat)
                                                  (List.replicate (320 : Nat) false) (n_1 + (1 : Int)).toNat) ∧
                                        ((5 : Int) - (n_1 + (1 : Int))).toNat < ((5 : Int) - n).toNat
                    else
                      ((l_1 = l ∧
                            l_3 = parB l ∧
                              (0 : Int) ≤ (0 : Int) ∧
                                (0 : Int) ≤ (5 : Int) ∧
                                  List.replicate (1600 : Nat) false =
                                    fill3 at3 (thV l l_3) (5 : Nat) (64 : Nat)
                                      (List.replicate (1600 : Nat) false) (0 : Nat)) ∧
                          True) ∧
                        ∀ (n : Int) (l_4 l_5 l_6 l_7 : List Bool),
                          l_4.length = (1600 : Nat) →
                            l_5.length = (1600 : Nat) →
                              l_6.length = (320 : Nat) →
                                l_7.length = (1600 : Nat) →
                                  l_4 = l ∧
                                      l_6 = parB l ∧
                                        (0 : Int) ≤ n ∧
                                          n ≤ (5 : Int) ∧
                                            l_7 =
                                              fill3 at3 (thV l l_6) (5 : Nat) (64 : Nat)
                                                (List.replicate (1600 : Nat) false) n.toNat →
                                    bif decide (n < (5 : Int)) then
                                      ((n = n ∧
                                            l_4 = l_4 ∧
                                              l_6 = l_6 ∧
                                                (0 : Int) ≤ (0 : Int) ∧
                                                  (0 : Int) ≤ (5 : Int) ∧
                                                    l_7 =
                                                      fill2 (at3 n.toNat)
                                                        (thV l_4 l_6 n.toNat) (64 : Nat) l_7 (0 : Nat)) ∧
                                          True) ∧
                                        ∀ (n_1 n_2 : Int) (l_8 l_9 l_10 l_11 : List Bool),
                                          l_8.length = (1600 : Nat) →
                                            l_9.length = (1600 : Nat) →
                                              l_10.length = (320 : Nat) →
                                                l_11.length = (1600 : Nat) →
                                                  n_1 = n ∧
                                                      l_8 = l_4 ∧
                                                        l_10 = l_6 ∧
                                                          (0 : Int) ≤ n_2 ∧
                                                            n_2 ≤ (5 : Int) ∧
                                                              l_11 =
                                                                fill2 (at3 n.toNat)
                                                                  (thV l_4 l_6 n.toNat) (64 : Nat) l_7 n_2.toNat →
                                                    bif decide (n_2 < (5 : Int)) then
                                                      ((n_1 = n_1 ∧
                                                            n_2 = n_2 ∧
                                                              l_8 = l_8 ∧
                                                                l_10 = l_10 ∧
                                                                  (0 : Int) ≤ (0 : Int) ∧
                                                                    (0 : Int) ≤ (64 : Int) ∧
                                                                      l_11 =
                                                                        fillN (at3 n_1.toNat n_2.toNat)
                                                                          (thV l_8 l_10 n_1.toNat n_2.toNat) l_11 (0 : Nat)) ∧
                                                          True) ∧
                                                        ∀ (n_3 n_4 n_5 : Int) (l l_12 l_13 l_14 : List Bool),
                                                          l.length = (1600 : Nat) →
                                                            l_12.length = (1600 : Nat) →
                                                              l_13.length = (320 : Nat) →
                                                                l_14.length = (1600 : Nat) →
                                                                  n_3 = n_1 ∧
                                                                      n_4 = n_2 ∧
                                                                        l = l_8 ∧
                                                                          l_13 = l_10 ∧
                                                                            (0 : Int) ≤ n_5 ∧
                                                                              n_5 ≤ (64 : Int) ∧
                                                                                l_14 =
                                                                                  fillN (at3 n_1.toNat n_2.toNat)
                                                                                    (thV l_8 l_10 n_1.toNat n_2.toNat) l_11 n_5.toNat →
                                                                    bif decide (n_5 < (64 : Int)) then
                                                                      ((-9223372036854775808 : Int) ≤ n_3 + (4 : Int) ∧ n_3 + (4 : Int) ≤ (9223372036854775807 : Int)) ∧
                                                                        ((0 : Int) ≤ n_3 + (4 : Int) ∧ (0 : Int) < (5 : Int)) ∧
                                                                          ((0 : Int) ≤ (n_3 + (4 : Int)) % (5 : Int) ∧ (n_3 + (4 : Int)) % (5 : Int) < (↑(5 : Nat) : Int)) ∧
                                                                            ((0 : Int) ≤ n_5 ∧ n_5 < (↑(64 : Nat) : Int)) ∧
                                                                              ((n_3 + (4 : Int)) % (5 : Int)).toNat * (64 : Nat) + n_5.toNat * (1 : Nat) < (320 : Nat) ∧
                                                                                ((-9223372036854775808 : Int) ≤ n_3 + (1 : Int) ∧ n_3 + (1 : Int) ≤ (9223372036854775807 : Int)) ∧
                                                                                  ((0 : Int) ≤ n_3 + (1 : Int) ∧ (0 : Int) < (5 : Int)) ∧
                                                                                    ((-9223372036854775808 : Int) ≤ n_5 + (63 : Int) ∧
                                                                                        n_5 + (63 : Int) ≤ (9223372036854775807 : Int)) ∧
                                                                                      ((0 : Int) ≤ n_5 + (63 : Int) ∧ (0 : Int) < (64 : Int)) ∧
                                                                                        ((0 : Int) ≤ (n_3 + (1 : Int)) % (5 : Int) ∧
                                                                                            (n_3 + (1 : Int)) % (5 : Int) < (↑(5 : Nat) : Int)) ∧
                                                                                          ((0 : Int) ≤ (n_5 + (63 : Int)) % (64 : Int) ∧
                                                                                              (n_5 + (63 : Int)) % (64 : Int) < (↑(64 : Nat) : Int)) ∧
                                                                                            ((n_3 + (1 : Int)) % (5 : Int)).toNat * (64 : Nat) +
                                                                                                  ((n_5 + (63 : Int)) % (64 : Int)).toNat * (1 : Nat) <
                                                                                                (320 : Nat) ∧
                                                                                              ((0 : Int) ≤ n_3 ∧ n_3 < (↑(5 : Nat) : Int)) ∧
                                                                                                ((0 : Int) ≤ n_4 ∧ n_4 < (↑(5 : Nat) : Int)) ∧
                                                                                                  ((0 : Int) ≤ n_5 ∧ n_5 < (↑(64 : Nat) : Int)) ∧
                                                                                                    n_3.toNat * (320 : Nat) + n_4.toNat * (64 : Nat) + n_5.toNat * (1 : Nat) <
                                                                                                        (1600 : Nat) ∧
                                                                                                      ((0 : Int) ≤ n_3 ∧ n_3 < (↑(5 : Nat) : Int)) ∧
                                                                                                        ((0 : Int) ≤ n_4 ∧ n_4 < (↑(5 : Nat) : Int)) ∧
                                                                                                          ((0 : Int) ≤ n_5 ∧ n_5 < (↑(64 : Nat) : Int)) ∧
                                                                                                            n_3.toNat * (320 : Nat) + n_4.toNat * (64 : Nat) + n_5.toNat * (1 : Nat) <
                                                                                                                (1600 : Nat) ∧
                                                                                                              ((-9223372036854775808 : Int) ≤ n_5 + (1 : Int) ∧
                                                                                                                  n_5 + (1 : Int) ≤ (9223372036854775807 : Int)) ∧
                                                                                                                (n_3 = n_1 ∧
                                                                                                                    n_4 = n_2 ∧
                                                                                                                      l = l_8 ∧
                                                                                                                        l_13 = l_10 ∧
                                                                                                                          (0 : Int) ≤ n_5 + (1 : Int) ∧
                                                                                                                            n_5 + (1 : Int) ≤ (64 : Int) ∧
                                                                                                                              l_14.set
                                                                                                                                  (n_3.toNat * (320 : Nat) + n_4.toNat * (64 : Nat) +
                                                                                                                                    n_5.toNat * (1 : Nat))
                                                                                                                                  (l.getD
                                                                                                                                      (n_3.toNat * (320 : Nat) +
                                                                                                                                          n_4.toNat * (64 : Nat) +
                                                                                                                                        n_5.toNat * (1 : Nat))
                                                                                                                                      false !=
                                                                                                                                    (l_13.getD
                                                                                                                                        (((n_3 + (4 : Int)) % (5 : Int)).toNat *
                                                                                                                                            (64 : Nat) +
                                                                                                                                          n_5.toNat * (1 : Nat))
                                                                                                                                        false !=
                                                                                                                                      l_13.getD
                                                                                                                                        (((n_3 + (1 : Int)) % (5 : Int)).toNat *
                                                                                                                                            (64 : Nat) +
                                                                                                                                          ((n_5 + (63 : Int)) % (64 : Int)).toNat *
                                                                                                                                            (1 : Nat))
                                                                                                                                        false)) =
                                                                                                                                fillN
                                                                                                                                  (at3 n_1.toNat
                                                                                                                                    n_2.toNat)
                                                                                                                                  (thV l_8 l_10
                                                                                                                                    n_1.toNat n_2.toNat)
                                                                                                                                  l_11 (n_5 + (1 : Int)).toNat) ∧
                                                                                                                  ((64 : Int) - (n_5 + (1 : Int))).toNat < ((64 : Int) - n_5).toNat
                                                                    else
                                                                      ((-9223372036854775808 : Int) ≤ n_4 + (1 : Int) ∧ n_4 + (1 : Int) ≤ (9223372036854775807 : Int)) ∧
                                                                        (n_3 = n ∧
                                                                            l = l_4 ∧
                                                                              l_13 = l_6 ∧
                                                                                (0 : Int) ≤ n_4 + (1 : Int) ∧
                                                                                  n_4 + (1 : Int) ≤ (5 : Int) ∧
                                                                                    l_14 =
                                                                                      fill2 (at3 n.toNat)
                                                                                        (thV l_4 l_6 n.toNat) (64 : Nat) l_7 (n_4 + (1 : Int)).toNat) ∧
                                                                          ((5 : Int) - (n_4 + (1 : Int))).toNat < ((5 : Int) - n_2).toNat
                                                    else
                                                      ((-9223372036854775808 : Int) ≤ n_1 + (1 : Int) ∧ n_1 + (1 : Int) ≤ (9223372036854775807 : Int)) ∧
                                                        (l_8 = l ∧
                                                            l_10 = parB l ∧
                                                              (0 : Int) ≤ n_1 + (1 : Int) ∧
                                                                n_1 + (1 : Int) ≤ (5 : Int) ∧
                                                                  l_11 =
                                                                    fill3 at3
                                                                      (thV l l_10) (5 : Nat) (64 : Nat) (List.replicate (1600 : Nat) false)
                                                                      (n_1 + (1 : Int)).toNat) ∧
                                                          ((5 : Int) - (n_1 + (1 : Int))).toNat < ((5 : Int) - n).toNat
                                    else l_7 = thetaB l
theorem e34 : ct34.VC (base.with sp33) Tryd.f34.results.toList Tryd.f34.ntmps (Tryd.f34.ntmps - ct34.ps.length) (bodyOf Tryd.f34) ann34 = P34 := by kernel_rfl
noncomputable def sp34 : SpecT := addS sp33 34 (mkF ct34)
def P14 : Prop :=
  ∀ (l : List Bool) (n : Int),
    l.length = (1600 : Nat) →
      True →
        True ∧
          True ∧
            True ∧
              True ∧
                True ∧
                  ((cbits n = cbits n ∧
                        (0 : Int) ≤ (0 : Int) ∧
                          (0 : Int) ≤ (64 : Int) ∧
                            chiB (piB (rhoB (thetaB l))) =
                              addC
                                (chiB
                                  (piB (rhoB (thetaB l))))
                                (cbits n) (0 : Nat)) ∧
                      True) ∧
                    ∀ (n_1 : Int) (l_1 l_2 l_3 : List Bool),
                      l_1.length = (1600 : Nat) →
                        l_2.length = (1600 : Nat) →
                          l_3.length = (64 : Nat) →
                            l_3 = cbits n ∧
                                (0 : Int) ≤ n_1 ∧
                                  n_1 ≤ (64 : Int) ∧
                                    l_1 =
                                      addC
                                        (chiB
                                          (piB (rhoB (thetaB l))))
                                        (cbits n) n_1.toNat →
                              bif decide (n_1 < (64 : Int)) then
                                ((0 : Int) ≤ (0 : Int) ∧ (0 : Int) < (↑(5 : Nat) : Int)) ∧
                                  ((0 : Int) ≤ (0 : Int) ∧ (0 : Int) < (↑(5 : Nat) : Int)) ∧
                                    ((0 : Int) ≤ n_1 ∧ n_1 < (↑(64 : Nat) : Int)) ∧
                                      (0 : Nat) + n_1.toNat * (1 : Nat) < (1600 : Nat) ∧
                                        ((0 : Int) ≤ n_1 ∧ n_1 < (↑(64 : Nat) : Int)) ∧
                                          n_1.toNat * (1 : Nat) < (64 : Nat) ∧
                                            ((0 : Int) ≤ (0 : Int) ∧ (0 : Int) < (↑(5 : Nat) : Int)) ∧
                                              ((0 : Int) ≤ (0 : Int) ∧ (0 : Int) < (↑(5 : Nat) : Int)) ∧
                                                ((0 : Int) ≤ n_1 ∧ n_1 < (↑(64 : Nat) : Int)) ∧
                                                  (0 : Nat) + n_1.toNat * (1 : Nat) < (1600 : Nat) ∧
                                                    ((-9223372036854775808 : Int) ≤ n_1 + (1 : Int) ∧ n_1 + (1 : Int) ≤ (9223372036854775807 : Int)) ∧
                                                      (l_3 = cbits n ∧
                                                          (0 : Int) ≤ n_1 + (1 : Int) ∧
                                                            n_1 + (1 : Int) ≤ (64 : Int) ∧
                                                              l_1.set ((0 : Nat) + n_1.toNat * (1 : Nat))
                                                                  (l_1.getD ((0 : Nat) + n_1.toNat * (1 : Nat)) false != l_3.getD (n_1.toNat * (1 : Nat)) false) =
                                                                addC
                                                                  (chiB
                                                                    (piB
                                                                      (rhoB (thetaB l))))
                                                                  (cbits n) (n_1 + (1 : Int)).toNat) ∧
                                                        ((64 : Int) - (n_1 + (1 : Int))).toNat < ((64 : Int) - n_1).toNat
                              else l_1 = roundB l n
theorem e14 : ct14.VC (base.with sp34) Tryd.f14.results.toList Tryd.f14.ntmps (Tryd.f14.ntmps - ct14.ps.length) (bodyOf Tryd.f14) ann14 = P14 := by kernel_rfl
noncomputable def sp14 : SpecT := addS sp34 14 (mkF ct14)
def P15 : Prop :=
  ∀ (l : List Int),
    l.length = (25 : Nat) →
      areW l →
        ((l = l ∧
              (0 : Int) ≤ (0 : Int) ∧
                (0 : Int) ≤ (25 : Int) ∧
                  List.replicate (1600 : Nat) false =
                    fill2 (fun i z => at3 (i % (5 : Nat)) (i / (5 : Nat)) z)
                      (fun i z => bt (l.getD i (0 : Int)) z) (64 : Nat) (List.replicate (1600 : Nat) false) (0 : Nat)) ∧
            True) ∧
          ∀ (n : Int) (l_1 : List Int) (l_2 l_3 : List Bool),
            l_1.length = (25 : Nat) →
              l_2.length = (1600 : Nat) →
                l_3.length = (1600 : Nat) →
                  l_1 = l ∧
                      (0 : Int) ≤ n ∧
                        n ≤ (25 : Int) ∧
                          l_3 =
                            fill2 (fun i z => at3 (i % (5 : Nat)) (i / (5 : Nat)) z)
                              (fun i z => bt (l.getD i (0 : Int)) z) (64 : Nat) (List.replicate (1600 : Nat) false) n.toNat →
                    bif decide (n < (25 : Int)) then
                      ((0 : Int) ≤ n ∧ n < (↑(25 : Nat) : Int)) ∧
                        n.toNat * (1 : Nat) < (25 : Nat) ∧
                          ((n = n ∧
                                l_1 = l_1 ∧
                                  (0 : Int) ≤ (0 : Int) ∧
                                    (0 : Int) ≤ (64 : Int) ∧
                                      l_1.getD (n.toNat * (1 : Nat)) (0 : Int) = l_1.getD (n.toNat * (1 : Nat)) (0 : Int) / (2 : Int) ^ (0 : Nat) ∧
                                        l_3 =
                                          fillN (fun z => at3 (n.toNat % (5 : Nat)) (n.toNat / (5 : Nat)) z)
                                            (fun z => bt (l_1.getD (n.toNat * (1 : Nat)) (0 : Int)) z) l_3 (0 : Nat)) ∧
                              True) ∧
                            ∀ (n_1 n_2 n_3 : Int) (l_4 : List Int) (l_5 l_6 : List Bool),
                              l_4.length = (25 : Nat) →
                                l_5.length = (1600 : Nat) →
                                  l_6.length = (1600 : Nat) →
                                    n_1 = n ∧
                                        l_4 = l_1 ∧
                                          (0 : Int) ≤ n_3 ∧
                                            n_3 ≤ (64 : Int) ∧
                                              n_2 = l_1.getD (n.toNat * (1 : Nat)) (0 : Int) / (2 : Int) ^ n_3.toNat ∧
                                                l_6 =
                                                  fillN (fun z => at3 (n.toNat % (5 : Nat)) (n.toNat / (5 : Nat)) z)
                                                    (fun z => bt (l_1.getD (n.toNat * (1 : Nat)) (0 : Int)) z) l_3 n_3.toNat →
                                      bif decide (n_3 < (64 : Int)) then
                                        ((0 : Int) ≤ n_1 ∧ (0 : Int) < (5 : Int)) ∧
                                          ((0 : Int) ≤ n_1 ∧ (0 : Int) < (5 : Int) ∧ n_1 ≤ Go.IntKind.i64.max) ∧
                                            ((0 : Int) ≤ n_2 ∧ (0 : Int) < (2 : Int)) ∧
                                              ((0 : Int) ≤ n_1 % (5 : Int) ∧ n_1 % (5 : Int) < (↑(5 : Nat) : Int)) ∧
                                                ((0 : Int) ≤ n_1 / (5 : Int) ∧ n_1 / (5 : Int) < (↑(5 : Nat) : Int)) ∧
                                                  ((0 : Int) ≤ n_3 ∧ n_3 < (↑(64 : Nat) : Int)) ∧
                                                    (n_1 % (5 : Int)).toNat * (320 : Nat) + (n_1 / (5 : Int)).toNat * (64 : Nat) + n_3.toNat * (1 : Nat) < (1600 : Nat) ∧
                                                      ((0 : Int) ≤ n_2 ∧ (0 : Int) < (2 : Int) ∧ n_2 ≤ Go.IntKind.u64.max) ∧
                                                        ((-9223372036854775808 : Int) ≤ n_3 + (1 : Int) ∧ n_3 + (1 : Int) ≤ (9223372036854775807 : Int)) ∧
                                                          (n_1 = n ∧
                                                              l_4 = l_1 ∧
                                                                (0 : Int) ≤ n_3 + (1 : Int) ∧
                                                                  n_3 + (1 : Int) ≤ (64 : Int) ∧
                                                                    n_2 / (2 : Int) = l_1.getD (n.toNat * (1 : Nat)) (0 : Int) / (2 : Int) ^ (n_3 + (1 : Int)).toNat ∧
                                                                      l_6.set ((n_1 % (5 : Int)).toNat * (320 : Nat) + (n_1 / (5 : Int)).toNat * (64 : Nat) + n_3.toNat * (1 : Nat))
                                                                          (decide (n_2 % (2 : Int) = (1 : Int))) =
                                                                        fillN
                                                                          (fun z => at3 (n.toNat % (5 : Nat)) (n.toNat / (5 : Nat)) z)
                                                                          (fun z => bt (l_1.getD (n.toNat * (1 : Nat)) (0 : Int)) z) l_3
                                                                          (n_3 + (1 : Int)).toNat) ∧
                                                            ((64 : Int) - (n_3 + (1 : Int))).toNat < ((64 : Int) - n_3).toNat
                                      else
                                        ((-9223372036854775808 : Int) ≤ n_1 + (1 : Int) ∧ n_1 + (1 : Int) ≤ (9223372036854775807 : Int)) ∧
                                          (l_4 = l ∧
                                              (0 : Int) ≤ n_1 + (1 : Int) ∧
                                                n_1 + (1 : Int) ≤ (25 : Int) ∧
                                                  l_6 =
                                                    fill2 (fun i z => at3 (i % (5 : Nat)) (i / (5 : Nat)) z)
                                                      (fun i z => bt (l.getD i (0 : Int)) z) (64 : Nat) (List.replicate (1600 : Nat) false)
                                                      (n_1 + (1 : Int)).toNat) ∧
                                            ((25 : Int) - (n_1 + (1 : Int))).toNat < ((25 : Int) - n).toNat
                    else l_3 = ofW l
theorem e15 : ct15.VC (base.with sp14) Tryd.f15.results.toList Tryd.f15.ntmps (Tryd.f15.ntmps - ct15.ps.length) (bodyOf Tryd.f15) ann15 = P15 := by kernel_rfl
noncomputable def sp15 : SpecT := addS sp14 15 (mkF ct15)
def P13 : Prop :=
  ∀ (l : List Bool),
    l.length = (1600 : Nat) →
      True →
        ((l = l ∧
              (0 : Int) ≤ (0 : Int) ∧
                (0 : Int) ≤ (25 : Int) ∧
                  [(0 : Int), (0 : Int), (0 : Int), (0 : Int), (0 : Int), (0 : Int), (0 : Int), (0 : Int), (0 : Int), (0 : Int), (0 : Int), (0 : Int), (0 : Int), (0 : Int),
                      (0 : Int), (0 : Int), (0 : Int), (0 : Int), (0 : Int), (0 : Int), (0 : Int), (0 : Int), (0 : Int), (0 : Int), (0 : Int)] =
                    wdN l (0 : Nat)) ∧
            True) ∧
          ∀ (n : Int) (l_1 : List Bool) (l_2 l_3 : List Int),
            l_1.length = (1600 : Nat) →
              l_2.length = (25 : Nat) →
                l_3.length = (25 : Nat) →
                  l_1 = l ∧ (0 : Int) ≤ n ∧ n ≤ (25 : Int) ∧ l_3 = wdN l n.toNat →
                    bif decide (n < (25 : Int)) then
                      ((n = n ∧ l_1 = l_1 ∧ l_3 = l_3 ∧ (-1 : Int) ≤ (63 : Int) ∧ (63 : Int) ≤ (63 : Int) ∧ (0 : Int) = (↑(0 : Nat) : Int)) ∧ True) ∧
                        ∀ (n_1 n_2 n_3 : Int) (l_4 : List Bool) (l_5 l_6 : List Int),
                          l_4.length = (1600 : Nat) →
                            l_5.length = (25 : Nat) →
                              l_6.length = (25 : Nat) →
                                n_1 = n ∧
                                    l_4 = l_1 ∧
                                      l_6 = l_3 ∧ (-1 : Int) ≤ n_3 ∧ n_3 ≤ (63 : Int) ∧ n_2 = (↑(wv l_1 n.toNat ((63 : Int) - n_3).toNat) : Int) →
                                  bif decide ((0 : Int) ≤ n_3) then
                                    ((0 : Int) ≤ n_1 ∧ (0 : Int) < (5 : Int)) ∧
                                      ((0 : Int) ≤ n_1 ∧ (0 : Int) < (5 : Int) ∧ n_1 ≤ Go.IntKind.i64.max) ∧
                                        ((0 : Int) ≤ n_1 % (5 : Int) ∧ n_1 % (5 : Int) < (↑(5 : Nat) : Int)) ∧
                                          ((0 : Int) ≤ n_1 / (5 : Int) ∧ n_1 / (5 : Int) < (↑(5 : Nat) : Int)) ∧
                                            ((0 : Int) ≤ n_3 ∧ n_3 < (↑(64 : Nat) : Int)) ∧
                                              (n_1 % (5 : Int)).toNat * (320 : Nat) + (n_1 / (5 : Int)).toNat * (64 : Nat) + n_3.toNat * (1 : Nat) < (1600 : Nat) ∧
                                                bif l_4.getD ((n_1 % (5 : Int)).toNat * (320 : Nat) + (n_1 / (5 : Int)).toNat * (64 : Nat) + n_3.toNat * (1 : Nat)) false then
                                                  ((-9223372036854775808 : Int) ≤ n_3 - (1 : Int) ∧ n_3 - (1 : Int) ≤ (9223372036854775807 : Int)) ∧
                                                    (n_1 = n ∧
                                                        l_4 = l_1 ∧
                                                          l_6 = l_3 ∧
                                                            (-1 : Int) ≤ n_3 - (1 : Int) ∧
                                                              n_3 - (1 : Int) ≤ (63 : Int) ∧
                                                                Go.IntKind.u64.wrap (Go.IntKind.u64.wrap (n_2 * (2 : Int)) + (1 : Int)) =
                                                                  (↑(wv l_1 n.toNat ((63 : Int) - (n_3 - (1 : Int))).toNat) : Int)) ∧
                                                      (n_3 - (1 : Int) + (1 : Int)).toNat < (n_3 + (1 : Int)).toNat
                                                else
                                                  ((-9223372036854775808 : Int) ≤ n_3 - (1 : Int) ∧ n_3 - (1 : Int) ≤ (9223372036854775807 : Int)) ∧
                                                    (n_1 = n ∧
                                                        l_4 = l_1 ∧
                                                          l_6 = l_3 ∧
                                                            (-1 : Int) ≤ n_3 - (1 : Int) ∧
                                                              n_3 - (1 : Int) ≤ (63 : Int) ∧
                                                                Go.IntKind.u64.wrap (n_2 * (2 : Int)) =
                                                                  (↑(wv l_1 n.toNat ((63 : Int) - (n_3 - (1 : Int))).toNat) : Int)) ∧
                                                      (n_3 - (1 : Int) + (1 : Int)).toNat < (n_3 + (1 : Int)).toNat
                                  else
                                    ((0 : Int) ≤ n_1 ∧ n_1 < (↑(25 : Nat) : Int)) ∧
                                      n_1.toNat * (1 : Nat) < (25 : Nat) ∧
                                        ((-9223372036854775808 : Int) ≤ n_1 + (1 : Int) ∧ n_1 + (1 : Int) ≤ (9223372036854775807 : Int)) ∧
                                          (l_4 = l ∧
                                              (0 : Int) ≤ n_1 + (1 : Int) ∧
                                                n_1 + (1 : Int) ≤ (25 : Int) ∧ l_6.set (n_1.toNat * (1 : Nat)) n_2 = wdN l (n_1 + (1 : Int)).toNat) ∧
                                            ((25 : Int) - (n_1 + (1 : Int))).toNat < ((25 : Int) - n).toNat
                    else l_3 = toW l
theorem e13 : ct13.VC (base.with sp15) Tryd.f13.results.toList Tryd.f13.ntmps (Tryd.f13.ntmps - ct13.ps.length) (bodyOf Tryd.f13) ann13 = P13 := by kernel_rfl
noncomputable def sp13 : SpecT := addS sp15 13 (mkF ct13)
def P18 : Prop :=
  ∀ (l : List Int),
    l.length = (25 : Nat) →
      areW l →
        areW l ∧
          (((0 : Int) ≤ (0 : Int) ∧
                (0 : Int) ≤ (24 : Int) ∧ ofW l = permB (ofW l) (0 : Nat)) ∧
              True) ∧
            ∀ (n : Int) (l_1 l_2 : List Int) (l_3 : List Bool),
              l_1.length = (25 : Nat) →
                l_2.length = (25 : Nat) →
                  l_3.length = (1600 : Nat) →
                    (0 : Int) ≤ n ∧ n ≤ (24 : Int) ∧ l_3 = permB (ofW l) n.toNat →
                      bif decide (n < (24 : Int)) then
                        True ∧
                          ((-9223372036854775808 : Int) ≤ n + (1 : Int) ∧ n + (1 : Int) ≤ (9223372036854775807 : Int)) ∧
                            ((0 : Int) ≤ n + (1 : Int) ∧
                                n + (1 : Int) ≤ (24 : Int) ∧
                                  roundB l_3 n = permB (ofW l) (n + (1 : Int)).toNat) ∧
                              ((24 : Int) - (n + (1 : Int))).toNat < ((24 : Int) - n).toNat
                      else True ∧ toW l_3 = permR l
theorem e18 : ct18.VC (base.with sp13) Tryd.f18.results.toList Tryd.f18.ntmps (Tryd.f18.ntmps - ct18.ps.length) (bodyOf Tryd.f18) ann18 = P18 := by kernel_rfl
noncomputable def sp18 : SpecT := addS sp13 18 (mkF ct18)
end Go.Proofs.YtganbceicojfmaaDoor
