/-
  Conditions of contracts, as the kernel reckons them (printed by a program of ours, checked by the kernel).
-/
import Derived.Test.YtganbceicojfmaaDoorS4
namespace Go.Proofs.YtganbceicojfmaaDoor
open Go Go.Avc Go.Proofs
set_option linter.unusedVariables false
set_option maxRecDepth 100000
def P39 : Prop :=
  ∀ (l : List (List CD)),
    l.length ≤ (9223372036854775807 : Nat) →
      l.length ≤ (1000 : Nat) ∧ areB l →
        l.length ≤ (9223372036854775807 : Nat) →
          ((-9223372036854775808 : Int) ≤ (↑l.length : Int) + (7 : Int) ∧ (↑l.length : Int) + (7 : Int) ≤ (9223372036854775807 : Int)) ∧
            ((0 : Int) ≤ (↑l.length : Int) + (7 : Int) ∧ (0 : Int) < (8 : Int) ∧ (↑l.length : Int) + (7 : Int) ≤ Go.IntKind.i64.max) ∧
              ((0 : Int) ≤ ((↑l.length : Int) + (7 : Int)) / (8 : Int) ∧
                  ((↑l.length : Int) + (7 : Int)) / (8 : Int) ≤ ((↑l.length : Int) + (7 : Int)) / (8 : Int) ∧
                    (↑(8 : Nat) : Int) * (((↑l.length : Int) + (7 : Int)) / (8 : Int)) ≤ (140737488355328 : Int) ∧
                      ((↑l.length : Int) + (7 : Int)) / (8 : Int) ≤ (9223372036854775807 : Int)) ∧
                (l.length ≤ (9223372036854775807 : Nat) →
                  ((l = l ∧
                        (↑l.length : Int) = (↑l.length : Int) ∧
                          (0 : Int) ≤ (0 : Int) ∧
                            (0 : Int) ≤ (↑l.length : Int) ∧
                              List.replicate (((↑l.length : Int) + (7 : Int)) / (8 : Int)).toNat [CD.int (0 : Int)] =
                                List.map row1 (wsN l (0 : Nat))) ∧
                      True) ∧
                    ∀ (l_1 : List (List CD)) (n n_1 : Int) (l_2 : List (List CD)),
                      l_1.length ≤ (9223372036854775807 : Nat) →
                        l_2.length ≤ (9223372036854775807 : Nat) →
                          l_1 = l ∧
                              n = (↑l.length : Int) ∧
                                (0 : Int) ≤ n_1 ∧ n_1 ≤ n ∧ l_2 = List.map row1 (wsN l n_1.toNat) →
                            bif decide (n_1 < n) then
                              ((0 : Int) ≤ n_1 ∧ n_1 < (↑l_1.length : Int)) ∧
                                n_1.toNat < l_1.length ∧
                                  ((0 : Int) ≤ n_1 ∧ (0 : Int) < (8 : Int) ∧ n_1 ≤ Go.IntKind.i64.max) ∧
                                    ((0 : Int) ≤ n_1 / (8 : Int) ∧ n_1 / (8 : Int) < (↑l_2.length : Int)) ∧
                                      (n_1 / (8 : Int)).toNat < l_2.length ∧
                                        ((0 : Int) ≤ n_1 ∧ (0 : Int) < (8 : Int)) ∧
                                          ((-9223372036854775808 : Int) ≤ (8 : Int) * (n_1 % (8 : Int)) ∧ (8 : Int) * (n_1 % (8 : Int)) ≤ (9223372036854775807 : Int)) ∧
                                            (0 : Int) ≤ (8 : Int) * (n_1 % (8 : Int)) ∧
                                              ((0 : Int) ≤ n_1 / (8 : Int) ∧ n_1 / (8 : Int) < (↑l_2.length : Int)) ∧
                                                (n_1 / (8 : Int)).toNat < l_2.length ∧
                                                  ((-9223372036854775808 : Int) ≤ n_1 + (1 : Int) ∧ n_1 + (1 : Int) ≤ (9223372036854775807 : Int)) ∧
                                                    (l_1 = l ∧
                                                        n = (↑l.length : Int) ∧
                                                          (0 : Int) ≤ n_1 + (1 : Int) ∧
                                                            n_1 + (1 : Int) ≤ n ∧
                                                              l_2.set (n_1 / (8 : Int)).toNat
                                                                  ((l_2.getD (n_1 / (8 : Int)).toNat []).set (0 : Nat)
                                                                    (CD.int
                                                                      (bOr Go.IntKind.u64
                                                                        ((l_2.getD (n_1 / (8 : Int)).toNat []).getD (0 : Nat) (CD.int (0 : Int))).toInt
                                                                        (bShl Go.IntKind.u64
                                                                          (Go.IntKind.u64.wrap ((l_1.getD n_1.toNat []).getD (0 : Nat) (CD.int (0 : Int))).toInt)
                                                                          ((8 : Int) * (n_1 % (8 : Int))))))) =
                                                                List.map row1 (wsN l (n_1 + (1 : Int)).toNat)) ∧
                                                      (n - (n_1 + (1 : Int))).toNat < (n - n_1).toNat
                            else l_2 = List.map row1 (wsN l l.length))
theorem e39 : ct39.VC (base.with sp18) Tryd.f39.results.toList Tryd.f39.ntmps (Tryd.f39.ntmps - ct39.ps.length) (bodyOf Tryd.f39) ann39 = P39 := by kernel_rfl
noncomputable def sp39 : SpecT := addS sp18 39 (mkF ct39)
def P40 : Prop :=
  ∀ (l : List (List CD)),
    l.length ≤ (9223372036854775807 : Nat) →
      l.length ≤ (1000 : Nat) ∧ areR l →
        l.length ≤ (9223372036854775807 : Nat) →
          ((l = l ∧
                (↑l.length : Int) = (↑l.length : Int) ∧
                  (0 : Int) ≤ (0 : Int) ∧
                    (0 : Int) ≤ (↑l.length : Int) ∧
                      [] = List.map row1 (bysN (rv l) (0 : Nat))) ∧
              True) ∧
            ∀ (l_1 : List (List CD)) (n n_1 : Int) (l_2 : List (List CD)),
              l_1.length ≤ (9223372036854775807 : Nat) →
                l_2.length ≤ (9223372036854775807 : Nat) →
                  l_1 = l ∧
                      n = (↑l.length : Int) ∧
                        (0 : Int) ≤ n_1 ∧
                          n_1 ≤ n ∧ l_2 = List.map row1 (bysN (rv l) n_1.toNat) →
                    bif decide (n_1 < n) then
                      ((0 : Int) ≤ n_1 ∧ n_1 < (↑l_1.length : Int)) ∧
                        n_1.toNat < l_1.length ∧
                          ((l_1 = l_1 ∧
                                n = n ∧
                                  n_1 = n_1 ∧
                                    (0 : Int) ≤ (0 : Int) ∧
                                      (0 : Int) ≤ (8 : Int) ∧
                                        ((l_1.getD n_1.toNat []).getD (0 : Nat) (CD.int (0 : Int))).toInt =
                                            ((l_1.getD n_1.toNat []).getD (0 : Nat) (CD.int (0 : Int))).toInt / (256 : Int) ^ (0 : Nat) ∧
                                          l_2 =
                                            l_2 ++
                                              List.map row1
                                                (wbN ((l_1.getD n_1.toNat []).getD (0 : Nat) (CD.int (0 : Int))).toInt (0 : Nat))) ∧
                              True) ∧
                            ∀ (n_2 : Int) (l_3 : List (List CD)) (n_3 n_4 n_5 : Int) (l_4 : List (List CD)),
                              l_3.length ≤ (9223372036854775807 : Nat) →
                                l_4.length ≤ (9223372036854775807 : Nat) →
                                  l_3 = l_1 ∧
                                      n_3 = n ∧
                                        n_4 = n_1 ∧
                                          (0 : Int) ≤ n_5 ∧
                                            n_5 ≤ (8 : Int) ∧
                                              n_2 = ((l_1.getD n_1.toNat []).getD (0 : Nat) (CD.int (0 : Int))).toInt / (256 : Int) ^ n_5.toNat ∧
                                                l_4 =
                                                  l_2 ++
                                                    List.map row1
                                                      (wbN ((l_1.getD n_1.toNat []).getD (0 : Nat) (CD.int (0 : Int))).toInt n_5.toNat) →
                                    bif decide (n_5 < (8 : Int)) then
                                      ((l_4.length + (1 : Nat)) * (1 : Nat) ≤ (140737488355328 : Nat) ∧ l_4.length + (1 : Nat) ≤ (9223372036854775807 : Nat)) ∧
                                        (0 : Int) ≤ (8 : Int) ∧
                                          ((-9223372036854775808 : Int) ≤ n_5 + (1 : Int) ∧ n_5 + (1 : Int) ≤ (9223372036854775807 : Int)) ∧
                                            (l_3 = l_1 ∧
                                                n_3 = n ∧
                                                  n_4 = n_1 ∧
                                                    (0 : Int) ≤ n_5 + (1 : Int) ∧
                                                      n_5 + (1 : Int) ≤ (8 : Int) ∧
                                                        bShr Go.IntKind.u64 n_2 (8 : Int) =
                                                            ((l_1.getD n_1.toNat []).getD (0 : Nat) (CD.int (0 : Int))).toInt / (256 : Int) ^ (n_5 + (1 : Int)).toNat ∧
                                                          l_4 ++ [[CD.int (Go.IntKind.u8.wrap n_2)]] =
                                                            l_2 ++
                                                              List.map row1
                                                                (wbN ((l_1.getD n_1.toNat []).getD (0 : Nat) (CD.int (0 : Int))).toInt
                                                                  (n_5 + (1 : Int)).toNat)) ∧
                                              ((8 : Int) - (n_5 + (1 : Int))).toNat < ((8 : Int) - n_5).toNat
                                    else
                                      ((-9223372036854775808 : Int) ≤ n_4 + (1 : Int) ∧ n_4 + (1 : Int) ≤ (9223372036854775807 : Int)) ∧
                                        (l_3 = l ∧
                                            n_3 = (↑l.length : Int) ∧
                                              (0 : Int) ≤ n_4 + (1 : Int) ∧
                                                n_4 + (1 : Int) ≤ n_3 ∧
                                                  l_4 =
                                                    List.map row1
                                                      (bysN (rv l) (n_4 + (1 : Int)).toNat)) ∧
                                          (n_3 - (n_4 + (1 : Int))).toNat < (n - n_1).toNat
                    else l_2 = List.map row1 (bysN (rv l) l.length)
theorem e40 : ct40.VC (base.with sp39) Tryd.f40.results.toList Tryd.f40.ntmps (Tryd.f40.ntmps - ct40.ps.length) (bodyOf Tryd.f40) ann40 = P40 := by kernel_rfl
noncomputable def sp40 : SpecT := addS sp39 40 (mkF ct40)
def P21 : Prop :=
  ∀ (l : List (List CD)),
    l.length ≤ (9223372036854775807 : Nat) →
      areB l →
        l.length ≤ (9223372036854775807 : Nat) →
          bif decide ((↑l.length : Int) ≠ (200 : Int)) then
            bif decide (l.length ≠ (200 : Nat)) then
              [(0 : Int), (0 : Int), (0 : Int), (0 : Int), (0 : Int), (0 : Int), (0 : Int), (0 : Int), (0 : Int), (0 : Int), (0 : Int), (0 : Int), (0 : Int), (0 : Int), (0 : Int),
                    (0 : Int), (0 : Int), (0 : Int), (0 : Int), (0 : Int), (0 : Int), (0 : Int), (0 : Int), (0 : Int), (0 : Int)] =
                  z25 ∧
                (1 : Int) = (1 : Int)
            else
              [(0 : Int), (0 : Int), (0 : Int), (0 : Int), (0 : Int), (0 : Int), (0 : Int), (0 : Int), (0 : Int), (0 : Int), (0 : Int), (0 : Int), (0 : Int), (0 : Int), (0 : Int),
                    (0 : Int), (0 : Int), (0 : Int), (0 : Int), (0 : Int), (0 : Int), (0 : Int), (0 : Int), (0 : Int), (0 : Int)] =
                  wsN l (200 : Nat) ∧
                (1 : Int) = (0 : Int)
          else
            (l.length ≤ (1000 : Nat) ∧ areB l) ∧
              (25 : Nat) ≤ (List.map row1 (wsN l l.length)).length ∧
                (25 : Nat) ≤ (List.map row1 (wsN l l.length)).length ∧
                  bif decide (l.length ≠ (200 : Nat)) then
                    List.map (fun r => (r.getD (0 : Nat) (CD.int (0 : Int))).toInt)
                          (List.take (25 : Nat) (List.drop (0 : Nat) (List.map row1 (wsN l l.length)))) =
                        z25 ∧
                      (0 : Int) = (1 : Int)
                  else
                    List.map (fun r => (r.getD (0 : Nat) (CD.int (0 : Int))).toInt)
                          (List.take (25 : Nat) (List.drop (0 : Nat) (List.map row1 (wsN l l.length)))) =
                        wsN l (200 : Nat) ∧
                      (0 : Int) = (0 : Int)
theorem e21 : ct21.VC (base.with sp40) Tryd.f21.results.toList Tryd.f21.ntmps (Tryd.f21.ntmps - ct21.ps.length) (bodyOf Tryd.f21) noAnn = P21 := by kernel_rfl
noncomputable def sp21 : SpecT := addS sp40 21 (mkF ct21)
def P22 : Prop :=
  ∀ (l : List Int),
    l.length = (25 : Nat) →
      areW l →
        ((0 : Int) ≤ (0 : Int) ∧ (0 : Int) ≤ (↑(25 : Nat) : Int) ∧ (↑(25 : Nat) : Int) ≤ (↑(25 : Nat) : Int) ∧ (0 : Int) < (↑(25 : Nat) : Int)) ∧
          ((List.map (fun x => [CD.int x]) (List.take (25 : Nat) (List.drop (0 : Nat) l))).length ≤ (1000 : Nat) ∧
              areR (List.map (fun x => [CD.int x]) (List.take (25 : Nat) (List.drop (0 : Nat) l)))) ∧
            (200 : Nat) ≤
                (List.map row1
                    (bysN (rv (List.map (fun x => [CD.int x]) (List.take (25 : Nat) (List.drop (0 : Nat) l))))
                      (List.map (fun x => [CD.int x]) (List.take (25 : Nat) (List.drop (0 : Nat) l))).length)).length ∧
              (200 : Nat) ≤
                  (List.map row1
                      (bysN (rv (List.map (fun x => [CD.int x]) (List.take (25 : Nat) (List.drop (0 : Nat) l))))
                        (List.map (fun x => [CD.int x]) (List.take (25 : Nat) (List.drop (0 : Nat) l))).length)).length ∧
                List.map (fun r => (r.getD (0 : Nat) (CD.int (0 : Int))).toInt)
                    (List.take (200 : Nat)
                      (List.drop (0 : Nat)
                        (List.map row1
                          (bysN
                            (rv (List.map (fun x => [CD.int x]) (List.take (25 : Nat) (List.drop (0 : Nat) l))))
                            (List.map (fun x => [CD.int x]) (List.take (25 : Nat) (List.drop (0 : Nat) l))).length)))) =
                  bysL l
theorem e22 : ct22.VC (base.with sp21) Tryd.f22.results.toList Tryd.f22.ntmps (Tryd.f22.ntmps - ct22.ps.length) (bodyOf Tryd.f22) noAnn = P22 := by kernel_rfl
noncomputable def sp22 : SpecT := addS sp21 22 (mkF ct22)
def P23 : Prop :=
  ∀ (l : List (List CD)),
    l.length ≤ (9223372036854775807 : Nat) →
      l.length ≤ (200 : Nat) ∧ areB l →
        l.length ≤ (9223372036854775807 : Nat) →
          ((-9223372036854775808 : Int) ≤ (↑l.length : Int) - (1 : Int) ∧ (↑l.length : Int) - (1 : Int) ≤ (9223372036854775807 : Int)) ∧
            ((l = l ∧
                  (-1 : Int) ≤ (↑l.length : Int) - (1 : Int) ∧
                    (↑l.length : Int) - (1 : Int) < (↑l.length : Int) ∧
                      [(0 : Int), (0 : Int), (0 : Int), (0 : Int), (0 : Int), (0 : Int), (0 : Int), (0 : Int), (0 : Int), (0 : Int), (0 : Int), (0 : Int), (0 : Int), (0 : Int),
                          (0 : Int), (0 : Int), (0 : Int), (0 : Int), (0 : Int), (0 : Int), (0 : Int), (0 : Int), (0 : Int), (0 : Int), (0 : Int)] =
                        rbN l ((↑l.length : Int) - (1 : Int) - ((↑l.length : Int) - (1 : Int))).toNat) ∧
                True) ∧
              ∀ (l_1 : List (List CD)) (n : Int) (l_2 l_3 : List Int),
                l_1.length ≤ (9223372036854775807 : Nat) →
                  l_2.length = (25 : Nat) →
                    l_3.length = (25 : Nat) →
                      l_1 = l ∧ (-1 : Int) ≤ n ∧ n < (↑l.length : Int) ∧ l_3 = rbN l ((↑l.length : Int) - (1 : Int) - n).toNat →
                        bif decide ((0 : Int) ≤ n) then
                          ((0 : Int) ≤ n ∧ (0 : Int) < (8 : Int) ∧ n ≤ Go.IntKind.i64.max) ∧
                            ((0 : Int) ≤ n ∧ (0 : Int) < (8 : Int) ∧ n ≤ Go.IntKind.i64.max) ∧
                              ((0 : Int) ≤ n / (8 : Int) ∧ n / (8 : Int) < (↑(25 : Nat) : Int)) ∧
                                (n / (8 : Int)).toNat * (1 : Nat) < (25 : Nat) ∧
                                  ((0 : Int) ≤ n ∧ n < (↑l_1.length : Int)) ∧
                                    n.toNat < l_1.length ∧
                                      ((0 : Int) ≤ n / (8 : Int) ∧ n / (8 : Int) < (↑(25 : Nat) : Int)) ∧
                                        (n / (8 : Int)).toNat * (1 : Nat) < (25 : Nat) ∧
                                          ((-9223372036854775808 : Int) ≤ n - (1 : Int) ∧ n - (1 : Int) ≤ (9223372036854775807 : Int)) ∧
                                            (l_1 = l ∧
                                                (-1 : Int) ≤ n - (1 : Int) ∧
                                                  n - (1 : Int) < (↑l.length : Int) ∧
                                                    l_3.set ((n / (8 : Int)).toNat * (1 : Nat))
                                                        (Go.IntKind.u64.wrap
                                                          (Go.IntKind.u64.wrap (l_3.getD ((n / (8 : Int)).toNat * (1 : Nat)) (0 : Int) * (256 : Int)) +
                                                            Go.IntKind.u64.wrap ((l_1.getD n.toNat []).getD (0 : Nat) (CD.int (0 : Int))).toInt)) =
                                                      rbN l ((↑l.length : Int) - (1 : Int) - (n - (1 : Int))).toNat) ∧
                                              (n - (1 : Int) + (1 : Int)).toNat < (n + (1 : Int)).toNat
                        else l_3 = rbN l l.length
theorem e23 : ct23.VC (base.with sp22) Tryd.f23.results.toList Tryd.f23.ntmps (Tryd.f23.ntmps - ct23.ps.length) (bodyOf Tryd.f23) ann23 = P23 := by kernel_rfl
noncomputable def sp23 : SpecT := addS sp22 23 (mkF ct23)
def P24 : Prop :=
  ∀ (l : List Int),
    l.length = (25 : Nat) →
      areW l →
        ((l = l ∧
              (0 : Int) ≤ (0 : Int) ∧
                (0 : Int) ≤ (25 : Int) ∧ [] = List.map row1 (bysN (fun i => l.getD i (0 : Int)) (0 : Nat))) ∧
            True) ∧
          ∀ (n : Int) (l_1 : List Int) (l_2 : List (List CD)),
            l_1.length = (25 : Nat) →
              l_2.length ≤ (9223372036854775807 : Nat) →
                l_1 = l ∧
                    (0 : Int) ≤ n ∧ n ≤ (25 : Int) ∧ l_2 = List.map row1 (bysN (fun i => l.getD i (0 : Int)) n.toNat) →
                  bif decide (n < (25 : Int)) then
                    ((0 : Int) ≤ n ∧ n < (↑(25 : Nat) : Int)) ∧
                      n.toNat * (1 : Nat) < (25 : Nat) ∧
                        ((n = n ∧
                              l_1 = l_1 ∧
                                (0 : Int) ≤ (0 : Int) ∧
                                  (0 : Int) ≤ (8 : Int) ∧
                                    l_1.getD (n.toNat * (1 : Nat)) (0 : Int) = l_1.getD (n.toNat * (1 : Nat)) (0 : Int) / (256 : Int) ^ (0 : Nat) ∧
                                      l_2 =
                                        l_2 ++
                                          List.map row1 (wbN (l_1.getD (n.toNat * (1 : Nat)) (0 : Int)) (0 : Nat))) ∧
                            True) ∧
                          ∀ (n_1 n_2 n_3 : Int) (l_3 : List Int) (l_4 : List (List CD)),
                            l_3.length = (25 : Nat) →
                              l_4.length ≤ (9223372036854775807 : Nat) →
                                n_1 = n ∧
                                    l_3 = l_1 ∧
                                      (0 : Int) ≤ n_3 ∧
                                        n_3 ≤ (8 : Int) ∧
                                          n_2 = l_1.getD (n.toNat * (1 : Nat)) (0 : Int) / (256 : Int) ^ n_3.toNat ∧
                                            l_4 =
                                              l_2 ++
                                                List.map row1
                                                  (wbN (l_1.getD (n.toNat * (1 : Nat)) (0 : Int)) n_3.toNat) →
                                  bif decide (n_3 < (8 : Int)) then
                                    ((0 : Int) ≤ n_2 ∧ (0 : Int) < (256 : Int)) ∧
                                      ((l_4.length + (1 : Nat)) * (1 : Nat) ≤ (140737488355328 : Nat) ∧ l_4.length + (1 : Nat) ≤ (9223372036854775807 : Nat)) ∧
                                        ((0 : Int) ≤ n_2 ∧ (0 : Int) < (256 : Int) ∧ n_2 ≤ Go.IntKind.u64.max) ∧
                                          ((-9223372036854775808 : Int) ≤ n_3 + (1 : Int) ∧ n_3 + (1 : Int) ≤ (9223372036854775807 : Int)) ∧
                                            (n_1 = n ∧
                                                l_3 = l_1 ∧
                                                  (0 : Int) ≤ n_3 + (1 : Int) ∧
                                                    n_3 + (1 : Int) ≤ (8 : Int) ∧
                                                      n_2 / (256 : Int) = l_1.getD (n.toNat * (1 : Nat)) (0 : Int) / (256 : Int) ^ (n_3 + (1 : Int)).toNat ∧
                                                        l_4 ++ [[CD.int (Go.IntKind.u8.wrap (n_2 % (256 : Int)))]] =
                                                          l_2 ++
                                                            List.map row1
                                                              (wbN (l_1.getD (n.toNat * (1 : Nat)) (0 : Int)) (n_3 + (1 : Int)).toNat)) ∧
                                              ((8 : Int) - (n_3 + (1 : Int))).toNat < ((8 : Int) - n_3).toNat
                                  else
                                    ((-9223372036854775808 : Int) ≤ n_1 + (1 : Int) ∧ n_1 + (1 : Int) ≤ (9223372036854775807 : Int)) ∧
                                      (l_3 = l ∧
                                          (0 : Int) ≤ n_1 + (1 : Int) ∧
                                            n_1 + (1 : Int) ≤ (25 : Int) ∧
                                              l_4 =
                                                List.map row1
                                                  (bysN (fun i => l.getD i (0 : Int)) (n_1 + (1 : Int)).toNat)) ∧
                                        ((25 : Int) - (n_1 + (1 : Int))).toNat < ((25 : Int) - n).toNat
                  else l_2 = List.map row1 (bysL l)
theorem e24 : ct24.VC (base.with sp23) Tryd.f24.results.toList Tryd.f24.ntmps (Tryd.f24.ntmps - ct24.ps.length) (bodyOf Tryd.f24) ann24 = P24 := by kernel_rfl
noncomputable def sp24 : SpecT := addS sp23 24 (mkF ct24)
end Go.Proofs.YtganbceicojfmaaDoor
