/-
  Conditions of contracts, as the kernel reckons them (printed by a program of ours, checked by the kernel).
-/
import Derived.Test.YtganbceicojfmaaDoorS5
namespace Go.Proofs.YtganbceicojfmaaDoor
open Go Go.Avc Go.Proofs
set_option linter.unusedVariables false
set_option maxRecDepth 100000
def P3 : Prop :=
  ∀ (l : List Int) (n : Int),
    l.length = (25 : Nat) →
      areW l →
        True ∧
          areW l ∧
            True ∧
              True ∧
                True ∧
                  (decide
                          (round l n =
                            toW (roundB (ofW l) n)) =
                        true →
                      True) ∧
                    (decide
                            (round l n =
                              toW (roundB (ofW l) n)) =
                          true →
                        areW l) ∧
                      (decide
                            (round l n =
                              toW (roundB (ofW l) n)) &&
                          decide (perm l = permR l)) =
                        true
theorem e3 : ct3.VC (base.with sp24) Tryd.f3.results.toList Tryd.f3.ntmps (Tryd.f3.ntmps - ct3.ps.length) (bodyOf Tryd.f3) noAnn = P3 := by kernel_rfl
noncomputable def sp3 : SpecT := addS sp24 3 (mkF ct3)
def P4 : Prop :=
  ∀ (n : Int),
    True →
      True ∧
        ((25 : Nat) ≤ (9223372036854775807 : Nat) →
          (((25 : Nat) = (25 : Nat) ∧ (↑(25 : Nat) : Int) = (25 : Int) ∧ (0 : Int) ≤ (0 : Int) ∧ (0 : Int) ≤ (25 : Int)) ∧ True) ∧
            ∀ (l : List (List CD)) (n n_1 : Int),
              l.length ≤ (9223372036854775807 : Nat) →
                l.length = (25 : Nat) ∧ n = (25 : Int) ∧ (0 : Int) ≤ n_1 ∧ n_1 ≤ (25 : Int) →
                  bif decide (n_1 < n) then
                    ((0 : Int) ≤ n_1 ∧ n_1 < (↑l.length : Int)) ∧
                      n_1.toNat < l.length ∧
                        True ∧
                          ((0 : Int) ≤ (0 : Int) ∧ (0 : Int) < (↑(5 : Nat) : Int)) ∧
                            ((0 : Int) ≤ (0 : Int) ∧ (0 : Int) < (↑(5 : Nat) : Int)) ∧
                              (64 : Nat) ≤ (1600 : Nat) ∧
                                True ∧
                                  True ∧
                                    ((0 : Int) ≤ (0 : Int) ∧ (0 : Int) < (↑(25 : Nat) : Int) ∧ (0 : Nat) < (25 : Nat)) ∧
                                      bif
                                          decide
                                            (rcOf ((l.getD n_1.toNat []).getD (0 : Nat) (CD.int (0 : Int))).toInt ≠
                                              (toW
                                                    ([] ++ cbits ((l.getD n_1.toNat []).getD (0 : Nat) (CD.int (0 : Int))).toInt ++
                                                      List.replicate 1536 false)).getD
                                                (0 : Nat) (0 : Int)) then
                                        false = true
                                      else
                                        ((-9223372036854775808 : Int) ≤ n_1 + (1 : Int) ∧ n_1 + (1 : Int) ≤ (9223372036854775807 : Int)) ∧
                                          (l.length = (25 : Nat) ∧ n = (25 : Int) ∧ (0 : Int) ≤ n_1 + (1 : Int) ∧ n_1 + (1 : Int) ≤ (25 : Int)) ∧
                                            ((25 : Int) - (n_1 + (1 : Int))).toNat < ((25 : Int) - n_1).toNat
                  else true = true)
theorem e4 : ct4.VC (base.with sp3) Tryd.f4.results.toList Tryd.f4.ntmps (Tryd.f4.ntmps - ct4.ps.length) (bodyOf Tryd.f4) ann4 = P4 := by kernel_rfl
noncomputable def sp4 : SpecT := addS sp3 4 (mkF ct4)
def P5 : Prop :=
  ∀ (l l_1 : List Int),
    l.length = (25 : Nat) →
      l_1.length = (25 : Nat) →
        areW l ∧ areW l_1 →
          True ∧
            ((l = l ∧
                  l_1 = l_1 ∧
                    (0 : Int) ≤ (0 : Int) ∧
                      (0 : Int) ≤ (24 : Int) ∧ l = permN l (0 : Nat) ∧ l_1 = permN l_1 (0 : Nat)) ∧
                True) ∧
              ∀ (n : Int) (l_2 l_3 l_4 l_5 : List Int),
                l_2.length = (25 : Nat) →
                  l_3.length = (25 : Nat) →
                    l_4.length = (25 : Nat) →
                      l_5.length = (25 : Nat) →
                        l_2 = l ∧
                            l_3 = l_1 ∧
                              (0 : Int) ≤ n ∧ n ≤ (24 : Int) ∧ l_4 = permN l n.toNat ∧ l_5 = permN l_1 n.toNat →
                          bif decide (n < (24 : Int)) then
                            True ∧
                              True ∧
                                bif decide (round l_4 n = round l_5 n) != decide (l_2 = l_3) then false = true
                                else
                                  ((-9223372036854775808 : Int) ≤ n + (1 : Int) ∧ n + (1 : Int) ≤ (9223372036854775807 : Int)) ∧
                                    (l_2 = l ∧
                                        l_3 = l_1 ∧
                                          (0 : Int) ≤ n + (1 : Int) ∧
                                            n + (1 : Int) ≤ (24 : Int) ∧
                                              round l_4 n = permN l (n + (1 : Int)).toNat ∧
                                                round l_5 n = permN l_1 (n + (1 : Int)).toNat) ∧
                                      ((24 : Int) - (n + (1 : Int))).toNat < ((24 : Int) - n).toNat
                          else
                            True ∧
                              (decide (l_4 = perm l_2) = true → True) ∧
                                (decide (l_4 = perm l_2) && decide (l_5 = perm l_3)) = true
theorem e5 : ct5.VC (base.with sp4) Tryd.f5.results.toList Tryd.f5.ntmps (Tryd.f5.ntmps - ct5.ps.length) (bodyOf Tryd.f5) ann5 = P5 := by kernel_rfl
noncomputable def sp5 : SpecT := addS sp4 5 (mkF ct5)
def P6 : Prop :=
  ∀ (l : List (List CD)),
    l.length ≤ (9223372036854775807 : Nat) →
      areB l →
        True ∧
          (((bw false !true) = true → l.length ≤ (9223372036854775807 : Nat)) →
            bif !true || decide ((300 : Int) < (↑l.length : Int)) then True ∧ true = true
            else
              areB l ∧
                bif decide (l.length ≠ (200 : Nat)) then
                  l.length ≤ (9223372036854775807 : Nat) →
                    bif decide ((↑l.length : Int) ≠ (200 : Int)) then
                      (decide ((1 : Int) = (1 : Int)) &&
                          decide
                            (z25 =
                              [(0 : Int), (0 : Int), (0 : Int), (0 : Int), (0 : Int), (0 : Int), (0 : Int), (0 : Int), (0 : Int), (0 : Int), (0 : Int), (0 : Int), (0 : Int),
                                (0 : Int), (0 : Int), (0 : Int), (0 : Int), (0 : Int), (0 : Int), (0 : Int), (0 : Int), (0 : Int), (0 : Int), (0 : Int), (0 : Int)])) =
                        true
                    else
                      areW z25 ∧
                        (decide ((1 : Int) = (0 : Int)) = true → l.length ≤ (200 : Nat) ∧ areB l) ∧
                          ((decide ((1 : Int) = (0 : Int)) && decide (z25 = rbN l l.length)) = true →
                              (0 : Int) ≤ (0 : Int) ∧ (0 : Int) ≤ (↑(200 : Nat) : Int) ∧ (↑(200 : Nat) : Int) ≤ (↑(200 : Nat) : Int) ∧ (0 : Int) < (↑(200 : Nat) : Int)) ∧
                            ((decide ((1 : Int) = (0 : Int)) && decide (z25 = rbN l l.length) &&
                                    decide
                                      (bytesOfRows
                                          (List.map (fun x => [CD.int x])
                                            (List.take (200 : Nat) (List.drop (0 : Nat) (bysL z25)))) =
                                        bytesOfRows l)) =
                                  true →
                                (0 : Int) ≤ (0 : Int) ∧ (0 : Int) ≤ (↑(200 : Nat) : Int) ∧ (↑(200 : Nat) : Int) ≤ (↑(200 : Nat) : Int) ∧ (0 : Int) < (↑(200 : Nat) : Int)) ∧
                              ((decide ((1 : Int) = (0 : Int)) && decide (z25 = rbN l l.length) &&
                                      decide
                                        (bytesOfRows
                                            (List.map (fun x => [CD.int x])
                                              (List.take (200 : Nat) (List.drop (0 : Nat) (bysL z25)))) =
                                          bytesOfRows l)) =
                                    true →
                                  areW z25) ∧
                                ((decide ((1 : Int) = (0 : Int)) && decide (z25 = rbN l l.length) &&
                                        decide
                                          (bytesOfRows
                                              (List.map (fun x => [CD.int x])
                                                (List.take (200 : Nat) (List.drop (0 : Nat) (bysL z25)))) =
                                            bytesOfRows l)) =
                                      true →
                                    (true &&
                                        decide
                                          (bytesOfRows
                                              (List.map (fun x => [CD.int x])
                                                (List.take (200 : Nat) (List.drop (0 : Nat) (bysL z25)))) =
                                            bytesOfRows
                                              (List.map row1 (bysL z25)))) =
                                      true) ∧
                                  ((decide ((1 : Int) = (0 : Int)) && decide (z25 = rbN l l.length) &&
                                        decide
                                          (bytesOfRows
                                              (List.map (fun x => [CD.int x])
                                                (List.take (200 : Nat) (List.drop (0 : Nat) (bysL z25)))) =
                                            bytesOfRows l)) =
                                      false →
                                    ((!true) = true → False) ∧ ((!true) = true → False) ∧ False)
                else
                  l.length ≤ (9223372036854775807 : Nat) →
                    bif decide ((↑l.length : Int) ≠ (200 : Int)) then
                      (decide ((0 : Int) = (1 : Int)) &&
                          decide
                            (wsN l (200 : Nat) =
                              [(0 : Int), (0 : Int), (0 : Int), (0 : Int), (0 : Int), (0 : Int), (0 : Int), (0 : Int), (0 : Int), (0 : Int), (0 : Int), (0 : Int), (0 : Int),
                                (0 : Int), (0 : Int), (0 : Int), (0 : Int), (0 : Int), (0 : Int), (0 : Int), (0 : Int), (0 : Int), (0 : Int), (0 : Int), (0 : Int)])) =
                        true
                    else
                      areW (wsN l (200 : Nat)) ∧
                        (decide ((0 : Int) = (0 : Int)) = true → l.length ≤ (200 : Nat) ∧ areB l) ∧
                          ((decide ((0 : Int) = (0 : Int)) && decide (wsN l (200 : Nat) = rbN l l.length)) = true →
                              (0 : Int) ≤ (0 : Int) ∧ (0 : Int) ≤ (↑(200 : Nat) : Int) ∧ (↑(200 : Nat) : Int) ≤ (↑(200 : Nat) : Int) ∧ (0 : Int) < (↑(200 : Nat) : Int)) ∧
                            ((decide ((0 : Int) = (0 : Int)) && decide (wsN l (200 : Nat) = rbN l l.length) &&
                                    decide
                                      (bytesOfRows
                                          (List.map (fun x => [CD.int x])
                                            (List.take (200 : Nat) (List.drop (0 : Nat) (bysL (wsN l (200 : Nat)))))) =
                                        bytesOfRows l)) =
                                  true →
                                (0 : Int) ≤ (0 : Int) ∧ (0 : Int) ≤ (↑(200 : Nat) : Int) ∧ (↑(200 : Nat) : Int) ≤ (↑(200 : Nat) : Int) ∧ (0 : Int) < (↑(200 : Nat) : Int)) ∧
                              ((decide ((0 : Int) = (0 : Int)) && decide (wsN l (200 : Nat) = rbN l l.length) &&
                                      decide
                                        (bytesOfRows
                                            (List.map (fun x => [CD.int x])
                                              (List.take (200 : Nat)
                                                (List.drop (0 : Nat) (bysL (wsN l (200 : Nat)))))) =
                                          bytesOfRows l)) =
                                    true →
                                  areW (wsN l (200 : Nat))) ∧
                                ((decide ((0 : Int) = (0 : Int)) && decide (wsN l (200 : Nat) = rbN l l.length) &&
                                        decide
                                          (bytesOfRows
                                              (List.map (fun x => [CD.int x])
                                                (List.take (200 : Nat)
                                                  (List.drop (0 : Nat) (bysL (wsN l (200 : Nat)))))) =
                                            bytesOfRows l)) =
                                      true →
                                    (true &&
                                        decide
                                          (bytesOfRows
                                              (List.map (fun x => [CD.int x])
                                                (List.take (200 : Nat)
                                                  (List.drop (0 : Nat) (bysL (wsN l (200 : Nat)))))) =
                                            bytesOfRows
                                              (List.map row1
                                                (bysL (wsN l (200 : Nat)))))) =
                                      true) ∧
                                  ((decide ((0 : Int) = (0 : Int)) && decide (wsN l (200 : Nat) = rbN l l.length) &&
                                        decide
                                          (bytesOfRows
                                              (List.map (fun x => [CD.int x])
                                                (List.take (200 : Nat)
                                                  (List.drop (0 : Nat) (bysL (wsN l (200 : Nat)))))) =
                                            bytesOfRows l)) =
                                      false →
                                    ((!true) = true → False) ∧ ((!true) = true → False) ∧ False))
theorem e6 : ct6.VC (base.with sp5) Tryd.f6.results.toList Tryd.f6.ntmps (Tryd.f6.ntmps - ct6.ps.length) (bodyOf Tryd.f6) noAnn = P6 := by kernel_rfl
noncomputable def sp6 : SpecT := addS sp5 6 (mkF ct6)
def P7 : Prop :=
  ∀ (l : List Int) (n : Int),
    l.length = (25 : Nat) →
      areW l →
        True ∧
          True ∧
            ((0 : Int) ≤ (0 : Int) ∧ (0 : Int) < (↑(25 : Nat) : Int)) ∧
              (0 : Nat) < (25 : Nat) ∧
                True ∧
                  ((0 : Int) ≤ (0 : Int) ∧ (0 : Int) < (↑(25 : Nat) : Int)) ∧
                    (0 : Nat) < (25 : Nat) ∧
                      areW l ∧
                        ((0 : Int) ≤ (0 : Int) ∧ (0 : Int) ≤ (↑(200 : Nat) : Int) ∧ (↑(200 : Nat) : Int) ≤ (↑(200 : Nat) : Int) ∧ (0 : Int) < (↑(200 : Nat) : Int)) ∧
                          areB
                              (List.map (fun x => [CD.int x]) (List.take (200 : Nat) (List.drop (0 : Nat) (bysL l)))) ∧
                            bif
                                decide
                                  ((List.map (fun x => [CD.int x]) (List.take (200 : Nat) (List.drop (0 : Nat) (bysL l)))).length ≠
                                    (200 : Nat)) then
                              True ∧
                                (decide
                                        ((round l (24 : Int)).set (0 : Nat)
                                            (bXor Go.IntKind.u64 ((round l (24 : Int)).getD (0 : Nat) (0 : Int))
                                              (rcOf n)) =
                                          round l n) &&
                                      decide ((1 : Int) = (0 : Int)) &&
                                    decide (z25 = l)) =
                                  true
                            else
                              True ∧
                                (decide
                                        ((round l (24 : Int)).set (0 : Nat)
                                            (bXor Go.IntKind.u64 ((round l (24 : Int)).getD (0 : Nat) (0 : Int))
                                              (rcOf n)) =
                                          round l n) &&
                                      decide ((0 : Int) = (0 : Int)) &&
                                    decide
                                      (wsN
                                          (List.map (fun x => [CD.int x]) (List.take (200 : Nat) (List.drop (0 : Nat) (bysL l)))) (200 : Nat) =
                                        l)) =
                                  true
theorem e7 : ct7.VC (base.with sp6) Tryd.f7.results.toList Tryd.f7.ntmps (Tryd.f7.ntmps - ct7.ps.length) (bodyOf Tryd.f7) noAnn = P7 := by kernel_rfl
noncomputable def sp7 : SpecT := addS sp6 7 (mkF ct7)
end Go.Proofs.YtganbceicojfmaaDoor
