/-
  The law of pieces: its contract.
-/
import Derived.Test.YtganbceicojfmaaDoorK4
namespace Go.Proofs.YtganbceicojfmaaDoor
open Go Go.Avc
set_option linter.unusedVariables false
/-- The parts, one behind the other. -/
def cat (l : List (List CD)) : Nat → List (List CD)
  | 0 => []
  | n + 1 => cat l n ++ pt l n
def ct9 : Ct := { ps := [.rd [.sl [.int .u8]]], bs := [], pre := fun | [.r l] => areP l | _ => False, res := fun _ => yes }
noncomputable def ann9 : List Dat → Ann
  | [.r l] => ⟨[], [(6, [la 46 [(0, .rd [.sl [.int .u8]]), (3, .ptr 0 0), (4, .own 1), (15, .rd [.sl [.int .u8]]), (16, i64), (17, i64)] [qh, ob] (fun | [.r l0, .r l', .i n, .i i, .li s, .i a, .r o] => l0 = l ∧ l' = l ∧ n = l.length ∧ n ≤ 20 ∧ 0 ≤ i ∧ i ≤ n ∧ s = (wrP l i.toNat).1 ∧ a = ((wrP l i.toNat).2 : Nat) ∧ o = cat l i.toNat ∧ o.length ≤ 300 * i | _ => False) (fun | [_, _, .i n, .i i, _, _, _] => (n - i).toNat | _ => 0)])], []⟩
  | _ => { cut := [], loop := [] }
end Go.Proofs.YtganbceicojfmaaDoor

/-
  Conditions of contracts, as the kernel reckons them (printed by a program of ours, checked by the kernel).
-/
namespace Go.Proofs.YtganbceicojfmaaDoor
open Go Go.Avc Go.Proofs
set_option linter.unusedVariables false
set_option maxRecDepth 100000
def P9 : Prop :=
  ∀ (l : List (List CD)),
    l.length ≤ (9223372036854775807 : Nat) →
      areP l →
        True ∧
          (((bw false !true) = true → l.length ≤ (9223372036854775807 : Nat)) →
            bif !true || decide ((20 : Int) < (↑l.length : Int)) then True ∧ true = true
            else
              l.length ≤ (9223372036854775807 : Nat) →
                ((l = l ∧
                      l = l ∧
                        (↑l.length : Int) = (↑l.length : Int) ∧
                          (↑l.length : Int) ≤ (20 : Int) ∧
                            (0 : Int) ≤ (0 : Int) ∧
                              (0 : Int) ≤ (↑l.length : Int) ∧
                                [(0 : Int), (0 : Int), (0 : Int), (0 : Int), (0 : Int), (0 : Int), (0 : Int), (0 : Int), (0 : Int), (0 : Int), (0 : Int), (0 : Int), (0 : Int),
                                      (0 : Int), (0 : Int), (0 : Int), (0 : Int), (0 : Int), (0 : Int), (0 : Int), (0 : Int), (0 : Int), (0 : Int), (0 : Int), (0 : Int)] =
                                    (wrP l (0 : Nat)).fst ∧
                                  (0 : Int) = (↑(0 : Nat) : Int) ∧ [] = cat l (0 : Nat) ∧ (↑(0 : Nat) : Int) ≤ (300 : Int) * (0 : Int)) ∧
                    True) ∧
                  ∀ (l_1 l_2 : List (List CD)) (n n_1 : Int) (l_3 : List Int) (n_2 : Int) (l_4 : List (List CD)),
                    l_1.length ≤ (9223372036854775807 : Nat) →
                      l_2.length ≤ (9223372036854775807 : Nat) →
                        l_3.length = (25 : Nat) →
                          l_4.length ≤ (9223372036854775807 : Nat) →
                            l_1 = l ∧
                                l_2 = l ∧
                                  n = (↑l.length : Int) ∧
                                    n ≤ (20 : Int) ∧
                                      (0 : Int) ≤ n_1 ∧
                                        n_1 ≤ n ∧
                                          l_3 = (wrP l n_1.toNat).fst ∧
                                            n_2 = (↑(wrP l n_1.toNat).snd : Int) ∧
                                              l_4 = cat l n_1.toNat ∧ (↑l_4.length : Int) ≤ (300 : Int) * n_1 →
                              bif decide (n_1 < n) then
                                ((0 : Int) ≤ n_1 ∧ n_1 < (↑l_2.length : Int)) ∧
                                  n_1.toNat < l_2.length ∧
                                    (((l_2.getD n_1.toNat []).getD (0 : Nat) (CD.int (0 : Int))).toSl.length ≤ (9223372036854775807 : Nat) →
                                      bif decide ((300 : Int) < (↑((l_2.getD n_1.toNat []).getD (0 : Nat) (CD.int (0 : Int))).toSl.length : Int)) then true = true
                                      else
                                        ((0 : Int) ≤ n_2 ∧ n_2 < (136 : Int)) ∧
                                          ((l_4.length + ((l_2.getD n_1.toNat []).getD (0 : Nat) (CD.int (0 : Int))).toSl.length) * (1 : Nat) ≤ (140737488355328 : Nat) ∧
                                              l_4.length + ((l_2.getD n_1.toNat []).getD (0 : Nat) (CD.int (0 : Int))).toSl.length ≤ (9223372036854775807 : Nat)) ∧
                                            (areW
                                                  (wrN (l_3, n_2.toNat) ((l_2.getD n_1.toNat []).getD (0 : Nat) (CD.int (0 : Int))).toSl
                                                      ((l_2.getD n_1.toNat []).getD (0 : Nat) (CD.int (0 : Int))).toSl.length).fst ∧
                                                (0 : Int) ≤
                                                    (↑(wrN (l_3, n_2.toNat) ((l_2.getD n_1.toNat []).getD (0 : Nat) (CD.int (0 : Int))).toSl
                                                            ((l_2.getD n_1.toNat []).getD (0 : Nat) (CD.int (0 : Int))).toSl.length).snd :
                                                      Int) ∧
                                                  (↑(wrN (l_3, n_2.toNat) ((l_2.getD n_1.toNat []).getD (0 : Nat) (CD.int (0 : Int))).toSl
                                                            ((l_2.getD n_1.toNat []).getD (0 : Nat) (CD.int (0 : Int))).toSl.length).snd :
                                                      Int) <
                                                    (136 : Int)) ∧
                                              areP [[CD.sl (l_4 ++ ((l_2.getD n_1.toNat []).getD (0 : Nat) (CD.int (0 : Int))).toSl)]] ∧
                                                ((!!decide
                                                            (fin
                                                                ((wrN (l_3, n_2.toNat)
                                                                      ((l_2.getD n_1.toNat []).getD (0 : Nat) (CD.int (0 : Int))).toSl
                                                                      ((l_2.getD n_1.toNat []).getD (0 : Nat) (CD.int (0 : Int))).toSl.length).fst,
                                                                  (↑(wrN (l_3, n_2.toNat)
                                                                            ((l_2.getD n_1.toNat []).getD (0 : Nat) (CD.int (0 : Int))).toSl
                                                                            ((l_2.getD n_1.toNat []).getD (0 : Nat) (CD.int (0 : Int))).toSl.length).snd :
                                                                      Int).toNat) =
                                                              sumP
                                                                [[CD.sl (l_4 ++ ((l_2.getD n_1.toNat []).getD (0 : Nat) (CD.int (0 : Int))).toSl)]])) =
                                                      true →
                                                    areW
                                                        (wrN (l_3, n_2.toNat) ((l_2.getD n_1.toNat []).getD (0 : Nat) (CD.int (0 : Int))).toSl
                                                            ((l_2.getD n_1.toNat []).getD (0 : Nat) (CD.int (0 : Int))).toSl.length).fst ∧
                                                      (0 : Int) ≤
                                                          (↑(wrN (l_3, n_2.toNat)
                                                                  ((l_2.getD n_1.toNat []).getD (0 : Nat) (CD.int (0 : Int))).toSl
                                                                  ((l_2.getD n_1.toNat []).getD (0 : Nat) (CD.int (0 : Int))).toSl.length).snd :
                                                            Int) ∧
                                                        (↑(wrN (l_3, n_2.toNat) ((l_2.getD n_1.toNat []).getD (0 : Nat) (CD.int (0 : Int))).toSl
                                                                  ((l_2.getD n_1.toNat []).getD (0 : Nat) (CD.int (0 : Int))).toSl.length).snd :
                                                            Int) <
                                                          (136 : Int)) ∧
                                                  ((!!decide
                                                              (fin
                                                                  ((wrN (l_3, n_2.toNat)
                                                                        ((l_2.getD n_1.toNat []).getD (0 : Nat) (CD.int (0 : Int))).toSl
                                                                        ((l_2.getD n_1.toNat []).getD (0 : Nat) (CD.int (0 : Int))).toSl.length).fst,
                                                                    (↑(wrN (l_3, n_2.toNat)
                                                                              ((l_2.getD n_1.toNat []).getD (0 : Nat) (CD.int (0 : Int))).toSl
                                                                              ((l_2.getD n_1.toNat []).getD (0 : Nat) (CD.int (0 : Int))).toSl.length).snd :
                                                                        Int).toNat) =
                                                                sumP
                                                                  [[CD.sl (l_4 ++ ((l_2.getD n_1.toNat []).getD (0 : Nat) (CD.int (0 : Int))).toSl)]])) =
                                                        true →
                                                      ((!false) = true →
                                                          areW
                                                              (wrN (l_3, n_2.toNat)
                                                                  ((l_2.getD n_1.toNat []).getD (0 : Nat) (CD.int (0 : Int))).toSl
                                                                  ((l_2.getD n_1.toNat []).getD (0 : Nat) (CD.int (0 : Int))).toSl.length).fst ∧
                                                            (0 : Int) ≤
                                                                (↑(wrN (l_3, n_2.toNat)
                                                                        ((l_2.getD n_1.toNat []).getD (0 : Nat) (CD.int (0 : Int))).toSl
                                                                        ((l_2.getD n_1.toNat []).getD (0 : Nat) (CD.int (0 : Int))).toSl.length).snd :
                                                                  Int) ∧
                                                              (↑(wrN (l_3, n_2.toNat)
                                                                        ((l_2.getD n_1.toNat []).getD (0 : Nat) (CD.int (0 : Int))).toSl
                                                                        ((l_2.getD n_1.toNat []).getD (0 : Nat) (CD.int (0 : Int))).toSl.length).snd :
                                                                  Int) <
                                                                (136 : Int)) ∧
                                                        ((!false) = true →
                                                            bif
                                                                false ||
                                                                  !decide
                                                                      (fin
                                                                          ((wrN (l_3, n_2.toNat)
                                                                                ((l_2.getD n_1.toNat []).getD (0 : Nat) (CD.int (0 : Int))).toSl
                                                                                ((l_2.getD n_1.toNat []).getD (0 : Nat) (CD.int (0 : Int))).toSl.length).fst,
                                                                            (↑(wrN (l_3, n_2.toNat)
                                                                                      ((l_2.getD n_1.toNat []).getD (0 : Nat) (CD.int (0 : Int))).toSl
                                                                                      ((l_2.getD n_1.toNat []).getD (0 : Nat) (CD.int (0 : Int))).toSl.length).snd :
                                                                                Int).toNat) =
                                                                        fin
                                                                          ((wrN (l_3, n_2.toNat)
                                                                                ((l_2.getD n_1.toNat []).getD (0 : Nat) (CD.int (0 : Int))).toSl
                                                                                ((l_2.getD n_1.toNat []).getD (0 : Nat) (CD.int (0 : Int))).toSl.length).fst,
                                                                            (↑(wrN (l_3, n_2.toNat)
                                                                                      ((l_2.getD n_1.toNat []).getD (0 : Nat) (CD.int (0 : Int))).toSl
                                                                                      ((l_2.getD n_1.toNat []).getD (0 : Nat) (CD.int (0 : Int))).toSl.length).snd :
                                                                                Int).toNat)) then
                                                              false = true
                                                            else
                                                              ((-9223372036854775808 : Int) ≤ n_1 + (1 : Int) ∧ n_1 + (1 : Int) ≤ (9223372036854775807 : Int)) ∧
                                                                (l_1 = l ∧
                                                                    l_2 = l ∧
                                                                      n = (↑l.length : Int) ∧
                                                                        n ≤ (20 : Int) ∧
                                                                          (0 : Int) ≤ n_1 + (1 : Int) ∧
                                                                            n_1 + (1 : Int) ≤ n ∧
                                                                              (wrN (l_3, n_2.toNat)
                                                                                      ((l_2.getD n_1.toNat []).getD (0 : Nat) (CD.int (0 : Int))).toSl
                                                                                      ((l_2.getD n_1.toNat []).getD (0 : Nat) (CD.int (0 : Int))).toSl.length).fst =
                                                                                  (wrP l (n_1 + (1 : Int)).toNat).fst ∧
                                                                                (↑(wrN (l_3, n_2.toNat)
                                                                                            ((l_2.getD n_1.toNat []).getD (0 : Nat) (CD.int (0 : Int))).toSl
                                                                                            ((l_2.getD n_1.toNat []).getD (0 : Nat) (CD.int (0 : Int))).toSl.length).snd :
                                                                                      Int) =
                                                                                    (↑(wrP l (n_1 + (1 : Int)).toNat).snd : Int) ∧
                                                                                  l_4 ++ ((l_2.getD n_1.toNat []).getD (0 : Nat) (CD.int (0 : Int))).toSl =
                                                                                      cat l (n_1 + (1 : Int)).toNat ∧
                                                                                    (↑(l_4 ++ ((l_2.getD n_1.toNat []).getD (0 : Nat) (CD.int (0 : Int))).toSl).length : Int) ≤
                                                                                      (300 : Int) * (n_1 + (1 : Int))) ∧
                                                                  (n - (n_1 + (1 : Int))).toNat < (n - n_1).toNat) ∧
                                                          ((!false) = false → ((!!false) = true → False) ∧ false = true)) ∧
                                                    ((!!decide
                                                              (fin
                                                                  ((wrN (l_3, n_2.toNat)
                                                                        ((l_2.getD n_1.toNat []).getD (0 : Nat) (CD.int (0 : Int))).toSl
                                                                        ((l_2.getD n_1.toNat []).getD (0 : Nat) (CD.int (0 : Int))).toSl.length).fst,
                                                                    (↑(wrN (l_3, n_2.toNat)
                                                                              ((l_2.getD n_1.toNat []).getD (0 : Nat) (CD.int (0 : Int))).toSl
                                                                              ((l_2.getD n_1.toNat []).getD (0 : Nat) (CD.int (0 : Int))).toSl.length).snd :
                                                                        Int).toNat) =
                                                                sumP
                                                                  [[CD.sl (l_4 ++ ((l_2.getD n_1.toNat []).getD (0 : Nat) (CD.int (0 : Int))).toSl)]])) =
                                                        false →
                                                      ((!!false) = true →
                                                          areW
                                                              (wrN (l_3, n_2.toNat)
                                                                  ((l_2.getD n_1.toNat []).getD (0 : Nat) (CD.int (0 : Int))).toSl
                                                                  ((l_2.getD n_1.toNat []).getD (0 : Nat) (CD.int (0 : Int))).toSl.length).fst ∧
                                                            (0 : Int) ≤
                                                                (↑(wrN (l_3, n_2.toNat)
                                                                        ((l_2.getD n_1.toNat []).getD (0 : Nat) (CD.int (0 : Int))).toSl
                                                                        ((l_2.getD n_1.toNat []).getD (0 : Nat) (CD.int (0 : Int))).toSl.length).snd :
                                                                  Int) ∧
                                                              (↑(wrN (l_3, n_2.toNat)
                                                                        ((l_2.getD n_1.toNat []).getD (0 : Nat) (CD.int (0 : Int))).toSl
                                                                        ((l_2.getD n_1.toNat []).getD (0 : Nat) (CD.int (0 : Int))).toSl.length).snd :
                                                                  Int) <
                                                                (136 : Int)) ∧
                                                        ((!!false) = true →
                                                            ((!false) = true → False) ∧
                                                              Miss (1 : Nat)
                                                                { n := (46 : Nat),
                                                                  ov :=
                                                                    ((38 : Nat), SV.tup []) ::
                                                                      ((37 : Nat), SV.tup []) ::
                                                                        ((36 : Nat),
                                                                            SV.agg
                                                                              [SV.arrI (32 : Nat) Go.IntKind.u8
                                                                                  (fin
                                                                                    ((wrN (l_3, n_2.toNat)
                                                                                          ((l_2.getD n_1.toNat []).getD (0 : Nat) (CD.int (0 : Int))).toSl
                                                                                          ((l_2.getD n_1.toNat []).getD (0 : Nat) (CD.int (0 : Int))).toSl.length).fst,
                                                                                      (↑(wrN (l_3, n_2.toNat)
                                                                                                ((l_2.getD n_1.toNat []).getD (0 : Nat) (CD.int (0 : Int))).toSl
                                                                                                ((l_2.getD n_1.toNat []).getD (0 : Nat) (CD.int (0 : Int))).toSl.length).snd :
                                                                                          Int).toNat))]) ::
                                                                          ((34 : Nat), SV.bool false) ::
                                                                            ([] ++
                                                                              ((35 : Nat), SV.tup []) ::
                                                                                ((34 : Nat), SV.bool !false) ::
                                                                                  ([] ++
                                                                                    [((34 : Nat),
                                                                                        SV.bool
                                                                                          !decide
                                                                                              (fin
                                                                                                  ((wrN (l_3, n_2.toNat)
                                                                                                        ((l_2.getD n_1.toNat []).getD (0 : Nat) (CD.int (0 : Int))).toSl
                                                                                                        ((l_2.getD n_1.toNat []).getD (0 : Nat)
                                                                                                              (CD.int (0 : Int))).toSl.length).fst,
                                                                                                    (↑(wrN (l_3, n_2.toNat)
                                                                                                              ((l_2.getD n_1.toNat []).getD (0 : Nat) (CD.int (0 : Int))).toSl
                                                                                                              ((l_2.getD n_1.toNat []).getD (0 : Nat)
                                                                                                                    (CD.int (0 : Int))).toSl.length).snd :
                                                                                                        Int).toNat) =
                                                                                                sumP
                                                                                                  [[CD.sl
                                                                                                        (l_4 ++
                                                                                                          ((l_2.getD n_1.toNat []).getD (0 : Nat)
                                                                                                              (CD.int (0 : Int))).toSl)]])),
                                                                                      ((33 : Nat),
                                                                                        SV.bool
                                                                                          !decide
                                                                                              (fin
                                                                                                  ((wrN (l_3, n_2.toNat)
                                                                                                        ((l_2.getD n_1.toNat []).getD (0 : Nat) (CD.int (0 : Int))).toSl
                                                                                                        ((l_2.getD n_1.toNat []).getD (0 : Nat)
                                                                                                              (CD.int (0 : Int))).toSl.length).fst,
                                                                                                    (↑(wrN (l_3, n_2.toNat)
                                                                                                              ((l_2.getD n_1.toNat []).getD (0 : Nat) (CD.int (0 : Int))).toSl
                                                                                                              ((l_2.getD n_1.toNat []).getD (0 : Nat)
                                                                                                                    (CD.int (0 : Int))).toSl.length).snd :
                                                                                                        Int).toNat) =
                                                                                                sumP
                                                                                                  [[CD.sl
                                                                                                        (l_4 ++
                                                                                                          ((l_2.getD n_1.toNat []).getD (0 : Nat)
                                                                                                              (CD.int (0 : Int))).toSl)]])),
                                                                                      ((32 : Nat),
                                                                                        SV.agg
                                                                                          [SV.arrI (32 : Nat) Go.IntKind.u8
                                                                                              (sumP
                                                                                                [[CD.sl
                                                                                                      (l_4 ++
                                                                                                        ((l_2.getD n_1.toNat []).getD (0 : Nat) (CD.int (0 : Int))).toSl)]])]),
                                                                                      ((31 : Nat), SV.sls [SV.own (2 : Nat)]), ((30 : Nat), SV.own (2 : Nat)),
                                                                                      ((29 : Nat),
                                                                                        SV.agg
                                                                                          [SV.arrI (32 : Nat) Go.IntKind.u8
                                                                                              (fin
                                                                                                ((wrN (l_3, n_2.toNat)
                                                                                                      ((l_2.getD n_1.toNat []).getD (0 : Nat) (CD.int (0 : Int))).toSl
                                                                                                      ((l_2.getD n_1.toNat []).getD (0 : Nat)
                                                                                                            (CD.int (0 : Int))).toSl.length).fst,
                                                                                                  (↑(wrN (l_3, n_2.toNat)
                                                                                                            ((l_2.getD n_1.toNat []).getD (0 : Nat) (CD.int (0 : Int))).toSl
                                                                                                            ((l_2.getD n_1.toNat []).getD (0 : Nat)
                                                                                                                  (CD.int (0 : Int))).toSl.length).snd :
                                                                                                      Int).toNat))]),
                                                                                      ((4 : Nat), SV.own (2 : Nat)), ((28 : Nat), SV.own (2 : Nat)),
                                                                                      ((27 : Nat),
                                                                                        SV.rd [CSh.int Go.IntKind.u8]
                                                                                          ((l_2.getD n_1.toNat []).getD (0 : Nat) (CD.int (0 : Int))).toSl),
                                                                                      ((26 : Nat), SV.own (1 : Nat)), ((25 : Nat), SV.tup []),
                                                                                      ((24 : Nat),
                                                                                        SV.rd [CSh.int Go.IntKind.u8]
                                                                                          ((l_2.getD n_1.toNat []).getD (0 : Nat) (CD.int (0 : Int))).toSl),
                                                                                      ((23 : Nat),
                                                                                        SV.bool
                                                                                          (decide
                                                                                            ((300 : Int) <
                                                                                              (↑((l_2.getD n_1.toNat []).getD (0 : Nat) (CD.int (0 : Int))).toSl.length :
                                                                                                Int)))),
                                                                                      ((22 : Nat),
                                                                                        SV.int Go.IntKind.i64
                                                                                          (↑((l_2.getD n_1.toNat []).getD (0 : Nat) (CD.int (0 : Int))).toSl.length : Int)),
                                                                                      ((21 : Nat),
                                                                                        SV.rd [CSh.int Go.IntKind.u8]
                                                                                          ((l_2.getD n_1.toNat []).getD (0 : Nat) (CD.int (0 : Int))).toSl),
                                                                                      ((6 : Nat),
                                                                                        SV.rd [CSh.int Go.IntKind.u8]
                                                                                          ((l_2.getD n_1.toNat []).getD (0 : Nat) (CD.int (0 : Int))).toSl),
                                                                                      ((20 : Nat),
                                                                                        SV.rd [CSh.int Go.IntKind.u8]
                                                                                          ((l_2.getD n_1.toNat []).getD (0 : Nat) (CD.int (0 : Int))).toSl),
                                                                                      ((19 : Nat),
                                                                                        SV.eptr [CSh.sl [CSh.int Go.IntKind.u8]] l_2 n_1.toNat (0 : Nat)),
                                                                                      ((18 : Nat), SV.bool (decide (n_1 < n)))])),
                                                                  tm :=
                                                                    [SV.rd [CSh.sl [CSh.int Go.IntKind.u8]] l_1, SV.dead, SV.dead,
                                                                      SV.ptr (0 : Nat) (0 : Nat), SV.own (1 : Nat), SV.dead, SV.dead, SV.dead,
                                                                      SV.dead, SV.dead, SV.dead, SV.dead, SV.dead, SV.dead, SV.dead,
                                                                      SV.rd [CSh.sl [CSh.int Go.IntKind.u8]] l_2, SV.int Go.IntKind.i64 n,
                                                                      SV.int Go.IntKind.i64 n_1, SV.dead, SV.dead, SV.dead, SV.dead,
                                                                      SV.dead, SV.dead, SV.dead, SV.dead, SV.dead, SV.dead, SV.dead,
                                                                      SV.dead, SV.dead, SV.dead, SV.dead, SV.dead, SV.dead, SV.dead,
                                                                      SV.dead, SV.dead, SV.dead, SV.dead, SV.dead, SV.dead, SV.dead,
                                                                      SV.dead, SV.dead, SV.dead],
                                                                  hp :=
                                                                    [Blk.cells (56 : Go.TypeId)
                                                                        [SV.arrI (25 : Nat) Go.IntKind.u64
                                                                            (wrN (l_3, n_2.toNat)
                                                                                ((l_2.getD n_1.toNat []).getD (0 : Nat) (CD.int (0 : Int))).toSl
                                                                                ((l_2.getD n_1.toNat []).getD (0 : Nat) (CD.int (0 : Int))).toSl.length).fst,
                                                                          SV.int Go.IntKind.i64
                                                                            (↑(wrN (l_3, n_2.toNat)
                                                                                    ((l_2.getD n_1.toNat []).getD (0 : Nat) (CD.int (0 : Int))).toSl
                                                                                    ((l_2.getD n_1.toNat []).getD (0 : Nat) (CD.int (0 : Int))).toSl.length).snd :
                                                                              Int)],
                                                                      Blk.none,
                                                                      Blk.own (5 : Nat) [CSh.int Go.IntKind.u8]
                                                                        (l_4 ++ ((l_2.getD n_1.toNat []).getD (0 : Nat) (CD.int (0 : Int))).toSl)],
                                                                  G := [] }) ∧
                                                          ((!!false) = false → ((!!false) = true → False) ∧ false = true)))
                              else
                                areP l_1 ∧
                                  areP [[CD.sl l_4]] ∧
                                    decide (sumP l_1 = sumP [[CD.sl l_4]]) = true)
theorem e9 : ct9.VC (base.with sp11) Tryd.f9.results.toList Tryd.f9.ntmps (Tryd.f9.ntmps - ct9.ps.length) (bodyOf Tryd.f9) ann9 = P9 := by kernel_rfl
noncomputable def sp9 : SpecT := addS sp11 9 (mkF ct9)
end Go.Proofs.YtganbceicojfmaaDoor

/-
  The condition of the law of pieces is met.
-/
namespace Go.Proofs.YtganbceicojfmaaDoor
open Go Go.Avc Go.Proofs
set_option linter.unusedVariables false
set_option linter.unusedSimpArgs false
set_option maxRecDepth 100000
theorem wrP_s (l : List (List CD)) (n : Nat) : wrP l (n + 1) = wrN (wrP l n) (pt l n) (pt l n).length := by rw [wrP]
theorem cat_wr (l : List (List CD)) : ∀ n, wrN hs0 (cat l n) (cat l n).length = wrP l n
  | 0 => by rw [cat, wrP, List.length_nil, wrN]
  | n + 1 => by rw [cat, wr_append, cat_wr l n, wrP_s]
theorem sum_cat (l : List (List CD)) (n : Nat) : sumP [[.sl (cat l n)]] = fin (wrP l n) := by
  have e : ∀ c : List (List CD), wrP [[.sl c]] 1 = wrN hs0 c c.length := fun c => by
    rw [wrP_s, wrP]; rfl
  rw [sumP, hid_eq]
  show fin (wrP [[CD.sl (cat l n)]] 1) = _
  rw [e, cat_wr]
theorem rv_append (a b : List (List CD)) (i : Nat) : rv (a ++ b) i = if i < a.length then rv a i else rv b (i - a.length) := by
  unfold rv
  by_cases h : i < a.length
  · rw [if_pos h, List.getD_eq_getElem?_getD (l := a ++ b), List.getElem?_append_left h, ← List.getD_eq_getElem?_getD]
  · rw [if_neg h, List.getD_eq_getElem?_getD (l := a ++ b), List.getElem?_append_right (by omega), ← List.getD_eq_getElem?_getD]
theorem cat_b {l : List (List CD)} (h : areP l) : ∀ n, areB (cat l n)
  | 0 => fun j => by
    have e2 : rv (cat l 0) j = 0 := rfl
    rw [e2]; exact ⟨by decide, by decide⟩
  | n + 1 => fun j => by
    rw [cat, rv_append]
    split
    · exact cat_b h n j
    · exact h n _
theorem pt_def (l : List (List CD)) (i : Nat) : ((l.getD i []).getD 0 (CD.int 0)).toSl = pt l i := rfl
theorem vc9 : P9 := by
  intro l _ hp
  refine ⟨trivial, fun _ => condI (fun _ => ⟨trivial, rfl⟩) fun h => fun _ => ?_⟩
  simp only [Bool.or_eq_false_iff, decide_eq_false_iff_not] at h
  refine ⟨⟨⟨rfl, rfl, rfl, by omega, by omega, by omega, rfl, rfl, rfl, by omega⟩, trivial⟩, ?_⟩
  rintro l0 l1 n i' s a o _ _ _ _ ⟨rfl, rfl, rfl, h20, h0, h1, hs, ha, ho, hol⟩
  obtain ⟨i, rfl⟩ := ex_nat h0
  rw [Int.toNat_natCast] at hs ha ho
  rw [suc_nat, Int.toNat_natCast i]
  obtain ⟨k1, k2, k3⟩ := wrP_ok l1 i
  refine condI (fun h2 => ?_) fun h2 => ?_
  · simp only [decide_eq_true_eq] at h2
    rw [pt_def]
    refine ⟨by omega, by omega, fun _ => condI (fun _ => rfl) fun h3 => ?_⟩
    simp only [decide_eq_false_iff_not] at h3
    have hw : wrN (s, a.toNat) (pt l1 i) (pt l1 i).length = wrP l1 (i + 1) := by rw [hs, ha, hs_eta, wrP_s]
    have hc : o ++ pt l1 i = cat l1 (i + 1) := by rw [ho, cat]
    obtain ⟨w1, w2, w3⟩ := wrP_ok l1 (i + 1)
    have hcl : (cat l1 (i + 1)).length = o.length + (pt l1 i).length := by rw [← hc, List.length_append]
    rw [hw, hs_eta, hc, sum_cat, dec_self]
    have hok : areW (wrP l1 (i + 1)).1 ∧ 0 ≤ (((wrP l1 (i + 1)).2 : Nat) : Int) ∧ (((wrP l1 (i + 1)).2 : Nat) : Int) < 136 := ⟨w2, by omega, by omega⟩
    refine ⟨by omega, by omega, hok, areP1 (cat_b hp _), fun _ => hok, fun _ => ⟨fun _ => hok, fun _ => ?_, fun h => absurd h (by decide)⟩, fun h => absurd h (by decide)⟩
    refine condI (fun h => absurd h (by decide)) fun _ => ⟨by omega, ⟨rfl, rfl, rfl, h20, by omega, by omega, rfl, rfl, rfl, by omega⟩, by omega⟩
  · simp only [decide_eq_false_iff_not] at h2
    have hi : i = l1.length := by omega
    refine ⟨hp, by rw [ho]; exact areP1 (cat_b hp _), ?_⟩
    have e : sumP l1 = fin (wrP l1 l1.length) := by rw [sumP, hid_eq]
    rw [ho, hi, sum_cat, e, dec_self]
theorem ok9 : SpecOk (base.with sp11) 9 (mkF ct9) := spec_ct (fn := Tryd.f9) (c := bodyOf Tryd.f9) (k := Tryd.f9.ntmps - ct9.ps.length) (ct := ct9) c11 Tryd.func9 (by kernel_rfl) ann9 (by kernel_rfl) (fun vs w _ => Tryd.call9 vs w) (e9.mpr vc9)
theorem c9 : (base.with sp9).Ok := addS_ok c11 ok9
end Go.Proofs.YtganbceicojfmaaDoor
