/-
 Conditions of contracts, as the kernel reckons them (printed by a program of ours, checked by the kernel).
-/
import Derived.Test.YteiecapbaeajdaaGreatDoorJ9
import Derived.KernelRfl
namespace Go.Proofs.YteiecapbaeajdaaGreatDoor
open Go Go.Avc Go.Proofs
set_option linter.unusedVariables false
set_option maxRecDepth 100000
def P10 : Prop :=
 ∀ (l : List (List CD)),
 l.length ≤ (9223372036854775807 : Nat) →
 l =
 [[CD.int (1 : Int)], [CD.int (16 : Int)], [CD.int (0 : Int)], [CD.int (1 : Int)], [CD.int (1 : Int)], [CD.int (1 : Int)],
 [CD.int (0 : Int)], [CD.int (0 : Int)], [CD.int (0 : Int)], [CD.int (0 : Int)], [CD.int (0 : Int)], [CD.int (2 : Int)],
 [CD.int (3 : Int)], [CD.int (1 : Int)], [CD.int (0 : Int)], [CD.int (0 : Int)], [CD.int (0 : Int)], [CD.int (0 : Int)],
 [CD.int (0 : Int)], [CD.int (0 : Int)], [CD.int (1 : Int)], [CD.int (1 : Int)], [CD.int (0 : Int)], [CD.int (7 : Int)],
 [CD.int (2 : Int)], [CD.int (1 : Int)], [CD.int (0 : Int)], [CD.int (4 : Int)]] →
 ((0 : Int) ≤ (1 : Int) ∧ (1 : Int) ≤ (2 : Int) ∧ (1 : Int) ≤ (↑l.length : Int) ∧ l.length ≤ (1000000 : Nat) ∧ areB l) ∧
 ((0 : Int) ≤ (2 : Int) ∧
 (2 : Int) ≤ (2 : Int) ∧
 (2 : Int) ≤ (↑(List.drop (1 : Nat) l).length : Int) ∧
 (List.drop (1 : Nat) l).length ≤ (1000000 : Nat) ∧ areB (List.drop (1 : Nat) l)) ∧
 ((0 : Int) ≤ nuN (List.take (2 : Nat) (List.drop (1 : Nat) l)) (2 : Nat) ∧
 nuN (List.take (2 : Nat) (List.drop (1 : Nat) l)) (2 : Nat) ≤ (↑(List.drop (2 : Nat) (List.drop (1 : Nat) l)).length : Int) ∧
 (List.drop (2 : Nat) (List.drop (1 : Nat) l)).length ≤ (1000000 : Nat)) ∧
 ((nuN (List.take (1 : Nat) l) (1 : Nat) = (1 : Int) ∧
 List.take (nuN (List.take (2 : Nat) (List.drop (1 : Nat) l)) (2 : Nat)).toNat (List.drop (2 : Nat) (List.drop (1 : Nat) l)) =
 [[CD.int (1 : Int)], [CD.int (1 : Int)], [CD.int (1 : Int)], [CD.int (0 : Int)], [CD.int (0 : Int)],
 [CD.int (0 : Int)], [CD.int (0 : Int)], [CD.int (0 : Int)], [CD.int (2 : Int)], [CD.int (3 : Int)],
 [CD.int (1 : Int)], [CD.int (0 : Int)], [CD.int (0 : Int)], [CD.int (0 : Int)], [CD.int (0 : Int)],
 [CD.int (0 : Int)]] ∧
 (0 : Int) = (0 : Int) ∧
 ((List.drop (nuN (List.take (2 : Nat) (List.drop (1 : Nat) l)) (2 : Nat)).toNat
 (List.drop (2 : Nat) (List.drop (1 : Nat) l)),
 []) =
 rdS (0 : Nat) ∨
 (List.drop (nuN (List.take (2 : Nat) (List.drop (1 : Nat) l)) (2 : Nat)).toNat
 (List.drop (2 : Nat) (List.drop (1 : Nat) l)),
 []) =
 rdS (1 : Nat) ∨
 (List.drop (nuN (List.take (2 : Nat) (List.drop (1 : Nat) l)) (2 : Nat)).toNat
 (List.drop (2 : Nat) (List.drop (1 : Nat) l)),
 []) =
 rdS (2 : Nat) ∨
 (List.drop (nuN (List.take (2 : Nat) (List.drop (1 : Nat) l)) (2 : Nat)).toNat
 (List.drop (2 : Nat) (List.drop (1 : Nat) l)),
 []) =
 rdS (3 : Nat))) ∧
 True) ∧
 ∀ (n : Int) (l : List (List CD)) (n_1 : Int) (l_1 l_2 : List (List CD)),
 l.length ≤ (9223372036854775807 : Nat) →
 l_1.length ≤ (9223372036854775807 : Nat) →
 n = (1 : Int) ∧
 l =
 [[CD.int (1 : Int)], [CD.int (1 : Int)], [CD.int (1 : Int)], [CD.int (0 : Int)], [CD.int (0 : Int)],
 [CD.int (0 : Int)], [CD.int (0 : Int)], [CD.int (0 : Int)], [CD.int (2 : Int)], [CD.int (3 : Int)],
 [CD.int (1 : Int)], [CD.int (0 : Int)], [CD.int (0 : Int)], [CD.int (0 : Int)], [CD.int (0 : Int)],
 [CD.int (0 : Int)]] ∧
 n_1 = (0 : Int) ∧
 ((l_1, l_2) = rdS (0 : Nat) ∨
 (l_1, l_2) = rdS (1 : Nat) ∨
 (l_1, l_2) = rdS (2 : Nat) ∨ (l_1, l_2) = rdS (3 : Nat)) →
 l_1.length ≤ (9223372036854775807 : Nat) →
 bif decide ((0 : Int) < (↑l_1.length : Int)) then
 ((0 : Int) ≤ (1 : Int) ∧
 (1 : Int) ≤ (2 : Int) ∧ (1 : Int) ≤ (↑l_1.length : Int) ∧ l_1.length ≤ (1000000 : Nat) ∧ areB l_1) ∧
 (l_2.length ≤ (9223372036854775807 : Nat) →
 bif decide ((↑l_2.length : Int) = (200 : Int)) then
 (0 : Int) = (1 : Int) ∧
 [] =
 [[CD.int (1 : Int)], [CD.int (1 : Int)], [CD.int (1 : Int)], [CD.int (0 : Int)], [CD.int (0 : Int)],
 [CD.int (0 : Int)], [CD.int (0 : Int)], [CD.int (0 : Int)], [CD.int (2 : Int)], [CD.int (3 : Int)],
 [CD.int (1 : Int)], [CD.int (0 : Int)], [CD.int (0 : Int)], [CD.int (0 : Int)], [CD.int (0 : Int)],
 [CD.int (0 : Int)]] ∧
 (9 : Int) = (0 : Int) ∧
 [] =
 [[CD.int (0 : Int), CD.int (1 : Int), CD.int (0 : Int), CD.sl [[CD.int (7 : Int)]]],
 [CD.int (2 : Int), CD.int (0 : Int), CD.int (1 : Int), CD.sl []],
 [CD.int (4 : Int), CD.int (0 : Int), CD.int (0 : Int), CD.sl []]]
 else
 bif decide (nuN (List.take (1 : Nat) l_1) (1 : Nat) = (0 : Int)) then
 ((0 : Int) ≤ (1 : Int) ∧
 (1 : Int) ≤ (2 : Int) ∧
 (1 : Int) ≤ (↑(List.drop (1 : Nat) l_1).length : Int) ∧
 (List.drop (1 : Nat) l_1).length ≤ (1000000 : Nat) ∧ areB (List.drop (1 : Nat) l_1)) ∧
 ((0 : Int) ≤ (2 : Int) ∧
 (2 : Int) ≤ (2 : Int) ∧
 (2 : Int) ≤ (↑(List.drop (1 : Nat) (List.drop (1 : Nat) l_1)).length : Int) ∧
 (List.drop (1 : Nat) (List.drop (1 : Nat) l_1)).length ≤ (1000000 : Nat) ∧
 areB (List.drop (1 : Nat) (List.drop (1 : Nat) l_1))) ∧
 ((0 : Int) ≤ nuN (List.take (2 : Nat) (List.drop (1 : Nat) (List.drop (1 : Nat) l_1))) (2 : Nat) ∧
 nuN (List.take (2 : Nat) (List.drop (1 : Nat) (List.drop (1 : Nat) l_1))) (2 : Nat) ≤
 (↑(List.drop (2 : Nat) (List.drop (1 : Nat) (List.drop (1 : Nat) l_1))).length : Int) ∧
 (List.drop (2 : Nat) (List.drop (1 : Nat) (List.drop (1 : Nat) l_1))).length ≤ (1000000 : Nat)) ∧
 ((l_2.length + (1 : Nat)) * (48 : Nat) ≤ (140737488355328 : Nat) ∧ l_2.length + (1 : Nat) ≤ (9223372036854775807 : Nat)) ∧
 (n = (1 : Int) ∧
 l =
 [[CD.int (1 : Int)], [CD.int (1 : Int)], [CD.int (1 : Int)], [CD.int (0 : Int)],
 [CD.int (0 : Int)], [CD.int (0 : Int)], [CD.int (0 : Int)], [CD.int (0 : Int)],
 [CD.int (2 : Int)], [CD.int (3 : Int)], [CD.int (1 : Int)], [CD.int (0 : Int)],
 [CD.int (0 : Int)], [CD.int (0 : Int)], [CD.int (0 : Int)], [CD.int (0 : Int)]] ∧
 n_1 = (0 : Int) ∧
 ((List.drop
 (nuN (List.take (2 : Nat) (List.drop (1 : Nat) (List.drop (1 : Nat) l_1)))
 (2 : Nat)).toNat
 (List.drop (2 : Nat) (List.drop (1 : Nat) (List.drop (1 : Nat) l_1))),
 l_2 ++
 [[CD.int (nuN (List.take (1 : Nat) l_1) (1 : Nat)),
 CD.int (nuN (List.take (1 : Nat) (List.drop (1 : Nat) l_1)) (1 : Nat)),
 CD.int (0 : Int),
 CD.sl
 (List.take
 (nuN (List.take (2 : Nat) (List.drop (1 : Nat) (List.drop (1 : Nat) l_1)))
 (2 : Nat)).toNat
 (List.drop (2 : Nat) (List.drop (1 : Nat) (List.drop (1 : Nat) l_1))))]]) =
 rdS (0 : Nat) ∨
 (List.drop
 (nuN (List.take (2 : Nat) (List.drop (1 : Nat) (List.drop (1 : Nat) l_1)))
 (2 : Nat)).toNat
 (List.drop (2 : Nat) (List.drop (1 : Nat) (List.drop (1 : Nat) l_1))),
 l_2 ++
 [[CD.int (nuN (List.take (1 : Nat) l_1) (1 : Nat)),
 CD.int (nuN (List.take (1 : Nat) (List.drop (1 : Nat) l_1)) (1 : Nat)),
 CD.int (0 : Int),
 CD.sl
 (List.take
 (nuN (List.take (2 : Nat) (List.drop (1 : Nat) (List.drop (1 : Nat) l_1)))
 (2 : Nat)).toNat
 (List.drop (2 : Nat) (List.drop (1 : Nat) (List.drop (1 : Nat) l_1))))]]) =
 rdS (1 : Nat) ∨
 (List.drop
 (nuN (List.take (2 : Nat) (List.drop (1 : Nat) (List.drop (1 : Nat) l_1)))
 (2 : Nat)).toNat
 (List.drop (2 : Nat) (List.drop (1 : Nat) (List.drop (1 : Nat) l_1))),
 l_2 ++
 [[CD.int (nuN (List.take (1 : Nat) l_1) (1 : Nat)),
 CD.int (nuN (List.take (1 : Nat) (List.drop (1 : Nat) l_1)) (1 : Nat)),
 CD.int (0 : Int),
 CD.sl
 (List.take
 (nuN (List.take (2 : Nat) (List.drop (1 : Nat) (List.drop (1 : Nat) l_1)))
 (2 : Nat)).toNat
 (List.drop (2 : Nat) (List.drop (1 : Nat) (List.drop (1 : Nat) l_1))))]]) =
 rdS (2 : Nat) ∨
 (List.drop
 (nuN (List.take (2 : Nat) (List.drop (1 : Nat) (List.drop (1 : Nat) l_1)))
 (2 : Nat)).toNat
 (List.drop (2 : Nat) (List.drop (1 : Nat) (List.drop (1 : Nat) l_1))),
 l_2 ++
 [[CD.int (nuN (List.take (1 : Nat) l_1) (1 : Nat)),
 CD.int (nuN (List.take (1 : Nat) (List.drop (1 : Nat) l_1)) (1 : Nat)),
 CD.int (0 : Int),
 CD.sl
 (List.take
 (nuN (List.take (2 : Nat) (List.drop (1 : Nat) (List.drop (1 : Nat) l_1)))
 (2 : Nat)).toNat
 (List.drop (2 : Nat) (List.drop (1 : Nat) (List.drop (1 : Nat) l_1))))]]) =
 rdS (3 : Nat))) ∧
 (List.drop
 (nuN (List.take (2 : Nat) (List.drop (1 : Nat) (List.drop (1 : Nat) l_1))) (2 : Nat)).toNat
 (List.drop (2 : Nat) (List.drop (1 : Nat) (List.drop (1 : Nat) l_1)))).length <
 l_1.length
 else
 bif decide (nuN (List.take (1 : Nat) l_1) (1 : Nat) = (1 : Int)) then
 bif decide (nuN (List.take (1 : Nat) l_1) (1 : Nat) = (1 : Int)) then
 ((0 : Int) ≤ (2 : Int) ∧
 (2 : Int) ≤ (2 : Int) ∧
 (2 : Int) ≤ (↑(List.drop (1 : Nat) l_1).length : Int) ∧
 (List.drop (1 : Nat) l_1).length ≤ (1000000 : Nat) ∧ areB (List.drop (1 : Nat) l_1)) ∧
 ((l_2.length + (1 : Nat)) * (48 : Nat) ≤ (140737488355328 : Nat) ∧ l_2.length + (1 : Nat) ≤ (9223372036854775807 : Nat)) ∧
 (n = (1 : Int) ∧
 l =
 [[CD.int (1 : Int)], [CD.int (1 : Int)], [CD.int (1 : Int)], [CD.int (0 : Int)],
 [CD.int (0 : Int)], [CD.int (0 : Int)], [CD.int (0 : Int)], [CD.int (0 : Int)],
 [CD.int (2 : Int)], [CD.int (3 : Int)], [CD.int (1 : Int)], [CD.int (0 : Int)],
 [CD.int (0 : Int)], [CD.int (0 : Int)], [CD.int (0 : Int)], [CD.int (0 : Int)]] ∧
 n_1 = (0 : Int) ∧
 ((List.drop (2 : Nat) (List.drop (1 : Nat) l_1),
 l_2 ++
 [[CD.int (nuN (List.take (1 : Nat) l_1) (1 : Nat)), CD.int (0 : Int),
 CD.int (nuN (List.take (2 : Nat) (List.drop (1 : Nat) l_1)) (2 : Nat)),
 CD.sl []]]) =
 rdS (0 : Nat) ∨
 (List.drop (2 : Nat) (List.drop (1 : Nat) l_1),
 l_2 ++
 [[CD.int (nuN (List.take (1 : Nat) l_1) (1 : Nat)), CD.int (0 : Int),
 CD.int (nuN (List.take (2 : Nat) (List.drop (1 : Nat) l_1)) (2 : Nat)),
 CD.sl []]]) =
 rdS (1 : Nat) ∨
 (List.drop (2 : Nat) (List.drop (1 : Nat) l_1),
 l_2 ++
 [[CD.int (nuN (List.take (1 : Nat) l_1) (1 : Nat)),
 CD.int (0 : Int),
 CD.int (nuN (List.take (2 : Nat) (List.drop (1 : Nat) l_1)) (2 : Nat)),
 CD.sl []]]) =
 rdS (2 : Nat) ∨
 (List.drop (2 : Nat) (List.drop (1 : Nat) l_1),
 l_2 ++
 [[CD.int (nuN (List.take (1 : Nat) l_1) (1 : Nat)),
 CD.int (0 : Int),
 CD.int (nuN (List.take (2 : Nat) (List.drop (1 : Nat) l_1)) (2 : Nat)),
 CD.sl []]]) =
 rdS (3 : Nat))) ∧
 (List.drop (2 : Nat) (List.drop (1 : Nat) l_1)).length < l_1.length
 else
 bif decide (nuN (List.take (1 : Nat) l_1) (1 : Nat) = (3 : Int)) then
 bif decide (nuN (List.take (1 : Nat) l_1) (1 : Nat) = (3 : Int)) then
 ((l_2.length + (1 : Nat)) * (48 : Nat) ≤ (140737488355328 : Nat) ∧ l_2.length + (1 : Nat) ≤ (9223372036854775807 : Nat)) ∧
 (n = (1 : Int) ∧
 l =
 [[CD.int (1 : Int)], [CD.int (1 : Int)], [CD.int (1 : Int)], [CD.int (0 : Int)],
 [CD.int (0 : Int)], [CD.int (0 : Int)], [CD.int (0 : Int)], [CD.int (0 : Int)],
 [CD.int (2 : Int)], [CD.int (3 : Int)], [CD.int (1 : Int)], [CD.int (0 : Int)],
 [CD.int (0 : Int)], [CD.int (0 : Int)], [CD.int (0 : Int)], [CD.int (0 : Int)]] ∧
 n_1 = (0 : Int) ∧
 ((List.drop (1 : Nat) l_1,
 l_2 ++
 [[CD.int (nuN (List.take (1 : Nat) l_1) (1 : Nat)), CD.int (0 : Int),
 CD.int (0 : Int), CD.sl []]]) =
 rdS (0 : Nat) ∨
 (List.drop (1 : Nat) l_1,
 l_2 ++
 [[CD.int (nuN (List.take (1 : Nat) l_1) (1 : Nat)),
 CD.int (0 : Int), CD.int (0 : Int), CD.sl []]]) =
 rdS (1 : Nat) ∨
 (List.drop (1 : Nat) l_1,
 l_2 ++
 [[CD.int (nuN (List.take (1 : Nat) l_1) (1 : Nat)),
 CD.int (0 : Int), CD.int (0 : Int), CD.sl []]]) =
 rdS (2 : Nat) ∨
 (List.drop (1 : Nat) l_1,
 l_2 ++
 [[CD.int (nuN (List.take (1 : Nat) l_1) (1 : Nat)),
 CD.int (0 : Int), CD.int (0 : Int), CD.sl []]]) =
 rdS (3 : Nat))) ∧
 (List.drop (1 : Nat) l_1).length < l_1.length
 else
 (0 : Int) = (1 : Int) ∧
 [] =
 [[CD.int (1 : Int)], [CD.int (1 : Int)], [CD.int (1 : Int)], [CD.int (0 : Int)],
 [CD.int (0 : Int)], [CD.int (0 : Int)], [CD.int (0 : Int)], [CD.int (0 : Int)],
 [CD.int (2 : Int)], [CD.int (3 : Int)], [CD.int (1 : Int)], [CD.int (0 : Int)],
 [CD.int (0 : Int)], [CD.int (0 : Int)], [CD.int (0 : Int)], [CD.int (0 : Int)]] ∧
 (5 : Int) = (0 : Int) ∧
 [] =
 [[CD.int (0 : Int), CD.int (1 : Int), CD.int (0 : Int), CD.sl [[CD.int (7 : Int)]]],
 [CD.int (2 : Int), CD.int (0 : Int), CD.int (1 : Int), CD.sl []],
 [CD.int (4 : Int), CD.int (0 : Int), CD.int (0 : Int), CD.sl []]]
 else
 bif decide (nuN (List.take (1 : Nat) l_1) (1 : Nat) = (4 : Int)) then
 ((l_2.length + (1 : Nat)) * (48 : Nat) ≤ (140737488355328 : Nat) ∧ l_2.length + (1 : Nat) ≤ (9223372036854775807 : Nat)) ∧
 (n = (1 : Int) ∧
 l =
 [[CD.int (1 : Int)], [CD.int (1 : Int)], [CD.int (1 : Int)], [CD.int (0 : Int)],
 [CD.int (0 : Int)], [CD.int (0 : Int)], [CD.int (0 : Int)], [CD.int (0 : Int)],
 [CD.int (2 : Int)], [CD.int (3 : Int)], [CD.int (1 : Int)], [CD.int (0 : Int)],
 [CD.int (0 : Int)], [CD.int (0 : Int)], [CD.int (0 : Int)], [CD.int (0 : Int)]] ∧
 n_1 = (0 : Int) ∧
 ((List.drop (1 : Nat) l_1,
 l_2 ++
 [[CD.int (nuN (List.take (1 : Nat) l_1) (1 : Nat)), CD.int (0 : Int),
 CD.int (0 : Int), CD.sl []]]) =
 rdS (0 : Nat) ∨
 (List.drop (1 : Nat) l_1,
 l_2 ++
 [[CD.int (nuN (List.take (1 : Nat) l_1) (1 : Nat)),
 CD.int (0 : Int), CD.int (0 : Int), CD.sl []]]) =
 rdS (1 : Nat) ∨
 (List.drop (1 : Nat) l_1,
 l_2 ++
 [[CD.int (nuN (List.take (1 : Nat) l_1) (1 : Nat)),
 CD.int (0 : Int), CD.int (0 : Int), CD.sl []]]) =
 rdS (2 : Nat) ∨
 (List.drop (1 : Nat) l_1,
 l_2 ++
 [[CD.int (nuN (List.take (1 : Nat) l_1) (1 : Nat)),
 CD.int (0 : Int), CD.int (0 : Int), CD.sl []]]) =
 rdS (3 : Nat))) ∧
 (List.drop (1 : Nat) l_1).length < l_1.length
 else
 (0 : Int) = (1 : Int) ∧
 [] =
 [[CD.int (1 : Int)], [CD.int (1 : Int)], [CD.int (1 : Int)], [CD.int (0 : Int)],
 [CD.int (0 : Int)], [CD.int (0 : Int)], [CD.int (0 : Int)], [CD.int (0 : Int)],
 [CD.int (2 : Int)], [CD.int (3 : Int)], [CD.int (1 : Int)], [CD.int (0 : Int)],
 [CD.int (0 : Int)], [CD.int (0 : Int)], [CD.int (0 : Int)], [CD.int (0 : Int)]] ∧
 (5 : Int) = (0 : Int) ∧
 [] =
 [[CD.int (0 : Int), CD.int (1 : Int), CD.int (0 : Int), CD.sl [[CD.int (7 : Int)]]],
 [CD.int (2 : Int), CD.int (0 : Int), CD.int (1 : Int), CD.sl []],
 [CD.int (4 : Int), CD.int (0 : Int), CD.int (0 : Int), CD.sl []]]
 else
 bif decide (nuN (List.take (1 : Nat) l_1) (1 : Nat) = (2 : Int)) then
 ((0 : Int) ≤ (2 : Int) ∧
 (2 : Int) ≤ (2 : Int) ∧
 (2 : Int) ≤ (↑(List.drop (1 : Nat) l_1).length : Int) ∧
 (List.drop (1 : Nat) l_1).length ≤ (1000000 : Nat) ∧ areB (List.drop (1 : Nat) l_1)) ∧
 ((l_2.length + (1 : Nat)) * (48 : Nat) ≤ (140737488355328 : Nat) ∧ l_2.length + (1 : Nat) ≤ (9223372036854775807 : Nat)) ∧
 (n = (1 : Int) ∧
 l =
 [[CD.int (1 : Int)], [CD.int (1 : Int)], [CD.int (1 : Int)], [CD.int (0 : Int)],
 [CD.int (0 : Int)], [CD.int (0 : Int)], [CD.int (0 : Int)], [CD.int (0 : Int)],
 [CD.int (2 : Int)], [CD.int (3 : Int)], [CD.int (1 : Int)], [CD.int (0 : Int)],
 [CD.int (0 : Int)], [CD.int (0 : Int)], [CD.int (0 : Int)], [CD.int (0 : Int)]] ∧
 n_1 = (0 : Int) ∧
 ((List.drop (2 : Nat) (List.drop (1 : Nat) l_1),
 l_2 ++
 [[CD.int (nuN (List.take (1 : Nat) l_1) (1 : Nat)), CD.int (0 : Int),
 CD.int (nuN (List.take (2 : Nat) (List.drop (1 : Nat) l_1)) (2 : Nat)),
 CD.sl []]]) =
 rdS (0 : Nat) ∨
 (List.drop (2 : Nat) (List.drop (1 : Nat) l_1),
 l_2 ++
 [[CD.int (nuN (List.take (1 : Nat) l_1) (1 : Nat)), CD.int (0 : Int),
 CD.int (nuN (List.take (2 : Nat) (List.drop (1 : Nat) l_1)) (2 : Nat)),
 CD.sl []]]) =
 rdS (1 : Nat) ∨
 (List.drop (2 : Nat) (List.drop (1 : Nat) l_1),
 l_2 ++
 [[CD.int (nuN (List.take (1 : Nat) l_1) (1 : Nat)),
 CD.int (0 : Int),
 CD.int (nuN (List.take (2 : Nat) (List.drop (1 : Nat) l_1)) (2 : Nat)),
 CD.sl []]]) =
 rdS (2 : Nat) ∨
 (List.drop (2 : Nat) (List.drop (1 : Nat) l_1),
 l_2 ++
 [[CD.int (nuN (List.take (1 : Nat) l_1) (1 : Nat)),
 CD.int (0 : Int),
 CD.int (nuN (List.take (2 : Nat) (List.drop (1 : Nat) l_1)) (2 : Nat)),
 CD.sl []]]) =
 rdS (3 : Nat))) ∧
 (List.drop (2 : Nat) (List.drop (1 : Nat) l_1)).length < l_1.length
 else
 bif decide (nuN (List.take (1 : Nat) l_1) (1 : Nat) = (3 : Int)) then
 bif decide (nuN (List.take (1 : Nat) l_1) (1 : Nat) = (3 : Int)) then
 ((l_2.length + (1 : Nat)) * (48 : Nat) ≤ (140737488355328 : Nat) ∧ l_2.length + (1 : Nat) ≤ (9223372036854775807 : Nat)) ∧
 (n = (1 : Int) ∧
 l =
 [[CD.int (1 : Int)], [CD.int (1 : Int)], [CD.int (1 : Int)], [CD.int (0 : Int)],
 [CD.int (0 : Int)], [CD.int (0 : Int)], [CD.int (0 : Int)], [CD.int (0 : Int)],
 [CD.int (2 : Int)], [CD.int (3 : Int)], [CD.int (1 : Int)], [CD.int (0 : Int)],
 [CD.int (0 : Int)], [CD.int (0 : Int)], [CD.int (0 : Int)], [CD.int (0 : Int)]] ∧
 n_1 = (0 : Int) ∧
 ((List.drop (1 : Nat) l_1,
 l_2 ++
 [[CD.int (nuN (List.take (1 : Nat) l_1) (1 : Nat)), CD.int (0 : Int),
 CD.int (0 : Int), CD.sl []]]) =
 rdS (0 : Nat) ∨
 (List.drop (1 : Nat) l_1,
 l_2 ++
 [[CD.int (nuN (List.take (1 : Nat) l_1) (1 : Nat)),
 CD.int (0 : Int), CD.int (0 : Int), CD.sl []]]) =
 rdS (1 : Nat) ∨
 (List.drop (1 : Nat) l_1,
 l_2 ++
 [[CD.int (nuN (List.take (1 : Nat) l_1) (1 : Nat)),
 CD.int (0 : Int), CD.int (0 : Int), CD.sl []]]) =
 rdS (2 : Nat) ∨
 (List.drop (1 : Nat) l_1,
 l_2 ++
 [[CD.int (nuN (List.take (1 : Nat) l_1) (1 : Nat)),
 CD.int (0 : Int), CD.int (0 : Int), CD.sl []]]) =
 rdS (3 : Nat))) ∧
 (List.drop (1 : Nat) l_1).length < l_1.length
 else
 (0 : Int) = (1 : Int) ∧
 [] =
 [[CD.int (1 : Int)], [CD.int (1 : Int)], [CD.int (1 : Int)], [CD.int (0 : Int)],
 [CD.int (0 : Int)], [CD.int (0 : Int)], [CD.int (0 : Int)], [CD.int (0 : Int)],
 [CD.int (2 : Int)], [CD.int (3 : Int)], [CD.int (1 : Int)], [CD.int (0 : Int)],
 [CD.int (0 : Int)], [CD.int (0 : Int)], [CD.int (0 : Int)], [CD.int (0 : Int)]] ∧
 (5 : Int) = (0 : Int) ∧
 [] =
 [[CD.int (0 : Int), CD.int (1 : Int), CD.int (0 : Int), CD.sl [[CD.int (7 : Int)]]],
 [CD.int (2 : Int), CD.int (0 : Int), CD.int (1 : Int), CD.sl []],
 [CD.int (4 : Int), CD.int (0 : Int), CD.int (0 : Int), CD.sl []]]
 else
 bif decide (nuN (List.take (1 : Nat) l_1) (1 : Nat) = (4 : Int)) then
 ((l_2.length + (1 : Nat)) * (48 : Nat) ≤ (140737488355328 : Nat) ∧ l_2.length + (1 : Nat) ≤ (9223372036854775807 : Nat)) ∧
 (n = (1 : Int) ∧
 l =
 [[CD.int (1 : Int)], [CD.int (1 : Int)], [CD.int (1 : Int)], [CD.int (0 : Int)],
 [CD.int (0 : Int)], [CD.int (0 : Int)], [CD.int (0 : Int)], [CD.int (0 : Int)],
 [CD.int (2 : Int)], [CD.int (3 : Int)], [CD.int (1 : Int)], [CD.int (0 : Int)],
 [CD.int (0 : Int)], [CD.int (0 : Int)], [CD.int (0 : Int)], [CD.int (0 : Int)]] ∧
 n_1 = (0 : Int) ∧
 ((List.drop (1 : Nat) l_1,
 l_2 ++
 [[CD.int (nuN (List.take (1 : Nat) l_1) (1 : Nat)), CD.int (0 : Int),
 CD.int (0 : Int), CD.sl []]]) =
 rdS (0 : Nat) ∨
 (List.drop (1 : Nat) l_1,
 l_2 ++
 [[CD.int (nuN (List.take (1 : Nat) l_1) (1 : Nat)),
 CD.int (0 : Int), CD.int (0 : Int), CD.sl []]]) =
 rdS (1 : Nat) ∨
 (List.drop (1 : Nat) l_1,
 l_2 ++
 [[CD.int (nuN (List.take (1 : Nat) l_1) (1 : Nat)),
 CD.int (0 : Int), CD.int (0 : Int), CD.sl []]]) =
 rdS (2 : Nat) ∨
 (List.drop (1 : Nat) l_1,
 l_2 ++
 [[CD.int (nuN (List.take (1 : Nat) l_1) (1 : Nat)),
 CD.int (0 : Int), CD.int (0 : Int), CD.sl []]]) =
 rdS (3 : Nat))) ∧
 (List.drop (1 : Nat) l_1).length < l_1.length
 else
 (0 : Int) = (1 : Int) ∧
 [] =
 [[CD.int (1 : Int)], [CD.int (1 : Int)], [CD.int (1 : Int)], [CD.int (0 : Int)],
 [CD.int (0 : Int)], [CD.int (0 : Int)], [CD.int (0 : Int)], [CD.int (0 : Int)],
 [CD.int (2 : Int)], [CD.int (3 : Int)], [CD.int (1 : Int)], [CD.int (0 : Int)],
 [CD.int (0 : Int)], [CD.int (0 : Int)], [CD.int (0 : Int)], [CD.int (0 : Int)]] ∧
 (5 : Int) = (0 : Int) ∧
 [] =
 [[CD.int (0 : Int), CD.int (1 : Int), CD.int (0 : Int), CD.sl [[CD.int (7 : Int)]]],
 [CD.int (2 : Int), CD.int (0 : Int), CD.int (1 : Int), CD.sl []],
 [CD.int (4 : Int), CD.int (0 : Int), CD.int (0 : Int), CD.sl []]])
 else
 n = (1 : Int) ∧
 l =
 [[CD.int (1 : Int)], [CD.int (1 : Int)], [CD.int (1 : Int)], [CD.int (0 : Int)], [CD.int (0 : Int)],
 [CD.int (0 : Int)], [CD.int (0 : Int)], [CD.int (0 : Int)], [CD.int (2 : Int)], [CD.int (3 : Int)],
 [CD.int (1 : Int)], [CD.int (0 : Int)], [CD.int (0 : Int)], [CD.int (0 : Int)], [CD.int (0 : Int)],
 [CD.int (0 : Int)]] ∧
 (0 : Int) = (0 : Int) ∧
 l_2 =
 [[CD.int (0 : Int), CD.int (1 : Int), CD.int (0 : Int), CD.sl [[CD.int (7 : Int)]]],
 [CD.int (2 : Int), CD.int (0 : Int), CD.int (1 : Int), CD.sl []],
 [CD.int (4 : Int), CD.int (0 : Int), CD.int (0 : Int), CD.sl []]]
theorem e10 : ct10.VCD (base.with sp33) Tryz.f10.results.toList Tryz.f10.ntmps (Tryz.f10.ntmps - ct10.ps.length) x10 oa10 ob10 6 32 2 z10 ann10 = P10 := by kernel_rfl
noncomputable def sp10 : SpecT := addS sp33 10 (mkF ct10)
end Go.Proofs.YteiecapbaeajdaaGreatDoor
namespace Go.Proofs.YteiecapbaeajdaaGreatDoor
open Go Go.Avc Go.Proofs
set_option linter.unusedVariables false
set_option linter.unusedSimpArgs false
set_option maxRecDepth 100000
theorem areB_of {l : List (List CD)} (h : (l.all fun r => decide (0 ≤ (r.getD 0 .d0).toInt) && decide ((r.getD 0 .d0).toInt < 256)) = true) : areB l := fun i => by
  rcases Nat.lt_or_ge i l.length with hi | hi
  · have := List.all_eq_true.1 h l[i] (List.getElem_mem hi)
    simp only [Bool.and_eq_true, decide_eq_true_eq] at this
    have e : l.getD i [] = l[i] := by rw [List.getD_eq_getElem?_getD, List.getElem?_eq_getElem hi]; rfl
    unfold rv
    rw [e]
    exact this
  · exact rv_none hi
theorem condT {b : Bool} {p q : Prop} (h : b = true) (hp : p) : bif b then p else q := by rw [h]; exact hp
theorem condF {b : Bool} {p q : Prop} (h : b = false) (hq : q) : bif b then p else q := by rw [h]; exact hq
theorem vc10 : P10 := by
  rintro l _ rfl
  refine ⟨?_, ?_, ?_, ?_, ?_⟩
  rotate_left 4
  · rintro k p e rest l _ _ ⟨rfl, rfl, rfl, h⟩
    rcases h with h | h | h | h
    all_goals
      cases h
      repeat' first
        | exact trivial
        | exact areB_of (by decide +kernel)
        | refine condT (by decide +kernel) ?_
        | refine condF (by decide +kernel) ?_
        | exact .inl rfl
        | exact .inr (.inl rfl)
        | exact .inr (.inr (.inl rfl))
        | exact .inr (.inr (.inr rfl))
        | apply And.intro
        | rfl
        | decide +kernel
        | intro _
  all_goals
    repeat' first
      | exact trivial
      | exact areB_of (by decide +kernel)
      | exact .inl rfl
      | apply And.intro
      | rfl
      | decide +kernel
theorem ok10 : SpecOk (base.with sp33) 10 (mkF ct10) := spec_ctD (fn := Tryz.f10) (x := x10) (z := z10) (i1 := 1) (o1 := oa10) (o2 := ob10) (t := 6) (fc := 32) (nc := 2) (k := Tryz.f10.ntmps - ct10.ps.length) (ct := ct10) c33 Tryz.func10 (by kernel_rfl) (by kernel_rfl) (by kernel_rfl) (by kernel_rfl) idle32 ann10 (by kernel_rfl) (fun vs w _ => Tryz.call10 vs w) (by rw [e10]; exact vc10)
theorem c10 : (base.with sp10).Ok := addS_ok c33 ok10
end Go.Proofs.YteiecapbaeajdaaGreatDoor
namespace Go.Proofs.YteiecapbaeajdaaGreatDoor
open Go Go.Avc
set_option linter.unusedVariables false
def ct9 : Ct := { ps := [], bs := [], pre := fun _ => True, res := fun _ => .ret .bool [] [.b true] }
end Go.Proofs.YteiecapbaeajdaaGreatDoor
namespace Go.Proofs.YteiecapbaeajdaaGreatDoor
open Go Go.Avc Go.Proofs
set_option linter.unusedVariables false
set_option maxRecDepth 100000
def P9 : Prop :=
 True →
 [[CD.int (1 : Int)], [CD.int (16 : Int)], [CD.int (0 : Int)], [CD.int (1 : Int)], [CD.int (1 : Int)], [CD.int (1 : Int)],
 [CD.int (0 : Int)], [CD.int (0 : Int)], [CD.int (0 : Int)], [CD.int (0 : Int)], [CD.int (0 : Int)], [CD.int (2 : Int)],
 [CD.int (3 : Int)], [CD.int (1 : Int)], [CD.int (0 : Int)], [CD.int (0 : Int)], [CD.int (0 : Int)], [CD.int (0 : Int)],
 [CD.int (0 : Int)], [CD.int (0 : Int)], [CD.int (1 : Int)], [CD.int (1 : Int)], [CD.int (0 : Int)], [CD.int (7 : Int)],
 [CD.int (2 : Int)], [CD.int (1 : Int)], [CD.int (0 : Int)], [CD.int (4 : Int)]] =
 [[CD.int (1 : Int)], [CD.int (16 : Int)], [CD.int (0 : Int)], [CD.int (1 : Int)], [CD.int (1 : Int)], [CD.int (1 : Int)],
 [CD.int (0 : Int)], [CD.int (0 : Int)], [CD.int (0 : Int)], [CD.int (0 : Int)], [CD.int (0 : Int)], [CD.int (2 : Int)],
 [CD.int (3 : Int)], [CD.int (1 : Int)], [CD.int (0 : Int)], [CD.int (0 : Int)], [CD.int (0 : Int)], [CD.int (0 : Int)],
 [CD.int (0 : Int)], [CD.int (0 : Int)], [CD.int (1 : Int)], [CD.int (1 : Int)], [CD.int (0 : Int)], [CD.int (7 : Int)],
 [CD.int (2 : Int)], [CD.int (1 : Int)], [CD.int (0 : Int)], [CD.int (4 : Int)]] ∧
 ((bw false (decide ((0 : Int) ≠ (0 : Int))) = true → (calR (7 : Int)).length ≤ (9223372036854775807 : Nat)) →
 pre13 (1 : Int)
 [[CD.int (1 : Int)], [CD.int (1 : Int)], [CD.int (1 : Int)], [CD.int (0 : Int)], [CD.int (0 : Int)], [CD.int (0 : Int)],
 [CD.int (0 : Int)], [CD.int (0 : Int)], [CD.int (2 : Int)], [CD.int (3 : Int)], [CD.int (1 : Int)], [CD.int (0 : Int)],
 [CD.int (0 : Int)], [CD.int (0 : Int)], [CD.int (0 : Int)], [CD.int (0 : Int)]]
 [[CD.int (0 : Int), CD.int (1 : Int), CD.int (0 : Int), CD.sl [[CD.int (7 : Int)]]],
 [CD.int (2 : Int), CD.int (0 : Int), CD.int (1 : Int), CD.sl []],
 [CD.int (4 : Int), CD.int (0 : Int), CD.int (0 : Int), CD.sl []]] ∧
 ((0 : Int) ≤ (0 : Int) ∧ (0 : Int) < (↑(3 : Nat) : Int)) ∧
 (0 : Nat) < (3 : Nat) ∧
 pre13 (1 : Int)
 [[CD.int (1 : Int)], [CD.int (1 : Int)], [CD.int (1 : Int)], [CD.int (0 : Int)], [CD.int (0 : Int)], [CD.int (0 : Int)],
 [CD.int (0 : Int)], [CD.int (0 : Int)], [CD.int (2 : Int)], [CD.int (3 : Int)], [CD.int (1 : Int)], [CD.int (0 : Int)],
 [CD.int (0 : Int)], [CD.int (0 : Int)], [CD.int (0 : Int)], [CD.int (0 : Int)]]
 [[CD.int (0 : Int), CD.int (1 : Int), CD.int (0 : Int), CD.sl [[CD.int (8 : Int)]]],
 [CD.int (2 : Int), CD.int (0 : Int), CD.int (1 : Int), CD.sl []],
 [CD.int (4 : Int), CD.int (0 : Int), CD.int (0 : Int), CD.sl []]] ∧
 ((bw false (decide ((0 : Int) ≠ (0 : Int)) || decide ((0 : Int) ≠ (0 : Int))) = true →
 (anH (calR (7 : Int)) patR).length ≤
 (9223372036854775807 : Nat)) →
 (bw false
 (decide ((0 : Int) ≠ (0 : Int)) || decide ((0 : Int) ≠ (0 : Int)) ||
 decide
 ((↑(anH (calR (7 : Int)) patR).length :
 Int) ≠
 (3 : Int))) =
 true →
 (anH
 (calR (8 : Int))
 patR).length ≤
 (9223372036854775807 : Nat)) →
 ((!(decide ((0 : Int) ≠ (0 : Int)) || decide ((0 : Int) ≠ (0 : Int)) ||
 decide
 ((↑(anH (calR (7 : Int)) patR).length :
 Int) ≠
 (3 : Int)) ||
 decide
 ((↑(anH
 (calR (8 : Int))
 patR).length :
 Int) ≠
 (3 : Int)))) =
 true →
 (0 : Int) ≤ (2 : Int) ∧
 (2 : Int) <
 (↑(anH (calR (7 : Int)) patR).length : Int)) ∧
 ((!(decide ((0 : Int) ≠ (0 : Int)) || decide ((0 : Int) ≠ (0 : Int)) ||
 decide
 ((↑(anH (calR (7 : Int))
 patR).length :
 Int) ≠
 (3 : Int)) ||
 decide
 ((↑(anH
 (calR (8 : Int))
 patR).length :
 Int) ≠
 (3 : Int)))) =
 true →
 (2 : Nat) <
 (anH (calR (7 : Int)) patR).length) ∧
 ((!(decide ((0 : Int) ≠ (0 : Int)) || decide ((0 : Int) ≠ (0 : Int)) ||
 decide
 ((↑(anH (calR (7 : Int))
 patR).length :
 Int) ≠
 (3 : Int)) ||
 decide
 ((↑(anH
 (calR (8 : Int))
 patR).length :
 Int) ≠
 (3 : Int)) ||
 decide
 ((((anH
 [[CD.int (0 : Int), CD.int (1 : Int), CD.int (0 : Int), CD.sl [[CD.int (7 : Int)]]],
 [CD.int (2 : Int), CD.int (0 : Int), CD.int (1 : Int), CD.sl []],
 [CD.int (4 : Int), CD.int (0 : Int), CD.int (0 : Int), CD.sl []]]
 [[CD.int (1 : Int)], [CD.int (1 : Int)], [CD.int (1 : Int)], [CD.int (0 : Int)],
 [CD.int (0 : Int)], [CD.int (0 : Int)], [CD.int (0 : Int)], [CD.int (0 : Int)],
 [CD.int (2 : Int)], [CD.int (3 : Int)], [CD.int (1 : Int)], [CD.int (0 : Int)],
 [CD.int (0 : Int)], [CD.int (0 : Int)], [CD.int (0 : Int)], [CD.int (0 : Int)]]).getD
 (2 : Nat) []).getD
 (0 : Nat) (CD.int (0 : Int))).toInt ≠
 (0 : Int)))) =
 true →
 (0 : Int) ≤ (1 : Int) ∧
 (1 : Int) <
 (↑(anH (calR (7 : Int)) patR).length :
 Int)) ∧
 ((!(decide ((0 : Int) ≠ (0 : Int)) || decide ((0 : Int) ≠ (0 : Int)) ||
 decide
 ((↑(anH (calR (7 : Int))
 patR).length :
 Int) ≠
 (3 : Int)) ||
 decide
 ((↑(anH
 (calR (8 : Int))
 patR).length :
 Int) ≠
 (3 : Int)) ||
 decide
 ((((anH
 [[CD.int (0 : Int), CD.int (1 : Int), CD.int (0 : Int), CD.sl [[CD.int (7 : Int)]]],
 [CD.int (2 : Int), CD.int (0 : Int), CD.int (1 : Int), CD.sl []],
 [CD.int (4 : Int), CD.int (0 : Int), CD.int (0 : Int), CD.sl []]]
 [[CD.int (1 : Int)], [CD.int (1 : Int)], [CD.int (1 : Int)], [CD.int (0 : Int)],
 [CD.int (0 : Int)], [CD.int (0 : Int)], [CD.int (0 : Int)], [CD.int (0 : Int)],
 [CD.int (2 : Int)], [CD.int (3 : Int)], [CD.int (1 : Int)], [CD.int (0 : Int)],
 [CD.int (0 : Int)], [CD.int (0 : Int)], [CD.int (0 : Int)], [CD.int (0 : Int)]]).getD
 (2 : Nat) []).getD
 (0 : Nat) (CD.int (0 : Int))).toInt ≠
 (0 : Int)))) =
 true →
 (1 : Nat) <
 (anH (calR (7 : Int)) patR).length) ∧
 ((bw false
 (decide ((0 : Int) ≠ (0 : Int)) || decide ((0 : Int) ≠ (0 : Int)) ||
 decide
 ((↑(anH (calR (7 : Int))
 patR).length :
 Int) ≠
 (3 : Int)) ||
 decide
 ((↑(anH
 (calR (8 : Int))
 patR).length :
 Int) ≠
 (3 : Int)) ||
 decide
 ((((anH (calR (7 : Int))
 patR).getD
 (Int.toNat (2 : Int)) []).getD
 (0 : Nat)
 CD.d0).toInt ≠
 (0 : Int))) =
 true →
 (((anH (calR (7 : Int)) patR).getD
 (Int.toNat (1 : Int)) []).getD
 (1 : Nat)
 CD.d0).toSl.length ≤
 (9223372036854775807 : Nat)) →
 ((!(decide ((0 : Int) ≠ (0 : Int)) || decide ((0 : Int) ≠ (0 : Int)) ||
 decide
 ((↑(anH (calR (7 : Int))
 patR).length :
 Int) ≠
 (3 : Int)) ||
 decide
 ((↑(anH
 (calR (8 : Int))
 patR).length :
 Int) ≠
 (3 : Int)) ||
 decide
 ((((anH
 [[CD.int (0 : Int), CD.int (1 : Int), CD.int (0 : Int), CD.sl [[CD.int (7 : Int)]]],
 [CD.int (2 : Int), CD.int (0 : Int), CD.int (1 : Int), CD.sl []],
 [CD.int (4 : Int), CD.int (0 : Int), CD.int (0 : Int), CD.sl []]]
 [[CD.int (1 : Int)], [CD.int (1 : Int)], [CD.int (1 : Int)], [CD.int (0 : Int)],
 [CD.int (0 : Int)], [CD.int (0 : Int)], [CD.int (0 : Int)], [CD.int (0 : Int)],
 [CD.int (2 : Int)], [CD.int (3 : Int)], [CD.int (1 : Int)], [CD.int (0 : Int)],
 [CD.int (0 : Int)], [CD.int (0 : Int)], [CD.int (0 : Int)], [CD.int (0 : Int)]]).getD
 (2 : Nat) []).getD
 (0 : Nat) (CD.int (0 : Int))).toInt ≠
 (0 : Int)) ||
 decide
 ((↑(((anH (calR (7 : Int))
 patR).getD
 (Int.toNat (1 : Int)) []).getD
 (1 : Nat)
 CD.d0).toSl.length :
 Int) ≠
 (32 : Int)))) =
 true →
 (0 : Int) ≤ (1 : Int) ∧
 (1 : Int) <
 (↑(anH
 (calR (8 : Int))
 patR).length :
 Int)) ∧
 ((!(decide ((0 : Int) ≠ (0 : Int)) || decide ((0 : Int) ≠ (0 : Int)) ||
 decide
 ((↑(anH (calR (7 : Int))
 patR).length :
 Int) ≠
 (3 : Int)) ||
 decide
 ((↑(anH
 (calR (8 : Int))
 patR).length :
 Int) ≠
 (3 : Int)) ||
 decide
 ((((anH
 [[CD.int (0 : Int), CD.int (1 : Int), CD.int (0 : Int), CD.sl [[CD.int (7 : Int)]]],
 [CD.int (2 : Int), CD.int (0 : Int), CD.int (1 : Int), CD.sl []],
 [CD.int (4 : Int), CD.int (0 : Int), CD.int (0 : Int), CD.sl []]]
 [[CD.int (1 : Int)], [CD.int (1 : Int)], [CD.int (1 : Int)], [CD.int (0 : Int)],
 [CD.int (0 : Int)], [CD.int (0 : Int)], [CD.int (0 : Int)], [CD.int (0 : Int)],
 [CD.int (2 : Int)], [CD.int (3 : Int)], [CD.int (1 : Int)], [CD.int (0 : Int)],
 [CD.int (0 : Int)], [CD.int (0 : Int)], [CD.int (0 : Int)], [CD.int (0 : Int)]]).getD
 (2 : Nat) []).getD
 (0 : Nat) (CD.int (0 : Int))).toInt ≠
 (0 : Int)) ||
 decide
 ((↑(((anH (calR (7 : Int))
 patR).getD
 (Int.toNat (1 : Int)) []).getD
 (1 : Nat)
 CD.d0).toSl.length :
 Int) ≠
 (32 : Int)))) =
 true →
 (1 : Nat) <
 (anH
 (calR (8 : Int))
 patR).length) ∧
 ((bw false
 (decide ((0 : Int) ≠ (0 : Int)) || decide ((0 : Int) ≠ (0 : Int)) ||
 decide
 ((↑(anH (calR (7 : Int))
 patR).length :
 Int) ≠
 (3 : Int)) ||
 decide
 ((↑(anH
 (calR (8 : Int))
 patR).length :
 Int) ≠
 (3 : Int)) ||
 decide
 ((((anH (calR (7 : Int))
 patR).getD
 (Int.toNat (2 : Int)) []).getD
 (0 : Nat)
 CD.d0).toInt ≠
 (0 : Int)) ||
 decide
 ((↑(((anH (calR (7 : Int))
 patR).getD
 (Int.toNat (1 : Int)) []).getD
 (1 : Nat)
 CD.d0).toSl.length :
 Int) ≠
 (32 : Int))) =
 true →
 (((anH
 (calR (8 : Int))
 patR).getD
 (Int.toNat (1 : Int)) []).getD
 (1 : Nat)
 CD.d0).toSl.length ≤
 (9223372036854775807 : Nat)) →
 bif
 decide ((0 : Int) ≠ (0 : Int)) || decide ((0 : Int) ≠ (0 : Int)) ||
 decide
 ((↑(anH (calR (7 : Int))
 patR).length :
 Int) ≠
 (3 : Int)) ||
 decide
 ((↑(anH
 (calR (8 : Int))
 patR).length :
 Int) ≠
 (3 : Int)) ||
 decide
 ((((anH
 [[CD.int (0 : Int), CD.int (1 : Int), CD.int (0 : Int), CD.sl [[CD.int (7 : Int)]]],
 [CD.int (2 : Int), CD.int (0 : Int), CD.int (1 : Int), CD.sl []],
 [CD.int (4 : Int), CD.int (0 : Int), CD.int (0 : Int), CD.sl []]]
 [[CD.int (1 : Int)], [CD.int (1 : Int)], [CD.int (1 : Int)], [CD.int (0 : Int)],
 [CD.int (0 : Int)], [CD.int (0 : Int)], [CD.int (0 : Int)], [CD.int (0 : Int)],
 [CD.int (2 : Int)], [CD.int (3 : Int)], [CD.int (1 : Int)], [CD.int (0 : Int)],
 [CD.int (0 : Int)], [CD.int (0 : Int)], [CD.int (0 : Int)], [CD.int (0 : Int)]]).getD
 (2 : Nat) []).getD
 (0 : Nat) (CD.int (0 : Int))).toInt ≠
 (0 : Int)) ||
 decide
 ((↑(((anH (calR (7 : Int))
 patR).getD
 (Int.toNat (1 : Int)) []).getD
 (1 : Nat)
 CD.d0).toSl.length :
 Int) ≠
 (32 : Int)) ||
 decide
 ((↑(((anH
 (calR (8 : Int))
 patR).getD
 (Int.toNat (1 : Int)) []).getD
 (1 : Nat)
 CD.d0).toSl.length :
 Int) ≠
 (32 : Int)) then
 false = true
 else
 ((0 : Int) ≤ (1 : Int) ∧
 (1 : Int) <
 (↑(anH (calR (7 : Int))
 patR).length :
 Int)) ∧
 (1 : Nat) <
 (anH (calR (7 : Int))
 patR).length ∧
 ((0 : Int) ≤ (1 : Int) ∧
 (1 : Int) <
 (↑(anH
 (calR (8 : Int))
 patR).length :
 Int)) ∧
 (1 : Nat) <
 (anH
 (calR (8 : Int))
 patR).length ∧
 decide
 (bytesOfRows
 (((anH
 [[CD.int (0 : Int), CD.int (1 : Int), CD.int (0 : Int),
 CD.sl [[CD.int (7 : Int)]]],
 [CD.int (2 : Int), CD.int (0 : Int), CD.int (1 : Int), CD.sl []],
 [CD.int (4 : Int), CD.int (0 : Int), CD.int (0 : Int), CD.sl []]]
 [[CD.int (1 : Int)], [CD.int (1 : Int)], [CD.int (1 : Int)], [CD.int (0 : Int)],
 [CD.int (0 : Int)], [CD.int (0 : Int)], [CD.int (0 : Int)], [CD.int (0 : Int)],
 [CD.int (2 : Int)], [CD.int (3 : Int)], [CD.int (1 : Int)], [CD.int (0 : Int)],
 [CD.int (0 : Int)], [CD.int (0 : Int)], [CD.int (0 : Int)], [CD.int (0 : Int)]]).getD
 (1 : Nat) []).getD
 (1 : Nat) (CD.int (0 : Int))).toSl ≠
 bytesOfRows
 (((anH
 [[CD.int (0 : Int), CD.int (1 : Int), CD.int (0 : Int),
 CD.sl [[CD.int (8 : Int)]]],
 [CD.int (2 : Int), CD.int (0 : Int), CD.int (1 : Int), CD.sl []],
 [CD.int (4 : Int), CD.int (0 : Int), CD.int (0 : Int), CD.sl []]]
 [[CD.int (1 : Int)], [CD.int (1 : Int)], [CD.int (1 : Int)], [CD.int (0 : Int)],
 [CD.int (0 : Int)], [CD.int (0 : Int)], [CD.int (0 : Int)], [CD.int (0 : Int)],
 [CD.int (2 : Int)], [CD.int (3 : Int)], [CD.int (1 : Int)], [CD.int (0 : Int)],
 [CD.int (0 : Int)], [CD.int (0 : Int)], [CD.int (0 : Int)], [CD.int (0 : Int)]]).getD
 (1 : Nat) []).getD
 (1 : Nat) (CD.int (0 : Int))).toSl) =
 true))))
theorem e9 : ct9.VC (base.with sp10) Tryz.f9.results.toList Tryz.f9.ntmps (Tryz.f9.ntmps - ct9.ps.length) (bodyOf Tryz.f9) noAnn = P9 := by kernel_rfl
noncomputable def sp9 : SpecT := addS sp10 9 (mkF ct9)
end Go.Proofs.YteiecapbaeajdaaGreatDoor
namespace Go.Proofs.YteiecapbaeajdaaGreatDoor
open Go Go.Avc Go.Proofs
set_option linter.unusedVariables false
set_option linter.unusedSimpArgs false
/-- The number of words. -/
def vl : List Int → Int
  | [] => 0
  | a :: l => a + 18446744073709551616 * vl l
theorem vl_p : vl pW = 21888242871839275222246405745257275088548364400416034343698204186575808495617 := by decide
theorem vl4 (a b c d : Int) : vl [a, b, c, d] = a + 18446744073709551616 * b + 18446744073709551616 * 18446744073709551616 * c + 18446744073709551616 * 18446744073709551616 * 18446744073709551616 * d := by simp only [vl]; grind
theorem vl5 (a b c d e : Int) : vl [a, b, c, d, e] = a + 18446744073709551616 * b + 18446744073709551616 * 18446744073709551616 * c + 18446744073709551616 * 18446744073709551616 * 18446744073709551616 * d + 18446744073709551616 * 18446744073709551616 * 18446744073709551616 * 18446744073709551616 * e := by simp only [vl]; grind
theorem get4 {l : List Int} (h : l.length = 4) : ∃ a b c d, l = [a, b, c, d] := by
  match l, h with
  | [a, b, c, d], _ => exact ⟨a, b, c, d, rfl⟩
theorem get5 {l : List Int} (h : l.length = 5) : ∃ a b c d e, l = [a, b, c, d, e] := by
  match l, h with
  | [a, b, c, d, e], _ => exact ⟨a, b, c, d, e, rfl⟩
theorem li_eq (a x y c : Int) : liL a x y c + 18446744073709551616 * liH a x y c = a + x * y + c := by unfold liL liH; omega
theorem li_w (a x y c : Int) : isW (liL a x y c) := by unfold isW liL; omega
theorem li_h {a x y c : Int} (ha : isW a) (hx : isW x) (hy : isW y) (hc : isW c) : isW (liH a x y c) := by
  have := line_w ha hx hy hc
  unfold isW liH
  omega
theorem mu_val {x b0 b1 b2 b3 t0 t1 t2 t3 t4 : Int} (hx : isW x) (h0 : isW b0) (h1 : isW b1) (h2 : isW b2) (h3 : isW b3) (k0 : isW t0) (k1 : isW t1) (k2 : isW t2) (k3 : isW t3) :
    ∃ u0 u1 u2 u3 c, muN x [b0, b1, b2, b3] [t0, t1, t2, t3, t4] 4 = ([u0, u1, u2, u3, t4], c) ∧ isW u0 ∧ isW u1 ∧ isW u2 ∧ isW u3 ∧ isW c ∧
      vl [u0, u1, u2, u3] + 18446744073709551616 * 18446744073709551616 * 18446744073709551616 * 18446744073709551616 * c = vl [t0, t1, t2, t3] + x * vl [b0, b1, b2, b3] := by
  have s1 : muN x [b0, b1, b2, b3] [t0, t1, t2, t3, t4] 1 = ([liL t0 x b0 0, t1, t2, t3, t4], liH t0 x b0 0) := rfl
  have e0 := li_eq t0 x b0 0
  have w0 := li_w t0 x b0 0
  have v0 := li_h k0 hx h0 isW0
  generalize liL t0 x b0 0 = u0 at *
  generalize liH t0 x b0 0 = c0 at *
  have s2 : muN x [b0, b1, b2, b3] [t0, t1, t2, t3, t4] 2 = ([u0, liL t1 x b1 c0, t2, t3, t4], liH t1 x b1 c0) := by rw [muN, s1]; rfl
  have e1 := li_eq t1 x b1 c0
  have w1 := li_w t1 x b1 c0
  have v1 := li_h k1 hx h1 v0
  generalize liL t1 x b1 c0 = u1 at *
  generalize liH t1 x b1 c0 = c1 at *
  have s3 : muN x [b0, b1, b2, b3] [t0, t1, t2, t3, t4] 3 = ([u0, u1, liL t2 x b2 c1, t3, t4], liH t2 x b2 c1) := by rw [muN, s2]; rfl
  have e2 := li_eq t2 x b2 c1
  have w2 := li_w t2 x b2 c1
  have v2 := li_h k2 hx h2 v1
  generalize liL t2 x b2 c1 = u2 at *
  generalize liH t2 x b2 c1 = c2 at *
  have s4 : muN x [b0, b1, b2, b3] [t0, t1, t2, t3, t4] 4 = ([u0, u1, u2, liL t3 x b3 c2, t4], liH t3 x b3 c2) := by rw [muN, s3]; rfl
  have e3 := li_eq t3 x b3 c2
  have w3 := li_w t3 x b3 c2
  have v3 := li_h k3 hx h3 v2
  generalize liL t3 x b3 c2 = u3 at *
  generalize liH t3 x b3 c2 = c3 at *
  refine ⟨u0, u1, u2, u3, c3, s4, w0, w1, w2, w3, v3, ?_⟩
  rw [vl4, vl4, vl4]
  clear s1 s2 s3 s4 w0 v0 w1 v1 w2 v2 w3 v3
  grind
theorem re_val {k u0 u1 u2 u3 u4 c0 : Int} (hk : isW k) (h1 : isW u1) (h2 : isW u2) (h3 : isW u3) (hc : isW c0) :
    ∃ r0 r1 r2 c, reN k [u0, u1, u2, u3, u4] c0 3 = ([r0, r1, r2, u3, u4], c) ∧ isW r0 ∧ isW r1 ∧ isW r2 ∧ isW c ∧
      r0 + 18446744073709551616 * r1 + 18446744073709551616 * 18446744073709551616 * r2 + 18446744073709551616 * 18446744073709551616 * 18446744073709551616 * c = u1 + 18446744073709551616 * u2 + 18446744073709551616 * 18446744073709551616 * u3 + k * (2896914383306846353 + 18446744073709551616 * 13281191951274694749 + 18446744073709551616 * 18446744073709551616 * 3486998266802970665) + c0 := by
  have p1 : isW 2896914383306846353 := ⟨by decide, by decide⟩
  have p2 : isW 13281191951274694749 := ⟨by decide, by decide⟩
  have p3 : isW 3486998266802970665 := ⟨by decide, by decide⟩
  have s1 : reN k [u0, u1, u2, u3, u4] c0 1 = ([liL u1 k 2896914383306846353 c0, u1, u2, u3, u4], liH u1 k 2896914383306846353 c0) := rfl
  have e0 := li_eq u1 k 2896914383306846353 c0
  have w0 := li_w u1 k 2896914383306846353 c0
  have v0 := li_h h1 hk p1 hc
  generalize liL u1 k 2896914383306846353 c0 = r0 at *
  generalize liH u1 k 2896914383306846353 c0 = d0 at *
  have s2 : reN k [u0, u1, u2, u3, u4] c0 2 = ([r0, liL u2 k 13281191951274694749 d0, u2, u3, u4], liH u2 k 13281191951274694749 d0) := by rw [reN, s1]; rfl
  have e1 := li_eq u2 k 13281191951274694749 d0
  have w1 := li_w u2 k 13281191951274694749 d0
  have v1 := li_h h2 hk p2 v0
  generalize liL u2 k 13281191951274694749 d0 = r1 at *
  generalize liH u2 k 13281191951274694749 d0 = d1 at *
  have s3 : reN k [u0, u1, u2, u3, u4] c0 3 = ([r0, r1, liL u3 k 3486998266802970665 d1, u3, u4], liH u3 k 3486998266802970665 d1) := by rw [reN, s2]; rfl
  have e2 := li_eq u3 k 3486998266802970665 d1
  have w2 := li_w u3 k 3486998266802970665 d1
  have v2 := li_h h3 hk p3 v1
  generalize liL u3 k 3486998266802970665 d1 = r2 at *
  generalize liH u3 k 3486998266802970665 d1 = d2 at *
  refine ⟨r0, r1, r2, d2, s3, w0, w1, w2, v2, ?_⟩
  clear s1 s2 s3 w0 v0 w1 v1 w2 v2 p1 p2 p3
  grind
theorem k_val {u0 : Int} (h : isW u0) : ∃ m, u0 + (u0 * inv % 18446744073709551616) * 4891460686036598785 = 18446744073709551616 * m := by
  have h1 : inv * 4891460686036598785 + 1 = 18446744073709551616 * 3723675147829272286 := by decide
  have h2 := Int.mul_ediv_add_emod (u0 * inv) 18446744073709551616
  refine ⟨u0 * 3723675147829272286 - (u0 * inv / 18446744073709551616) * 4891460686036598785, ?_⟩
  generalize u0 * inv % 18446744073709551616 = r at *
  generalize u0 * inv / 18446744073709551616 = q at *
  grind
theorem vl_nn : ∀ {l : List Int}, areW l → 0 ≤ vl l
  | [], _ => Int.le_refl 0
  | a :: l, h => by
    have h0 := (h 0).1
    have := vl_nn (l := l) fun i => h (i + 1)
    have e : [a].getD 0 0 = a := rfl
    have h0 : 0 ≤ a := h0
    have : 0 ≤ 18446744073709551616 * vl l := Int.mul_nonneg (by decide) this
    simp only [vl]
    omega
theorem areW_of {l : List Int} (h : ∀ x ∈ l, isW x) : areW l := fun i => by
  rw [List.getD_eq_getElem?_getD]
  cases hi : l[i]? with
  | none => exact isW0
  | some x => exact h x (List.mem_of_getElem? hi)
theorem areW5 {a b c d e : Int} (ha : isW a) (hb : isW b) (hc : isW c) (hd : isW d) (he : isW e) : areW [a, b, c, d, e] := areW_of fun x hx => by
  simp only [List.mem_cons, List.not_mem_nil, or_false] at hx
  rcases hx with rfl | rfl | rfl | rfl | rfl <;> assumption
theorem areW4 {a b c d : Int} (ha : isW a) (hb : isW b) (hc : isW c) (hd : isW d) : areW [a, b, c, d] := areW_of fun x hx => by
  simp only [List.mem_cons, List.not_mem_nil, or_false] at hx
  rcases hx with rfl | rfl | rfl | rfl <;> assumption
theorem st_val {x : Int} {b t : List Int} (hx : isW x) (hb : b.length = 4) (wb : areW b) (hB : vl b < 21888242871839275222246405745257275088548364400416034343698204186575808495617) (ht : t.length = 5) (wt : areW t) (hT : vl t < vl b + 21888242871839275222246405745257275088548364400416034343698204186575808495617) :
    ∃ k, (stW x b t).length = 5 ∧ areW (stW x b t) ∧ 18446744073709551616 * vl (stW x b t) = vl t + x * vl b + k * 21888242871839275222246405745257275088548364400416034343698204186575808495617 ∧ vl (stW x b t) < vl b + 21888242871839275222246405745257275088548364400416034343698204186575808495617 := by
  obtain ⟨b0, b1, b2, b3, rfl⟩ := get4 hb
  obtain ⟨t0, t1, t2, t3, t4, rfl⟩ := get5 ht
  have hbn := vl_nn wb
  have htn := vl_nn wt
  have g0 : isW t0 := wt 0
  have g1 : isW t1 := wt 1
  have g2 : isW t2 := wt 2
  have g3 : isW t3 := wt 3
  have g4 : isW t4 := wt 4
  obtain ⟨q0, q1, q2, q3, c, em, w0, w1, w2, w3, wc, ev⟩ := mu_val (b0 := b0) (b1 := b1) (b2 := b2) (b3 := b3) (t4 := t4) hx (wb 0) (wb 1) (wb 2) (wb 3) g0 g1 g2 g3
  have eB : vl [b0, b1, b2, b3] = vl [b0, b1, b2, b3] := rfl
  have eT : vl [t0, t1, t2, t3, t4] = vl [t0, t1, t2, t3] + 18446744073709551616 * 18446744073709551616 * 18446744073709551616 * 18446744073709551616 * t4 := by rw [vl5, vl4]
  have ev' : vl [q0, q1, q2, q3] + 18446744073709551616 * 18446744073709551616 * 18446744073709551616 * 18446744073709551616 * c = vl [t0, t1, t2, t3] + x * vl [b0, b1, b2, b3] := ev
  have hu := vl_nn (areW4 w0 w1 w2 w3)
  have hxB : 0 ≤ x * vl [b0, b1, b2, b3] := Int.mul_nonneg hx.1 hbn
  have hxB2 : x * vl [b0, b1, b2, b3] ≤ (18446744073709551616 - 1) * 21888242871839275222246405745257275088548364400416034343698204186575808495617 := Int.mul_le_mul (by have := hx.2; omega) (by omega) hbn (by decide)
  have hu4 : 0 ≤ t4 + c ∧ t4 + c < 18446744073709551616 := by
    have := g4.1
    have := wc.1
    omega
  have eu : u1 x [b0, b1, b2, b3] [t0, t1, t2, t3, t4] = [q0, q1, q2, q3, t4 + c] := by
    unfold YteiecapbaeajdaaGreatDoor.u1
    rw [em]
    show [q0, q1, q2, q3, IntKind.u64.wrap (t4 + c)] = _
    rw [wrapW, Int.emod_eq_of_lt hu4.1 hu4.2]
  have ek : kW [q0, q1, q2, q3, t4 + c] = q0 * inv % 18446744073709551616 := wrapW _
  have wk : isW (q0 * inv % 18446744073709551616) := ⟨Int.emod_nonneg _ (by decide), Int.emod_lt_of_pos _ (by decide)⟩
  obtain ⟨m, hm⟩ := k_val w0
  generalize q0 * inv % 18446744073709551616 = k at *
  have p0 : isW 4891460686036598785 := ⟨by decide, by decide⟩
  have hc0 := li_h w0 wk p0 isW0
  have ec0 := li_eq q0 k 4891460686036598785 0
  have ez : liL q0 k 4891460686036598785 0 = 0 := by
    unfold liL
    rw [Int.add_zero, hm]
    exact Int.mul_emod_right _ _
  rw [ez] at ec0
  generalize hcd : liH q0 k 4891460686036598785 0 = c0 at *
  obtain ⟨r0, r1', r2, c', er, v0, v1, v2, vc, ew⟩ := re_val (u0 := q0) (u4 := t4 + c) wk w1 w2 w3 hc0
  have er1 : r1 [q0, q1, q2, q3, t4 + c] = ([r0, r1', r2, q3, t4 + c], c') := by
    unfold YteiecapbaeajdaaGreatDoor.r1
    rw [ek]
    show reN k [q0, q1, q2, q3, t4 + c] (liH q0 k 4891460686036598785 0) 3 = _
    rw [hcd, er]
  have es : stW x [b0, b1, b2, b3] [t0, t1, t2, t3, t4] = [r0, r1', r2, adS (t4 + c) c' 0, adC (t4 + c) c' 0] := by
    unfold stW f5
    rw [eu, er1]
    rfl
  have wS := adS_w (t4 + c) c' 0
  have hC : isW (adC (t4 + c) c' 0) := by
    have := vc.1
    have := vc.2
    unfold isW adC
    omega
  have esum : adS (t4 + c) c' 0 + 18446744073709551616 * adC (t4 + c) c' 0 = t4 + c + c' := by unfold adS adC; omega
  have hval : 18446744073709551616 * vl (stW x [b0, b1, b2, b3] [t0, t1, t2, t3, t4]) = vl [t0, t1, t2, t3, t4] + x * vl [b0, b1, b2, b3] + k * 21888242871839275222246405745257275088548364400416034343698204186575808495617 := by
    rw [es, vl5, eT]
    rw [vl4 q0] at ev'
    generalize adS (t4 + c) c' 0 = S at *
    generalize adC (t4 + c) c' 0 = C at *
    generalize vl [b0, b1, b2, b3] = B at *
    generalize vl [t0, t1, t2, t3] = T at *
    generalize x * B = xB at *
    clear em eu ek er er1 es hm
    grind
  refine ⟨k, by rw [es]; rfl, by rw [es]; exact areW5 v0 v1 v2 wS hC, hval, ?_⟩
  have hk : k * 21888242871839275222246405745257275088548364400416034343698204186575808495617 ≤ (18446744073709551616 - 1) * 21888242871839275222246405745257275088548364400416034343698204186575808495617 := Int.mul_le_mul_of_nonneg_right (by have := wk.2; omega) (by decide)
  have hxB3 : x * vl [b0, b1, b2, b3] ≤ (18446744073709551616 - 1) * vl [b0, b1, b2, b3] := Int.mul_le_mul_of_nonneg_right (by have := hx.2; omega) hbn
  generalize vl [b0, b1, b2, b3] = B at *
  generalize x * B = xB at *
  generalize k * 21888242871839275222246405745257275088548364400416034343698204186575808495617 = kP at *
  omega
theorem pr4_val {a b : List Int} (ha : a.length = 4) (wa : areW a) (hb : b.length = 4) (wb : areW b) (hB : vl b < 21888242871839275222246405745257275088548364400416034343698204186575808495617) :
    ∃ q, (prN a b 4).length = 5 ∧ areW (prN a b 4) ∧ 18446744073709551616 * 18446744073709551616 * 18446744073709551616 * 18446744073709551616 * vl (prN a b 4) = vl a * vl b + q * 21888242871839275222246405745257275088548364400416034343698204186575808495617 ∧ vl (prN a b 4) < vl b + 21888242871839275222246405745257275088548364400416034343698204186575808495617 := by
  obtain ⟨a0, a1, a2, a3, rfl⟩ := get4 ha
  have hbn := vl_nn wb
  have z0 : vl (prN [a0, a1, a2, a3] b 0) = 0 := rfl
  obtain ⟨k0, l1, w1, e1, t1⟩ := st_val (t := prN [a0, a1, a2, a3] b 0) (wa 0) hb wb hB rfl (areW5 isW0 isW0 isW0 isW0 isW0) (by rw [z0]; omega)
  obtain ⟨k1, l2, w2, e2, t2⟩ := st_val (t := prN [a0, a1, a2, a3] b 1) (wa 1) hb wb hB l1 w1 t1
  obtain ⟨k2, l3, w3, e3, t3⟩ := st_val (t := prN [a0, a1, a2, a3] b 2) (wa 2) hb wb hB l2 w2 t2
  obtain ⟨k3, l4, w4, e4, t4⟩ := st_val (t := prN [a0, a1, a2, a3] b 3) (wa 3) hb wb hB l3 w3 t3
  refine ⟨k0 + 18446744073709551616 * k1 + 18446744073709551616 * 18446744073709551616 * k2 + 18446744073709551616 * 18446744073709551616 * 18446744073709551616 * k3, l4, w4, ?_, t4⟩
  have d1 : 18446744073709551616 * vl (prN [a0, a1, a2, a3] b 1) = vl (prN [a0, a1, a2, a3] b 0) + a0 * vl b + k0 * 21888242871839275222246405745257275088548364400416034343698204186575808495617 := e1
  have d2 : 18446744073709551616 * vl (prN [a0, a1, a2, a3] b 2) = vl (prN [a0, a1, a2, a3] b 1) + a1 * vl b + k1 * 21888242871839275222246405745257275088548364400416034343698204186575808495617 := e2
  have d3 : 18446744073709551616 * vl (prN [a0, a1, a2, a3] b 3) = vl (prN [a0, a1, a2, a3] b 2) + a2 * vl b + k2 * 21888242871839275222246405745257275088548364400416034343698204186575808495617 := e3
  have d4 : 18446744073709551616 * vl (prN [a0, a1, a2, a3] b 4) = vl (prN [a0, a1, a2, a3] b 3) + a3 * vl b + k3 * 21888242871839275222246405745257275088548364400416034343698204186575808495617 := e4
  rw [z0] at d1
  rw [vl4]
  generalize vl (prN [a0, a1, a2, a3] b 1) = T1 at *
  generalize vl (prN [a0, a1, a2, a3] b 2) = T2 at *
  generalize vl (prN [a0, a1, a2, a3] b 3) = T3 at *
  generalize vl (prN [a0, a1, a2, a3] b 4) = T4 at *
  generalize vl b = B at *
  clear e1 e2 e3 e4 t1 t2 t3 t4 l1 l2 l3 l4 w1 w2 w3 w4 hB hbn z0 wb hb wa ha
  grind
/-- What is borrowed. -/
theorem sb_eq {x y c : Int} (hx : isW x) (hy : isW y) (hc : 0 ≤ c ∧ c ≤ 1) : sbD x y c = x - y - c + 18446744073709551616 * sbC x y c := by
  unfold isW at hx hy
  unfold sbD sbC
  split <;> omega
theorem bo_val {a0 a1 a2 a3 b0 b1 b2 b3 : Int} (ha : areW [a0, a1, a2, a3]) (hb : areW [b0, b1, b2, b3]) :
    vl (boN [a0, a1, a2, a3] [b0, b1, b2, b3] 4).1 = vl [a0, a1, a2, a3] - vl [b0, b1, b2, b3] + 18446744073709551616 * 18446744073709551616 * 18446744073709551616 * 18446744073709551616 * (boN [a0, a1, a2, a3] [b0, b1, b2, b3] 4).2 := by
  have s1 : boN [a0, a1, a2, a3] [b0, b1, b2, b3] 1 = ([sbD a0 b0 0, 0, 0, 0], sbC a0 b0 0) := rfl
  have e0 := sb_eq (ha 0) (hb 0) (c := 0) ⟨by decide, by decide⟩
  have c0 := sbC_b a0 b0 0
  have s2 : boN [a0, a1, a2, a3] [b0, b1, b2, b3] 2 = ([sbD a0 b0 0, sbD a1 b1 (sbC a0 b0 0), 0, 0], sbC a1 b1 (sbC a0 b0 0)) := by rw [boN, s1]; rfl
  have e1 := sb_eq (ha 1) (hb 1) c0
  have c1 := sbC_b a1 b1 (sbC a0 b0 0)
  have s3 : boN [a0, a1, a2, a3] [b0, b1, b2, b3] 3 = ([sbD a0 b0 0, sbD a1 b1 (sbC a0 b0 0), sbD a2 b2 (sbC a1 b1 (sbC a0 b0 0)), 0], sbC a2 b2 (sbC a1 b1 (sbC a0 b0 0))) := by rw [boN, s2]; rfl
  have e2 := sb_eq (ha 2) (hb 2) c1
  have c2 := sbC_b a2 b2 (sbC a1 b1 (sbC a0 b0 0))
  have s4 : boN [a0, a1, a2, a3] [b0, b1, b2, b3] 4 = ([sbD a0 b0 0, sbD a1 b1 (sbC a0 b0 0), sbD a2 b2 (sbC a1 b1 (sbC a0 b0 0)), sbD a3 b3 (sbC a2 b2 (sbC a1 b1 (sbC a0 b0 0)))], sbC a3 b3 (sbC a2 b2 (sbC a1 b1 (sbC a0 b0 0)))) := by rw [boN, s3]; rfl
  have e3 := sb_eq (ha 3) (hb 3) c2
  have f0 : sbD a0 b0 0 = a0 - b0 - 0 + 18446744073709551616 * sbC a0 b0 0 := e0
  have f1 : sbD a1 b1 (sbC a0 b0 0) = a1 - b1 - sbC a0 b0 0 + 18446744073709551616 * sbC a1 b1 (sbC a0 b0 0) := e1
  have f2 : sbD a2 b2 (sbC a1 b1 (sbC a0 b0 0)) = a2 - b2 - sbC a1 b1 (sbC a0 b0 0) + 18446744073709551616 * sbC a2 b2 (sbC a1 b1 (sbC a0 b0 0)) := e2
  have f3 : sbD a3 b3 (sbC a2 b2 (sbC a1 b1 (sbC a0 b0 0))) = a3 - b3 - sbC a2 b2 (sbC a1 b1 (sbC a0 b0 0)) + 18446744073709551616 * sbC a3 b3 (sbC a2 b2 (sbC a1 b1 (sbC a0 b0 0))) := e3
  rw [s4]
  simp only [vl4]
  rw [f0, f1, f2, f3]
  generalize sbC a3 b3 (sbC a2 b2 (sbC a1 b1 (sbC a0 b0 0))) = g3 at *
  generalize sbC a2 b2 (sbC a1 b1 (sbC a0 b0 0)) = g2 at *
  generalize sbC a1 b1 (sbC a0 b0 0) = g1 at *
  generalize sbC a0 b0 0 = g0 at *
  clear s1 s2 s3 s4 e0 e1 e2 e3 f0 f1 f2 f3 c0 c1 c2 ha hb
  grind
theorem vl_lt4 {l : List Int} (h : l.length = 4) (hw : areW l) : vl l < 18446744073709551616 * 18446744073709551616 * 18446744073709551616 * 18446744073709551616 := by
  obtain ⟨a, b, c, d, rfl⟩ := get4 h
  have h0 : isW a := hw 0
  have h1 : isW b := hw 1
  have h2 : isW c := hw 2
  have h3 : isW d := hw 3
  unfold isW at *
  rw [vl4]
  omega
/-- Is a number below the prime. -/
theorem bo_lt {a : List Int} (h : a.length = 4) (hw : areW a) : ((boN a pW 4).2 = 0 ↔ 21888242871839275222246405745257275088548364400416034343698204186575808495617 ≤ vl a) ∧ (21888242871839275222246405745257275088548364400416034343698204186575808495617 ≤ vl a → vl (boN a pW 4).1 = vl a - 21888242871839275222246405745257275088548364400416034343698204186575808495617) := by
  obtain ⟨a0, a1, a2, a3, rfl⟩ := get4 h
  have e := bo_val (b0 := 4891460686036598785) (b1 := 2896914383306846353) (b2 := 13281191951274694749) (b3 := 3486998266802970665) hw areW_p
  have e' : vl (boN [a0, a1, a2, a3] pW 4).1 = vl [a0, a1, a2, a3] - 21888242871839275222246405745257275088548364400416034343698204186575808495617 + 18446744073709551616 * 18446744073709551616 * 18446744073709551616 * 18446744073709551616 * (boN [a0, a1, a2, a3] pW 4).2 := by
    rw [← vl_p]; exact e
  obtain ⟨h1, h2, h3⟩ := boN_ok [a0, a1, a2, a3] pW 4
  have g1 := vl_nn h1
  have g2 := vl_lt4 (boN_len _ _ _) h1
  have g3 := vl_nn hw
  have g4 := vl_lt4 h hw
  generalize (boN [a0, a1, a2, a3] pW 4).2 = c at *
  refine ⟨⟨fun hc => ?_, fun hc => ?_⟩, fun hc => ?_⟩
  · omega
  · omega
  · omega
theorem bel_val {a : List Int} (h : a.length = 4) (hw : areW a) (h2 : vl a < 21888242871839275222246405745257275088548364400416034343698204186575808495617 + 21888242871839275222246405745257275088548364400416034343698204186575808495617) : ∃ q, vl (belW a) = vl a + q * 21888242871839275222246405745257275088548364400416034343698204186575808495617 ∧ 0 ≤ vl (belW a) ∧ vl (belW a) < 21888242871839275222246405745257275088548364400416034343698204186575808495617 := by
  obtain ⟨h3, h4⟩ := bo_lt h hw
  have := vl_nn hw
  unfold belW
  split
  · rename_i hc
    have := h3.1 hc
    exact ⟨-1, by rw [h4 this]; omega, by rw [h4 this]; omega, by rw [h4 this]; omega⟩
  · rename_i hc
    have : ¬ 21888242871839275222246405745257275088548364400416034343698204186575808495617 ≤ vl a := fun k => hc (h3.2 k)
    exact ⟨0, by omega, by omega, by omega⟩
/-- The product. -/
theorem pr_val {a b : List Int} (ha : a.length = 4) (wa : areW a) (hb : b.length = 4) (wb : areW b) (hB : vl b < 21888242871839275222246405745257275088548364400416034343698204186575808495617) :
    ∃ q, 18446744073709551616 * 18446744073709551616 * 18446744073709551616 * 18446744073709551616 * vl (prW a b) = vl a * vl b + q * 21888242871839275222246405745257275088548364400416034343698204186575808495617 ∧ 0 ≤ vl (prW a b) ∧ vl (prW a b) < 21888242871839275222246405745257275088548364400416034343698204186575808495617 := by
  obtain ⟨q, hl, hw, he, ht⟩ := pr4_val ha wa hb wb hB
  unfold prW
  generalize prN a b 4 = T at *
  obtain ⟨t0, t1, t2, t3, t4, rfl⟩ := get5 hl
  have g0 : isW t0 := hw 0
  have g1 : isW t1 := hw 1
  have g2 : isW t2 := hw 2
  have g3 : isW t3 := hw 3
  have g4 : isW t4 := hw 4
  have hn := vl_nn (areW4 g0 g1 g2 g3)
  have e5 : vl [t0, t1, t2, t3, t4] = vl [t0, t1, t2, t3] + 18446744073709551616 * 18446744073709551616 * 18446744073709551616 * 18446744073709551616 * t4 := by rw [vl5, vl4]
  have h4 := g4.1
  have htake : [t0, t1, t2, t3, t4].take 4 = [t0, t1, t2, t3] := rfl
  rw [htake]
  have hz : t4 = 0 := by omega
  obtain ⟨r, k1, k2, k3⟩ := bel_val rfl (areW4 g0 g1 g2 g3) (by omega)
  refine ⟨q + 18446744073709551616 * 18446744073709551616 * 18446744073709551616 * 18446744073709551616 * r, ?_, k2, k3⟩
  rw [e5, hz] at he
  rw [k1]
  generalize vl [t0, t1, t2, t3] = V at *
  clear e5 hn k1 k2 k3 ht hB
  grind
/-- a + b. -/
theorem ad_eq {x y c : Int} : adS x y c + 18446744073709551616 * adC x y c = x + y + c := by unfold adS adC; omega
theorem pl_val {a0 a1 a2 a3 b0 b1 b2 b3 : Int} :
    vl (plN [a0, a1, a2, a3] [b0, b1, b2, b3] 4).1 + 18446744073709551616 * 18446744073709551616 * 18446744073709551616 * 18446744073709551616 * (plN [a0, a1, a2, a3] [b0, b1, b2, b3] 4).2 = vl [a0, a1, a2, a3] + vl [b0, b1, b2, b3] := by
  have s1 : plN [a0, a1, a2, a3] [b0, b1, b2, b3] 1 = ([adS a0 b0 0, 0, 0, 0], adC a0 b0 0) := rfl
  have e0 := ad_eq (x := a0) (y := b0) (c := 0)
  generalize adS a0 b0 0 = r0 at *
  generalize adC a0 b0 0 = c0 at *
  have s2 : plN [a0, a1, a2, a3] [b0, b1, b2, b3] 2 = ([r0, adS a1 b1 c0, 0, 0], adC a1 b1 c0) := by rw [plN, s1]; rfl
  have e1 := ad_eq (x := a1) (y := b1) (c := c0)
  generalize adS a1 b1 c0 = r1 at *
  generalize adC a1 b1 c0 = c1 at *
  have s3 : plN [a0, a1, a2, a3] [b0, b1, b2, b3] 3 = ([r0, r1, adS a2 b2 c1, 0], adC a2 b2 c1) := by rw [plN, s2]; rfl
  have e2 := ad_eq (x := a2) (y := b2) (c := c1)
  generalize adS a2 b2 c1 = r2 at *
  generalize adC a2 b2 c1 = c2 at *
  have s4 : plN [a0, a1, a2, a3] [b0, b1, b2, b3] 4 = ([r0, r1, r2, adS a3 b3 c2], adC a3 b3 c2) := by rw [plN, s3]; rfl
  have e3 := ad_eq (x := a3) (y := b3) (c := c2)
  generalize adS a3 b3 c2 = r3 at *
  generalize adC a3 b3 c2 = c3 at *
  rw [s4]
  simp only [vl4]
  clear s1 s2 s3 s4
  grind
theorem plN_len (a b : List Int) : ∀ i, (plN a b i).1.length = 4
  | 0 => rfl
  | i + 1 => by rw [plN, List.length_set, plN_len a b i]
/-- The sum of two rests. -/
theorem ps_val {a b : List Int} (ha : a.length = 4) (wa : areW a) (hb : b.length = 4) (wb : areW b) (hA : vl a < 21888242871839275222246405745257275088548364400416034343698204186575808495617) (hB : vl b < 21888242871839275222246405745257275088548364400416034343698204186575808495617) :
    ∃ q, vl (belW (plN a b 4).1) = vl a + vl b + q * 21888242871839275222246405745257275088548364400416034343698204186575808495617 ∧ 0 ≤ vl (belW (plN a b 4).1) ∧ vl (belW (plN a b 4).1) < 21888242871839275222246405745257275088548364400416034343698204186575808495617 := by
  obtain ⟨a0, a1, a2, a3, rfl⟩ := get4 ha
  obtain ⟨b0, b1, b2, b3, rfl⟩ := get4 hb
  have e := pl_val (a0 := a0) (a1 := a1) (a2 := a2) (a3 := a3) (b0 := b0) (b1 := b1) (b2 := b2) (b3 := b3)
  obtain ⟨h1, h2, h3⟩ := plN_ok wa wb 4
  have hl := plN_len [a0, a1, a2, a3] [b0, b1, b2, b3] 4
  have g1 := vl_nn h1
  have hz : (plN [a0, a1, a2, a3] [b0, b1, b2, b3] 4).2 = 0 := by omega
  rw [hz] at e
  obtain ⟨q, k1, k2, k3⟩ := bel_val hl h1 (by omega)
  exact ⟨q, by omega, k2, k3⟩
theorem sqN_len : ∀ i, (sqN i).length = 4
  | 0 => rfl
  | i + 1 => by rw [sqN]; exact belW_len (plN_len _ _ _)
theorem sq_val : ∀ i : Nat, ∃ q, vl (sqN i) = 2 ^ i + q * 21888242871839275222246405745257275088548364400416034343698204186575808495617 ∧ 0 ≤ vl (sqN i) ∧ vl (sqN i) < 21888242871839275222246405745257275088548364400416034343698204186575808495617
  | 0 => ⟨0, by decide, by decide, by decide⟩
  | i + 1 => by
    obtain ⟨q, h1, h2, h3⟩ := sq_val i
    obtain ⟨r, k1, k2, k3⟩ := ps_val (sqN_len i) (sqN_ok i) (sqN_len i) (sqN_ok i) h3 h3
    have e : sqN (i + 1) = belW (plN (sqN i) (sqN i) 4).1 := rfl
    rw [e]
    refine ⟨2 * q + r, ?_, k2, k3⟩
    rw [k1, h1, Int.pow_succ]
    grind
/-- An element's number: what is told by words is it times 2^256. -/
theorem en_val {a : List Int} (ha : a.length = 4) (wa : areW a) : ∃ q, vl (enW a) = 18446744073709551616 * 18446744073709551616 * 18446744073709551616 * 18446744073709551616 * vl a + q * 21888242871839275222246405745257275088548364400416034343698204186575808495617 ∧ 0 ≤ vl (enW a) ∧ vl (enW a) < 21888242871839275222246405745257275088548364400416034343698204186575808495617 := by
  obtain ⟨q, h1, h2, h3⟩ := sq_val 512
  obtain ⟨r, k1, k2, k3⟩ := pr_val ha wa (sqN_len 512) (sqN_ok 512) h3
  unfold enW
  generalize vl (prW a (sqN 512)) = V at *
  generalize vl (sqN 512) = S at *
  generalize vl a = A at *
  have hp : (2 : Int) ^ 512 = (18446744073709551616 * 18446744073709551616 * 18446744073709551616 * 18446744073709551616) * (18446744073709551616 * 18446744073709551616 * 18446744073709551616 * 18446744073709551616) := by
    have h256 : (2 : Int) ^ 256 = 18446744073709551616 * 18446744073709551616 * 18446744073709551616 * 18446744073709551616 := by decide
    rw [show (512 : Nat) = 256 + 256 from rfl, Int.pow_add, h256]
  -- 2^256 is turned round
  have hi : ∃ c : Int, 18446744073709551616 * 18446744073709551616 * 18446744073709551616 * 18446744073709551616 * 9915499612839321149637521777990102151350674507940716049588462388200839649614 = 1 + c * 21888242871839275222246405745257275088548364400416034343698204186575808495617 := ⟨52454480824480482120356829342366457550537710351690908576382634413609933864959, by decide⟩
  obtain ⟨c, hc⟩ := hi
  rw [hp] at h1
  refine ⟨9915499612839321149637521777990102151350674507940716049588462388200839649614 * (A * q + r) + c * (18446744073709551616 * 18446744073709551616 * 18446744073709551616 * 18446744073709551616 * A - V), ?_, k2, k3⟩
  clear h2 h3 k2 k3 wa ha hp
  grind
theorem le_val {a : List Int} (ha : a.length = 4) (wa : areW a) : ∃ q, 18446744073709551616 * 18446744073709551616 * 18446744073709551616 * 18446744073709551616 * vl (leW a) = vl a + q * 21888242871839275222246405745257275088548364400416034343698204186575808495617 ∧ 0 ≤ vl (leW a) ∧ vl (leW a) < 21888242871839275222246405745257275088548364400416034343698204186575808495617 := by
  have h1 : vl [1, 0, 0, 0] = 1 := by decide
  obtain ⟨r, k1, k2, k3⟩ := pr_val ha wa (b := [1, 0, 0, 0]) rfl (areW4 ⟨by decide, by decide⟩ isW0 isW0 isW0) (by rw [h1]; decide)
  rw [h1, Int.mul_one] at k1
  exact ⟨r, k1, k2, k3⟩
theorem mod_uniq {a b q : Int} (h : a = b + q * 21888242871839275222246405745257275088548364400416034343698204186575808495617) (h1 : 0 ≤ a) (h2 : a < 21888242871839275222246405745257275088548364400416034343698204186575808495617) (h3 : 0 ≤ b) (h4 : b < 21888242871839275222246405745257275088548364400416034343698204186575808495617) : a = b := by omega
/-- There and back. -/
theorem le_en {a : List Int} (ha : a.length = 4) (wa : areW a) (h : vl a < 21888242871839275222246405745257275088548364400416034343698204186575808495617) : vl (leW (enW a)) = vl a := by
  obtain ⟨q, h1, h2, h3⟩ := en_val ha wa
  obtain ⟨r, k1, k2, k3⟩ := le_val (enW_len a) (enW_w wa)
  have hn := vl_nn wa
  rw [h1] at k1
  obtain ⟨c, hc⟩ : ∃ c : Int, 18446744073709551616 * 18446744073709551616 * 18446744073709551616 * 18446744073709551616 * 9915499612839321149637521777990102151350674507940716049588462388200839649614 = 1 + c * 21888242871839275222246405745257275088548364400416034343698204186575808495617 := ⟨52454480824480482120356829342366457550537710351690908576382634413609933864959, by decide⟩
  generalize vl (leW (enW a)) = L at *
  generalize vl a = A at *
  refine mod_uniq (q := 9915499612839321149637521777990102151350674507940716049588462388200839649614 * (q + r) + c * (A - L)) ?_ k2 k3 hn h
  clear h1 h2 h3 k2 k3 hn h wa ha
  grind
theorem vl_inj {a b : List Int} (ha : a.length = 4) (hb : b.length = 4) (wa : areW a) (wb : areW b) (h : vl a = vl b) : a = b := by
  obtain ⟨a0, a1, a2, a3, rfl⟩ := get4 ha
  obtain ⟨b0, b1, b2, b3, rfl⟩ := get4 hb
  have g0 : isW a0 := wa 0
  have g1 : isW a1 := wa 1
  have g2 : isW a2 := wa 2
  have g3 : isW a3 := wa 3
  have k0 : isW b0 := wb 0
  have k1 : isW b1 := wb 1
  have k2 : isW b2 := wb 2
  have k3 : isW b3 := wb 3
  unfold isW at *
  rw [vl4, vl4] at h
  have e0 : a0 = b0 := by omega
  subst e0
  have e1 : a1 = b1 := by omega
  subst e1
  have e2 : a2 = b2 := by omega
  subst e2
  have e3 : a3 = b3 := by omega
  subst e3
  rfl
end Go.Proofs.YteiecapbaeajdaaGreatDoor
namespace Go.Proofs.YteiecapbaeajdaaGreatDoor
open Go Go.Avc Go.Proofs
set_option linter.unusedVariables false
set_option linter.unusedSimpArgs false
set_option maxRecDepth 100000
/-! Numbers are reckoned before they are handed on. -/
def frN (n : Nat) (K : Nat → Bool) : Bool := Nat.rec (K 0) (fun m _ => K (m + 1)) n
theorem frN_eq (n : Nat) (K : Nat → Bool) : frN n K = K n := by cases n <;> rfl
def frZ (x : Int) (K : Int → Bool) : Bool := match x with
  | .ofNat n => frN n fun n => K (.ofNat n)
  | .negSucc n => K (.negSucc n)
theorem frZ_eq (x : Int) (K : Int → Bool) : frZ x K = K x := by cases x with
  | ofNat n => exact frN_eq n fun n => K (.ofNat n)
  | negSucc n => rfl
def frL : List Int → (List Int → Bool) → Bool
  | [], K => K []
  | x :: l, K => frZ x fun x => frL l fun l => K (x :: l)
theorem frL_eq : ∀ (l : List Int) (K : List Int → Bool), frL l K = K l
  | [], K => rfl
  | x :: l, K => by rw [frL, frZ_eq, frL_eq l]
def thF (s : List Int) : List Int := (List.range 25).map fun j => xr (s.getD j 0) (xr (cAt s ((j % 5 + 4) % 5)) (rotW (cAt s ((j % 5 + 1) % 5)) 1))
def chF (s : List Int) : List Int := (List.range 25).map fun j => xr (s.getD j 0) (bAndNot .u64 (s.getD (j - j % 5 + (j + 2) % 5) 0) (s.getD (j - j % 5 + (j + 1) % 5) 0))
def rnF (s : List Int) (r : Int) (K : List Int → Bool) : Bool := frL (thF s) fun s => frL (rhoPi s) fun s => frL (chF s) fun s => frL (s.set 0 (xr (s.getD 0 0) (rcOf r))) K
theorem rnF_eq {s : List Int} (h : s.length = 25) (r : Int) (K : List Int → Bool) : rnF s r K = K (round s r) := by
  unfold rnF
  rw [frL_eq, frL_eq, frL_eq, frL_eq]
  have e1 : thF s = theta s := (theta_eq h).symm
  have e2 : chF (rhoPi (theta s)) = chi (rhoPi (theta s)) := (chi_eq (rhoPi_len _)).symm
  rw [e1, e2]
  rfl
def pmF : Nat → Nat → List Int → (List Int → Bool) → Bool
  | 0, _, s, K => K s
  | n + 1, i, s, K => rnF s (i : Int) fun s => pmF n (i + 1) s K
theorem pmN_len {s : List Int} (h : s.length = 25) : ∀ i, (permN s i).length = 25
  | 0 => h
  | i + 1 => by
    have e : (chi (rhoPi (theta (permN s i)))).length = 25 := by rw [chi_eq (rhoPi_len _)]; simp
    rw [permN]
    unfold round
    rw [List.length_set, e]
theorem pmF_eq {s : List Int} (h : s.length = 25) (K : List Int → Bool) : ∀ n i, pmF n i (permN s i) K = K (permN s (i + n))
  | 0, i => rfl
  | n + 1, i => by
    rw [pmF, rnF_eq (pmN_len h i), ← permN_s, pmF_eq h K n (i + 1), show i + 1 + n = i + (n + 1) from by omega]
theorem perm_is {s z : List Int} (h : s.length = 25) (k : pmF 24 0 s (fun t => decide (t = z)) = true) : perm s = z := by
  rw [perm_eq]
  have := pmF_eq h (fun t => decide (t = z)) 24 0
  rw [show permN s 0 = s from rfl, k] at this
  exact of_decide_eq_true this.symm
def ke0 : List Int := [8372025008686331489, 8100131176266490226, 282578803306356, 284782101528576, 25769803776, 0, 0, 0, 0, 0, 0, 0, 0, 0, 0, 0, 9223372036854775808, 0, 0, 0, 0, 0, 0, 0, 0]
def ke1 : List Int := [17883697082401287854, 4253325710419480824, 11613133384083954445, 4150652354307323921, 5450703342257237111, 3850305790896014819, 2098129896617138482, 3261985650114761404, 14082931796852556143, 8502102766655106628, 17839499364438936170, 13021195715379908664, 15399973476708412778, 5250098445452077603, 2841967868550486175, 6709708827652306979, 15223099987002964623, 9348929316260896462, 96394114582478202, 3855134325323266039, 610184281064956661, 17490923861226901500, 985653902140203456, 1505509844641713764, 11031009988316786517]
theorem ke : perm ke0 = ke1 := perm_is rfl (by kernel_rfl)
def tgl : List Int := [174, 238, 55, 155, 190, 167, 47, 248, 248, 208, 150, 211, 50, 217, 6, 59, 13, 219, 141, 167, 72, 35, 42, 161, 17, 120, 160, 60, 83, 20, 154, 57]
def ks7 : List Int := [146085512912896257, 259, 0, 0, 0, 0, 0, 0, 0, 0, 0, 0, 0, 0, 0, 0, 0, 17883697082401287854, 4253325710419480824, 11613133384083954445, 4150652354307323921, 0, 0, 0, 0]
def kz7 : List Int := [14052056302608695159, 17578836594094856944, 18314827469102199205, 8093192738066234267, 17508017827032677215, 2886178562792874151, 14793273547368993520, 1383062114744888811, 7168119107699457784, 2163302939794814075, 986248445006035889, 5064298006269386921, 8803759145140315383, 17159037738295442138, 14508567843353664383, 14856863771369055405, 991290347843542656, 16095916574360114579, 9909427587133103591, 12918494340837085612, 11151706324598239179, 15394613505218226162, 13192475577469199322, 7244770877287454406, 18313807249409089941]
theorem kp7 : perm ks7 = kz7 := perm_is rfl (by kernel_rfl)
def kw7 : List Int := [14052056302608695159, 17578836594094856944, 18314827469102199205, 3481506719638846363]
def ks8 : List Int := [146366987889606913, 259, 0, 0, 0, 0, 0, 0, 0, 0, 0, 0, 0, 0, 0, 0, 0, 17883697082401287854, 4253325710419480824, 11613133384083954445, 4150652354307323921, 0, 0, 0, 0]
def kz8 : List Int := [5991343304603806364, 5545951138849680404, 16782799169413629814, 4653188081362363761, 3259842054026930299, 6721820371532259915, 2555612426354464456, 12981712720304069041, 10908308515129413883, 17663178918108430462, 2540219414342171211, 6618120495261238060, 1010860472115011509, 13259967290300216063, 13779810973806611518, 3972286236533893228, 1720460063043334908, 11287706456884518063, 4108595074166285240, 12501175042273369553, 7097706341743713761, 12950817525631413630, 15312954729242174154, 11859214295558485001, 13141323501984080208]
theorem kp8 : perm ks8 = kz8 := perm_is rfl (by kernel_rfl)
def kw8 : List Int := [5991343304603806364, 5545951138849680404, 16782799169413629814, 41502062934975857]
end Go.Proofs.YteiecapbaeajdaaGreatDoor
namespace Go.Proofs.YteiecapbaeajdaaGreatDoor
open Go Go.Avc Go.Proofs
set_option linter.unusedVariables false
set_option linter.unusedSimpArgs false
set_option maxRecDepth 100000
theorem prs_pat : prs (bytesOfRows patR) = ([⟨1, 1, 1, []⟩, ⟨2, 3, 1, []⟩], -1, 0) := by kernel_rfl
def itR : List (List CD) := [[.int 1, .int 1, .int 1, .str []], [.int 2, .int 3, .int 1, .str []]]
theorem itm_pat : itm patR = itR := by
  unfold itm
  rw [prs_pat]
  kernel_rfl
theorem ser_it : ser (itsOf itR) = (bytesOfRows patR, -1, 0) := by kernel_rfl
def kbl : List (List CD) := [[.sl domR], [.sl [[.int 1]]], [.sl patR]]
def kh0 : List Int := [8372025008686331489, 8100131176266490226, 282578803306356, 284782101528576, 0, 0, 0, 0, 0, 0, 0, 0, 0, 0, 0, 0, 0, 0, 0, 0, 0, 0, 0, 0, 0]
theorem wrP_k : wrP kbl 3 = (kh0, 36) := by kernel_rfl
theorem tag_is : tgB 1 patR = tgl := by
  unfold tgB
  rw [itm_pat]
  unfold tagX
  rw [if_pos (by rw [ser_it])]
  unfold tagL
  have e : ([[.sl domR], [.sl [[.int (IntKind.u8.wrap 1)]]], [.sl (rowsOfBytes (ser (itsOf itR)).1)]] : List (List CD)) = kbl := by
    rw [ser_it]
    kernel_rfl
  have e2 : putS (putS kh0 36 6) 135 128 = ke0 := by decide +kernel
  rw [e, sumP, hid_eq, show kbl.length = 3 from rfl, wrP_k, fin, hid_eq]
  show (bysL (perm (putS (putS kh0 36 6) 135 128))).take 32 = tgl
  rw [e2, ke, bysL_eq]
  decide +kernel
/-- The state behind so many bytes. -/
def staR (l : List Int) : List (List CD) := ((l ++ List.replicate (136 - l.length) 0) ++ (tgl ++ List.replicate 32 0)).map row1
theorem x0_is : x0B patR = (0, 136, 0, staR []) := by
  unfold x0B
  rw [tag_is]
  have : stB (tgl.map row1) = staR [] := by kernel_rfl
  rw [this]
theorem op1_7 : opS 1 1 1 [[.int 7]] (0, 136, 0, staR []) = (7, 136, 0, staR [1, 1, 1, 0, 0, 0, 7]) := by kernel_rfl
theorem op1_8 : opS 1 1 1 [[.int 8]] (0, 136, 0, staR []) = (7, 136, 0, staR [1, 1, 1, 0, 0, 0, 8]) := by kernel_rfl
theorem op2_7 : opS 2 3 1 [] (7, 136, 0, staR [1, 1, 1, 0, 0, 0, 7]) = (13, 136, 0, staR [1, 1, 1, 0, 0, 0, 7, 2, 3, 1, 0, 0, 0]) := by kernel_rfl
theorem op2_8 : opS 2 3 1 [] (7, 136, 0, staR [1, 1, 1, 0, 0, 0, 8]) = (13, 136, 0, staR [1, 1, 1, 0, 0, 0, 8, 2, 3, 1, 0, 0, 0]) := by kernel_rfl
/-! A block that is drawn at once. -/
theorem sqS_first {x : Sp} (h : x.2.1 = 136) : ∀ i : Nat, i < 136 → sqS x (i + 1) = (0, (i : Int) + 1, x.2.2.1 + 1, pmR x.2.2.2)
  | 0, _ => by
    rw [sqS, sqS, sq0, if_pos h]
    rfl
  | i + 1, hi => by
    rw [sqS, sqS_first h i (by omega), sq0, if_neg (by show ¬ ((i : Int) + 1 = 136); omega)]
    rfl
theorem sq0_first {x : Sp} (h : x.2.1 = 136) : ∀ i : Nat, i < 136 → sq0 (sqS x i) = (0, (i : Int), x.2.2.1 + 1, pmR x.2.2.2)
  | 0, _ => by
    rw [sqS, sq0, if_pos h]
    rfl
  | i + 1, hi => by
    rw [sqS_first h i (by omega), sq0, if_neg (by show ¬ ((i : Int) + 1 = 136); omega)]
    rfl
theorem sqO_first {x : Sp} (h : x.2.1 = 136) : ∀ i : Nat, i ≤ 136 → sqO x i = (pmR x.2.2.2).take i
  | 0, _ => rfl
  | i + 1, hi => by
    have hl := pmR_len x.2.2.2
    rw [sqO, sqO_first h i (by omega), sq0_first h i (by omega)]
    show _ ++ [[CD.int (rv (pmR x.2.2.2) (i : Int).toNat)]] = _
    rw [Int.toNat_natCast, List.take_add_one, List.getElem?_eq_getElem (by omega)]
    congr 1
    unfold pmR
    rw [rv_row1, List.getElem_map, List.getD_eq_getElem?_getD, List.getElem?_eq_getElem (by rw [bysL_len]; omega)]
    rfl
theorem blB_first {x : Sp} (h : x.2.1 = 136) : blB x = (bysL (perm (wsN x.2.2.2 200))).take 32 := by
  rw [blB, hid_eq, sqO_first h 32 (by omega)]
  unfold pmR
  rw [← List.map_take, List.map_map]
  generalize (bysL (perm (wsN x.2.2.2 200))).take 32 = L
  have : ((fun r : List CD => (r.getD 0 .d0).toInt) ∘ row1) = id := rfl
  rw [this, List.map_id]
abbrev x2_7 : Sp := (13, 136, 0, staR [1, 1, 1, 0, 0, 0, 7, 2, 3, 1, 0, 0, 0])
abbrev x2_8 : Sp := (13, 136, 0, staR [1, 1, 1, 0, 0, 0, 8, 2, 3, 1, 0, 0, 0])
theorem bl7 : blW x2_7 = kw7 := by
  unfold blW
  rw [blB_first rfl]
  have e : wsN (staR [1, 1, 1, 0, 0, 0, 7, 2, 3, 1, 0, 0, 0]) 200 = ks7 := by kernel_rfl
  show w32 ((maskL ((bysL (perm (wsN (staR [1, 1, 1, 0, 0, 0, 7, 2, 3, 1, 0, 0, 0]) 200))).take 32)).map row1) = kw7
  rw [e, kp7, bysL_eq]
  kernel_rfl
theorem bl8 : blW x2_8 = kw8 := by
  unfold blW
  rw [blB_first rfl]
  have e : wsN (staR [1, 1, 1, 0, 0, 0, 8, 2, 3, 1, 0, 0, 0]) 200 = ks8 := by kernel_rfl
  show w32 ((maskL ((bysL (perm (wsN (staR [1, 1, 1, 0, 0, 0, 8, 2, 3, 1, 0, 0, 0]) 200))).take 32)).map row1) = kw8
  rw [e, kp8, bysL_eq]
  kernel_rfl
theorem fd_first {x : Sp} {w : List Int} (h : blW x = w) (hw : (boN w pW 4).2 ≠ 0) : fdX x = (enW w, 1, 0, sqS x 32) := by
  rw [fdX, hid_eq, show (64 : Nat) = 63 + 1 from rfl, fdF, h, if_neg hw]
  rfl
theorem lt7 : (boN kw7 pW 4).2 ≠ 0 := by decide +kernel
theorem lt8 : (boN kw8 pW 4).2 ≠ 0 := by decide +kernel
theorem kw7_w : areW kw7 := areW4 ⟨by decide, by decide⟩ ⟨by decide, by decide⟩ ⟨by decide, by decide⟩ ⟨by decide, by decide⟩
theorem kw8_w : areW kw8 := areW4 ⟨by decide, by decide⟩ ⟨by decide, by decide⟩ ⟨by decide, by decide⟩ ⟨by decide, by decide⟩
/-- An element's bytes are those of what was told. -/
theorem elB_en {w : List Int} (h : w.length = 4) (hw : areW w) (hl : (boN w pW 4).2 ≠ 0) : elB (enW w) = bysN (fun i => gI w i) 4 := by
  have hlt : vl w < 21888242871839275222246405745257275088548364400416034343698204186575808495617 := by
    have := (bo_lt h hw).1
    omega
  have e : leW (enW w) = w := vl_inj (by unfold leW; exact prW_len _ _) h (by unfold leW; exact prW_ok (enW_w hw) (areW4 ⟨by decide, by decide⟩ isW0 isW0 isW0)) hw (le_en h hw hlt)
  unfold elB
  rw [e]
end Go.Proofs.YteiecapbaeajdaaGreatDoor
namespace Go.Proofs.YteiecapbaeajdaaGreatDoor
open Go Go.Avc Go.Proofs
set_option linter.unusedVariables false
set_option linter.unusedSimpArgs false
set_option maxRecDepth 100000
theorem spB_x0 : spB 0 (x0B patR) := by
  rw [x0_is]
  exact ⟨by decide, by decide, by decide, by decide, by decide, by decide, rfl, areB_of (by decide +kernel)⟩
/-- What one element's drawing gives, a byte said ahead. -/
noncomputable def drB (b : Int) : List Int := (drX (opS 1 1 1 [[.int b]] (x0B patR))).1
theorem dr7 : drX (opS 1 1 1 [[.int 7]] (x0B patR)) = (enW kw7, 1, 0, sqS x2_7 32) := by
  unfold drX
  rw [x0_is, op1_7, op2_7]
  exact fd_first bl7 lt7
theorem dr8 : drX (opS 1 1 1 [[.int 8]] (x0B patR)) = (enW kw8, 1, 0, sqS x2_8 32) := by
  unfold drX
  rw [x0_is, op1_8, op2_8]
  exact fd_first bl8 lt8
theorem pl1 (b : Int) : plS (calR b) (x0B patR) 1 = (1, opS 1 1 1 [[.int b]] (x0B patR)) := by
  rw [plS, plS]
  rfl
theorem pl2 (b : Int) : plS (calR b) (x0B patR) 2 = (2, (drX (opS 1 1 1 [[.int b]] (x0B patR))).2.2.2) := by
  rw [plS, pl1]
  show nxt 2 [] 1 (opS 1 1 1 [[.int b]] (x0B patR)) = _
  unfold nxt
  rw [if_neg (by decide), if_pos rfl]
  rfl
theorem pre129_pat : pre129 patR := ⟨by show patR = rowsOfBytes (bytesOfRows patR); kernel_rfl, by decide⟩
theorem pre_story (b : Int) (hb : 0 ≤ b ∧ b < 256) (hd : (drX (opS 1 1 1 [[.int b]] (x0B patR))).2.2.1 = 0) (hz : spB 800000000 (drX (opS 1 1 1 [[.int b]] (x0B patR))).2.2.2) : pre13 1 patR (calR b) := by
  have h1 : areB [[CD.int b]] := areB1 hb
  have hs := opS_ok (k := 1) (t := 1) (n := 1) h1 spB_x0
  refine ⟨rfl, pre129_pat, by rw [prs_pat], by show (3 : Nat) ≤ 200; decide, fun i hi => ?_⟩
  have hi : i < 3 := hi
  rw [itm_pat]
  match i, hi with
  | 0, _ => exact ⟨⟨Int.le_refl 0, (by decide : (0 : Int) ≤ 1000000)⟩, spB_mono (by decide) spB_x0, .inl ⟨rfl, rfl, h1, by show (1 : Nat) ≤ 900; decide, rfl, by show hit itR 0 1 1 1 = true; decide +kernel⟩⟩
  | 1, _ =>
    rw [pl1]
    exact ⟨⟨(by decide : (0 : Int) ≤ 1), (by decide : (1 : Int) ≤ 1000000)⟩, spB_mono (by simp) hs, .inr (.inl ⟨rfl, rfl, by show hit itR 1 2 3 1 = true; decide +kernel, hd⟩)⟩
  | 2, _ =>
    rw [pl2]
    exact ⟨⟨(by decide : (0 : Int) ≤ 2), (by decide : (2 : Int) ≤ 1000000)⟩, hz, .inr (.inr ⟨rfl, rfl⟩)⟩
theorem spB_x2 {l : List Int} (h : staR l = staR l) (hb : (staR l).length = 200 ∧ areB (staR l)) : spB 0 ((13 : Int), (136 : Int), (0 : Int), staR l) :=
  ⟨(by decide : (0 : Int) ≤ 13), (by decide : (13 : Int) ≤ 136), (by decide : (0 : Int) ≤ 136), Int.le_refl 136, Int.le_refl 0, Int.le_refl 0, hb.1, hb.2⟩
theorem pre7 : pre13 1 patR (calR 7) := by
  refine pre_story 7 ⟨by decide, by decide⟩ (by rw [dr7]) ?_
  rw [dr7]
  exact spB_mono (by decide) (sqS_ok (spB_x2 rfl ⟨rfl, areB_of (by decide +kernel)⟩) 32)
theorem pre8 : pre13 1 patR (calR 8) := by
  refine pre_story 8 ⟨by decide, by decide⟩ (by rw [dr8]) ?_
  rw [dr8]
  exact spB_mono (by decide) (sqS_ok (spB_x2 rfl ⟨rfl, areB_of (by decide +kernel)⟩) 32)
theorem anH_is (b : Int) : anH (calR b) patR = [[.int 0, .sl []], [.int 0, .sl ((elB (drB b)).map row1)], [.int 0, .sl []]] := by
  rw [anH, hid_eq]
  show anR (calR b) (x0B patR) 3 = _
  rw [anR, anR, anR, anR, pl1]
  rfl
theorem D7_is : (elB (drB 7)).map row1 = (bysN (fun i => gI kw7 i) 4).map row1 := by
  unfold drB
  rw [dr7, elB_en rfl kw7_w lt7]
theorem D8_is : (elB (drB 8)).map row1 = (bysN (fun i => gI kw8 i) 4).map row1 := by
  unfold drB
  rw [dr8, elB_en rfl kw8_w lt8]
theorem an7 : anH (calR 7) patR = [[.int 0, .sl []], [.int 0, .sl ((bysN (fun i => gI kw7 i) 4).map row1)], [.int 0, .sl []]] := by rw [anH_is, D7_is]
theorem an8 : anH (calR 8) patR = [[.int 0, .sl []], [.int 0, .sl ((bysN (fun i => gI kw8 i) 4).map row1)], [.int 0, .sl []]] := by rw [anH_is, D8_is]
theorem vc9 : P9 := by
  have a7 := an7
  have a8 := an8
  have a7' : anH [[CD.int 0, CD.int 1, CD.int 0, CD.sl [[CD.int 7]]], [CD.int 2, CD.int 0, CD.int 1, CD.sl []], [CD.int 4, CD.int 0, CD.int 0, CD.sl []]] [[CD.int 1], [CD.int 1], [CD.int 1], [CD.int 0], [CD.int 0], [CD.int 0], [CD.int 0], [CD.int 0], [CD.int 2], [CD.int 3], [CD.int 1], [CD.int 0], [CD.int 0], [CD.int 0], [CD.int 0], [CD.int 0]] = _ := an7
  have a8' : anH [[CD.int 0, CD.int 1, CD.int 0, CD.sl [[CD.int 8]]], [CD.int 2, CD.int 0, CD.int 1, CD.sl []], [CD.int 4, CD.int 0, CD.int 0, CD.sl []]] [[CD.int 1], [CD.int 1], [CD.int 1], [CD.int 0], [CD.int 0], [CD.int 0], [CD.int 0], [CD.int 0], [CD.int 2], [CD.int 3], [CD.int 1], [CD.int 0], [CD.int 0], [CD.int 0], [CD.int 0], [CD.int 0]] = _ := an8
  unfold P9
  rw [a7, a8, a7', a8']
  intro _
  refine ⟨rfl, fun _ => ⟨pre7, ⟨by decide, by decide⟩, by decide, pre8, fun _ _ => ?_⟩⟩
  repeat' first
    | exact trivial
    | refine condF (by decide +kernel) ?_
    | apply And.intro
    | rfl
    | decide +kernel
    | intro _
theorem ok9 : SpecOk (base.with sp10) 9 (mkF ct9) := spec_ct (fn := Tryz.f9) (c := bodyOf Tryz.f9) (k := Tryz.f9.ntmps - ct9.ps.length) (ct := ct9) c10 Tryz.func9 (by kernel_rfl) noAnn (by kernel_rfl) (fun vs w _ => Tryz.call9 vs w) (by rw [e9]; exact vc9)
theorem c9 : (base.with sp9).Ok := addS_ok c10 ok9
end Go.Proofs.YteiecapbaeajdaaGreatDoor
namespace Go.Proofs.YteiecapbaeajdaaGreatDoor
open Go Go.Avc
set_option linter.unusedVariables false
def ct31b : Ct := { ps := [.ptr 0 0], bs := [qTb, gA, qSb, ob], pre := fun _ => True, res := fun | .li t :: ds => .ret a32 [qTb, gA, qSb, ob] (.li t :: .li t :: ds) | _ => noRes }
def ct31e : Ct := { ps := [.ptr 0 0], bs := [qTe, gA, qSf, qPm, oe], pre := fun _ => True, res := fun | .li t :: ds => .ret a32 [qTe, gA, qSf, qPm, oe] (.li t :: .li t :: ds) | _ => noRes }
def ct8 : Ct := { ps := [.rd itemE, .rd itemE], bs := [], pre := fun _ => True, res := fun _ => .ret .bool [] [.b true] }
def ann8 : List Dat → Ann
  | [.r a, .r b] => { cut := [(7, [la 150 [(0, .rd itemE), (1, .rd itemE), (5, rb), (8, rb)] [] (fun
      | [.r a', .r b', .r p, .r q] => a' = a ∧ b' = b ∧ a.length ≤ 6 ∧ b.length ≤ 6 ∧ (ser (itsOf a)).2.2 = 0 ∧ (ser (itsOf b)).2.2 = 0 ∧ p = rowsOfBytes (ser (itsOf a)).1 ∧ q = rowsOfBytes (ser (itsOf b)).1
      | _ => False) noM])], loop := [] }
  | _ => { cut := [], loop := [] }
def ct5 : Ct := { ps := [.rd itemE, .rd itemE, rb], bs := [], pre := fun | [.r a, .r b, .r l] => isB l | _ => False, res := fun _ => .ret .bool [] [.b true] }
def ann5 : List Dat → Ann
  | [.r a, .r b, .r l] => { cut := [], loop := [(9, [la 105 [(2, rb), (14, i64), (15, i64), (76, .own 0), (77, i64), (78, i64)] [.own 3 [.int .i64]] (fun
      | [.r l', .i at', .i k, .i m, .i i, .r ks] => l' = l ∧ at' = (prs (bytesOfRows l)).2.1 ∧ k = (prs (bytesOfRows l)).2.2 ∧ m = 2 ∧ ks = [[.int 1], [.int 2]] ∧ (i = 0 ∨ i = 1 ∨ i = 2) ∧ pre129 l
      | _ => False) (fun | [_, _, _, .i m, .i i, _] => (m - i).toNat | _ => 0)])] }
  | _ => { cut := [], loop := [] }
/-- A function that only reads gives back what it was lent. -/
def sameAll (hp : List Blk) : List (Nat × Blk) → Prop
  | [] => True
  | (b, x) :: u => hp.getD b .none = x ∧ sameAll hp u
def pureF (F : List SV → List Blk → CR) (svs : List SV) (hp : List Blk) : CR :=
  match F svs hp with
  | .need p (.ret sv upd []) => .need (p ∧ sameAll hp upd) (.ret sv [] [])
  | r => r
theorem set_same : ∀ (hp : List Blk) (b : Nat), hp.set b (hp.getD b .none) = hp
  | [], _ => rfl
  | _ :: _, 0 => rfl
  | x :: hp, b + 1 => by
    show x :: hp.set b (hp.getD b .none) = x :: hp
    rw [set_same hp b]
theorem updAll_same {hp : List Blk} : ∀ {u : List (Nat × Blk)}, sameAll hp u → updAll hp u = hp
  | [], _ => rfl
  | (b, x) :: u, h => by
    show updAll (hp.set b x) u = hp
    rw [← h.1, set_same]
    exact updAll_same h.2
theorem pure_ok {C : Ctx} {f : FuncId} {F : List SV → List Blk → CR} (h : SpecOk C f F) : SpecOk C f (pureF F) := by
  intro svs hp K R hw
  refine h svs hp K R ?_
  unfold pureF at hw
  split at hw
  · rename_i p sv upd he
    rw [he]
    refine ⟨hw.1.1, ?_⟩
    show _ ∧ _
    rw [updAll_same hw.1.2]
    exact hw.2
  · exact hw
/-- Two lists of items are the same one or not: the answer as two ways. -/
def ct19i : Ct := { ct19 with res := fun | [.r x, .r y] => .ite (decide (itsOf x = itsOf y)) (.ret .bool [] [.b true]) (.ret .bool [] [.b false]) | _ => noRes }
theorem res19i (σ : List Nat) (n : Nat) (fz : List Nat) (ds : List Dat) (hp : List Blk) (K : SV → List Blk → Prop) (h : (mkCR σ n fz (ct19i.res ds)).wp hp K) : (mkCR σ n fz (ct19.res ds)).wp hp K := by
  have hh : (∃ x y, ds = [.r x, .r y]) ∨ ct19i.res ds = ct19.res ds := by
    unfold ct19i ct19
    dsimp only
    split
    · exact .inl ⟨_, _, rfl⟩
    · rename_i hne
      refine .inr ?_
      split
      · exact (hne _ _ rfl).elim
      · rfl
  rcases hh with ⟨x, y, rfl⟩ | hh
  · have h' : (mkCR σ n fz (.ite (decide (itsOf x = itsOf y)) (.ret .bool [] [.b true]) (.ret .bool [] [.b false]))).wp hp K := h
    show (mkCR σ n fz (.ret .bool [] [.b (decide (itsOf x = itsOf y))])).wp hp K
    cases hd : decide (itsOf x = itsOf y) <;> rw [hd] at h' <;> exact h'
  · rw [← hh]
    exact h
theorem ok19i : SpecOk (base.with sp9) 19 (mkF ct19i) := by
  intro svs hp K R h
  have h0 : SpecOk (base.with sp9) 19 (mkF ct19) := c9.spec 19
  refine h0 svs hp K R ?_
  unfold mkF at h ⊢
  have e1 : ct19i.ps = ct19.ps := rfl
  have e2 : ct19i.bs = ct19.bs := rfl
  rw [e1, e2] at h
  cases hw : weakL 0 hp ct19.ps svs ct19.bs with
  | none => rw [hw] at h; exact h
  | some q =>
    obtain ⟨a, b, ds, m⟩ := q
    rw [hw] at h
    dsimp only at h ⊢
    cases hs : sigmaOf hp m.ρ ct19.bs.length 0 with
    | none => rw [hs] at h; exact h
    | some σ =>
      rw [hs] at h
      dsimp only at h ⊢
      exact ⟨trivial, res19i σ _ _ ds hp _ h.2⟩
noncomputable def sp19i : SpecT := addS sp9 19 (mkF ct19i)
theorem c19i : (base.with sp19i).Ok := addS_ok c9 ok19i
end Go.Proofs.YteiecapbaeajdaaGreatDoor
namespace Go.Proofs.YteiecapbaeajdaaGreatDoor
open Go Go.Avc Go.Proofs
set_option linter.unusedVariables false
set_option maxRecDepth 100000
def P31b : Prop :=
 ∀ (l : List Int) (l_1 : List (List CD)) (n n_1 n_2 n_3 : Int) (l_2 : List (List CD)),
 l.length = (32 : Nat) → True → l = l ∧ l = l ∧ l_1 = l_1 ∧ n = n ∧ n_1 = n_1 ∧ n_2 = n_2 ∧ n_3 = n_3 ∧ l_2 = l_2
theorem e31b : ct31b.VC (base.with sp19i) Tryz.f31.results.toList Tryz.f31.ntmps (Tryz.f31.ntmps - ct31b.ps.length) (bodyOf Tryz.f31) noAnn = P31b := by kernel_rfl
def P31e : Prop :=
 ∀ (l : List Int) (l_1 : List (List CD)) (n n_1 n_2 n_3 n_4 n_5 n_6 : Int) (l_2 l_3 : List Int) (l_4 : List (List CD)),
 l.length = (32 : Nat) → True → l = l ∧ l = l ∧ l_1 = l_1 ∧ n = n ∧ n_1 = n_1 ∧ n_2 = n_2 ∧ n_3 = n_3 ∧ n_4 = n_4 ∧ n_5 = n_5 ∧ n_6 = n_6 ∧ l_2 = l_2 ∧ l_3 = l_3 ∧ l_4 = l_4
theorem e31e : ct31e.VC (base.with sp19i) Tryz.f31.results.toList Tryz.f31.ntmps (Tryz.f31.ntmps - ct31e.ps.length) (bodyOf Tryz.f31) noAnn = P31e := by kernel_rfl
noncomputable def sp31 : SpecT := addS sp19i 31 (pureF (altF ct31b (mkF ct31e)))
def P8 : Prop :=
 ∀ (l l_1 : List (List CD)),
 l.length ≤ (9223372036854775807 : Nat) →
 l_1.length ≤ (9223372036854775807 : Nat) →
 True →
 True ∧
 (((bw false !true) = true → l.length ≤ (9223372036854775807 : Nat)) →
 (bw false (!true || decide ((6 : Int) < (↑l.length : Int))) = true → l_1.length ≤ (9223372036854775807 : Nat)) →
 bif !true || decide ((6 : Int) < (↑l.length : Int)) || decide ((6 : Int) < (↑l_1.length : Int)) then True ∧ true = true
 else
 preL l ∧
 preL l_1 ∧
 (bif
 decide ((ser (itsOf l)).snd.snd ≠ (0 : Int)) ||
 decide ((ser (itsOf l_1)).snd.snd ≠ (0 : Int)) then
 true = true
 else
 (l = l ∧
 l_1 = l_1 ∧
 l.length ≤ (6 : Nat) ∧
 l_1.length ≤ (6 : Nat) ∧
 (ser (itsOf l)).snd.snd = (0 : Int) ∧
 (ser (itsOf l_1)).snd.snd = (0 : Int) ∧
 rowsOfBytes (ser (itsOf l)).fst =
 rowsOfBytes (ser (itsOf l)).fst ∧
 rowsOfBytes (ser (itsOf l_1)).fst =
 rowsOfBytes (ser (itsOf l_1)).fst) ∧
 True) ∧
 ∀ (l_2 l_3 l_4 l_5 : List (List CD)),
 l_2.length ≤ (9223372036854775807 : Nat) →
 l_3.length ≤ (9223372036854775807 : Nat) →
 l_4.length ≤ (9223372036854775807 : Nat) →
 l_5.length ≤ (9223372036854775807 : Nat) →
 l_2 = l ∧
 l_3 = l_1 ∧
 l.length ≤ (6 : Nat) ∧
 l_1.length ≤ (6 : Nat) ∧
 (ser (itsOf l)).snd.snd = (0 : Int) ∧
 (ser (itsOf l_1)).snd.snd = (0 : Int) ∧
 l_4 = rowsOfBytes (ser (itsOf l)).fst ∧
 l_5 = rowsOfBytes (ser (itsOf l_1)).fst →
 pre129 l_4 ∧
 bif decide ((prs (bytesOfRows l_4)).snd.snd = (0 : Int)) then
 pre129 l_5 ∧
 bif decide ((prs (bytesOfRows l_5)).snd.snd = (0 : Int)) then
 pre129 l_4 ∧
 bif decide ((prs (bytesOfRows l_4)).snd.snd = (0 : Int)) then
 preL l_2 ∧
 (((1 : Int) = (1 : Int) ∨ (1 : Int) = (2 : Int)) ∧
 preL
 (rowsIt (itsOf l_2))) ∧
 preL l_3 ∧
 (((1 : Int) = (1 : Int) ∨ (1 : Int) = (2 : Int)) ∧
 preL
 (rowsIt (itsOf l_3))) ∧
 preL l_2 ∧
 (((2 : Int) = (1 : Int) ∨ (2 : Int) = (2 : Int)) ∧
 preL
 (rowsIt (itsOf l_2))) ∧
 (True ∧
 sameAll
 [Blk.cells (128 : Go.TypeId)
 [SV.ptr (1 : Nat) (0 : Nat),
 SV.arrI (32 : Nat) Go.IntKind.u8 (tgB (1 : Int) l_4),
 SV.iface (133 : Go.TypeId) (SV.agg [SV.ptr (2 : Nat) (0 : Nat)])],
 Blk.cells (185 : Go.TypeId)
 [SV.rd
 [CSh.int Go.IntKind.i64, CSh.int Go.IntKind.i64, CSh.int Go.IntKind.i64,
 CSh.str]
 (itm l_4),
 SV.int Go.IntKind.i64 (0 : Int), SV.nilp],
 Blk.cells (298 : Go.TypeId)
 [SV.iface (253 : Go.TypeId) (SV.agg []), SV.own (3 : Nat),
 SV.int Go.IntKind.i64 (0 : Int), SV.int Go.IntKind.i64 (136 : Int),
 SV.int Go.IntKind.i64 (0 : Int)],
 Blk.own (5 : Go.TypeId) [CSh.int Go.IntKind.u8]
 (stB
 (List.map row1 (tgB (1 : Int) l_4))),
 Blk.none, Blk.none, Blk.none, Blk.none, Blk.none, Blk.none,
 Blk.none, Blk.none, Blk.none, Blk.none, Blk.none, Blk.none,
 Blk.none, Blk.none, Blk.none]
 (updsR (rmS [(0 : Nat), (1 : Nat), (2 : Nat), (3 : Nat)] (19 : Nat))
 [(0 : Nat), (1 : Nat), (2 : Nat), (3 : Nat)]
 [Blk.cells (128 : Go.TypeId)
 [SV.ptr (1 : Nat) (0 : Nat),
 SV.arrI (32 : Nat) Go.IntKind.u8 (tgB (1 : Int) l_4),
 SV.iface (133 : Go.TypeId) (SV.agg [SV.ptr (2 : Nat) (0 : Nat)])],
 Blk.cells (185 : Go.TypeId)
 [SV.rd
 [CSh.int Go.IntKind.i64, CSh.int Go.IntKind.i64, CSh.int Go.IntKind.i64,
 CSh.str]
 (itm l_4),
 SV.int Go.IntKind.i64 (0 : Int), SV.nilp],
 Blk.cells (298 : Go.TypeId)
 [SV.iface (253 : Go.TypeId) (SV.agg []), SV.own (3 : Nat),
 SV.int Go.IntKind.i64 (0 : Int), SV.int Go.IntKind.i64 (136 : Int),
 SV.int Go.IntKind.i64 (0 : Int)],
 Blk.own (5 : Go.TypeId) [CSh.int Go.IntKind.u8]
 (stB
 (List.map row1
 (tgB (1 : Int) l_4)))])) ∧
 (decide
 (tgB (1 : Int) l_4 =
 tagX (1 : Int)
 (rowsIt (itsOf l_2))) =
 true →
 True ∧
 sameAll
 [Blk.none, Blk.none, Blk.none, Blk.none,
 Blk.cells (128 : Go.TypeId)
 [SV.ptr (5 : Nat) (0 : Nat),
 SV.arrI (32 : Nat) Go.IntKind.u8 (tgB (1 : Int) l_5),
 SV.iface (133 : Go.TypeId) (SV.agg [SV.ptr (6 : Nat) (0 : Nat)])],
 Blk.cells (185 : Go.TypeId)
 [SV.rd
 [CSh.int Go.IntKind.i64, CSh.int Go.IntKind.i64, CSh.int Go.IntKind.i64,
 CSh.str]
 (itm l_5),
 SV.int Go.IntKind.i64 (0 : Int), SV.nilp],
 Blk.cells (298 : Go.TypeId)
 [SV.iface (253 : Go.TypeId) (SV.agg []), SV.own (7 : Nat),
 SV.int Go.IntKind.i64 (0 : Int), SV.int Go.IntKind.i64 (136 : Int),
 SV.int Go.IntKind.i64 (0 : Int)],
 Blk.own (5 : Go.TypeId) [CSh.int Go.IntKind.u8]
 (stB
 (List.map row1
 (tgB (1 : Int) l_5))),
 Blk.none, Blk.none, Blk.none, Blk.none, Blk.none, Blk.none,
 Blk.none, Blk.none, Blk.none, Blk.none, Blk.none]
 (updsR (rmS [(4 : Nat), (5 : Nat), (6 : Nat), (7 : Nat)] (19 : Nat))
 [(4 : Nat), (5 : Nat), (6 : Nat), (7 : Nat)]
 [Blk.cells (128 : Go.TypeId)
 [SV.ptr (1 : Nat) (0 : Nat),
 SV.arrI (32 : Nat) Go.IntKind.u8 (tgB (1 : Int) l_5),
 SV.iface (133 : Go.TypeId) (SV.agg [SV.ptr (2 : Nat) (0 : Nat)])],
 Blk.cells (185 : Go.TypeId)
 [SV.rd
 [CSh.int Go.IntKind.i64, CSh.int Go.IntKind.i64, CSh.int Go.IntKind.i64,
 CSh.str]
 (itm l_5),
 SV.int Go.IntKind.i64 (0 : Int), SV.nilp],
 Blk.cells (298 : Go.TypeId)
 [SV.iface (253 : Go.TypeId) (SV.agg []), SV.own (3 : Nat),
 SV.int Go.IntKind.i64 (0 : Int), SV.int Go.IntKind.i64 (136 : Int),
 SV.int Go.IntKind.i64 (0 : Int)],
 Blk.own (5 : Go.TypeId) [CSh.int Go.IntKind.u8]
 (stB
 (List.map row1
 (tgB (1 : Int) l_5)))])) ∧
 ((decide
 (tgB (1 : Int) l_4 =
 tagX (1 : Int)
 (rowsIt (itsOf l_2))) &&
 decide
 (tgB (1 : Int) l_5 =
 tagX (1 : Int)
 (rowsIt (itsOf l_3)))) =
 true →
 True ∧
 sameAll
 [Blk.none, Blk.none, Blk.none, Blk.none, Blk.none, Blk.none,
 Blk.none, Blk.none,
 Blk.cells (128 : Go.TypeId)
 [SV.ptr (9 : Nat) (0 : Nat),
 SV.arrI (32 : Nat) Go.IntKind.u8 (tgB (2 : Int) l_4),
 SV.iface (137 : Go.TypeId) (SV.agg [SV.ptr (10 : Nat) (0 : Nat)])],
 Blk.cells (185 : Go.TypeId)
 [SV.rd
 [CSh.int Go.IntKind.i64, CSh.int Go.IntKind.i64, CSh.int Go.IntKind.i64,
 CSh.str]
 (itm l_4),
 SV.int Go.IntKind.i64 (0 : Int), SV.nilp],
 Blk.cells (300 : Go.TypeId)
 [SV.iface (259 : Go.TypeId) (SV.agg [SV.ptr (11 : Nat) (0 : Nat)]),
 SV.own (12 : Nat), SV.int Go.IntKind.i64 (0 : Int),
 SV.int Go.IntKind.i64 (2 : Int), SV.int Go.IntKind.i64 (0 : Int)],
 Blk.cells (318 : Go.TypeId)
 [SV.int Go.IntKind.u32 (0 : Int), SV.int Go.IntKind.i32 (0 : Int),
 SV.int Go.IntKind.u32 (0 : Int),
 SV.arrI (780 : Nat) Go.IntKind.u64 z780,
 SV.arrI (36 : Nat) Go.IntKind.u64 z36],
 Blk.own (76 : Go.TypeId)
 [CSh.int Go.IntKind.u64, CSh.int Go.IntKind.u64, CSh.int Go.IntKind.u64,
 CSh.int Go.IntKind.u64]
 (stE
 [rowE
 (fwW
 (List.map row1
 (tgB (2 : Int) l_4)))]),
 Blk.none, Blk.none, Blk.none, Blk.none, Blk.none, Blk.none]
 (updsR (rmS [(8 : Nat), (9 : Nat), (10 : Nat), (11 : Nat), (12 : Nat)] (19 : Nat))
 [(8 : Nat), (9 : Nat), (10 : Nat), (11 : Nat), (12 : Nat)]
 [Blk.cells (128 : Go.TypeId)
 [SV.ptr (1 : Nat) (0 : Nat),
 SV.arrI (32 : Nat) Go.IntKind.u8 (tgB (2 : Int) l_4),
 SV.iface (137 : Go.TypeId) (SV.agg [SV.ptr (2 : Nat) (0 : Nat)])],
 Blk.cells (185 : Go.TypeId)
 [SV.rd
 [CSh.int Go.IntKind.i64, CSh.int Go.IntKind.i64, CSh.int Go.IntKind.i64,
 CSh.str]
 (itm l_4),
 SV.int Go.IntKind.i64 (0 : Int), SV.nilp],
 Blk.cells (300 : Go.TypeId)
 [SV.iface (259 : Go.TypeId) (SV.agg [SV.ptr (3 : Nat) (0 : Nat)]),
 SV.own (4 : Nat), SV.int Go.IntKind.i64 (0 : Int),
 SV.int Go.IntKind.i64 (2 : Int), SV.int Go.IntKind.i64 (0 : Int)],
 Blk.cells (318 : Go.TypeId)
 [SV.int Go.IntKind.u32 (0 : Int), SV.int Go.IntKind.i32 (0 : Int),
 SV.int Go.IntKind.u32 (0 : Int),
 SV.arrI (780 : Nat) Go.IntKind.u64 z780,
 SV.arrI (36 : Nat) Go.IntKind.u64 z36],
 Blk.own (76 : Go.TypeId)
 [CSh.int Go.IntKind.u64, CSh.int Go.IntKind.u64, CSh.int Go.IntKind.u64,
 CSh.int Go.IntKind.u64]
 (stE
 [rowE
 (fwW
 (List.map row1
 (tgB (2 : Int) l_4)))])])) ∧
 ((decide
 (tgB (1 : Int) l_4 =
 tagX (1 : Int)
 (rowsIt (itsOf l_2))) &&
 decide
 (tgB (1 : Int) l_5 =
 tagX (1 : Int)
 (rowsIt (itsOf l_3))) &&
 decide
 (tgB (2 : Int) l_4 =
 tagX (2 : Int)
 (rowsIt (itsOf l_2)))) =
 true →
 True) ∧
 bif decide (itsOf l_2 = itsOf l_3) then
 ((({ t := (142 : Nat), d := (137 : Nat), want := true, c := decide (tgB (1 : Int) l_4 = tagX (1 : Int) (rowsIt (itsOf l_2))) && decide (tgB (1 : Int) l_5 = tagX (1 : Int) (rowsIt (itsOf l_3))) && decide (tgB (2 : Int) l_4 = tagX (2 : Int) (rowsIt (itsOf l_2))), sv := SV.bool !true } : GE).c &&
 !!true) =
 true →
 True ∧
 sameAll
 [Blk.cells (128 : Go.TypeId)
 [SV.ptr (1 : Nat) (0 : Nat),
 SV.arrI (32 : Nat) Go.IntKind.u8 (tgB (1 : Int) l_4),
 SV.iface (133 : Go.TypeId) (SV.agg [SV.ptr (2 : Nat) (0 : Nat)])],
 Blk.cells (185 : Go.TypeId)
 [SV.rd
 [CSh.int Go.IntKind.i64, CSh.int Go.IntKind.i64, CSh.int Go.IntKind.i64,
 CSh.str]
 (itm l_4),
 SV.int Go.IntKind.i64 (0 : Int), SV.nilp],
 Blk.cells (298 : Go.TypeId)
 [SV.iface (253 : Go.TypeId) (SV.agg []), SV.own (3 : Nat),
 SV.int Go.IntKind.i64 (0 : Int), SV.int Go.IntKind.i64 (136 : Int),
 SV.int Go.IntKind.i64 (0 : Int)],
 Blk.own (5 : Go.TypeId) [CSh.int Go.IntKind.u8]
 (stB
 (List.map row1
 (tgB (1 : Int) l_4))),
 Blk.none, Blk.none, Blk.none, Blk.none, Blk.none, Blk.none,
 Blk.none, Blk.none, Blk.none, Blk.none, Blk.none, Blk.none,
 Blk.none, Blk.none, Blk.none]
 (updsR (rmS [(0 : Nat), (1 : Nat), (2 : Nat), (3 : Nat)] (19 : Nat))
 [(0 : Nat), (1 : Nat), (2 : Nat), (3 : Nat)]
 [Blk.cells (128 : Go.TypeId)
 [SV.ptr (1 : Nat) (0 : Nat),
 SV.arrI (32 : Nat) Go.IntKind.u8 (tgB (1 : Int) l_4),
 SV.iface (133 : Go.TypeId) (SV.agg [SV.ptr (2 : Nat) (0 : Nat)])],
 Blk.cells (185 : Go.TypeId)
 [SV.rd
 [CSh.int Go.IntKind.i64, CSh.int Go.IntKind.i64, CSh.int Go.IntKind.i64,
 CSh.str]
 (itm l_4),
 SV.int Go.IntKind.i64 (0 : Int), SV.nilp],
 Blk.cells (298 : Go.TypeId)
 [SV.iface (253 : Go.TypeId) (SV.agg []), SV.own (3 : Nat),
 SV.int Go.IntKind.i64 (0 : Int), SV.int Go.IntKind.i64 (136 : Int),
 SV.int Go.IntKind.i64 (0 : Int)],
 Blk.own (5 : Go.TypeId) [CSh.int Go.IntKind.u8]
 (stB
 (List.map row1
 (tgB (1 : Int) l_4)))])) ∧
 ((({ t := (142 : Nat), d := (137 : Nat), want := true, c := decide (tgB (1 : Int) l_4 = tagX (1 : Int) (rowsIt (itsOf l_2))) && decide (tgB (1 : Int) l_5 = tagX (1 : Int) (rowsIt (itsOf l_3))) && decide (tgB (2 : Int) l_4 = tagX (2 : Int) (rowsIt (itsOf l_2))), sv := SV.bool !true } : GE).c &&
 !!true) =
 true →
 True ∧
 sameAll
 [Blk.none, Blk.none, Blk.none, Blk.none,
 Blk.cells (128 : Go.TypeId)
 [SV.ptr (5 : Nat) (0 : Nat),
 SV.arrI (32 : Nat) Go.IntKind.u8 (tgB (1 : Int) l_5),
 SV.iface (133 : Go.TypeId) (SV.agg [SV.ptr (6 : Nat) (0 : Nat)])],
 Blk.cells (185 : Go.TypeId)
 [SV.rd
 [CSh.int Go.IntKind.i64, CSh.int Go.IntKind.i64, CSh.int Go.IntKind.i64,
 CSh.str]
 (itm l_5),
 SV.int Go.IntKind.i64 (0 : Int), SV.nilp],
 Blk.cells (298 : Go.TypeId)
 [SV.iface (253 : Go.TypeId) (SV.agg []), SV.own (7 : Nat),
 SV.int Go.IntKind.i64 (0 : Int), SV.int Go.IntKind.i64 (136 : Int),
 SV.int Go.IntKind.i64 (0 : Int)],
 Blk.own (5 : Go.TypeId) [CSh.int Go.IntKind.u8]
 (stB
 (List.map row1
 (tgB (1 : Int) l_5))),
 Blk.none, Blk.none, Blk.none, Blk.none, Blk.none,
 Blk.none, Blk.none, Blk.none, Blk.none, Blk.none,
 Blk.none]
 (updsR (rmS [(4 : Nat), (5 : Nat), (6 : Nat), (7 : Nat)] (19 : Nat))
 [(4 : Nat), (5 : Nat), (6 : Nat), (7 : Nat)]
 [Blk.cells (128 : Go.TypeId)
 [SV.ptr (1 : Nat) (0 : Nat),
 SV.arrI (32 : Nat) Go.IntKind.u8
 (tgB (1 : Int) l_5),
 SV.iface (133 : Go.TypeId) (SV.agg [SV.ptr (2 : Nat) (0 : Nat)])],
 Blk.cells (185 : Go.TypeId)
 [SV.rd
 [CSh.int Go.IntKind.i64, CSh.int Go.IntKind.i64,
 CSh.int Go.IntKind.i64, CSh.str]
 (itm l_5),
 SV.int Go.IntKind.i64 (0 : Int), SV.nilp],
 Blk.cells (298 : Go.TypeId)
 [SV.iface (253 : Go.TypeId) (SV.agg []), SV.own (3 : Nat),
 SV.int Go.IntKind.i64 (0 : Int), SV.int Go.IntKind.i64 (136 : Int),
 SV.int Go.IntKind.i64 (0 : Int)],
 Blk.own (5 : Go.TypeId) [CSh.int Go.IntKind.u8]
 (stB
 (List.map row1
 (tgB (1 : Int) l_5)))])) ∧
 (decide
 (tgB (1 : Int) l_4 =
 tagX (1 : Int)
 (rowsIt
 (itsOf l_2))) &&
 decide
 (tgB (1 : Int) l_5 =
 tagX (1 : Int)
 (rowsIt
 (itsOf l_3))) &&
 decide
 (tgB (2 : Int) l_4 =
 tagX (2 : Int)
 (rowsIt (itsOf l_2))) &&
 (!true ||
 decide
 (tgB (1 : Int) l_4 =
 tgB (1 : Int) l_5))) =
 true
 else
 ((({ t := (142 : Nat), d := (137 : Nat), want := true, c := decide (tgB (1 : Int) l_4 = tagX (1 : Int) (rowsIt (itsOf l_2))) && decide (tgB (1 : Int) l_5 = tagX (1 : Int) (rowsIt (itsOf l_3))) && decide (tgB (2 : Int) l_4 = tagX (2 : Int) (rowsIt (itsOf l_2))), sv := SV.bool !false } : GE).c &&
 !!false) =
 true →
 True ∧
 sameAll
 [Blk.cells (128 : Go.TypeId)
 [SV.ptr (1 : Nat) (0 : Nat),
 SV.arrI (32 : Nat) Go.IntKind.u8 (tgB (1 : Int) l_4),
 SV.iface (133 : Go.TypeId) (SV.agg [SV.ptr (2 : Nat) (0 : Nat)])],
 Blk.cells (185 : Go.TypeId)
 [SV.rd
 [CSh.int Go.IntKind.i64, CSh.int Go.IntKind.i64, CSh.int Go.IntKind.i64,
 CSh.str]
 (itm l_4),
 SV.int Go.IntKind.i64 (0 : Int), SV.nilp],
 Blk.cells (298 : Go.TypeId)
 [SV.iface (253 : Go.TypeId) (SV.agg []), SV.own (3 : Nat),
 SV.int Go.IntKind.i64 (0 : Int), SV.int Go.IntKind.i64 (136 : Int),
 SV.int Go.IntKind.i64 (0 : Int)],
 Blk.own (5 : Go.TypeId) [CSh.int Go.IntKind.u8]
 (stB
 (List.map row1
 (tgB (1 : Int) l_4))),
 Blk.none, Blk.none, Blk.none, Blk.none, Blk.none, Blk.none,
 Blk.none, Blk.none, Blk.none, Blk.none, Blk.none, Blk.none,
 Blk.none, Blk.none, Blk.none]
 (updsR (rmS [(0 : Nat), (1 : Nat), (2 : Nat), (3 : Nat)] (19 : Nat))
 [(0 : Nat), (1 : Nat), (2 : Nat), (3 : Nat)]
 [Blk.cells (128 : Go.TypeId)
 [SV.ptr (1 : Nat) (0 : Nat),
 SV.arrI (32 : Nat) Go.IntKind.u8 (tgB (1 : Int) l_4),
 SV.iface (133 : Go.TypeId) (SV.agg [SV.ptr (2 : Nat) (0 : Nat)])],
 Blk.cells (185 : Go.TypeId)
 [SV.rd
 [CSh.int Go.IntKind.i64, CSh.int Go.IntKind.i64, CSh.int Go.IntKind.i64,
 CSh.str]
 (itm l_4),
 SV.int Go.IntKind.i64 (0 : Int), SV.nilp],
 Blk.cells (298 : Go.TypeId)
 [SV.iface (253 : Go.TypeId) (SV.agg []), SV.own (3 : Nat),
 SV.int Go.IntKind.i64 (0 : Int), SV.int Go.IntKind.i64 (136 : Int),
 SV.int Go.IntKind.i64 (0 : Int)],
 Blk.own (5 : Go.TypeId) [CSh.int Go.IntKind.u8]
 (stB
 (List.map row1
 (tgB (1 : Int) l_4)))])) ∧
 ((({ t := (142 : Nat), d := (137 : Nat), want := true, c := decide (tgB (1 : Int) l_4 = tagX (1 : Int) (rowsIt (itsOf l_2))) && decide (tgB (1 : Int) l_5 = tagX (1 : Int) (rowsIt (itsOf l_3))) && decide (tgB (2 : Int) l_4 = tagX (2 : Int) (rowsIt (itsOf l_2))), sv := SV.bool !false } : GE).c &&
 !!false) =
 true →
 True ∧
 sameAll
 [Blk.none, Blk.none, Blk.none, Blk.none,
 Blk.cells (128 : Go.TypeId)
 [SV.ptr (5 : Nat) (0 : Nat),
 SV.arrI (32 : Nat) Go.IntKind.u8 (tgB (1 : Int) l_5),
 SV.iface (133 : Go.TypeId) (SV.agg [SV.ptr (6 : Nat) (0 : Nat)])],
 Blk.cells (185 : Go.TypeId)
 [SV.rd
 [CSh.int Go.IntKind.i64, CSh.int Go.IntKind.i64, CSh.int Go.IntKind.i64,
 CSh.str]
 (itm l_5),
 SV.int Go.IntKind.i64 (0 : Int), SV.nilp],
 Blk.cells (298 : Go.TypeId)
 [SV.iface (253 : Go.TypeId) (SV.agg []), SV.own (7 : Nat),
 SV.int Go.IntKind.i64 (0 : Int), SV.int Go.IntKind.i64 (136 : Int),
 SV.int Go.IntKind.i64 (0 : Int)],
 Blk.own (5 : Go.TypeId) [CSh.int Go.IntKind.u8]
 (stB
 (List.map row1
 (tgB (1 : Int) l_5))),
 Blk.none, Blk.none, Blk.none, Blk.none, Blk.none,
 Blk.none, Blk.none, Blk.none, Blk.none, Blk.none,
 Blk.none]
 (updsR (rmS [(4 : Nat), (5 : Nat), (6 : Nat), (7 : Nat)] (19 : Nat))
 [(4 : Nat), (5 : Nat), (6 : Nat), (7 : Nat)]
 [Blk.cells (128 : Go.TypeId)
 [SV.ptr (1 : Nat) (0 : Nat),
 SV.arrI (32 : Nat) Go.IntKind.u8
 (tgB (1 : Int) l_5),
 SV.iface (133 : Go.TypeId) (SV.agg [SV.ptr (2 : Nat) (0 : Nat)])],
 Blk.cells (185 : Go.TypeId)
 [SV.rd
 [CSh.int Go.IntKind.i64, CSh.int Go.IntKind.i64,
 CSh.int Go.IntKind.i64, CSh.str]
 (itm l_5),
 SV.int Go.IntKind.i64 (0 : Int), SV.nilp],
 Blk.cells (298 : Go.TypeId)
 [SV.iface (253 : Go.TypeId) (SV.agg []), SV.own (3 : Nat),
 SV.int Go.IntKind.i64 (0 : Int), SV.int Go.IntKind.i64 (136 : Int),
 SV.int Go.IntKind.i64 (0 : Int)],
 Blk.own (5 : Go.TypeId) [CSh.int Go.IntKind.u8]
 (stB
 (List.map row1
 (tgB (1 : Int) l_5)))])) ∧
 (decide
 (tgB (1 : Int) l_4 =
 tagX (1 : Int)
 (rowsIt
 (itsOf l_2))) &&
 decide
 (tgB (1 : Int) l_5 =
 tagX (1 : Int)
 (rowsIt
 (itsOf l_3))) &&
 decide
 (tgB (2 : Int) l_4 =
 tagX (2 : Int)
 (rowsIt (itsOf l_2))) &&
 (!false ||
 decide
 (tgB (1 : Int) l_4 =
 tgB (1 : Int) l_5))) =
 true
 else
 bif
 decide ((0 : Int) ≠ (0 : Int)) || decide ((0 : Int) ≠ (0 : Int)) ||
 decide ((prs (bytesOfRows l_4)).snd.snd ≠ (0 : Int)) ||
 false ||
 false ||
 true then
 false = true
 else
 preL l_2 ∧
 (((1 : Int) = (1 : Int) ∨ (1 : Int) = (2 : Int)) ∧
 preL
 (rowsIt (itsOf l_2))) ∧
 preL l_3 ∧
 (((1 : Int) = (1 : Int) ∨ (1 : Int) = (2 : Int)) ∧
 preL
 (rowsIt (itsOf l_3))) ∧
 preL l_2 ∧
 (((2 : Int) = (1 : Int) ∨ (2 : Int) = (2 : Int)) ∧
 preL
 (rowsIt (itsOf l_2))) ∧
 (True ∧
 sameAll
 [Blk.cells (128 : Go.TypeId)
 [SV.ptr (1 : Nat) (0 : Nat),
 SV.arrI (32 : Nat) Go.IntKind.u8 (tgB (1 : Int) l_4),
 SV.iface (133 : Go.TypeId) (SV.agg [SV.ptr (2 : Nat) (0 : Nat)])],
 Blk.cells (185 : Go.TypeId)
 [SV.rd
 [CSh.int Go.IntKind.i64, CSh.int Go.IntKind.i64, CSh.int Go.IntKind.i64,
 CSh.str]
 (itm l_4),
 SV.int Go.IntKind.i64 (0 : Int), SV.nilp],
 Blk.cells (298 : Go.TypeId)
 [SV.iface (253 : Go.TypeId) (SV.agg []), SV.own (3 : Nat),
 SV.int Go.IntKind.i64 (0 : Int), SV.int Go.IntKind.i64 (136 : Int),
 SV.int Go.IntKind.i64 (0 : Int)],
 Blk.own (5 : Go.TypeId) [CSh.int Go.IntKind.u8]
 (stB
 (List.map row1
 (tgB (1 : Int) l_4))),
 Blk.none, Blk.none, Blk.none, Blk.none, Blk.none, Blk.none,
 Blk.none, Blk.none, Blk.none, Blk.none]
 (updsR (rmS [(0 : Nat), (1 : Nat), (2 : Nat), (3 : Nat)] (14 : Nat))
 [(0 : Nat), (1 : Nat), (2 : Nat), (3 : Nat)]
 [Blk.cells (128 : Go.TypeId)
 [SV.ptr (1 : Nat) (0 : Nat),
 SV.arrI (32 : Nat) Go.IntKind.u8 (tgB (1 : Int) l_4),
 SV.iface (133 : Go.TypeId) (SV.agg [SV.ptr (2 : Nat) (0 : Nat)])],
 Blk.cells (185 : Go.TypeId)
 [SV.rd
 [CSh.int Go.IntKind.i64, CSh.int Go.IntKind.i64, CSh.int Go.IntKind.i64,
 CSh.str]
 (itm l_4),
 SV.int Go.IntKind.i64 (0 : Int), SV.nilp],
 Blk.cells (298 : Go.TypeId)
 [SV.iface (253 : Go.TypeId) (SV.agg []), SV.own (3 : Nat),
 SV.int Go.IntKind.i64 (0 : Int), SV.int Go.IntKind.i64 (136 : Int),
 SV.int Go.IntKind.i64 (0 : Int)],
 Blk.own (5 : Go.TypeId) [CSh.int Go.IntKind.u8]
 (stB
 (List.map row1
 (tgB (1 : Int) l_4)))])) ∧
 (decide
 (tgB (1 : Int) l_4 =
 tagX (1 : Int)
 (rowsIt (itsOf l_2))) =
 true →
 True ∧
 sameAll
 [Blk.none, Blk.none, Blk.none, Blk.none,
 Blk.cells (128 : Go.TypeId)
 [SV.ptr (5 : Nat) (0 : Nat),
 SV.arrI (32 : Nat) Go.IntKind.u8 (tgB (1 : Int) l_5),
 SV.iface (133 : Go.TypeId) (SV.agg [SV.ptr (6 : Nat) (0 : Nat)])],
 Blk.cells (185 : Go.TypeId)
 [SV.rd
 [CSh.int Go.IntKind.i64, CSh.int Go.IntKind.i64, CSh.int Go.IntKind.i64,
 CSh.str]
 (itm l_5),
 SV.int Go.IntKind.i64 (0 : Int), SV.nilp],
 Blk.cells (298 : Go.TypeId)
 [SV.iface (253 : Go.TypeId) (SV.agg []), SV.own (7 : Nat),
 SV.int Go.IntKind.i64 (0 : Int), SV.int Go.IntKind.i64 (136 : Int),
 SV.int Go.IntKind.i64 (0 : Int)],
 Blk.own (5 : Go.TypeId) [CSh.int Go.IntKind.u8]
 (stB
 (List.map row1
 (tgB (1 : Int) l_5))),
 Blk.none, Blk.none, Blk.none, Blk.none, Blk.none, Blk.none]
 (updsR (rmS [(4 : Nat), (5 : Nat), (6 : Nat), (7 : Nat)] (14 : Nat))
 [(4 : Nat), (5 : Nat), (6 : Nat), (7 : Nat)]
 [Blk.cells (128 : Go.TypeId)
 [SV.ptr (1 : Nat) (0 : Nat),
 SV.arrI (32 : Nat) Go.IntKind.u8 (tgB (1 : Int) l_5),
 SV.iface (133 : Go.TypeId) (SV.agg [SV.ptr (2 : Nat) (0 : Nat)])],
 Blk.cells (185 : Go.TypeId)
 [SV.rd
 [CSh.int Go.IntKind.i64, CSh.int Go.IntKind.i64, CSh.int Go.IntKind.i64,
 CSh.str]
 (itm l_5),
 SV.int Go.IntKind.i64 (0 : Int), SV.nilp],
 Blk.cells (298 : Go.TypeId)
 [SV.iface (253 : Go.TypeId) (SV.agg []), SV.own (3 : Nat),
 SV.int Go.IntKind.i64 (0 : Int), SV.int Go.IntKind.i64 (136 : Int),
 SV.int Go.IntKind.i64 (0 : Int)],
 Blk.own (5 : Go.TypeId) [CSh.int Go.IntKind.u8]
 (stB
 (List.map row1
 (tgB (1 : Int) l_5)))])) ∧
 ((decide
 (tgB (1 : Int) l_4 =
 tagX (1 : Int)
 (rowsIt (itsOf l_2))) &&
 decide
 (tgB (1 : Int) l_5 =
 tagX (1 : Int)
 (rowsIt (itsOf l_3)))) =
 true →
 False) ∧
 ((decide
 (tgB (1 : Int) l_4 =
 tagX (1 : Int)
 (rowsIt (itsOf l_2))) &&
 decide
 (tgB (1 : Int) l_5 =
 tagX (1 : Int)
 (rowsIt (itsOf l_3)))) =
 true →
 False) ∧
 False
 else
 pre129 l_4 ∧
 bif decide ((prs (bytesOfRows l_4)).snd.snd = (0 : Int)) then
 bif
 decide ((0 : Int) ≠ (0 : Int)) ||
 decide ((prs (bytesOfRows l_5)).snd.snd ≠ (0 : Int)) ||
 decide ((0 : Int) ≠ (0 : Int)) ||
 false ||
 true ||
 false then
 false = true
 else
 preL l_2 ∧
 (((1 : Int) = (1 : Int) ∨ (1 : Int) = (2 : Int)) ∧
 preL
 (rowsIt (itsOf l_2))) ∧
 preL l_3 ∧
 (((1 : Int) = (1 : Int) ∨ (1 : Int) = (2 : Int)) ∧
 preL
 (rowsIt (itsOf l_3))) ∧
 preL l_2 ∧
 (((2 : Int) = (1 : Int) ∨ (2 : Int) = (2 : Int)) ∧
 preL
 (rowsIt (itsOf l_2))) ∧
 (True ∧
 sameAll
 [Blk.cells (128 : Go.TypeId)
 [SV.ptr (1 : Nat) (0 : Nat),
 SV.arrI (32 : Nat) Go.IntKind.u8 (tgB (1 : Int) l_4),
 SV.iface (133 : Go.TypeId) (SV.agg [SV.ptr (2 : Nat) (0 : Nat)])],
 Blk.cells (185 : Go.TypeId)
 [SV.rd
 [CSh.int Go.IntKind.i64, CSh.int Go.IntKind.i64, CSh.int Go.IntKind.i64,
 CSh.str]
 (itm l_4),
 SV.int Go.IntKind.i64 (0 : Int), SV.nilp],
 Blk.cells (298 : Go.TypeId)
 [SV.iface (253 : Go.TypeId) (SV.agg []), SV.own (3 : Nat),
 SV.int Go.IntKind.i64 (0 : Int), SV.int Go.IntKind.i64 (136 : Int),
 SV.int Go.IntKind.i64 (0 : Int)],
 Blk.own (5 : Go.TypeId) [CSh.int Go.IntKind.u8]
 (stB
 (List.map row1
 (tgB (1 : Int) l_4))),
 Blk.none, Blk.none, Blk.none, Blk.none, Blk.none, Blk.none,
 Blk.none, Blk.none, Blk.none, Blk.none, Blk.none]
 (updsR (rmS [(0 : Nat), (1 : Nat), (2 : Nat), (3 : Nat)] (15 : Nat))
 [(0 : Nat), (1 : Nat), (2 : Nat), (3 : Nat)]
 [Blk.cells (128 : Go.TypeId)
 [SV.ptr (1 : Nat) (0 : Nat),
 SV.arrI (32 : Nat) Go.IntKind.u8 (tgB (1 : Int) l_4),
 SV.iface (133 : Go.TypeId) (SV.agg [SV.ptr (2 : Nat) (0 : Nat)])],
 Blk.cells (185 : Go.TypeId)
 [SV.rd
 [CSh.int Go.IntKind.i64, CSh.int Go.IntKind.i64, CSh.int Go.IntKind.i64,
 CSh.str]
 (itm l_4),
 SV.int Go.IntKind.i64 (0 : Int), SV.nilp],
 Blk.cells (298 : Go.TypeId)
 [SV.iface (253 : Go.TypeId) (SV.agg []), SV.own (3 : Nat),
 SV.int Go.IntKind.i64 (0 : Int), SV.int Go.IntKind.i64 (136 : Int),
 SV.int Go.IntKind.i64 (0 : Int)],
 Blk.own (5 : Go.TypeId) [CSh.int Go.IntKind.u8]
 (stB
 (List.map row1
 (tgB (1 : Int) l_4)))])) ∧
 (decide
 (tgB (1 : Int) l_4 =
 tagX (1 : Int)
 (rowsIt (itsOf l_2))) =
 true →
 False) ∧
 (decide
 (tgB (1 : Int) l_4 =
 tagX (1 : Int)
 (rowsIt (itsOf l_2))) =
 true →
 False) ∧
 False
 else
 bif
 decide ((0 : Int) ≠ (0 : Int)) ||
 decide ((prs (bytesOfRows l_5)).snd.snd ≠ (0 : Int)) ||
 decide ((prs (bytesOfRows l_4)).snd.snd ≠ (0 : Int)) ||
 false ||
 true ||
 true then
 false = true
 else
 preL l_2 ∧
 (((1 : Int) = (1 : Int) ∨ (1 : Int) = (2 : Int)) ∧
 preL
 (rowsIt (itsOf l_2))) ∧
 preL l_3 ∧
 (((1 : Int) = (1 : Int) ∨ (1 : Int) = (2 : Int)) ∧
 preL
 (rowsIt (itsOf l_3))) ∧
 preL l_2 ∧
 (((2 : Int) = (1 : Int) ∨ (2 : Int) = (2 : Int)) ∧
 preL
 (rowsIt (itsOf l_2))) ∧
 (True ∧
 sameAll
 [Blk.cells (128 : Go.TypeId)
 [SV.ptr (1 : Nat) (0 : Nat),
 SV.arrI (32 : Nat) Go.IntKind.u8 (tgB (1 : Int) l_4),
 SV.iface (133 : Go.TypeId) (SV.agg [SV.ptr (2 : Nat) (0 : Nat)])],
 Blk.cells (185 : Go.TypeId)
 [SV.rd
 [CSh.int Go.IntKind.i64, CSh.int Go.IntKind.i64, CSh.int Go.IntKind.i64,
 CSh.str]
 (itm l_4),
 SV.int Go.IntKind.i64 (0 : Int), SV.nilp],
 Blk.cells (298 : Go.TypeId)
 [SV.iface (253 : Go.TypeId) (SV.agg []), SV.own (3 : Nat),
 SV.int Go.IntKind.i64 (0 : Int), SV.int Go.IntKind.i64 (136 : Int),
 SV.int Go.IntKind.i64 (0 : Int)],
 Blk.own (5 : Go.TypeId) [CSh.int Go.IntKind.u8]
 (stB
 (List.map row1
 (tgB (1 : Int) l_4))),
 Blk.none, Blk.none, Blk.none, Blk.none, Blk.none, Blk.none]
 (updsR (rmS [(0 : Nat), (1 : Nat), (2 : Nat), (3 : Nat)] (10 : Nat))
 [(0 : Nat), (1 : Nat), (2 : Nat), (3 : Nat)]
 [Blk.cells (128 : Go.TypeId)
 [SV.ptr (1 : Nat) (0 : Nat),
 SV.arrI (32 : Nat) Go.IntKind.u8 (tgB (1 : Int) l_4),
 SV.iface (133 : Go.TypeId) (SV.agg [SV.ptr (2 : Nat) (0 : Nat)])],
 Blk.cells (185 : Go.TypeId)
 [SV.rd
 [CSh.int Go.IntKind.i64, CSh.int Go.IntKind.i64, CSh.int Go.IntKind.i64,
 CSh.str]
 (itm l_4),
 SV.int Go.IntKind.i64 (0 : Int), SV.nilp],
 Blk.cells (298 : Go.TypeId)
 [SV.iface (253 : Go.TypeId) (SV.agg []), SV.own (3 : Nat),
 SV.int Go.IntKind.i64 (0 : Int), SV.int Go.IntKind.i64 (136 : Int),
 SV.int Go.IntKind.i64 (0 : Int)],
 Blk.own (5 : Go.TypeId) [CSh.int Go.IntKind.u8]
 (stB
 (List.map row1
 (tgB (1 : Int) l_4)))])) ∧
 (decide
 (tgB (1 : Int) l_4 =
 tagX (1 : Int)
 (rowsIt (itsOf l_2))) =
 true →
 False) ∧
 (decide
 (tgB (1 : Int) l_4 =
 tagX (1 : Int)
 (rowsIt (itsOf l_2))) =
 true →
 False) ∧
 False
 else
 pre129 l_5 ∧
 bif decide ((prs (bytesOfRows l_5)).snd.snd = (0 : Int)) then
 pre129 l_4 ∧
 bif decide ((prs (bytesOfRows l_4)).snd.snd = (0 : Int)) then
 bif
 decide ((prs (bytesOfRows l_4)).snd.snd ≠ (0 : Int)) ||
 decide ((0 : Int) ≠ (0 : Int)) ||
 decide ((0 : Int) ≠ (0 : Int)) ||
 true ||
 false ||
 false then
 false = true
 else
 preL l_2 ∧
 (((1 : Int) = (1 : Int) ∨ (1 : Int) = (2 : Int)) ∧
 preL
 (rowsIt (itsOf l_2))) ∧
 preL l_3 ∧
 (((1 : Int) = (1 : Int) ∨ (1 : Int) = (2 : Int)) ∧
 preL
 (rowsIt (itsOf l_3))) ∧
 preL l_2 ∧
 (((2 : Int) = (1 : Int) ∨ (2 : Int) = (2 : Int)) ∧
 preL
 (rowsIt (itsOf l_2))) ∧
 False
 else
 bif
 decide ((prs (bytesOfRows l_4)).snd.snd ≠ (0 : Int)) ||
 decide ((0 : Int) ≠ (0 : Int)) ||
 decide ((prs (bytesOfRows l_4)).snd.snd ≠ (0 : Int)) ||
 true ||
 false ||
 true then
 false = true
 else
 preL l_2 ∧
 (((1 : Int) = (1 : Int) ∨ (1 : Int) = (2 : Int)) ∧
 preL
 (rowsIt (itsOf l_2))) ∧
 preL l_3 ∧
 (((1 : Int) = (1 : Int) ∨ (1 : Int) = (2 : Int)) ∧
 preL
 (rowsIt (itsOf l_3))) ∧
 preL l_2 ∧
 (((2 : Int) = (1 : Int) ∨ (2 : Int) = (2 : Int)) ∧
 preL
 (rowsIt (itsOf l_2))) ∧
 False
 else
 pre129 l_4 ∧
 bif decide ((prs (bytesOfRows l_4)).snd.snd = (0 : Int)) then
 bif
 decide ((prs (bytesOfRows l_4)).snd.snd ≠ (0 : Int)) ||
 decide ((prs (bytesOfRows l_5)).snd.snd ≠ (0 : Int)) ||
 decide ((0 : Int) ≠ (0 : Int)) ||
 true ||
 true ||
 false then
 false = true
 else
 preL l_2 ∧
 (((1 : Int) = (1 : Int) ∨ (1 : Int) = (2 : Int)) ∧
 preL
 (rowsIt (itsOf l_2))) ∧
 preL l_3 ∧
 (((1 : Int) = (1 : Int) ∨ (1 : Int) = (2 : Int)) ∧
 preL
 (rowsIt (itsOf l_3))) ∧
 preL l_2 ∧
 (((2 : Int) = (1 : Int) ∨ (2 : Int) = (2 : Int)) ∧
 preL
 (rowsIt (itsOf l_2))) ∧
 False
 else
 bif
 decide ((prs (bytesOfRows l_4)).snd.snd ≠ (0 : Int)) ||
 decide ((prs (bytesOfRows l_5)).snd.snd ≠ (0 : Int)) ||
 decide ((prs (bytesOfRows l_4)).snd.snd ≠ (0 : Int)) ||
 true ||
 true ||
 true then
 false = true
 else
 preL l_2 ∧
 (((1 : Int) = (1 : Int) ∨ (1 : Int) = (2 : Int)) ∧
 preL
 (rowsIt (itsOf l_2))) ∧
 preL l_3 ∧
 (((1 : Int) = (1 : Int) ∨ (1 : Int) = (2 : Int)) ∧
 preL
 (rowsIt (itsOf l_3))) ∧
 preL l_2 ∧
 (((2 : Int) = (1 : Int) ∨ (2 : Int) = (2 : Int)) ∧
 preL
 (rowsIt (itsOf l_2))) ∧
 False)
theorem e8 : ct8.VC (base.with sp31) Tryz.f8.results.toList Tryz.f8.ntmps (Tryz.f8.ntmps - ct8.ps.length) (bodyOf Tryz.f8) ann8 = P8 := by kernel_rfl
noncomputable def sp8 : SpecT := addS sp31 8 (mkF ct8)
def P5 : Prop :=
 ∀ (l l_1 l_2 : List (List CD)),
 l.length ≤ (9223372036854775807 : Nat) →
 l_1.length ≤ (9223372036854775807 : Nat) →
 l_2.length ≤ (9223372036854775807 : Nat) →
 isB l_2 →
 True ∧
 (((bw false !true) = true → l.length ≤ (9223372036854775807 : Nat)) →
 (bw false (!true || decide ((40 : Int) < (↑l.length : Int))) = true → l_1.length ≤ (9223372036854775807 : Nat)) →
 (bw false (!true || decide ((40 : Int) < (↑l.length : Int)) || decide ((40 : Int) < (↑l_1.length : Int))) = true →
 l_2.length ≤ (9223372036854775807 : Nat)) →
 bif !true || decide ((40 : Int) < (↑l.length : Int)) || decide ((40 : Int) < (↑l_1.length : Int)) || decide ((2000 : Int) < (↑l_2.length : Int)) then
 True ∧ true = true
 else
 preL l ∧
 preL (rowsIt (itsOf l)) ∧
 preL l_1 ∧
 preL (rowsIt (itsOf l_1)) ∧
 ((decide
 ((ser
 (itsOf
 (rowsIt (itsOf l)))).snd.snd =
 (0 : Int)) &&
 decide
 ((ser
 (itsOf
 (rowsIt (itsOf l_1)))).snd.snd =
 (0 : Int))) =
 true →
 True) ∧
 bif decide (itsOf l = itsOf l_1) then
 bif
 decide
 ((ser
 (itsOf
 (rowsIt (itsOf l)))).snd.snd =
 (0 : Int)) &&
 decide
 ((ser
 (itsOf
 (rowsIt (itsOf l_1)))).snd.snd =
 (0 : Int)) &&
 decide
 (bytesOfRows
 (rowsOfBytes
 (ser
 (itsOf
 (rowsIt (itsOf l)))).fst) =
 bytesOfRows
 (rowsOfBytes
 (ser
 (itsOf
 (rowsIt (itsOf l_1)))).fst)) !=
 true then
 false = true
 else
 pre129 l_2 ∧
 ((2 : Nat) ≤ (9223372036854775807 : Nat) →
 ((l_2 = l_2 ∧
 (prs (bytesOfRows l_2)).snd.fst =
 (prs (bytesOfRows l_2)).snd.fst ∧
 (prs (bytesOfRows l_2)).snd.snd =
 (prs (bytesOfRows l_2)).snd.snd ∧
 (↑(2 : Nat) : Int) = (2 : Int) ∧
 [[CD.int (1 : Int)], [CD.int (2 : Int)]] = [[CD.int (1 : Int)], [CD.int (2 : Int)]] ∧
 ((0 : Int) = (0 : Int) ∨ (0 : Int) = (1 : Int) ∨ (0 : Int) = (2 : Int)) ∧ pre129 l_2) ∧
 True) ∧
 ∀ (l : List (List CD)) (n n_1 n_2 n_3 : Int) (l_3 : List (List CD)),
 l.length ≤ (9223372036854775807 : Nat) →
 l_3.length ≤ (9223372036854775807 : Nat) →
 l = l_2 ∧
 n = (prs (bytesOfRows l_2)).snd.fst ∧
 n_1 = (prs (bytesOfRows l_2)).snd.snd ∧
 n_2 = (2 : Int) ∧
 l_3 = [[CD.int (1 : Int)], [CD.int (2 : Int)]] ∧
 (n_3 = (0 : Int) ∨ n_3 = (1 : Int) ∨ n_3 = (2 : Int)) ∧ pre129 l_2 →
 bif decide (n_3 < n_2) then
 ((0 : Int) ≤ n_3 ∧ n_3 < (↑l_3.length : Int)) ∧
 n_3.toNat < l_3.length ∧
 pre129 l ∧
 bif
 decide (((l_3.getD n_3.toNat []).getD (0 : Nat) (CD.int (0 : Int))).toInt ≠ (1 : Int)) &&
 decide (((l_3.getD n_3.toNat []).getD (0 : Nat) (CD.int (0 : Int))).toInt ≠ (2 : Int)) then
 bif decide ((15 : Int) ≠ n_1) || decide ((-1 : Int) ≠ n) || (!true) != decide (n_1 = (0 : Int)) then false = true
 else
 ((-9223372036854775808 : Int) ≤ n_3 + (1 : Int) ∧ n_3 + (1 : Int) ≤ (9223372036854775807 : Int)) ∧
 (l = l_2 ∧
 n = (prs (bytesOfRows l_2)).snd.fst ∧
 n_1 = (prs (bytesOfRows l_2)).snd.snd ∧
 n_2 = (2 : Int) ∧
 l_3 = [[CD.int (1 : Int)], [CD.int (2 : Int)]] ∧
 (n_3 + (1 : Int) = (0 : Int) ∨ n_3 + (1 : Int) = (1 : Int) ∨ n_3 + (1 : Int) = (2 : Int)) ∧
 pre129 l_2) ∧
 (n_2 - (n_3 + (1 : Int))).toNat < (n_2 - n_3).toNat
 else
 bif decide ((prs (bytesOfRows l)).snd.snd = (0 : Int)) then
 bif decide (((l_3.getD n_3.toNat []).getD (0 : Nat) (CD.int (0 : Int))).toInt = (2 : Int)) then
 bif decide ((0 : Int) ≠ n_1) || decide ((-1 : Int) ≠ n) || (!false) != decide (n_1 = (0 : Int)) then false = true
 else
 ((-9223372036854775808 : Int) ≤ n_3 + (1 : Int) ∧ n_3 + (1 : Int) ≤ (9223372036854775807 : Int)) ∧
 (l = l_2 ∧
 n = (prs (bytesOfRows l_2)).snd.fst ∧
 n_1 = (prs (bytesOfRows l_2)).snd.snd ∧
 n_2 = (2 : Int) ∧
 l_3 = [[CD.int (1 : Int)], [CD.int (2 : Int)]] ∧
 (n_3 + (1 : Int) = (0 : Int) ∨ n_3 + (1 : Int) = (1 : Int) ∨ n_3 + (1 : Int) = (2 : Int)) ∧
 pre129 l_2) ∧
 (n_2 - (n_3 + (1 : Int))).toNat < (n_2 - n_3).toNat
 else
 bif decide ((0 : Int) ≠ n_1) || decide ((-1 : Int) ≠ n) || (!false) != decide (n_1 = (0 : Int)) then false = true
 else
 ((-9223372036854775808 : Int) ≤ n_3 + (1 : Int) ∧ n_3 + (1 : Int) ≤ (9223372036854775807 : Int)) ∧
 (l = l_2 ∧
 n = (prs (bytesOfRows l_2)).snd.fst ∧
 n_1 = (prs (bytesOfRows l_2)).snd.snd ∧
 n_2 = (2 : Int) ∧
 l_3 = [[CD.int (1 : Int)], [CD.int (2 : Int)]] ∧
 (n_3 + (1 : Int) = (0 : Int) ∨ n_3 + (1 : Int) = (1 : Int) ∨ n_3 + (1 : Int) = (2 : Int)) ∧
 pre129 l_2) ∧
 (n_2 - (n_3 + (1 : Int))).toNat < (n_2 - n_3).toNat
 else
 bif
 decide ((prs (bytesOfRows l)).snd.snd ≠ n_1) ||
 decide ((prs (bytesOfRows l)).snd.fst ≠ n) ||
 (!true) != decide (n_1 = (0 : Int)) then
 false = true
 else
 ((-9223372036854775808 : Int) ≤ n_3 + (1 : Int) ∧ n_3 + (1 : Int) ≤ (9223372036854775807 : Int)) ∧
 (l = l_2 ∧
 n = (prs (bytesOfRows l_2)).snd.fst ∧
 n_1 = (prs (bytesOfRows l_2)).snd.snd ∧
 n_2 = (2 : Int) ∧
 l_3 = [[CD.int (1 : Int)], [CD.int (2 : Int)]] ∧
 (n_3 + (1 : Int) = (0 : Int) ∨ n_3 + (1 : Int) = (1 : Int) ∨ n_3 + (1 : Int) = (2 : Int)) ∧
 pre129 l_2) ∧
 (n_2 - (n_3 + (1 : Int))).toNat < (n_2 - n_3).toNat
 else true = true)
 else
 bif
 decide
 ((ser
 (itsOf
 (rowsIt (itsOf l)))).snd.snd =
 (0 : Int)) &&
 decide
 ((ser
 (itsOf
 (rowsIt (itsOf l_1)))).snd.snd =
 (0 : Int)) &&
 decide
 (bytesOfRows
 (rowsOfBytes
 (ser
 (itsOf
 (rowsIt (itsOf l)))).fst) =
 bytesOfRows
 (rowsOfBytes
 (ser
 (itsOf
 (rowsIt (itsOf l_1)))).fst)) !=
 false then
 false = true
 else
 pre129 l_2 ∧
 ((2 : Nat) ≤ (9223372036854775807 : Nat) →
 ((l_2 = l_2 ∧
 (prs (bytesOfRows l_2)).snd.fst =
 (prs (bytesOfRows l_2)).snd.fst ∧
 (prs (bytesOfRows l_2)).snd.snd =
 (prs (bytesOfRows l_2)).snd.snd ∧
 (↑(2 : Nat) : Int) = (2 : Int) ∧
 [[CD.int (1 : Int)], [CD.int (2 : Int)]] = [[CD.int (1 : Int)], [CD.int (2 : Int)]] ∧
 ((0 : Int) = (0 : Int) ∨ (0 : Int) = (1 : Int) ∨ (0 : Int) = (2 : Int)) ∧ pre129 l_2) ∧
 True) ∧
 ∀ (l : List (List CD)) (n n_1 n_2 n_3 : Int) (l_3 : List (List CD)),
 l.length ≤ (9223372036854775807 : Nat) →
 l_3.length ≤ (9223372036854775807 : Nat) →
 l = l_2 ∧
 n = (prs (bytesOfRows l_2)).snd.fst ∧
 n_1 = (prs (bytesOfRows l_2)).snd.snd ∧
 n_2 = (2 : Int) ∧
 l_3 = [[CD.int (1 : Int)], [CD.int (2 : Int)]] ∧
 (n_3 = (0 : Int) ∨ n_3 = (1 : Int) ∨ n_3 = (2 : Int)) ∧ pre129 l_2 →
 bif decide (n_3 < n_2) then
 ((0 : Int) ≤ n_3 ∧ n_3 < (↑l_3.length : Int)) ∧
 n_3.toNat < l_3.length ∧
 pre129 l ∧
 bif
 decide (((l_3.getD n_3.toNat []).getD (0 : Nat) (CD.int (0 : Int))).toInt ≠ (1 : Int)) &&
 decide (((l_3.getD n_3.toNat []).getD (0 : Nat) (CD.int (0 : Int))).toInt ≠ (2 : Int)) then
 bif decide ((15 : Int) ≠ n_1) || decide ((-1 : Int) ≠ n) || (!true) != decide (n_1 = (0 : Int)) then false = true
 else
 ((-9223372036854775808 : Int) ≤ n_3 + (1 : Int) ∧ n_3 + (1 : Int) ≤ (9223372036854775807 : Int)) ∧
 (l = l_2 ∧
 n = (prs (bytesOfRows l_2)).snd.fst ∧
 n_1 = (prs (bytesOfRows l_2)).snd.snd ∧
 n_2 = (2 : Int) ∧
 l_3 = [[CD.int (1 : Int)], [CD.int (2 : Int)]] ∧
 (n_3 + (1 : Int) = (0 : Int) ∨ n_3 + (1 : Int) = (1 : Int) ∨ n_3 + (1 : Int) = (2 : Int)) ∧
 pre129 l_2) ∧
 (n_2 - (n_3 + (1 : Int))).toNat < (n_2 - n_3).toNat
 else
 bif decide ((prs (bytesOfRows l)).snd.snd = (0 : Int)) then
 bif decide (((l_3.getD n_3.toNat []).getD (0 : Nat) (CD.int (0 : Int))).toInt = (2 : Int)) then
 bif decide ((0 : Int) ≠ n_1) || decide ((-1 : Int) ≠ n) || (!false) != decide (n_1 = (0 : Int)) then false = true
 else
 ((-9223372036854775808 : Int) ≤ n_3 + (1 : Int) ∧ n_3 + (1 : Int) ≤ (9223372036854775807 : Int)) ∧
 (l = l_2 ∧
 n = (prs (bytesOfRows l_2)).snd.fst ∧
 n_1 = (prs (bytesOfRows l_2)).snd.snd ∧
 n_2 = (2 : Int) ∧
 l_3 = [[CD.int (1 : Int)], [CD.int (2 : Int)]] ∧
 (n_3 + (1 : Int) = (0 : Int) ∨ n_3 + (1 : Int) = (1 : Int) ∨ n_3 + (1 : Int) = (2 : Int)) ∧
 pre129 l_2) ∧
 (n_2 - (n_3 + (1 : Int))).toNat < (n_2 - n_3).toNat
 else
 bif decide ((0 : Int) ≠ n_1) || decide ((-1 : Int) ≠ n) || (!false) != decide (n_1 = (0 : Int)) then false = true
 else
 ((-9223372036854775808 : Int) ≤ n_3 + (1 : Int) ∧ n_3 + (1 : Int) ≤ (9223372036854775807 : Int)) ∧
 (l = l_2 ∧
 n = (prs (bytesOfRows l_2)).snd.fst ∧
 n_1 = (prs (bytesOfRows l_2)).snd.snd ∧
 n_2 = (2 : Int) ∧
 l_3 = [[CD.int (1 : Int)], [CD.int (2 : Int)]] ∧
 (n_3 + (1 : Int) = (0 : Int) ∨ n_3 + (1 : Int) = (1 : Int) ∨ n_3 + (1 : Int) = (2 : Int)) ∧
 pre129 l_2) ∧
 (n_2 - (n_3 + (1 : Int))).toNat < (n_2 - n_3).toNat
 else
 bif
 decide ((prs (bytesOfRows l)).snd.snd ≠ n_1) ||
 decide ((prs (bytesOfRows l)).snd.fst ≠ n) ||
 (!true) != decide (n_1 = (0 : Int)) then
 false = true
 else
 ((-9223372036854775808 : Int) ≤ n_3 + (1 : Int) ∧ n_3 + (1 : Int) ≤ (9223372036854775807 : Int)) ∧
 (l = l_2 ∧
 n = (prs (bytesOfRows l_2)).snd.fst ∧
 n_1 = (prs (bytesOfRows l_2)).snd.snd ∧
 n_2 = (2 : Int) ∧
 l_3 = [[CD.int (1 : Int)], [CD.int (2 : Int)]] ∧
 (n_3 + (1 : Int) = (0 : Int) ∨ n_3 + (1 : Int) = (1 : Int) ∨ n_3 + (1 : Int) = (2 : Int)) ∧
 pre129 l_2) ∧
 (n_2 - (n_3 + (1 : Int))).toNat < (n_2 - n_3).toNat
 else true = true))
theorem e5 : ct5.VC (base.with sp8) Tryz.f5.results.toList Tryz.f5.ntmps (Tryz.f5.ntmps - ct5.ps.length) (bodyOf Tryz.f5) ann5 = P5 := by kernel_rfl
noncomputable def sp5 : SpecT := addS sp8 5 (mkF ct5)
end Go.Proofs.YteiecapbaeajdaaGreatDoor
namespace Go.Proofs.YteiecapbaeajdaaGreatDoor
open Go Go.Avc Go.Proofs
set_option linter.unusedVariables false
set_option linter.unusedSimpArgs false
set_option maxRecDepth 100000
theorem vc31b : P31b := by
  unfold P31b
  intros
  repeat' first
    | rfl
    | apply And.intro
theorem vc31e : P31e := by
  unfold P31e
  intros
  repeat' first
    | rfl
    | apply And.intro
theorem ok31b : SpecOk (base.with sp19i) 31 (mkF ct31b) := spec_ct (fn := Tryz.f31) (c := bodyOf Tryz.f31) (k := Tryz.f31.ntmps - ct31b.ps.length) (ct := ct31b) c19i Tryz.func31 (by kernel_rfl) noAnn (by kernel_rfl) (fun vs w _ => Tryz.call31 vs w) (by rw [e31b]; exact vc31b)
theorem ok31e : SpecOk (base.with sp19i) 31 (mkF ct31e) := spec_ct (fn := Tryz.f31) (c := bodyOf Tryz.f31) (k := Tryz.f31.ntmps - ct31e.ps.length) (ct := ct31e) c19i Tryz.func31 (by kernel_rfl) noAnn (by kernel_rfl) (fun vs w _ => Tryz.call31 vs w) (by rw [e31e]; exact vc31e)
theorem c31 : (base.with sp31).Ok := addS_ok c19i (pure_ok (alt_ok ok31b ok31e))
theorem pr_ser {a : List (List CD)} (h : (ser (itsOf a)).2.2 = 0) : prs (bytesOfRows (rowsOfBytes (ser (itsOf a)).1)) = (itsOf a, -1, 0) := by rw [bytes_rows, prs_ser h]
theorem tg_ser {a : List (List CD)} (h : (ser (itsOf a)).2.2 = 0) (k : Int) : tgB k (rowsOfBytes (ser (itsOf a)).1) = tagX k (rowsIt (itsOf a)) := by unfold tgB itm; rw [pr_ser h]
theorem rowsOfBytes_len (b : List UInt8) : (rowsOfBytes b).length = b.length := by unfold rowsOfBytes; exact List.length_map ..
theorem p129_ser (l : List It) : pre129 (rowsOfBytes (ser l).1) := ⟨isB_rows _, by
  have h := ser_len l
  rw [rowsOfBytes_len]
  omega⟩
theorem pL_its {a : List (List CD)} (h : a.length ≤ 100) : preL (rowsIt (itsOf a)) := by
  show (rowsIt (itsOf a)).length ≤ 100000000
  rw [rowsIt_length]
  show (a.map itRow).length ≤ _
  rw [List.length_map]
  omega
theorem vc8 : P8 := by
  unfold P8
  intro a b _ _ _
  refine ⟨trivial, fun _ _ => condI (fun _ => ⟨trivial, rfl⟩) fun hc => ?_⟩
  simp only [Bool.not_true, Bool.false_or, Bool.or_eq_false_iff, decide_eq_false_iff_not] at hc
  have la : a.length ≤ 6 := by omega
  have lb : b.length ≤ 6 := by omega
  refine ⟨by show _ ≤ 100000000; omega, by show _ ≤ 100000000; omega, condI (fun _ => rfl) (fun hs => ?_), ?_⟩
  · simp only [Bool.or_eq_false_iff, decide_eq_false_iff_not, Decidable.not_not] at hs
    exact ⟨⟨rfl, rfl, la, lb, hs.1, hs.2, rfl, rfl⟩, trivial⟩
  intro a' b' p q _ _ _ _ h
  obtain ⟨e1, e2, _, _, sa, sb, ep, eq⟩ := h
  rw [e1, e2, ep, eq]
  have pa := pr_ser sa
  have pb := pr_ser sb
  have za : decide ((prs (bytesOfRows (rowsOfBytes (ser (itsOf a)).1))).2.2 = 0) = true := decide_eq_true (by rw [pa])
  have zb : decide ((prs (bytesOfRows (rowsOfBytes (ser (itsOf b)).1))).2.2 = 0) = true := decide_eq_true (by rw [pb])
  have ka : preL a := by show _ ≤ 100000000; omega
  have kb : preL b := by show _ ≤ 100000000; omega
  have t1 : ∀ k : Int, decide (tgB k (rowsOfBytes (ser (itsOf a)).1) = tagX k (rowsIt (itsOf a))) = true := fun k => decide_eq_true (tg_ser sa k)
  have t2 : ∀ k : Int, decide (tgB k (rowsOfBytes (ser (itsOf b)).1) = tagX k (rowsIt (itsOf b))) = true := fun k => decide_eq_true (tg_ser sb k)
  refine ⟨p129_ser _, condT za ⟨p129_ser _, condT zb ⟨p129_ser _, condT za ⟨ka, ⟨.inl rfl, pL_its (by omega)⟩, kb, ⟨.inl rfl, pL_its (by omega)⟩, ka, ⟨.inr rfl, pL_its (by omega)⟩, ⟨trivial, rfl, rfl, rfl, rfl, trivial⟩, fun _ => ⟨trivial, rfl, rfl, rfl, rfl, trivial⟩, fun _ => ⟨trivial, rfl, rfl, rfl, rfl, rfl, trivial⟩, fun _ => trivial, ?_⟩⟩⟩⟩
  refine condI (fun he => ⟨fun _ => ⟨trivial, rfl, rfl, rfl, rfl, trivial⟩, fun _ => ⟨trivial, rfl, rfl, rfl, rfl, trivial⟩, ?_⟩) (fun he => ⟨fun _ => ⟨trivial, rfl, rfl, rfl, rfl, trivial⟩, fun _ => ⟨trivial, rfl, rfl, rfl, rfl, trivial⟩, ?_⟩)
  · have he := of_decide_eq_true he
    rw [t1, t2, t1, tg_ser sa, tg_ser sb, he]
    simp
  · rw [t1, t2, t1]
    rfl
theorem ok8 : SpecOk (base.with sp31) 8 (mkF ct8) := spec_ct (fn := Tryz.f8) (c := bodyOf Tryz.f8) (k := Tryz.f8.ntmps - ct8.ps.length) (ct := ct8) c31 Tryz.func8 (by kernel_rfl) ann8 (by kernel_rfl) (fun vs w _ => Tryz.call8 vs w) (by rw [e8]; exact vc8)
theorem c8 : (base.with sp8).Ok := addS_ok c31 ok8
theorem ser_ok_inj {a b : List (List CD)} (ha : (ser (itsOf (rowsIt (itsOf a)))).2.2 = 0) (hb : (ser (itsOf (rowsIt (itsOf b)))).2.2 = 0) (h : bytesOfRows (rowsOfBytes (ser (itsOf (rowsIt (itsOf a)))).1) = bytesOfRows (rowsOfBytes (ser (itsOf (rowsIt (itsOf b)))).1)) : itsOf a = itsOf b := by
  rw [its_rows] at ha hb
  rw [its_rows, its_rows, bytes_rows, bytes_rows] at h
  exact ser_inj ha hb h
theorem cond5 {b : Bool} {X : Prop} (h : b = false) (k : X) : bif b then false = true else X := condF h k
theorem vc5 : P5 := by
  unfold P5
  intro a b l _ _ _ hB
  refine ⟨trivial, fun _ _ _ => condI (fun _ => ⟨trivial, rfl⟩) fun hc => ?_⟩
  simp only [Bool.not_true, Bool.false_or, Bool.or_eq_false_iff, decide_eq_false_iff_not] at hc
  have la : a.length ≤ 40 := by omega
  have lb : b.length ≤ 40 := by omega
  have hl : pre129 l := ⟨hB, by omega⟩
  refine ⟨by show _ ≤ 100000000; omega, pL_its (by omega), by show _ ≤ 100000000; omega, pL_its (by omega), fun _ => trivial, condI (fun he => cond5 ?ga ?gb) (fun he => cond5 ?gc ?gd)⟩
  case ga =>
    have he := of_decide_eq_true he
    rw [he]
    simp
  case gc =>
    have he := of_decide_eq_false he
    simp only [bne_self_eq_false, Bool.bne_false, Bool.and_eq_false_iff, decide_eq_false_iff_not, bne_eq_false_iff_eq]
    by_cases h1 : (ser (itsOf (rowsIt (itsOf a)))).2.2 = 0
    · by_cases h2 : (ser (itsOf (rowsIt (itsOf b)))).2.2 = 0
      · exact .inr fun h3 => he (ser_ok_inj h1 h2 h3)
      · exact .inl (.inr h2)
    · exact .inl (.inl h1)
  all_goals
    refine ⟨hl, fun _ => ⟨⟨⟨rfl, rfl, rfl, rfl, rfl, .inl rfl, hl⟩, trivial⟩, ?_⟩⟩
    intro l' n n1 n2 n3 l3 _ _ h
    obtain ⟨e1, e2, e3, e4, e5, hi, hp⟩ := h
    rw [e1, e4, e5]
    refine condI (fun hlt => ?_) (fun _ => rfl)
    have h01 : n3 = 0 ∨ n3 = 1 := by have := of_decide_eq_true hlt; omega
    rw [e2, e3]
    rcases h01 with h01 | h01 <;> rw [h01] <;> refine ⟨⟨by decide, by decide⟩, by decide, hp, condF rfl (condI (fun h0 => ?_) (fun h0 => ?_))⟩
    · have h0 := of_decide_eq_true h0
      exact condF rfl (cond5 (by simp [h0, prs_at h0]) ⟨⟨by decide, by decide⟩, ⟨rfl, rfl, rfl, rfl, rfl, by decide, hp⟩, by decide⟩)
    · have h0 := of_decide_eq_false h0
      exact cond5 (by simp [h0]) ⟨⟨by decide, by decide⟩, ⟨rfl, rfl, rfl, rfl, rfl, by decide, hp⟩, by decide⟩
    · have h0 := of_decide_eq_true h0
      exact condT rfl (cond5 (by simp [h0, prs_at h0]) ⟨⟨by decide, by decide⟩, ⟨rfl, rfl, rfl, rfl, rfl, by decide, hp⟩, by decide⟩)
    · have h0 := of_decide_eq_false h0
      exact cond5 (by simp [h0]) ⟨⟨by decide, by decide⟩, ⟨rfl, rfl, rfl, rfl, rfl, by decide, hp⟩, by decide⟩
theorem ok5 : SpecOk (base.with sp8) 5 (mkF ct5) := spec_ct (fn := Tryz.f5) (c := bodyOf Tryz.f5) (k := Tryz.f5.ntmps - ct5.ps.length) (ct := ct5) c8 Tryz.func5 (by kernel_rfl) ann5 (by kernel_rfl) (fun vs w _ => Tryz.call5 vs w) (by rw [e5]; exact vc5)
theorem c5 : (base.with sp5).Ok := addS_ok c8 ok5
end Go.Proofs.YteiecapbaeajdaaGreatDoor
