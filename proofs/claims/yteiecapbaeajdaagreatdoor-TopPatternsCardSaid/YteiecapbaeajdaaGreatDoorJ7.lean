/-
 Conditions of contracts, as the kernel reckons them (printed by a program of ours, checked by the kernel).
-/
import Derived.Test.YteiecapbaeajdaaGreatDoorJ6
import Derived.Test.YteiecapbaeajdaaGreatDoorJ4
import Derived.Recover
import Derived.Laws.Externs
import Derived.Laws.MathBits
namespace Go.Proofs.YteiecapbaeajdaaGreatDoor
open Go Go.Avc Go.Proofs
set_option linter.unusedVariables false
set_option maxRecDepth 100000
def P145 : Prop :=
 ∀ (l : List (List CD)),
 l.length ≤ (9223372036854775807 : Nat) →
 l.length ≤ (1000 : Nat) ∧ areB l →
 l.length ≤ (9223372036854775807 : Nat) →
 ((-9223372036854775808 : Int) ≤ (↑l.length : Int) + (7 : Int) ∧ (↑l.length : Int) + (7 : Int) ≤ (9223372036854775807 : Int)) ∧
 ((0 : Int) ≤ (↑l.length : Int) + (7 : Int) ∧ (0 : Int) < (8 : Int) ∧ (↑l.length : Int) + (7 : Int) ≤ Go.IntKind.i64.max) ∧
 ((0 : Int) ≤ ((↑l.length : Int) + (7 : Int)) / (8 : Int) ∧
 ((↑l.length : Int) + (7 : Int)) / (8 : Int) ≤ ((↑l.length : Int) + (7 : Int)) / (8 : Int) ∧
 (↑(8 : Nat) : Int) * (((↑l.length : Int) + (7 : Int)) / (8 : Int)) ≤ (140737488355328 : Int) ∧
 ((↑l.length : Int) + (7 : Int)) / (8 : Int) ≤ (9223372036854775807 : Int)) ∧
 (l.length ≤ (9223372036854775807 : Nat) →
 ((l = l ∧
 (↑l.length : Int) = (↑l.length : Int) ∧
 (0 : Int) ≤ (0 : Int) ∧
 (0 : Int) ≤ (↑l.length : Int) ∧
 List.replicate (((↑l.length : Int) + (7 : Int)) / (8 : Int)).toNat [CD.int (0 : Int)] =
 List.map row1 (wsN l (0 : Nat))) ∧
 True) ∧
 ∀ (l_1 : List (List CD)) (n n_1 : Int) (l_2 : List (List CD)),
 l_1.length ≤ (9223372036854775807 : Nat) →
 l_2.length ≤ (9223372036854775807 : Nat) →
 l_1 = l ∧
 n = (↑l.length : Int) ∧
 (0 : Int) ≤ n_1 ∧ n_1 ≤ n ∧ l_2 = List.map row1 (wsN l n_1.toNat) →
 bif decide (n_1 < n) then
 ((0 : Int) ≤ n_1 ∧ n_1 < (↑l_1.length : Int)) ∧
 n_1.toNat < l_1.length ∧
 ((0 : Int) ≤ n_1 ∧ (0 : Int) < (8 : Int) ∧ n_1 ≤ Go.IntKind.i64.max) ∧
 ((0 : Int) ≤ n_1 / (8 : Int) ∧ n_1 / (8 : Int) < (↑l_2.length : Int)) ∧
 (n_1 / (8 : Int)).toNat < l_2.length ∧
 ((0 : Int) ≤ n_1 ∧ (0 : Int) < (8 : Int)) ∧
 ((-9223372036854775808 : Int) ≤ (8 : Int) * (n_1 % (8 : Int)) ∧ (8 : Int) * (n_1 % (8 : Int)) ≤ (9223372036854775807 : Int)) ∧
 (0 : Int) ≤ (8 : Int) * (n_1 % (8 : Int)) ∧
 ((0 : Int) ≤ n_1 / (8 : Int) ∧ n_1 / (8 : Int) < (↑l_2.length : Int)) ∧
 (n_1 / (8 : Int)).toNat < l_2.length ∧
 ((-9223372036854775808 : Int) ≤ n_1 + (1 : Int) ∧ n_1 + (1 : Int) ≤ (9223372036854775807 : Int)) ∧
 (l_1 = l ∧
 n = (↑l.length : Int) ∧
 (0 : Int) ≤ n_1 + (1 : Int) ∧
 n_1 + (1 : Int) ≤ n ∧
 l_2.set (n_1 / (8 : Int)).toNat
 ((l_2.getD (n_1 / (8 : Int)).toNat []).set (0 : Nat)
 (CD.int
 (bOr Go.IntKind.u64
 ((l_2.getD (n_1 / (8 : Int)).toNat []).getD (0 : Nat) (CD.int (0 : Int))).toInt
 (bShl Go.IntKind.u64
 (Go.IntKind.u64.wrap ((l_1.getD n_1.toNat []).getD (0 : Nat) (CD.int (0 : Int))).toInt)
 ((8 : Int) * (n_1 % (8 : Int))))))) =
 List.map row1
 (wsN l (n_1 + (1 : Int)).toNat)) ∧
 (n - (n_1 + (1 : Int))).toNat < (n - n_1).toNat
 else l_2 = List.map row1 (wsN l l.length))
theorem e145 : ct145.VC (base.with sp156) Tryz.f145.results.toList Tryz.f145.ntmps (Tryz.f145.ntmps - ct145.ps.length) (bodyOf Tryz.f145) ann145 = P145 := by kernel_rfl
noncomputable def sp145 : SpecT := addS sp156 145 (mkF ct145)
def P102 : Prop :=
 ∀ (l : List (List CD)),
 l.length ≤ (9223372036854775807 : Nat) →
 l.length ≤ (1000 : Nat) ∧ areR l →
 l.length ≤ (9223372036854775807 : Nat) →
 ((l = l ∧
 (↑l.length : Int) = (↑l.length : Int) ∧
 (0 : Int) ≤ (0 : Int) ∧
 (0 : Int) ≤ (↑l.length : Int) ∧
 [] = List.map row1 (bysN (rv l) (0 : Nat))) ∧
 True) ∧
 ∀ (l_1 : List (List CD)) (n n_1 : Int) (l_2 : List (List CD)),
 l_1.length ≤ (9223372036854775807 : Nat) →
 l_2.length ≤ (9223372036854775807 : Nat) →
 l_1 = l ∧
 n = (↑l.length : Int) ∧
 (0 : Int) ≤ n_1 ∧
 n_1 ≤ n ∧
 l_2 = List.map row1 (bysN (rv l) n_1.toNat) →
 bif decide (n_1 < n) then
 ((0 : Int) ≤ n_1 ∧ n_1 < (↑l_1.length : Int)) ∧
 n_1.toNat < l_1.length ∧
 ((l_1 = l_1 ∧
 n = n ∧
 n_1 = n_1 ∧
 (0 : Int) ≤ (0 : Int) ∧
 (0 : Int) ≤ (8 : Int) ∧
 ((l_1.getD n_1.toNat []).getD (0 : Nat) (CD.int (0 : Int))).toInt =
 ((l_1.getD n_1.toNat []).getD (0 : Nat) (CD.int (0 : Int))).toInt / (256 : Int) ^ (0 : Nat) ∧
 l_2 =
 l_2 ++
 List.map row1
 (wbN ((l_1.getD n_1.toNat []).getD (0 : Nat) (CD.int (0 : Int))).toInt (0 : Nat))) ∧
 True) ∧
 ∀ (n_2 : Int) (l_3 : List (List CD)) (n_3 n_4 n_5 : Int) (l_4 : List (List CD)),
 l_3.length ≤ (9223372036854775807 : Nat) →
 l_4.length ≤ (9223372036854775807 : Nat) →
 l_3 = l_1 ∧
 n_3 = n ∧
 n_4 = n_1 ∧
 (0 : Int) ≤ n_5 ∧
 n_5 ≤ (8 : Int) ∧
 n_2 = ((l_1.getD n_1.toNat []).getD (0 : Nat) (CD.int (0 : Int))).toInt / (256 : Int) ^ n_5.toNat ∧
 l_4 =
 l_2 ++
 List.map row1
 (wbN ((l_1.getD n_1.toNat []).getD (0 : Nat) (CD.int (0 : Int))).toInt n_5.toNat) →
 bif decide (n_5 < (8 : Int)) then
 ((l_4.length + (1 : Nat)) * (1 : Nat) ≤ (140737488355328 : Nat) ∧ l_4.length + (1 : Nat) ≤ (9223372036854775807 : Nat)) ∧
 (0 : Int) ≤ (8 : Int) ∧
 ((-9223372036854775808 : Int) ≤ n_5 + (1 : Int) ∧ n_5 + (1 : Int) ≤ (9223372036854775807 : Int)) ∧
 (l_3 = l_1 ∧
 n_3 = n ∧
 n_4 = n_1 ∧
 (0 : Int) ≤ n_5 + (1 : Int) ∧
 n_5 + (1 : Int) ≤ (8 : Int) ∧
 bShr Go.IntKind.u64 n_2 (8 : Int) =
 ((l_1.getD n_1.toNat []).getD (0 : Nat) (CD.int (0 : Int))).toInt / (256 : Int) ^ (n_5 + (1 : Int)).toNat ∧
 l_4 ++ [[CD.int (Go.IntKind.u8.wrap n_2)]] =
 l_2 ++
 List.map row1
 (wbN ((l_1.getD n_1.toNat []).getD (0 : Nat) (CD.int (0 : Int))).toInt
 (n_5 + (1 : Int)).toNat)) ∧
 ((8 : Int) - (n_5 + (1 : Int))).toNat < ((8 : Int) - n_5).toNat
 else
 ((-9223372036854775808 : Int) ≤ n_4 + (1 : Int) ∧ n_4 + (1 : Int) ≤ (9223372036854775807 : Int)) ∧
 (l_3 = l ∧
 n_3 = (↑l.length : Int) ∧
 (0 : Int) ≤ n_4 + (1 : Int) ∧
 n_4 + (1 : Int) ≤ n_3 ∧
 l_4 =
 List.map row1
 (bysN (rv l) (n_4 + (1 : Int)).toNat)) ∧
 (n_3 - (n_4 + (1 : Int))).toNat < (n - n_1).toNat
 else l_2 = List.map row1 (bysN (rv l) l.length)
theorem e102 : ct102.VC (base.with sp145) Tryz.f102.results.toList Tryz.f102.ntmps (Tryz.f102.ntmps - ct102.ps.length) (bodyOf Tryz.f102) ann102 = P102 := by kernel_rfl
noncomputable def sp102 : SpecT := addS sp145 102 (mkF ct102)
def P296 : Prop :=
 ∀ (l : List (List CD)),
 l.length ≤ (9223372036854775807 : Nat) →
 areB l →
 l.length ≤ (9223372036854775807 : Nat) →
 bif decide ((↑l.length : Int) ≠ (200 : Int)) then
 bif decide (l.length ≠ (200 : Nat)) then
 [(0 : Int), (0 : Int), (0 : Int), (0 : Int), (0 : Int), (0 : Int), (0 : Int), (0 : Int), (0 : Int), (0 : Int), (0 : Int), (0 : Int), (0 : Int), (0 : Int), (0 : Int),
 (0 : Int), (0 : Int), (0 : Int), (0 : Int), (0 : Int), (0 : Int), (0 : Int), (0 : Int), (0 : Int), (0 : Int)] =
 z25 ∧
 (1 : Int) = (1 : Int)
 else
 [(0 : Int), (0 : Int), (0 : Int), (0 : Int), (0 : Int), (0 : Int), (0 : Int), (0 : Int), (0 : Int), (0 : Int), (0 : Int), (0 : Int), (0 : Int), (0 : Int), (0 : Int),
 (0 : Int), (0 : Int), (0 : Int), (0 : Int), (0 : Int), (0 : Int), (0 : Int), (0 : Int), (0 : Int), (0 : Int)] =
 wsN l (200 : Nat) ∧
 (1 : Int) = (0 : Int)
 else
 (l.length ≤ (1000 : Nat) ∧ areB l) ∧
 (25 : Nat) ≤ (List.map row1 (wsN l l.length)).length ∧
 (25 : Nat) ≤ (List.map row1 (wsN l l.length)).length ∧
 bif decide (l.length ≠ (200 : Nat)) then
 List.map (fun r => (r.getD (0 : Nat) (CD.int (0 : Int))).toInt)
 (List.take (25 : Nat) (List.drop (0 : Nat) (List.map row1 (wsN l l.length)))) =
 z25 ∧
 (0 : Int) = (1 : Int)
 else
 List.map (fun r => (r.getD (0 : Nat) (CD.int (0 : Int))).toInt)
 (List.take (25 : Nat) (List.drop (0 : Nat) (List.map row1 (wsN l l.length)))) =
 wsN l (200 : Nat) ∧
 (0 : Int) = (0 : Int)
theorem e296 : ct296.VC (base.with sp102) Tryz.f296.results.toList Tryz.f296.ntmps (Tryz.f296.ntmps - ct296.ps.length) (bodyOf Tryz.f296) noAnn = P296 := by kernel_rfl
noncomputable def sp296 : SpecT := addS sp102 296 (mkF ct296)
def P148 : Prop :=
 ∀ (l : List Int),
 l.length = (25 : Nat) →
 areW l →
 ((0 : Int) ≤ (0 : Int) ∧ (0 : Int) ≤ (↑(25 : Nat) : Int) ∧ (↑(25 : Nat) : Int) ≤ (↑(25 : Nat) : Int) ∧ (0 : Int) < (↑(25 : Nat) : Int)) ∧
 ((List.map (fun x => [CD.int x]) (List.take (25 : Nat) (List.drop (0 : Nat) l))).length ≤ (1000 : Nat) ∧
 areR (List.map (fun x => [CD.int x]) (List.take (25 : Nat) (List.drop (0 : Nat) l)))) ∧
 (200 : Nat) ≤
 (List.map row1
 (bysN
 (rv (List.map (fun x => [CD.int x]) (List.take (25 : Nat) (List.drop (0 : Nat) l))))
 (List.map (fun x => [CD.int x]) (List.take (25 : Nat) (List.drop (0 : Nat) l))).length)).length ∧
 (200 : Nat) ≤
 (List.map row1
 (bysN
 (rv (List.map (fun x => [CD.int x]) (List.take (25 : Nat) (List.drop (0 : Nat) l))))
 (List.map (fun x => [CD.int x]) (List.take (25 : Nat) (List.drop (0 : Nat) l))).length)).length ∧
 List.map (fun r => (r.getD (0 : Nat) (CD.int (0 : Int))).toInt)
 (List.take (200 : Nat)
 (List.drop (0 : Nat)
 (List.map row1
 (bysN
 (rv (List.map (fun x => [CD.int x]) (List.take (25 : Nat) (List.drop (0 : Nat) l))))
 (List.map (fun x => [CD.int x]) (List.take (25 : Nat) (List.drop (0 : Nat) l))).length)))) =
 bysL l
theorem e148 : ct148.VC (base.with sp296) Tryz.f148.results.toList Tryz.f148.ntmps (Tryz.f148.ntmps - ct148.ps.length) (bodyOf Tryz.f148) noAnn = P148 := by kernel_rfl
noncomputable def sp148 : SpecT := addS sp296 148 (mkF ct148)
def P157 : Prop :=
 ∀ (l : List (List CD)),
 l.length ≤ (9223372036854775807 : Nat) →
 l.length ≤ (200 : Nat) ∧ areB l →
 l.length ≤ (9223372036854775807 : Nat) →
 ((-9223372036854775808 : Int) ≤ (↑l.length : Int) - (1 : Int) ∧ (↑l.length : Int) - (1 : Int) ≤ (9223372036854775807 : Int)) ∧
 ((l = l ∧
 (-1 : Int) ≤ (↑l.length : Int) - (1 : Int) ∧
 (↑l.length : Int) - (1 : Int) < (↑l.length : Int) ∧
 [(0 : Int), (0 : Int), (0 : Int), (0 : Int), (0 : Int), (0 : Int), (0 : Int), (0 : Int), (0 : Int), (0 : Int), (0 : Int), (0 : Int), (0 : Int), (0 : Int),
 (0 : Int), (0 : Int), (0 : Int), (0 : Int), (0 : Int), (0 : Int), (0 : Int), (0 : Int), (0 : Int), (0 : Int), (0 : Int)] =
 rbN l ((↑l.length : Int) - (1 : Int) - ((↑l.length : Int) - (1 : Int))).toNat) ∧
 True) ∧
 ∀ (l_1 : List (List CD)) (n : Int) (l_2 l_3 : List Int),
 l_1.length ≤ (9223372036854775807 : Nat) →
 l_2.length = (25 : Nat) →
 l_3.length = (25 : Nat) →
 l_1 = l ∧ (-1 : Int) ≤ n ∧ n < (↑l.length : Int) ∧ l_3 = rbN l ((↑l.length : Int) - (1 : Int) - n).toNat →
 bif decide ((0 : Int) ≤ n) then
 ((0 : Int) ≤ n ∧ (0 : Int) < (8 : Int) ∧ n ≤ Go.IntKind.i64.max) ∧
 ((0 : Int) ≤ n ∧ (0 : Int) < (8 : Int) ∧ n ≤ Go.IntKind.i64.max) ∧
 ((0 : Int) ≤ n / (8 : Int) ∧ n / (8 : Int) < (↑(25 : Nat) : Int)) ∧
 (n / (8 : Int)).toNat * (1 : Nat) < (25 : Nat) ∧
 ((0 : Int) ≤ n ∧ n < (↑l_1.length : Int)) ∧
 n.toNat < l_1.length ∧
 ((0 : Int) ≤ n / (8 : Int) ∧ n / (8 : Int) < (↑(25 : Nat) : Int)) ∧
 (n / (8 : Int)).toNat * (1 : Nat) < (25 : Nat) ∧
 ((-9223372036854775808 : Int) ≤ n - (1 : Int) ∧ n - (1 : Int) ≤ (9223372036854775807 : Int)) ∧
 (l_1 = l ∧
 (-1 : Int) ≤ n - (1 : Int) ∧
 n - (1 : Int) < (↑l.length : Int) ∧
 l_3.set ((n / (8 : Int)).toNat * (1 : Nat))
 (Go.IntKind.u64.wrap
 (Go.IntKind.u64.wrap (l_3.getD ((n / (8 : Int)).toNat * (1 : Nat)) (0 : Int) * (256 : Int)) +
 Go.IntKind.u64.wrap ((l_1.getD n.toNat []).getD (0 : Nat) (CD.int (0 : Int))).toInt)) =
 rbN l ((↑l.length : Int) - (1 : Int) - (n - (1 : Int))).toNat) ∧
 (n - (1 : Int) + (1 : Int)).toNat < (n + (1 : Int)).toNat
 else l_3 = rbN l l.length
theorem e157 : ct157.VC (base.with sp148) Tryz.f157.results.toList Tryz.f157.ntmps (Tryz.f157.ntmps - ct157.ps.length) (bodyOf Tryz.f157) ann157 = P157 := by kernel_rfl
noncomputable def sp157 : SpecT := addS sp148 157 (mkF ct157)
def P155 : Prop :=
 ∀ (l : List Int),
 l.length = (25 : Nat) →
 areW l →
 ((l = l ∧
 (0 : Int) ≤ (0 : Int) ∧
 (0 : Int) ≤ (25 : Int) ∧ [] = List.map row1 (bysN (fun i => l.getD i (0 : Int)) (0 : Nat))) ∧
 True) ∧
 ∀ (n : Int) (l_1 : List Int) (l_2 : List (List CD)),
 l_1.length = (25 : Nat) →
 l_2.length ≤ (9223372036854775807 : Nat) →
 l_1 = l ∧
 (0 : Int) ≤ n ∧
 n ≤ (25 : Int) ∧ l_2 = List.map row1 (bysN (fun i => l.getD i (0 : Int)) n.toNat) →
 bif decide (n < (25 : Int)) then
 ((0 : Int) ≤ n ∧ n < (↑(25 : Nat) : Int)) ∧
 n.toNat * (1 : Nat) < (25 : Nat) ∧
 ((n = n ∧
 l_1 = l_1 ∧
 (0 : Int) ≤ (0 : Int) ∧
 (0 : Int) ≤ (8 : Int) ∧
 l_1.getD (n.toNat * (1 : Nat)) (0 : Int) = l_1.getD (n.toNat * (1 : Nat)) (0 : Int) / (256 : Int) ^ (0 : Nat) ∧
 l_2 =
 l_2 ++
 List.map row1
 (wbN (l_1.getD (n.toNat * (1 : Nat)) (0 : Int)) (0 : Nat))) ∧
 True) ∧
 ∀ (n_1 n_2 n_3 : Int) (l_3 : List Int) (l_4 : List (List CD)),
 l_3.length = (25 : Nat) →
 l_4.length ≤ (9223372036854775807 : Nat) →
 n_1 = n ∧
 l_3 = l_1 ∧
 (0 : Int) ≤ n_3 ∧
 n_3 ≤ (8 : Int) ∧
 n_2 = l_1.getD (n.toNat * (1 : Nat)) (0 : Int) / (256 : Int) ^ n_3.toNat ∧
 l_4 =
 l_2 ++
 List.map row1
 (wbN (l_1.getD (n.toNat * (1 : Nat)) (0 : Int)) n_3.toNat) →
 bif decide (n_3 < (8 : Int)) then
 ((0 : Int) ≤ n_2 ∧ (0 : Int) < (256 : Int)) ∧
 ((l_4.length + (1 : Nat)) * (1 : Nat) ≤ (140737488355328 : Nat) ∧ l_4.length + (1 : Nat) ≤ (9223372036854775807 : Nat)) ∧
 ((0 : Int) ≤ n_2 ∧ (0 : Int) < (256 : Int) ∧ n_2 ≤ Go.IntKind.u64.max) ∧
 ((-9223372036854775808 : Int) ≤ n_3 + (1 : Int) ∧ n_3 + (1 : Int) ≤ (9223372036854775807 : Int)) ∧
 (n_1 = n ∧
 l_3 = l_1 ∧
 (0 : Int) ≤ n_3 + (1 : Int) ∧
 n_3 + (1 : Int) ≤ (8 : Int) ∧
 n_2 / (256 : Int) = l_1.getD (n.toNat * (1 : Nat)) (0 : Int) / (256 : Int) ^ (n_3 + (1 : Int)).toNat ∧
 l_4 ++ [[CD.int (Go.IntKind.u8.wrap (n_2 % (256 : Int)))]] =
 l_2 ++
 List.map row1
 (wbN (l_1.getD (n.toNat * (1 : Nat)) (0 : Int)) (n_3 + (1 : Int)).toNat)) ∧
 ((8 : Int) - (n_3 + (1 : Int))).toNat < ((8 : Int) - n_3).toNat
 else
 ((-9223372036854775808 : Int) ≤ n_1 + (1 : Int) ∧ n_1 + (1 : Int) ≤ (9223372036854775807 : Int)) ∧
 (l_3 = l ∧
 (0 : Int) ≤ n_1 + (1 : Int) ∧
 n_1 + (1 : Int) ≤ (25 : Int) ∧
 l_4 =
 List.map row1
 (bysN (fun i => l.getD i (0 : Int)) (n_1 + (1 : Int)).toNat)) ∧
 ((25 : Int) - (n_1 + (1 : Int))).toNat < ((25 : Int) - n).toNat
 else l_2 = List.map row1 (bysL l)
theorem e155 : ct155.VC (base.with sp157) Tryz.f155.results.toList Tryz.f155.ntmps (Tryz.f155.ntmps - ct155.ps.length) (bodyOf Tryz.f155) ann155 = P155 := by kernel_rfl
noncomputable def sp155 : SpecT := addS sp157 155 (mkF ct155)
end Go.Proofs.YteiecapbaeajdaaGreatDoor
namespace Go.Proofs.YteiecapbaeajdaaGreatDoor
open Go Go.Avc Go.Proofs
set_option linter.unusedVariables false
set_option linter.unusedSimpArgs false
set_option maxRecDepth 100000
theorem row1_get {L : List Int} {i : Nat} (h : i < L.length) : (L.map row1).getD i [] = [.int (L.getD i 0)] := by
  rw [List.getD_eq_getElem?_getD, List.getElem?_map, List.getD_eq_getElem?_getD, List.getElem?_eq_getElem h]; rfl
theorem rv_row1 (L : List Int) (i : Nat) : rv (L.map row1) i = L.getD i 0 := by
  unfold rv
  rcases Nat.lt_or_ge i L.length with h | h
  · rw [row1_get h]; rfl
  · have e1 : (L.map row1).getD i [] = [] := by rw [List.getD_eq_getElem?_getD, List.getElem?_map, List.getElem?_eq_none h]; rfl
    have e2 : L.getD i 0 = 0 := by rw [List.getD_eq_getElem?_getD, List.getElem?_eq_none h]; rfl
    rw [e1, e2]; rfl
theorem row1_set (L : List Int) (i : Nat) (x : Int) : (L.map row1).set i [.int x] = (L.set i x).map row1 := by
  rw [List.map_set]; rfl
theorem row1_back (L : List Int) : (L.map row1).map (fun r => (r.getD 0 (CD.int 0)).toInt) = L := by
  rw [List.map_map]
  have : ((fun r : List CD => (r.getD 0 (CD.int 0)).toInt) ∘ row1) = id := by funext x; rfl
  rw [this, List.map_id]
theorem row1_whole {L : List Int} {n : Nat} (h : L.length = n) : List.map (fun r => (r.getD 0 (CD.int 0)).toInt) (List.take n (List.drop 0 (L.map row1))) = L := by
  rw [List.drop_zero, List.take_of_length_le (by simp [h]), row1_back]
theorem ws_len (l : List (List CD)) : ∀ n, (wsN l n).length = (l.length + 7) / 8
  | 0 => by rw [wsN, List.length_replicate]
  | n + 1 => by rw [wsN, List.length_set, ws_len l n]
theorem wb_len (w : Int) : ∀ n, (wbN w n).length = n
  | 0 => rfl
  | n + 1 => by rw [wbN, List.length_append, wb_len w n]; rfl
theorem bys_len (f : Nat → Int) : ∀ n, (bysN f n).length = 8 * n
  | 0 => rfl
  | n + 1 => by rw [bysN, List.length_append, bys_len f n, wb_len]; omega
theorem pow_256 (n : Nat) (v : Int) : v / 256 ^ n / 256 = v / 256 ^ (n + 1) := by
  rw [Int.pow_succ, Int.ediv_ediv_of_nonneg (Int.le_of_lt (Int.pow_pos (by decide)))]
theorem wrap_u8K (n : Int) : IntKind.u8.wrap n = n % 256 := by
  simp [IntKind.wrap, IntKind.signed, IntKind.bits]
theorem shr8 (x : Int) : bShr .u64 x 8 = x / 256 := by
  unfold bShr
  rw [show (2 : Int) ^ min (8 : Int).toNat (IntKind.bits .u64) = 256 from by decide, Int.fdiv_eq_ediv_of_nonneg _ (by decide)]
theorem div_leK {v : Int} (h : 0 ≤ v) (n : Nat) : 0 ≤ v / 256 ^ n ∧ v / 256 ^ n ≤ v :=
  ⟨Int.ediv_nonneg h (Int.le_of_lt (Int.pow_pos (by decide))), Int.ediv_le_self _ h⟩
theorem rv_def (l : List (List CD)) (i : Nat) : ((l.getD i []).getD 0 (CD.int 0)).toInt = rv l i := rfl
theorem i64max : IntKind.max .i64 = 9223372036854775807 := by decide
theorem u64max : IntKind.max .u64 = 18446744073709551615 := by decide
theorem vc145 : P145 := by
  rintro l _ ⟨hl, hb⟩ _
  have e0 : (((l.length : Int) + 7) / 8).toNat = (l.length + 7) / 8 := by omega
  rw [i64max, e0]
  refine ⟨by omega, by omega, by omega, fun _ => ⟨⟨⟨rfl, rfl, by omega, by omega, ?_⟩, trivial⟩, ?_⟩⟩
  · rw [wsN, List.map_replicate]; rfl
  rintro l1 n i' w _ _ ⟨rfl, rfl, h0, h1, hw⟩
  obtain ⟨i, rfl⟩ := ex_nat h0
  rw [Int.toNat_natCast] at hw
  have hwl : w.length = (l1.length + 7) / 8 := by rw [hw, List.length_map, ws_len]
  refine condI (fun h => ?_) fun h => ?_
  · simp only [decide_eq_true_eq] at h
    have e1 : ((i : Int) / 8).toNat = i / 8 := by omega
    simp only [Int.toNat_natCast, e1, suc_nat]
    have hi : i / 8 < (wsN l1 i).length := by rw [ws_len]; omega
    refine ⟨by omega, by omega, by omega, by omega, by omega, by omega, by omega, by omega, by omega, by omega, by omega, ⟨by trivial, by trivial, by omega, by omega, ?_⟩, by omega⟩
    rw [hw, row1_get hi]
    show ((wsN l1 i).map row1).set (i / 8) [CD.int _] = _
    rw [row1_set, wsN]
    have e2 : (8 : Int) * ((i : Int) % 8) = ((8 * (i % 8) : Nat) : Int) := by omega
    rw [e2]; rfl
  · simp only [decide_eq_false_iff_not] at h
    have hi : i = l1.length := by omega
    subst hi
    exact hw
theorem ok145 : SpecOk (base.with sp156) 145 (mkF ct145) := spec_ct (fn := Tryz.f145) (c := bodyOf Tryz.f145) (k := Tryz.f145.ntmps - ct145.ps.length) (ct := ct145) c156 Tryz.func145 (by kernel_rfl) ann145 (by kernel_rfl) (fun vs w _ => Tryz.call145 vs w) (by rw [e145]; exact vc145)
theorem c145 : (base.with sp145).Ok := addS_ok c156 ok145
theorem vc102 : P102 := by
  rintro l _ ⟨hl, hb⟩ _
  refine ⟨⟨⟨rfl, rfl, by omega, by omega, rfl⟩, trivial⟩, ?_⟩
  rintro l1 n i' o _ _ ⟨rfl, rfl, h0, h1, ho⟩
  obtain ⟨i, rfl⟩ := ex_nat h0
  simp only [Int.toNat_natCast] at ho ⊢
  rw [rv_def]
  have hol : o.length = 8 * i := by rw [ho, List.length_map, bys_len]
  have hx := hb i
  generalize hX : rv l1 i = X at *
  refine condI (fun h => ?_) fun h => ?_
  · simp only [decide_eq_true_eq] at h
    refine ⟨by omega, by omega, ⟨⟨by trivial, by trivial, by trivial, by omega, by omega, (Int.ediv_one _).symm, by rw [wbN]; simp⟩, trivial⟩, ?_⟩
    rintro x l2 n i' k' o2 _ _ ⟨rfl, rfl, rfl, h2, h3, rfl, ho2⟩
    obtain ⟨k, rfl⟩ := ex_nat h2
    simp only [Int.toNat_natCast] at ho2 ⊢
    have ho2l : o2.length = 8 * i + k := by rw [ho2, List.length_append, List.length_map, wb_len, hol]
    refine condI (fun h4 => ?_) fun h4 => ?_
    · simp only [decide_eq_true_eq] at h4
      rw [suc_nat]
      refine ⟨by omega, by omega, by omega, ⟨by trivial, by trivial, by trivial, by omega, by omega, by rw [shr8, pow_256], ?_⟩, by omega⟩
      rw [ho2, wbN, List.map_append, ← List.append_assoc, wrap_u8K]; rfl
    · simp only [decide_eq_false_iff_not] at h4
      have hk : k = 8 := by omega
      subst hk
      refine ⟨by omega, ⟨by trivial, by trivial, by omega, by omega, ?_⟩, by omega⟩
      rw [suc_nat, bysN, List.map_append, ho2, ho, hX]
  · simp only [decide_eq_false_iff_not] at h
    have hi : i = l1.length := by omega
    subst hi
    exact ho
theorem ok102 : SpecOk (base.with sp145) 102 (mkF ct102) := spec_ct (fn := Tryz.f102) (c := bodyOf Tryz.f102) (k := Tryz.f102.ntmps - ct102.ps.length) (ct := ct102) c145 Tryz.func102 (by kernel_rfl) ann102 (by kernel_rfl) (fun vs w _ => Tryz.call102 vs w) (by rw [e102]; exact vc102)
theorem c102 : (base.with sp102).Ok := addS_ok c145 ok102
theorem vc296 : P296 := by
  rintro l _ hb _
  refine condI (fun h => ?_) fun h => ?_
  · simp only [decide_eq_true_eq] at h
    refine condI (fun _ => ⟨z25_eq.symm, rfl⟩) fun h2 => ?_
    simp only [decide_eq_false_iff_not] at h2
    omega
  · simp only [decide_eq_false_iff_not] at h
    have hl : l.length = 200 := by omega
    have hw : (wsN l l.length).length = 25 := by rw [ws_len, hl]
    refine ⟨⟨by omega, hb⟩, by rw [List.length_map]; omega, by rw [List.length_map]; omega, ?_⟩
    rw [row1_whole hw]
    refine condI (fun h2 => ?_) fun _ => ⟨by rw [hl], rfl⟩
    simp only [decide_eq_true_eq] at h2
    omega
theorem ok296 : SpecOk (base.with sp102) 296 (mkF ct296) := spec_ct (fn := Tryz.f296) (c := bodyOf Tryz.f296) (k := Tryz.f296.ntmps - ct296.ps.length) (ct := ct296) c102 Tryz.func296 (by kernel_rfl) noAnn (by kernel_rfl) (fun vs w _ => Tryz.call296 vs w) (by rw [e296]; exact vc296)
theorem c296 : (base.with sp296).Ok := addS_ok c102 ok296
theorem rv_map (s : List Int) : rv (List.map (fun x => [CD.int x]) s) = fun i => s.getD i 0 := by
  funext i; exact rv_row1 s i
theorem vc148 : P148 := by
  rintro s hs hw
  rw [List.drop_zero, List.take_of_length_le (by omega), rv_map, List.length_map, hs]
  have h8 : (bysN (fun i => s.getD i 0) 25).length = 200 := bys_len _ 25
  refine ⟨by omega, ⟨by omega, fun i => ?_⟩, by rw [List.length_map]; omega, by rw [List.length_map]; omega, (row1_whole h8).trans (bysL_eq s).symm⟩
  rw [rv_map]; exact hw i
theorem ok148 : SpecOk (base.with sp296) 148 (mkF ct148) := spec_ct (fn := Tryz.f148) (c := bodyOf Tryz.f148) (k := Tryz.f148.ntmps - ct148.ps.length) (ct := ct148) c296 Tryz.func148 (by kernel_rfl) noAnn (by kernel_rfl) (fun vs w _ => Tryz.call148 vs w) (by rw [e148]; exact vc148)
theorem c148 : (base.with sp148).Ok := addS_ok c296 ok148
theorem vc157 : P157 := by
  rintro l _ ⟨hl, hb⟩ _
  refine ⟨by omega, ⟨⟨rfl, by omega, by omega, ?_⟩, trivial⟩, ?_⟩
  · rw [show ((l.length : Int) - 1 - ((l.length : Int) - 1)).toNat = 0 from by omega]; rfl
  rintro l1 n _ w _ _ hwl ⟨rfl, h0, h1, hw⟩
  refine condI (fun h => ?_) fun h => ?_
  · simp only [decide_eq_true_eq] at h
    obtain ⟨i, rfl⟩ := ex_nat h
    have e1 : ((i : Int) / 8).toNat = i / 8 := by omega
    have e2 : ((l1.length : Int) - 1 - (i : Int)).toNat = l1.length - 1 - i := by omega
    have e3 : ((l1.length : Int) - 1 - ((i : Int) - 1)).toNat = (l1.length - 1 - i) + 1 := by omega
    rw [e2] at hw
    rw [i64max]
    simp only [Int.toNat_natCast, e1, e3, Nat.mul_one]
    refine ⟨by omega, by omega, by omega, by omega, by omega, by omega, by omega, by omega, by omega, ⟨by trivial, by omega, by omega, ?_⟩, by omega⟩
    rw [rv_def, rbN, show l1.length - 1 - (l1.length - 1 - i) = i from by omega, ← hw]
  · simp only [decide_eq_false_iff_not] at h
    have hn : n = -1 := by omega
    subst hn
    rw [hw]
    congr 1
    omega
theorem ok157 : SpecOk (base.with sp148) 157 (mkF ct157) := spec_ct (fn := Tryz.f157) (c := bodyOf Tryz.f157) (k := Tryz.f157.ntmps - ct157.ps.length) (ct := ct157) c148 Tryz.func157 (by kernel_rfl) ann157 (by kernel_rfl) (fun vs w _ => Tryz.call157 vs w) (by rw [e157]; exact vc157)
theorem c157 : (base.with sp157).Ok := addS_ok c148 ok157
theorem vc155 : P155 := by
  rintro s hs hw
  refine ⟨⟨⟨rfl, by omega, by omega, rfl⟩, trivial⟩, ?_⟩
  rintro i' s1 o _ _ ⟨rfl, h0, h1, ho⟩
  obtain ⟨i, rfl⟩ := ex_nat h0
  simp only [Int.toNat_natCast, Nat.mul_one] at ho ⊢
  have hol : o.length = 8 * i := by rw [ho, List.length_map, bys_len]
  have hx := hw i
  refine condI (fun h => ?_) fun h => ?_
  · simp only [decide_eq_true_eq] at h
    generalize hX : s1.getD i 0 = X at *
    refine ⟨by omega, by omega, ⟨⟨by trivial, by trivial, by omega, by omega, (Int.ediv_one _).symm, by rw [wbN]; simp⟩, trivial⟩, ?_⟩
    rintro i' x k' s2 o2 _ _ ⟨rfl, rfl, h2, h3, rfl, ho2⟩
    obtain ⟨k, rfl⟩ := ex_nat h2
    simp only [Int.toNat_natCast] at ho2 ⊢
    have ho2l : o2.length = 8 * i + k := by rw [ho2, List.length_append, List.length_map, wb_len, hol]
    have hd := div_leK hx.1 k
    have hx2 := hx.2
    refine condI (fun h4 => ?_) fun h4 => ?_
    · simp only [decide_eq_true_eq] at h4
      rw [suc_nat, u64max]
      refine ⟨by omega, by omega, by omega, by omega, ⟨by trivial, by trivial, by omega, by omega, by rw [pow_256], ?_⟩, by omega⟩
      rw [ho2, wbN, List.map_append, ← List.append_assoc, wrap_u8K, Int.emod_emod_of_dvd _ (Int.dvd_refl _)]; rfl
    · simp only [decide_eq_false_iff_not] at h4
      have hk : k = 8 := by omega
      subst hk
      refine ⟨by omega, ⟨by trivial, by omega, by omega, ?_⟩, by omega⟩
      rw [suc_nat, bysN, List.map_append, ho2, ho, hX]
  · simp only [decide_eq_false_iff_not] at h
    have hi : i = 25 := by omega
    subst hi
    rw [bysL_eq]; exact ho
theorem ok155 : SpecOk (base.with sp157) 155 (mkF ct155) := spec_ct (fn := Tryz.f155) (c := bodyOf Tryz.f155) (k := Tryz.f155.ntmps - ct155.ps.length) (ct := ct155) c157 Tryz.func155 (by kernel_rfl) ann155 (by kernel_rfl) (fun vs w _ => Tryz.call155 vs w) (by rw [e155]; exact vc155)
theorem c155 : (base.with sp155).Ok := addS_ok c157 ok155
end Go.Proofs.YteiecapbaeajdaaGreatDoor
namespace Go.Proofs.YteiecapbaeajdaaGreatDoor
open Go Go.Avc Go.Proofs
set_option linter.unusedVariables false
set_option linter.unusedSimpArgs false
set_option maxRecDepth 100000
/-! ### Lists of bits -/
theorem fillN_len (f : Nat → Nat) (g : Nat → Bool) (l : List Bool) : ∀ n, (fillN f g l n).length = l.length
  | 0 => rfl
  | n + 1 => by rw [fillN, List.length_set, fillN_len f g l n]
/-! ### Bits of words -/
theorem xr_any (a b : Int) : isW (xr a b) := bv_isW (BitVec.ofInt 64 a ^^^ BitVec.ofInt 64 b)
theorem isW0 : isW 0 := ⟨by omega, by omega⟩
/-! ### The steps -/
theorem map_get {f : Nat → Int} {j : Nat} (h : j < 25) : ((List.range 25).map f).getD j 0 = f j := by
  rw [List.getD_eq_getElem?_getD, List.getElem?_map, List.getElem?_range h]; rfl
/-! Turning, and moving: which step writes a lane. -/
theorem rp_len (s : List Int) : ∀ n, (rpN s n).length = 25
  | 0 => by rw [rpN]; simp
  | n + 1 => by rw [rpN, List.length_set, rp_len s n]
theorem rhoPi_len (s : List Int) : (rhoPi s).length = 25 := rp_len s 24
theorem chi_len {s : List Int} (h : s.length = 25) : (chi s).length = 25 := by rw [chi_eq h]; simp
theorem chi_w {s : List Int} (h : s.length = 25) : areW (chi s) := fun j => by
  rw [chi_eq h]
  rcases Nat.lt_or_ge j 25 with hj | hj
  · rw [map_get hj]; exact xr_any _ _
  · rw [List.getD_eq_getElem?_getD, List.getElem?_eq_none (by simpa using hj)]; exact isW0
theorem round_len {s : List Int} (h : s.length = 25) (r : Int) : (round s r).length = 25 := by
  unfold round
  rw [List.length_set, chi_len (rhoPi_len _)]
theorem set_w {s : List Int} (hs : areW s) {x : Int} (hx : isW x) (i : Nat) : areW (s.set i x) := fun j => by
  rcases Nat.lt_or_ge j s.length with hj | hj
  · rw [set_get _ _ _ _ hj]
    split
    · exact hx
    · exact hs j
  · rw [List.getD_eq_getElem?_getD, List.getElem?_eq_none (by rw [List.length_set]; exact hj)]; exact isW0
theorem round_w {s : List Int} (h : s.length = 25) (hs : areW s) (r : Int) : areW (round s r) := set_w (chi_w (rhoPi_len _)) (xr_any _ _) 0
theorem wvlt (a : List Bool) (i : Nat) : ∀ n, wv a i n < 2 ^ n
  | 0 => Nat.one_pos
  | n + 1 => by
    have := wvlt a i n
    rw [wv, Nat.pow_succ]
    split <;> omega
theorem wd_len (a : List Bool) : ∀ n, (wdN a n).length = 25
  | 0 => by rw [wdN, List.length_replicate]
  | n + 1 => by rw [wdN, List.length_set, wd_len a n]
theorem wd_get (a : List Bool) {j : Nat} (hj : j < 25) : ∀ n, (wdN a n).getD j 0 = if j < n then (wv a j 64 : Int) else 0
  | 0 => by
    rw [if_neg (by omega), wdN, List.getD_eq_getElem?_getD, List.getElem?_replicate]
    split <;> rfl
  | n + 1 => by
    rw [wdN, set_get _ _ _ _ (by rw [wd_len]; exact hj), wd_get a hj n]
    by_cases e : n = j
    · subst e
      rw [if_pos rfl, if_pos (by omega)]
    · rw [if_neg e]
      by_cases e2 : j < n
      · rw [if_pos e2, if_pos (by omega)]
      · rw [if_neg e2, if_neg (by omega)]
theorem toW_w (a : List Bool) : areW (toW a) := fun j => by
  unfold toW
  rw [hid_eq]
  rcases Nat.lt_or_ge j 25 with hj | hj
  · rw [wd_get a hj, if_pos hj]
    have := wvlt a j 64
    rw [show (2 : Nat) ^ 64 = 18446744073709551616 from by decide] at this
    exact ⟨by omega, by omega⟩
  · rw [List.getD_eq_getElem?_getD, List.getElem?_eq_none (by rw [wd_len]; exact hj)]; exact isW0
theorem permN_ok {s : List Int} (h : s.length = 25) (hs : areW s) : ∀ n, (permN s n).length = 25 ∧ areW (permN s n)
  | 0 => ⟨h, hs⟩
  | n + 1 => by
    obtain ⟨h1, h2⟩ := permN_ok h hs n
    exact ⟨round_len h1 _, round_w h1 h2 _⟩
theorem perm_ok {s : List Int} (h : s.length = 25) (hs : areW s) : (perm s).length = 25 ∧ areW (perm s) := by
  rw [perm_eq]; exact permN_ok h hs 24
end Go.Proofs.YteiecapbaeajdaaGreatDoor
namespace Go.Proofs.YteiecapbaeajdaaGreatDoor
open Go Go.Avc Go.Proofs
set_option linter.unusedVariables false
set_option linter.unusedSimpArgs false
set_option maxRecDepth 100000
/-! The sums of columns, of a difference that vanishes. -/
theorem permN_s (s : List Int) (n : Nat) : permN s (n + 1) = round (permN s n) (n : Int) := by rw [permN]
end Go.Proofs.YteiecapbaeajdaaGreatDoor
namespace Go.Proofs.YteiecapbaeajdaaGreatDoor
open Go Go.Avc Go.Proofs
set_option linter.unusedVariables false
set_option linter.unusedSimpArgs false
set_option maxRecDepth 100000
theorem wd_low (f : Nat → Int) : ∀ n, wd f (n + 1) = f 0 + 256 * wd (fun k => f (k + 1)) n
  | 0 => by simp [wd]
  | n + 1 => by
    rw [wd, wd_low f n, wd, Int.pow_succ]
    have : f (n + 1) * (256 ^ n * 256) = 256 * (f (n + 1) * 256 ^ n) := by rw [← Int.mul_assoc, Int.mul_comm]
    rw [this]
    omega
theorem wb_wd {f : Nat → Int} (h : ∀ k, 0 ≤ f k ∧ f k < 256) : ∀ n k, k < n → wb (wd f n) k = f k
  | 0, k, hk => by omega
  | n + 1, 0, _ => by
    have := h 0
    unfold wb
    rw [wd_low, Int.pow_zero, Int.ediv_one]
    omega
  | n + 1, k + 1, hk => by
    have ih := wb_wd (f := fun k => f (k + 1)) (fun k => h (k + 1)) n k (by omega)
    have := h 0
    unfold wb at ih ⊢
    rw [wd_low, Int.pow_succ, Int.mul_comm (256 ^ k) 256, ← Int.ediv_ediv_of_nonneg (by decide), show (f 0 + 256 * wd (fun k => f (k + 1)) n) / 256 = wd (fun k => f (k + 1)) n from by omega]
    exact ih
theorem wb_rng (w : Int) (k : Nat) : 0 ≤ wb w k ∧ wb w k < 256 := by unfold wb; omega
theorem wbN_get (w : Int) : ∀ n k, k < n → (wbN w n).getD k 0 = wb w k
  | 0, k, h => by omega
  | n + 1, k, h => by
    rw [wbN, List.getD_eq_getElem?_getD]
    rcases Nat.lt_or_ge k n with h2 | h2
    · rw [List.getElem?_append_left (by rw [wb_len]; exact h2), ← List.getD_eq_getElem?_getD, wbN_get w n k h2]
    · have : k = n := by omega
      subst this
      rw [List.getElem?_append_right (by rw [wb_len]; exact Nat.le_refl _), wb_len, Nat.sub_self]; rfl
theorem bysN_get (f : Nat → Int) : ∀ n p, p < 8 * n → (bysN f n).getD p 0 = wb (f (p / 8)) (p % 8)
  | 0, p, h => by omega
  | n + 1, p, h => by
    rw [bysN, List.getD_eq_getElem?_getD]
    rcases Nat.lt_or_ge p (8 * n) with h2 | h2
    · rw [List.getElem?_append_left (by rw [bys_len]; exact h2), ← List.getD_eq_getElem?_getD, bysN_get f n p h2]
    · rw [List.getElem?_append_right (by rw [bys_len]; exact h2), bys_len, ← List.getD_eq_getElem?_getD, wbN_get _ _ _ (by omega), show p / 8 = n from by omega, show p - 8 * n = p % 8 from by omega]
theorem bysL_len (s : List Int) : (bysL s).length = 200 := by rw [bysL_eq]; exact bys_len _ 25
theorem bysL_get (s : List Int) {p : Nat} (hp : p < 200) : (bysL s).getD p 0 = wb (s.getD (p / 8) 0) (p % 8) := by rw [bysL_eq]; exact bysN_get _ 25 p (by omega)
theorem bysL_rng (s : List Int) (p : Nat) : 0 ≤ (bysL s).getD p 0 ∧ (bysL s).getD p 0 < 256 := by
  rcases Nat.lt_or_ge p 200 with h | h
  · rw [bysL_get s h]; exact wb_rng _ _
  · rw [List.getD_eq_getElem?_getD, List.getElem?_eq_none (by rw [bysL_len]; exact h)]; exact ⟨by decide, by decide⟩
theorem bysL_areB (s : List Int) : areB ((bysL s).map row1) := fun i => by rw [rv_row1]; exact bysL_rng s i
end Go.Proofs.YteiecapbaeajdaaGreatDoor
namespace Go.Proofs.YteiecapbaeajdaaGreatDoor
open Go Go.Avc
set_option linter.unusedVariables false
abbrev u8 : Pat := .int .u8
abbrev qh : BPat := .cells 214 [a25, i64]
abbrev a32 : Pat := .agg [.arrI 32 .u8]
abbrev Hs := List Int × Nat
/-- A byte is xored into the words. -/
def putS (s : List Int) (p : Nat) (b : Int) : List Int := s.set (p / 8) (xr (s.getD (p / 8) 0) (bShl .u64 (IntKind.u64.wrap b) ((8 * (p % 8) : Nat) : Int)))
noncomputable def step1 (h : Hs) (b : Int) : Hs := if h.2 + 1 = 136 then (perm (putS h.1 h.2 b), 0) else (putS h.1 h.2 b, h.2 + 1)
noncomputable def wrN (h : Hs) (l : List (List CD)) : Nat → Hs
  | 0 => h
  | n + 1 => step1 (wrN h l n) (rv l n)
noncomputable def fin (h : Hs) : List Int := hid ((bysL (perm (putS (putS h.1 h.2 6) 135 128))).take 32)
/-- A part. -/
def pt (l : List (List CD)) (i : Nat) : List (List CD) := ((l.getD i []).getD 0 .d0).toSl
def hs0 : Hs := (List.replicate 25 0, 0)
noncomputable def wrP (l : List (List CD)) : Nat → Hs
  | 0 => hs0
  | n + 1 => wrN (wrP l n) (pt l n) (pt l n).length
noncomputable def sumP (l : List (List CD)) : List Int := hid (fin (wrP l l.length))
def areP (l : List (List CD)) : Prop := ∀ i, areB (pt l i)
/-! The reference. -/
def xoN (a b : Nat) : Nat → Nat
  | 0 => 0
  | n + 1 => if a / 2 ^ n % 2 ≠ b / 2 ^ n % 2 then xoN a b n + 2 ^ n else xoN a b n
def xo (a b : Int) : Int := (xoN a.toNat b.toNat 8 : Nat)
def padm (l : List (List CD)) : Nat := 135 - l.length % 136
def padN (l : List (List CD)) (m : Nat) : List (List CD) := l ++ [.int 6] :: List.replicate m [.int 0]
def padT (m : Nat) : List Int := if m = 0 then [134] else 6 :: (List.replicate (m - 1) 0 ++ [128])
noncomputable def padL (l : List (List CD)) : List (List CD) := hid (l ++ (padT (padm l)).map row1)
/-- Bytes are mixed into bytes, one by one. -/
def xsN (o : Int → Int → Int) (S : List Int) (p : List (List CD)) (at' : Nat) : Nat → List Int
  | 0 => S
  | i + 1 => (xsN o S p at' i).set i (o ((xsN o S p at' i).getD i 0) (rv p (at' + i)))
def ints (r : List (List CD)) : List Int := r.map fun r => (r.getD 0 .d0).toInt
noncomputable def blkR (p : List (List CD)) : Nat → List Int
  | 0 => List.replicate 200 0
  | n + 1 => bysL (permR (rbN ((xsN xo (blkR p n) p (136 * n) 136).map row1) 200))
noncomputable def sumR (l : List (List CD)) : List Int := hid ((blkR (padL l) ((padL l).length / 136)).take 32)
/-! ### Contracts -/
def ct146 : Ct := { ps := [.ptr 0 0, i64, u8], bs := [qh], pre := fun | [.i p, .i b, .li s, .i a] => 0 ≤ p ∧ p < 200 | _ => False, res := fun | [.i p, .i b, .li s, .i a] => .ret (.tup []) [qh] [.li (putS s p.toNat b), .i a] | _ => noRes }
noncomputable def ct99 : Ct := { ps := [.ptr 0 0, rb], bs := [qh], pre := fun | [.r l, .li s, .i a] => 0 ≤ a ∧ a < 136 | _ => False, res := fun | [.r l, .li s, .i a] => .ret (.tup []) [qh] [.li (wrN (s, a.toNat) l l.length).1, .i ((wrN (s, a.toNat) l l.length).2 : Nat)] | _ => noRes }
noncomputable def ann99 : List Dat → Ann
  | [.r l, .li s, .i a] => ⟨[], [(1, [la 43 [(0, .ptr 0 0), (6, rb), (7, i64), (8, i64)] [qh] (fun | [.r l', .i n, .i i, .li s', .i a'] => l' = l ∧ n = l.length ∧ 0 ≤ i ∧ i ≤ n ∧ s' = (wrN (s, a.toNat) l i.toNat).1 ∧ a' = ((wrN (s, a.toNat) l i.toNat).2 : Nat) | _ => False) (fun | [_, .i n, .i i, _, _] => (n - i).toNat | _ => 0)])], []⟩
  | _ => { cut := [], loop := [] }
noncomputable def ct100 : Ct := { ps := [.ptr 0 0], bs := [qh], pre := fun | [.li s, .i a] => areW s ∧ 0 ≤ a ∧ a < 136 | _ => False, res := fun | [.li s, .i a] => .ret a32 [qh] [.li (fin (s, a.toNat)), .li s, .i a] | _ => noRes }
noncomputable def ct61 : Ct := { ps := [.rd [.sl [.int .u8]]], bs := [], pre := fun | [.r l] => areP l | _ => False, res := fun | [.r l] => .ret a32 [] [.li (sumP l)] | _ => noRes }
noncomputable def ann61 : List Dat → Ann
  | [.r l] => ⟨[], [(3, [la 16 [(2, .ptr 0 0), (3, .ptr 1 0), (6, .rd [.sl [.int .u8]]), (7, i64), (8, i64)] [.cells 79 [.arrI 32 .u8], qh] (fun | [.r l', .i n, .i i, .li _, .li s', .i a'] => l' = l ∧ n = l.length ∧ 0 ≤ i ∧ i ≤ n ∧ s' = (wrP l i.toNat).1 ∧ a' = ((wrP l i.toNat).2 : Nat) | _ => False) (fun | [_, .i n, .i i, _, _, _] => (n - i).toNat | _ => 0)])], []⟩
  | _ => { cut := [], loop := [] }
def ct154 : Ct := { ps := [u8, u8], bs := [], pre := fun | [.i a, .i b] => (0 ≤ a ∧ a < 256) ∧ 0 ≤ b ∧ b < 256 | _ => False, res := fun | [.i a, .i b] => .ret u8 [] [.i (xo a b)] | _ => noRes }
def ann154 : List Dat → Ann
  | [.i a, .i b] => ⟨[], [(5, [la 34 [(5, i64), (6, i64), (7, i64), (8, i64), (9, i64)] [] (fun | [.i o, .i e, .i x, .i y, .i i] => 0 ≤ i ∧ i ≤ 8 ∧ o = (xoN a.toNat b.toNat i.toNat : Nat) ∧ e = (2 ^ i.toNat : Nat) ∧ x = (a.toNat / 2 ^ i.toNat : Nat) ∧ y = (b.toNat / 2 ^ i.toNat : Nat) | _ => False) (fun | [_, _, _, _, .i i] => (8 - i).toNat | _ => 0)])], []⟩
  | _ => { cut := [], loop := [] }
noncomputable def ct153 : Ct := { ps := [rb], bs := [], pre := fun | [.r l] => l.length ≤ 1000 | _ => False, res := fun | [.r l] => .ret (.own 0) [ob] [.r (padL l)] | _ => noRes }
def ann153 : List Dat → Ann
  | [.r l] => ⟨[], [(2, [la 29 [(3, .own 0)] [ob] (fun | [.r o] => l.length + 1 ≤ o.length ∧ o.length ≤ l.length + 1 + padm l ∧ o = padN l (o.length - l.length - 1) | _ => False) (fun | [.r o] => l.length + 200 - o.length | _ => 0)])], []⟩
  | _ => { cut := [], loop := [] }
noncomputable def ct111 : Ct := { ps := [rb], bs := [], pre := fun | [.r l] => l.length ≤ 1000 ∧ areB l | _ => False, res := fun | [.r l] => .ret rb [] [.r ((sumR l).map row1)] | _ => noRes }
def sl111 : List (Nat × Pat) := [(3, .own 0), (4, .own 1), (5, i64)]
noncomputable def ann111 : List Dat → Ann
  | [.r l] => ⟨[(11, [la 40 [(4, rb)] [] (fun | [.r s] => s = (blkR (padL l) ((padL l).length / 136)).map row1 | _ => False) noM])],
     [(4, [la 40 sl111 [ob, ob] (fun | [.i k, .r p, .r s] => p = padL l ∧ 0 ≤ k ∧ k ≤ p.length ∧ k % 136 = 0 ∧ s = (blkR p (k.toNat / 136)).map row1 | _ => False) (fun | [.i k, .r p, _] => (p.length - k).toNat | _ => 0)])],
    [(7, [la 40 (sl111 ++ [(6, i64)]) [ob, ob] anyR noM], fun | [.i k0, .i _, .r p0, .r s0] => [la 40 (sl111 ++ [(6, i64)]) [ob, ob]
      (fun | [.i k, .i i, .r p, .r s] => k = k0 ∧ p = p0 ∧ 0 ≤ i ∧ i ≤ 136 ∧ s = (xsN xo (ints s0) p0 k0.toNat i.toNat).map row1 | _ => False) (fun | [_, .i i, _, _] => (136 - i).toNat | _ => 0)] | _ => [])]⟩
  | _ => { cut := [], loop := [] }
end Go.Proofs.YteiecapbaeajdaaGreatDoor
namespace Go.Proofs.YteiecapbaeajdaaGreatDoor
open Go Go.Avc Go.Proofs
set_option linter.unusedVariables false
set_option maxRecDepth 100000
def P146 : Prop :=
 ∀ (n n_1 : Int) (l : List Int) (n_2 : Int),
 l.length = (25 : Nat) →
 (0 : Int) ≤ n ∧ n < (200 : Int) →
 ((0 : Int) ≤ n ∧ (0 : Int) < (8 : Int) ∧ n ≤ Go.IntKind.i64.max) ∧
 ((0 : Int) ≤ n / (8 : Int) ∧ n / (8 : Int) < (↑(25 : Nat) : Int)) ∧
 (n / (8 : Int)).toNat * (1 : Nat) < (25 : Nat) ∧
 ((0 : Int) ≤ n ∧ (0 : Int) < (8 : Int)) ∧
 ((-9223372036854775808 : Int) ≤ (8 : Int) * (n % (8 : Int)) ∧ (8 : Int) * (n % (8 : Int)) ≤ (9223372036854775807 : Int)) ∧
 (0 : Int) ≤ (8 : Int) * (n % (8 : Int)) ∧
 ((0 : Int) ≤ n / (8 : Int) ∧ n / (8 : Int) < (↑(25 : Nat) : Int)) ∧
 (n / (8 : Int)).toNat * (1 : Nat) < (25 : Nat) ∧
 l.set ((n / (8 : Int)).toNat * (1 : Nat))
 (bXor Go.IntKind.u64 (l.getD ((n / (8 : Int)).toNat * (1 : Nat)) (0 : Int))
 (bShl Go.IntKind.u64 (Go.IntKind.u64.wrap n_1) ((8 : Int) * (n % (8 : Int))))) =
 putS l n.toNat n_1 ∧
 n_2 = n_2
theorem e146 : ct146.VC (base.with sp155) Tryz.f146.results.toList Tryz.f146.ntmps (Tryz.f146.ntmps - ct146.ps.length) (bodyOf Tryz.f146) noAnn = P146 := by kernel_rfl
noncomputable def sp146 : SpecT := addS sp155 146 (mkF ct146)
def P99 : Prop :=
 ∀ (l : List (List CD)) (l_1 : List Int) (n : Int),
 l.length ≤ (9223372036854775807 : Nat) →
 l_1.length = (25 : Nat) →
 (0 : Int) ≤ n ∧ n < (136 : Int) →
 l.length ≤ (9223372036854775807 : Nat) →
 ((l = l ∧
 (↑l.length : Int) = (↑l.length : Int) ∧
 (0 : Int) ≤ (0 : Int) ∧
 (0 : Int) ≤ (↑l.length : Int) ∧
 l_1 = (wrN (l_1, n.toNat) l (0 : Nat)).fst ∧
 n = (↑(wrN (l_1, n.toNat) l (0 : Nat)).snd : Int)) ∧
 True) ∧
 ∀ (l_2 : List (List CD)) (n_1 n_2 : Int) (l_3 : List Int) (n_3 : Int),
 l_2.length ≤ (9223372036854775807 : Nat) →
 l_3.length = (25 : Nat) →
 l_2 = l ∧
 n_1 = (↑l.length : Int) ∧
 (0 : Int) ≤ n_2 ∧
 n_2 ≤ n_1 ∧
 l_3 = (wrN (l_1, n.toNat) l n_2.toNat).fst ∧
 n_3 = (↑(wrN (l_1, n.toNat) l n_2.toNat).snd : Int) →
 bif decide (n_2 < n_1) then
 ((0 : Int) ≤ n_2 ∧ n_2 < (↑l_2.length : Int)) ∧
 n_2.toNat < l_2.length ∧
 ((0 : Int) ≤ n_3 ∧ n_3 < (200 : Int)) ∧
 ((-9223372036854775808 : Int) ≤ n_3 + (1 : Int) ∧ n_3 + (1 : Int) ≤ (9223372036854775807 : Int)) ∧
 bif decide (n_3 + (1 : Int) = (136 : Int)) then
 True ∧
 ((-9223372036854775808 : Int) ≤ n_2 + (1 : Int) ∧ n_2 + (1 : Int) ≤ (9223372036854775807 : Int)) ∧
 (l_2 = l ∧
 n_1 = (↑l.length : Int) ∧
 (0 : Int) ≤ n_2 + (1 : Int) ∧
 n_2 + (1 : Int) ≤ n_1 ∧
 perm
 (putS l_3 n_3.toNat
 ((l_2.getD n_2.toNat []).getD (0 : Nat) (CD.int (0 : Int))).toInt) =
 (wrN (l_1, n.toNat) l (n_2 + (1 : Int)).toNat).fst ∧
 (0 : Int) = (↑(wrN (l_1, n.toNat) l (n_2 + (1 : Int)).toNat).snd : Int)) ∧
 (n_1 - (n_2 + (1 : Int))).toNat < (n_1 - n_2).toNat
 else
 ((-9223372036854775808 : Int) ≤ n_2 + (1 : Int) ∧ n_2 + (1 : Int) ≤ (9223372036854775807 : Int)) ∧
 (l_2 = l ∧
 n_1 = (↑l.length : Int) ∧
 (0 : Int) ≤ n_2 + (1 : Int) ∧
 n_2 + (1 : Int) ≤ n_1 ∧
 putS l_3 n_3.toNat ((l_2.getD n_2.toNat []).getD (0 : Nat) (CD.int (0 : Int))).toInt =
 (wrN (l_1, n.toNat) l (n_2 + (1 : Int)).toNat).fst ∧
 n_3 + (1 : Int) = (↑(wrN (l_1, n.toNat) l (n_2 + (1 : Int)).toNat).snd : Int)) ∧
 (n_1 - (n_2 + (1 : Int))).toNat < (n_1 - n_2).toNat
 else
 l_3 = (wrN (l_1, n.toNat) l l.length).fst ∧
 n_3 = (↑(wrN (l_1, n.toNat) l l.length).snd : Int)
theorem e99 : ct99.VC (base.with sp146) Tryz.f99.results.toList Tryz.f99.ntmps (Tryz.f99.ntmps - ct99.ps.length) (bodyOf Tryz.f99) ann99 = P99 := by kernel_rfl
noncomputable def sp99 : SpecT := addS sp146 99 (mkF ct99)
def P100 : Prop :=
 ∀ (l : List Int) (n : Int),
 l.length = (25 : Nat) →
 areW l ∧ (0 : Int) ≤ n ∧ n < (136 : Int) →
 ((0 : Int) ≤ n ∧ n < (200 : Int)) ∧
 ((0 : Int) ≤ (135 : Int) ∧ (135 : Int) < (200 : Int)) ∧
 True ∧
 areW
 (perm
 (putS (putS l n.toNat (6 : Int)) (135 : Nat) (128 : Int))) ∧
 ((0 : Int) ≤ (0 : Int) ∧ (0 : Int) ≤ (32 : Int) ∧ (32 : Int) ≤ (↑(200 : Nat) : Int) ∧ (0 : Int) < (↑(200 : Nat) : Int)) ∧
 (32 : Nat) ≤ (32 : Nat) ∧
 (32 : Nat) ≤ (200 : Nat) ∧
 List.take (32 : Nat)
 (List.drop (0 : Nat)
 (bysL
 (perm
 (putS (putS l n.toNat (6 : Int)) (135 : Nat) (128 : Int))))) =
 fin (l, n.toNat) ∧
 l = l ∧ n = n
theorem e100 : ct100.VC (base.with sp99) Tryz.f100.results.toList Tryz.f100.ntmps (Tryz.f100.ntmps - ct100.ps.length) (bodyOf Tryz.f100) noAnn = P100 := by kernel_rfl
noncomputable def sp100 : SpecT := addS sp99 100 (mkF ct100)
def P61 : Prop :=
 ∀ (l : List (List CD)),
 l.length ≤ (9223372036854775807 : Nat) →
 areP l →
 l.length ≤ (9223372036854775807 : Nat) →
 ((l = l ∧
 (↑l.length : Int) = (↑l.length : Int) ∧
 (0 : Int) ≤ (0 : Int) ∧
 (0 : Int) ≤ (↑l.length : Int) ∧
 [(0 : Int), (0 : Int), (0 : Int), (0 : Int), (0 : Int), (0 : Int), (0 : Int), (0 : Int), (0 : Int), (0 : Int), (0 : Int), (0 : Int), (0 : Int), (0 : Int),
 (0 : Int), (0 : Int), (0 : Int), (0 : Int), (0 : Int), (0 : Int), (0 : Int), (0 : Int), (0 : Int), (0 : Int), (0 : Int)] =
 (wrP l (0 : Nat)).fst ∧
 (0 : Int) = (↑(0 : Nat) : Int)) ∧
 True) ∧
 ∀ (l_1 : List (List CD)) (n n_1 : Int) (l_2 l_3 : List Int) (n_2 : Int),
 l_1.length ≤ (9223372036854775807 : Nat) →
 l_2.length = (32 : Nat) →
 l_3.length = (25 : Nat) →
 l_1 = l ∧
 n = (↑l.length : Int) ∧
 (0 : Int) ≤ n_1 ∧
 n_1 ≤ n ∧ l_3 = (wrP l n_1.toNat).fst ∧ n_2 = (↑(wrP l n_1.toNat).snd : Int) →
 bif decide (n_1 < n) then
 ((0 : Int) ≤ n_1 ∧ n_1 < (↑l_1.length : Int)) ∧
 n_1.toNat < l_1.length ∧
 ((0 : Int) ≤ n_2 ∧ n_2 < (136 : Int)) ∧
 ((-9223372036854775808 : Int) ≤ n_1 + (1 : Int) ∧ n_1 + (1 : Int) ≤ (9223372036854775807 : Int)) ∧
 (l_1 = l ∧
 n = (↑l.length : Int) ∧
 (0 : Int) ≤ n_1 + (1 : Int) ∧
 n_1 + (1 : Int) ≤ n ∧
 (wrN (l_3, n_2.toNat) ((l_1.getD n_1.toNat []).getD (0 : Nat) (CD.int (0 : Int))).toSl
 ((l_1.getD n_1.toNat []).getD (0 : Nat) (CD.int (0 : Int))).toSl.length).fst =
 (wrP l (n_1 + (1 : Int)).toNat).fst ∧
 (↑(wrN (l_3, n_2.toNat) ((l_1.getD n_1.toNat []).getD (0 : Nat) (CD.int (0 : Int))).toSl
 ((l_1.getD n_1.toNat []).getD (0 : Nat) (CD.int (0 : Int))).toSl.length).snd :
 Int) =
 (↑(wrP l (n_1 + (1 : Int)).toNat).snd : Int)) ∧
 (n - (n_1 + (1 : Int))).toNat < (n - n_1).toNat
 else
 (areW l_3 ∧ (0 : Int) ≤ n_2 ∧ n_2 < (136 : Int)) ∧
 fin (l_3, n_2.toNat) = sumP l
theorem e61 : ct61.VC (base.with sp100) Tryz.f61.results.toList Tryz.f61.ntmps (Tryz.f61.ntmps - ct61.ps.length) (bodyOf Tryz.f61) ann61 = P61 := by kernel_rfl
noncomputable def sp61 : SpecT := addS sp100 61 (mkF ct61)
def P154 : Prop :=
 ∀ (n n_1 : Int),
 ((0 : Int) ≤ n ∧ n < (256 : Int)) ∧ (0 : Int) ≤ n_1 ∧ n_1 < (256 : Int) →
 (((0 : Int) ≤ (0 : Int) ∧
 (0 : Int) ≤ (8 : Int) ∧
 (0 : Int) = (↑(0 : Nat) : Int) ∧
 (1 : Int) = (↑(1 : Nat) : Int) ∧ Go.IntKind.i64.wrap n = (↑(n.toNat / (1 : Nat)) : Int) ∧ Go.IntKind.i64.wrap n_1 = (↑(n_1.toNat / (1 : Nat)) : Int)) ∧
 True) ∧
 ∀ (n_2 n_3 n_4 n_5 n_6 : Int),
 (0 : Int) ≤ n_6 ∧
 n_6 ≤ (8 : Int) ∧
 n_2 = (↑(xoN n.toNat n_1.toNat n_6.toNat) : Int) ∧
 n_3 = (↑((2 : Nat) ^ n_6.toNat) : Int) ∧ n_4 = (↑(n.toNat / (2 : Nat) ^ n_6.toNat) : Int) ∧ n_5 = (↑(n_1.toNat / (2 : Nat) ^ n_6.toNat) : Int) →
 bif decide (n_6 < (8 : Int)) then
 ((0 : Int) ≤ n_4 ∧ (0 : Int) < (2 : Int)) ∧
 ((0 : Int) ≤ n_5 ∧ (0 : Int) < (2 : Int)) ∧
 bif decide (n_4 % (2 : Int) ≠ n_5 % (2 : Int)) then
 ((-9223372036854775808 : Int) ≤ n_2 + n_3 ∧ n_2 + n_3 ≤ (9223372036854775807 : Int)) ∧
 ((0 : Int) ≤ n_4 ∧ (0 : Int) < (2 : Int) ∧ n_4 ≤ Go.IntKind.i64.max) ∧
 ((0 : Int) ≤ n_5 ∧ (0 : Int) < (2 : Int) ∧ n_5 ≤ Go.IntKind.i64.max) ∧
 ((-9223372036854775808 : Int) ≤ n_3 * (2 : Int) ∧ n_3 * (2 : Int) ≤ (9223372036854775807 : Int)) ∧
 ((-9223372036854775808 : Int) ≤ n_6 + (1 : Int) ∧ n_6 + (1 : Int) ≤ (9223372036854775807 : Int)) ∧
 ((0 : Int) ≤ n_6 + (1 : Int) ∧
 n_6 + (1 : Int) ≤ (8 : Int) ∧
 n_2 + n_3 = (↑(xoN n.toNat n_1.toNat (n_6 + (1 : Int)).toNat) : Int) ∧
 n_3 * (2 : Int) = (↑((2 : Nat) ^ (n_6 + (1 : Int)).toNat) : Int) ∧
 n_4 / (2 : Int) = (↑(n.toNat / (2 : Nat) ^ (n_6 + (1 : Int)).toNat) : Int) ∧
 n_5 / (2 : Int) = (↑(n_1.toNat / (2 : Nat) ^ (n_6 + (1 : Int)).toNat) : Int)) ∧
 ((8 : Int) - (n_6 + (1 : Int))).toNat < ((8 : Int) - n_6).toNat
 else
 ((0 : Int) ≤ n_4 ∧ (0 : Int) < (2 : Int) ∧ n_4 ≤ Go.IntKind.i64.max) ∧
 ((0 : Int) ≤ n_5 ∧ (0 : Int) < (2 : Int) ∧ n_5 ≤ Go.IntKind.i64.max) ∧
 ((-9223372036854775808 : Int) ≤ n_3 * (2 : Int) ∧ n_3 * (2 : Int) ≤ (9223372036854775807 : Int)) ∧
 ((-9223372036854775808 : Int) ≤ n_6 + (1 : Int) ∧ n_6 + (1 : Int) ≤ (9223372036854775807 : Int)) ∧
 ((0 : Int) ≤ n_6 + (1 : Int) ∧
 n_6 + (1 : Int) ≤ (8 : Int) ∧
 n_2 = (↑(xoN n.toNat n_1.toNat (n_6 + (1 : Int)).toNat) : Int) ∧
 n_3 * (2 : Int) = (↑((2 : Nat) ^ (n_6 + (1 : Int)).toNat) : Int) ∧
 n_4 / (2 : Int) = (↑(n.toNat / (2 : Nat) ^ (n_6 + (1 : Int)).toNat) : Int) ∧
 n_5 / (2 : Int) = (↑(n_1.toNat / (2 : Nat) ^ (n_6 + (1 : Int)).toNat) : Int)) ∧
 ((8 : Int) - (n_6 + (1 : Int))).toNat < ((8 : Int) - n_6).toNat
 else Go.IntKind.u8.wrap n_2 = xo n n_1
theorem e154 : ct154.VC (base.with sp61) Tryz.f154.results.toList Tryz.f154.ntmps (Tryz.f154.ntmps - ct154.ps.length) (bodyOf Tryz.f154) ann154 = P154 := by kernel_rfl
noncomputable def sp154 : SpecT := addS sp61 154 (mkF ct154)
def P153 : Prop :=
 ∀ (l : List (List CD)),
 l.length ≤ (9223372036854775807 : Nat) →
 l.length ≤ (1000 : Nat) →
 (((0 : Nat) + l.length) * (1 : Nat) ≤ (140737488355328 : Nat) ∧ (0 : Nat) + l.length ≤ (9223372036854775807 : Nat)) ∧
 ((([] ++ l).length + (1 : Nat)) * (1 : Nat) ≤ (140737488355328 : Nat) ∧ ([] ++ l).length + (1 : Nat) ≤ (9223372036854775807 : Nat)) ∧
 ((l.length + (1 : Nat) ≤ ([] ++ l ++ [[CD.int (6 : Int)]]).length ∧
 ([] ++ l ++ [[CD.int (6 : Int)]]).length ≤ l.length + (1 : Nat) + padm l ∧
 [] ++ l ++ [[CD.int (6 : Int)]] = padN l (([] ++ l ++ [[CD.int (6 : Int)]]).length - l.length - (1 : Nat))) ∧
 True) ∧
 ∀ (l_1 : List (List CD)),
 l_1.length ≤ (9223372036854775807 : Nat) →
 l.length + (1 : Nat) ≤ l_1.length ∧
 l_1.length ≤ l.length + (1 : Nat) + padm l ∧
 l_1 = padN l (l_1.length - l.length - (1 : Nat)) →
 l_1.length ≤ (9223372036854775807 : Nat) →
 ((0 : Int) ≤ (↑l_1.length : Int) ∧ (0 : Int) < (136 : Int)) ∧
 bif decide ((↑l_1.length : Int) % (136 : Int) ≠ (0 : Int)) then
 ((l_1.length + (1 : Nat)) * (1 : Nat) ≤ (140737488355328 : Nat) ∧ l_1.length + (1 : Nat) ≤ (9223372036854775807 : Nat)) ∧
 (l.length + (1 : Nat) ≤ (l_1 ++ [[CD.int (0 : Int)]]).length ∧
 (l_1 ++ [[CD.int (0 : Int)]]).length ≤ l.length + (1 : Nat) + padm l ∧
 l_1 ++ [[CD.int (0 : Int)]] =
 padN l ((l_1 ++ [[CD.int (0 : Int)]]).length - l.length - (1 : Nat))) ∧
 (l.length + (200 : Nat)).sub (l_1 ++ [[CD.int (0 : Int)]]).length < (l.length + (200 : Nat)).sub l_1.length
 else
 l_1.length ≤ (9223372036854775807 : Nat) →
 ((-9223372036854775808 : Int) ≤ (↑l_1.length : Int) - (1 : Int) ∧ (↑l_1.length : Int) - (1 : Int) ≤ (9223372036854775807 : Int)) ∧
 (l_1.length ≤ (9223372036854775807 : Nat) →
 ((-9223372036854775808 : Int) ≤ (↑l_1.length : Int) - (1 : Int) ∧ (↑l_1.length : Int) - (1 : Int) ≤ (9223372036854775807 : Int)) ∧
 ((0 : Int) ≤ (↑l_1.length : Int) - (1 : Int) ∧ (↑l_1.length : Int) - (1 : Int) < (↑l_1.length : Int)) ∧
 ((↑l_1.length : Int) - (1 : Int)).toNat < l_1.length ∧
 ((0 : Int) ≤ (↑l_1.length : Int) - (1 : Int) ∧ (↑l_1.length : Int) - (1 : Int) < (↑l_1.length : Int)) ∧
 ((↑l_1.length : Int) - (1 : Int)).toNat < l_1.length ∧
 l_1.set ((↑l_1.length : Int) - (1 : Int)).toNat
 ((l_1.getD ((↑l_1.length : Int) - (1 : Int)).toNat []).set (0 : Nat)
 (CD.int
 (Go.IntKind.u8.wrap
 (((l_1.getD ((↑l_1.length : Int) - (1 : Int)).toNat []).getD (0 : Nat) (CD.int (0 : Int))).toInt + (128 : Int))))) =
 padL l)
theorem e153 : ct153.VC (base.with sp154) Tryz.f153.results.toList Tryz.f153.ntmps (Tryz.f153.ntmps - ct153.ps.length) (bodyOf Tryz.f153) ann153 = P153 := by kernel_rfl
noncomputable def sp153 : SpecT := addS sp154 153 (mkF ct153)
def P111 : Prop :=
 ∀ (l : List (List CD)),
 l.length ≤ (9223372036854775807 : Nat) →
 l.length ≤ (1000 : Nat) ∧ areB l →
 l.length ≤ (1000 : Nat) ∧
 ((0 : Int) ≤ (200 : Int) ∧ (200 : Int) ≤ (200 : Int) ∧ (↑(1 : Nat) : Int) * (200 : Int) ≤ (140737488355328 : Int) ∧ (200 : Int) ≤ (9223372036854775807 : Int)) ∧
 (((padL l = padL l ∧
 (0 : Int) ≤ (0 : Int) ∧
 (0 : Int) ≤ (↑(padL l).length : Int) ∧
 (0 : Int) % (136 : Int) = (0 : Int) ∧
 [[CD.int (0 : Int)], [CD.int (0 : Int)], [CD.int (0 : Int)], [CD.int (0 : Int)], [CD.int (0 : Int)],
 [CD.int (0 : Int)], [CD.int (0 : Int)], [CD.int (0 : Int)], [CD.int (0 : Int)], [CD.int (0 : Int)],
 [CD.int (0 : Int)], [CD.int (0 : Int)], [CD.int (0 : Int)], [CD.int (0 : Int)], [CD.int (0 : Int)],
 [CD.int (0 : Int)], [CD.int (0 : Int)], [CD.int (0 : Int)], [CD.int (0 : Int)], [CD.int (0 : Int)],
 [CD.int (0 : Int)], [CD.int (0 : Int)], [CD.int (0 : Int)], [CD.int (0 : Int)], [CD.int (0 : Int)],
 [CD.int (0 : Int)], [CD.int (0 : Int)], [CD.int (0 : Int)], [CD.int (0 : Int)], [CD.int (0 : Int)],
 [CD.int (0 : Int)], [CD.int (0 : Int)], [CD.int (0 : Int)], [CD.int (0 : Int)], [CD.int (0 : Int)],
 [CD.int (0 : Int)], [CD.int (0 : Int)], [CD.int (0 : Int)], [CD.int (0 : Int)], [CD.int (0 : Int)],
 [CD.int (0 : Int)], [CD.int (0 : Int)], [CD.int (0 : Int)], [CD.int (0 : Int)], [CD.int (0 : Int)],
 [CD.int (0 : Int)], [CD.int (0 : Int)], [CD.int (0 : Int)], [CD.int (0 : Int)], [CD.int (0 : Int)],
 [CD.int (0 : Int)], [CD.int (0 : Int)], [CD.int (0 : Int)], [CD.int (0 : Int)], [CD.int (0 : Int)],
 [CD.int (0 : Int)], [CD.int (0 : Int)], [CD.int (0 : Int)], [CD.int (0 : Int)], [CD.int (0 : Int)],
 [CD.int (0 : Int)], [CD.int (0 : Int)], [CD.int (0 : Int)], [CD.int (0 : Int)], [CD.int (0 : Int)],
 [CD.int (0 : Int)], [CD.int (0 : Int)], [CD.int (0 : Int)], [CD.int (0 : Int)], [CD.int (0 : Int)],
 [CD.int (0 : Int)], [CD.int (0 : Int)], [CD.int (0 : Int)], [CD.int (0 : Int)], [CD.int (0 : Int)],
 [CD.int (0 : Int)], [CD.int (0 : Int)], [CD.int (0 : Int)], [CD.int (0 : Int)], [CD.int (0 : Int)],
 [CD.int (0 : Int)], [CD.int (0 : Int)], [CD.int (0 : Int)], [CD.int (0 : Int)], [CD.int (0 : Int)],
 [CD.int (0 : Int)], [CD.int (0 : Int)], [CD.int (0 : Int)], [CD.int (0 : Int)], [CD.int (0 : Int)],
 [CD.int (0 : Int)], [CD.int (0 : Int)], [CD.int (0 : Int)], [CD.int (0 : Int)], [CD.int (0 : Int)],
 [CD.int (0 : Int)], [CD.int (0 : Int)], [CD.int (0 : Int)], [CD.int (0 : Int)], [CD.int (0 : Int)],
 [CD.int (0 : Int)], [CD.int (0 : Int)], [CD.int (0 : Int)], [CD.int (0 : Int)], [CD.int (0 : Int)],
 [CD.int (0 : Int)], [CD.int (0 : Int)], [CD.int (0 : Int)], [CD.int (0 : Int)], [CD.int (0 : Int)],
 [CD.int (0 : Int)], [CD.int (0 : Int)], [CD.int (0 : Int)], [CD.int (0 : Int)], [CD.int (0 : Int)],
 [CD.int (0 : Int)], [CD.int (0 : Int)], [CD.int (0 : Int)], [CD.int (0 : Int)], [CD.int (0 : Int)],
 [CD.int (0 : Int)], [CD.int (0 : Int)], [CD.int (0 : Int)], [CD.int (0 : Int)], [CD.int (0 : Int)],
 [CD.int (0 : Int)], [CD.int (0 : Int)], [CD.int (0 : Int)], [CD.int (0 : Int)], [CD.int (0 : Int)],
 [CD.int (0 : Int)], [CD.int (0 : Int)], [CD.int (0 : Int)], [CD.int (0 : Int)], [CD.int (0 : Int)],
 [CD.int (0 : Int)], [CD.int (0 : Int)], [CD.int (0 : Int)], [CD.int (0 : Int)], [CD.int (0 : Int)],
 [CD.int (0 : Int)], [CD.int (0 : Int)], [CD.int (0 : Int)], [CD.int (0 : Int)], [CD.int (0 : Int)],
 [CD.int (0 : Int)], [CD.int (0 : Int)], [CD.int (0 : Int)], [CD.int (0 : Int)], [CD.int (0 : Int)],
 [CD.int (0 : Int)], [CD.int (0 : Int)], [CD.int (0 : Int)], [CD.int (0 : Int)], [CD.int (0 : Int)],
 [CD.int (0 : Int)], [CD.int (0 : Int)], [CD.int (0 : Int)], [CD.int (0 : Int)], [CD.int (0 : Int)],
 [CD.int (0 : Int)], [CD.int (0 : Int)], [CD.int (0 : Int)], [CD.int (0 : Int)], [CD.int (0 : Int)],
 [CD.int (0 : Int)], [CD.int (0 : Int)], [CD.int (0 : Int)], [CD.int (0 : Int)], [CD.int (0 : Int)],
 [CD.int (0 : Int)], [CD.int (0 : Int)], [CD.int (0 : Int)], [CD.int (0 : Int)], [CD.int (0 : Int)],
 [CD.int (0 : Int)], [CD.int (0 : Int)], [CD.int (0 : Int)], [CD.int (0 : Int)], [CD.int (0 : Int)],
 [CD.int (0 : Int)], [CD.int (0 : Int)], [CD.int (0 : Int)], [CD.int (0 : Int)], [CD.int (0 : Int)],
 [CD.int (0 : Int)], [CD.int (0 : Int)], [CD.int (0 : Int)], [CD.int (0 : Int)], [CD.int (0 : Int)],
 [CD.int (0 : Int)], [CD.int (0 : Int)], [CD.int (0 : Int)], [CD.int (0 : Int)], [CD.int (0 : Int)],
 [CD.int (0 : Int)], [CD.int (0 : Int)], [CD.int (0 : Int)], [CD.int (0 : Int)], [CD.int (0 : Int)]] =
 List.map row1 (blkR (padL l) (0 : Nat))) ∧
 True) ∧
 ∀ (n : Int) (l_1 l_2 : List (List CD)),
 l_1.length ≤ (9223372036854775807 : Nat) →
 l_2.length ≤ (9223372036854775807 : Nat) →
 l_1 = padL l ∧
 (0 : Int) ≤ n ∧
 n ≤ (↑l_1.length : Int) ∧
 n % (136 : Int) = (0 : Int) ∧
 l_2 = List.map row1 (blkR l_1 (n.toNat / (136 : Nat))) →
 l_1.length ≤ (9223372036854775807 : Nat) →
 bif decide (n < (↑l_1.length : Int)) then
 ((n = n ∧
 l_1 = l_1 ∧
 (0 : Int) ≤ (0 : Int) ∧
 (0 : Int) ≤ (136 : Int) ∧
 l_2 =
 List.map row1
 (xsN xo (ints l_2) l_1 n.toNat
 (0 : Nat))) ∧
 True) ∧
 ∀ (n_1 n_2 : Int) (l_3 l_4 : List (List CD)),
 l_3.length ≤ (9223372036854775807 : Nat) →
 l_4.length ≤ (9223372036854775807 : Nat) →
 n_1 = n ∧
 l_3 = l_1 ∧
 (0 : Int) ≤ n_2 ∧
 n_2 ≤ (136 : Int) ∧
 l_4 =
 List.map row1
 (xsN xo (ints l_2) l_1
 n.toNat n_2.toNat) →
 bif decide (n_2 < (136 : Int)) then
 ((0 : Int) ≤ n_2 ∧ n_2 < (↑l_4.length : Int)) ∧
 n_2.toNat < l_4.length ∧
 ((-9223372036854775808 : Int) ≤ n_1 + n_2 ∧ n_1 + n_2 ≤ (9223372036854775807 : Int)) ∧
 ((0 : Int) ≤ n_1 + n_2 ∧ n_1 + n_2 < (↑l_3.length : Int)) ∧
 (n_1 + n_2).toNat < l_3.length ∧
 (((0 : Int) ≤ ((l_4.getD n_2.toNat []).getD (0 : Nat) (CD.int (0 : Int))).toInt ∧
 ((l_4.getD n_2.toNat []).getD (0 : Nat) (CD.int (0 : Int))).toInt < (256 : Int)) ∧
 (0 : Int) ≤ ((l_3.getD (n_1 + n_2).toNat []).getD (0 : Nat) (CD.int (0 : Int))).toInt ∧
 ((l_3.getD (n_1 + n_2).toNat []).getD (0 : Nat) (CD.int (0 : Int))).toInt < (256 : Int)) ∧
 ((0 : Int) ≤ n_2 ∧ n_2 < (↑l_4.length : Int)) ∧
 n_2.toNat < l_4.length ∧
 ((-9223372036854775808 : Int) ≤ n_2 + (1 : Int) ∧ n_2 + (1 : Int) ≤ (9223372036854775807 : Int)) ∧
 (n_1 = n ∧
 l_3 = l_1 ∧
 (0 : Int) ≤ n_2 + (1 : Int) ∧
 n_2 + (1 : Int) ≤ (136 : Int) ∧
 l_4.set n_2.toNat
 ((l_4.getD n_2.toNat []).set (0 : Nat)
 (CD.int
 (xo
 ((l_4.getD n_2.toNat []).getD (0 : Nat) (CD.int (0 : Int))).toInt
 ((l_3.getD (n_1 + n_2).toNat []).getD (0 : Nat) (CD.int (0 : Int))).toInt))) =
 List.map row1
 (xsN xo
 (ints l_2) l_1 n.toNat (n_2 + (1 : Int)).toNat)) ∧
 ((136 : Int) - (n_2 + (1 : Int))).toNat < ((136 : Int) - n_2).toNat
 else
 (l_4.length ≤ (200 : Nat) ∧ areB l_4) ∧
 areW (rbN l_4 l_4.length) ∧
 areW
 (permR (rbN l_4 l_4.length)) ∧
 ((-9223372036854775808 : Int) ≤ n_1 + (136 : Int) ∧ n_1 + (136 : Int) ≤ (9223372036854775807 : Int)) ∧
 (l_3 = padL l ∧
 (0 : Int) ≤ n_1 + (136 : Int) ∧
 n_1 + (136 : Int) ≤ (↑l_3.length : Int) ∧
 (n_1 + (136 : Int)) % (136 : Int) = (0 : Int) ∧
 List.map row1
 (bysL
 (permR (rbN l_4 l_4.length))) =
 List.map row1
 (blkR l_3 ((n_1 + (136 : Int)).toNat / (136 : Nat)))) ∧
 ((↑l_3.length : Int) - (n_1 + (136 : Int))).toNat < ((↑l_1.length : Int) - n).toNat
 else
 l_2 =
 List.map row1
 (blkR (padL l)
 ((padL l).length / (136 : Nat))) ∧
 True) ∧
 ∀ (l_1 : List (List CD)),
 l_1.length ≤ (9223372036854775807 : Nat) →
 l_1 =
 List.map row1
 (blkR (padL l) ((padL l).length / (136 : Nat))) →
 ((0 : Int) ≤ (0 : Int) ∧ (0 : Int) ≤ (32 : Int) ∧ (32 : Int) ≤ (↑l_1.length : Int)) ∧
 List.drop (0 : Nat) (List.take (32 : Nat) l_1) = List.map row1 (sumR l)
theorem e111 : ct111.VC (base.with sp153) Tryz.f111.results.toList Tryz.f111.ntmps (Tryz.f111.ntmps - ct111.ps.length) (bodyOf Tryz.f111) ann111 = P111 := by kernel_rfl
noncomputable def sp111 : SpecT := addS sp153 111 (mkF ct111)
end Go.Proofs.YteiecapbaeajdaaGreatDoor
namespace Go.Proofs.YteiecapbaeajdaaGreatDoor
open Go Go.Avc Go.Proofs
set_option linter.unusedVariables false
set_option linter.unusedSimpArgs false
set_option maxRecDepth 100000
theorem vc146 : P146 := by
  rintro p' b s a hs ⟨h0, h1⟩
  obtain ⟨p, rfl⟩ := ex_nat h0
  have e1 : ((p : Int) / 8).toNat = p / 8 := by omega
  have e2 : (8 : Int) * ((p : Int) % 8) = ((8 * (p % 8) : Nat) : Int) := by omega
  rw [i64max, e1, e2]
  simp only [Int.toNat_natCast, Nat.mul_one]
  exact ⟨by omega, by omega, by omega, by omega, by omega, by omega, by omega, by omega, rfl, by trivial⟩
theorem ok146 : SpecOk (base.with sp155) 146 (mkF ct146) := spec_ct (fn := Tryz.f146) (c := bodyOf Tryz.f146) (k := Tryz.f146.ntmps - ct146.ps.length) (ct := ct146) c155 Tryz.func146 (by kernel_rfl) noAnn (by kernel_rfl) (fun vs w _ => Tryz.call146 vs w) (by rw [e146]; exact vc146)
theorem c146 : (base.with sp146).Ok := addS_ok c155 ok146
theorem putS_len (s : List Int) (p : Nat) (b : Int) : (putS s p b).length = s.length := List.length_set
theorem putS_w {s : List Int} (h : areW s) (p : Nat) (b : Int) : areW (putS s p b) := set_w h (xr_any _ _) _
def okH (h : Hs) : Prop := h.1.length = 25 ∧ areW h.1 ∧ h.2 < 136
theorem step_ok {h : Hs} (k : okH h) (b : Int) : okH (step1 h b) := by
  obtain ⟨h1, h2, h3⟩ := k
  unfold step1
  split
  · obtain ⟨k1, k2⟩ := perm_ok (s := putS h.1 h.2 b) (by rw [putS_len]; exact h1) (putS_w h2 _ _)
    exact ⟨k1, k2, by show 0 < 136; decide⟩
  · exact ⟨by rw [putS_len]; exact h1, putS_w h2 _ _, by show h.2 + 1 < 136; omega⟩
theorem wr_ok {h : Hs} (k : okH h) (l : List (List CD)) : ∀ n, okH (wrN h l n)
  | 0 => k
  | n + 1 => step_ok (wr_ok k l n) _
theorem step_lt {h : Hs} (k : h.2 < 136) (b : Int) : (step1 h b).2 < 136 := by
  unfold step1
  split
  · show 0 < 136; decide
  · show h.2 + 1 < 136; omega
theorem wr_lt {h : Hs} (k : h.2 < 136) (l : List (List CD)) : ∀ n, (wrN h l n).2 < 136
  | 0 => k
  | n + 1 => step_lt (wr_lt k l n) _
theorem vc99 : P99 := by
  rintro l s a' _ hs ⟨h0, h1⟩ _
  obtain ⟨a, rfl⟩ := ex_nat h0
  rw [Int.toNat_natCast]
  refine ⟨⟨⟨rfl, rfl, by omega, by omega, rfl, rfl⟩, trivial⟩, ?_⟩
  rintro l2 n i' s2 a2 _ _ ⟨rfl, rfl, h2, h3, hs2, ha2⟩
  obtain ⟨i, rfl⟩ := ex_nat h2
  rw [Int.toNat_natCast] at hs2 ha2
  have hlt := wr_lt (h := (s, a)) (show a < 136 by omega) l2 i
  refine condI (fun h => ?_) fun h => ?_
  · simp only [decide_eq_true_eq] at h
    refine ⟨by omega, by omega, by omega, by omega, ?_⟩
    rw [rv_def, suc_nat, wrN, Int.toNat_natCast, ha2, Int.toNat_natCast, hs2]
    refine condI (fun h4 => ?_) fun h4 => ?_
    · simp only [decide_eq_true_eq] at h4
      refine ⟨trivial, by omega, ⟨rfl, rfl, by omega, by omega, ?_, ?_⟩, by omega⟩
      · unfold step1; rw [if_pos (by omega)]
      · unfold step1; rw [if_pos (by omega)]; rfl
    · simp only [decide_eq_false_iff_not] at h4
      refine ⟨by omega, ⟨rfl, rfl, by omega, by omega, ?_, ?_⟩, by omega⟩
      · unfold step1; rw [if_neg (by omega)]
      · unfold step1; rw [if_neg (by omega)]; rfl
  · simp only [decide_eq_false_iff_not] at h
    have hi : i = l2.length := by omega
    subst hi
    exact ⟨hs2, ha2⟩
theorem ok99 : SpecOk (base.with sp146) 99 (mkF ct99) := spec_ct (fn := Tryz.f99) (c := bodyOf Tryz.f99) (k := Tryz.f99.ntmps - ct99.ps.length) (ct := ct99) c146 Tryz.func99 (by kernel_rfl) ann99 (by kernel_rfl) (fun vs w _ => Tryz.call99 vs w) (by rw [e99]; exact vc99)
theorem c99 : (base.with sp99).Ok := addS_ok c146 ok99
theorem vc100 : P100 := by
  rintro s a' hs ⟨hw, h0, h1⟩
  obtain ⟨a, rfl⟩ := ex_nat h0
  rw [Int.toNat_natCast]
  have k := perm_ok (s := putS (putS s a 6) 135 128) (by rw [putS_len, putS_len]; exact hs) (putS_w (putS_w hw _ _) _ _)
  refine ⟨by omega, by omega, trivial, k.2, by omega, by omega, by omega, ?_, rfl, rfl⟩
  rw [List.drop_zero, fin, hid_eq]
theorem ok100 : SpecOk (base.with sp99) 100 (mkF ct100) := spec_ct (fn := Tryz.f100) (c := bodyOf Tryz.f100) (k := Tryz.f100.ntmps - ct100.ps.length) (ct := ct100) c99 Tryz.func100 (by kernel_rfl) noAnn (by kernel_rfl) (fun vs w _ => Tryz.call100 vs w) (by rw [e100]; exact vc100)
theorem c100 : (base.with sp100).Ok := addS_ok c99 ok100
theorem rep0_w (n : Nat) : areW (List.replicate n 0) := fun j => by
  rw [List.getD_eq_getElem?_getD, List.getElem?_replicate]
  split <;> exact isW0
theorem hs0_ok : okH hs0 := ⟨rfl, rep0_w 25, by decide⟩
theorem wrP_ok (l : List (List CD)) : ∀ n, okH (wrP l n)
  | 0 => hs0_ok
  | n + 1 => wr_ok (wrP_ok l n) _ _
theorem vc61 : P61 := by
  intro l _ hp _
  refine ⟨⟨⟨rfl, rfl, by omega, by omega, rfl, rfl⟩, trivial⟩, ?_⟩
  rintro l2 n i' _ s a _ _ _ ⟨rfl, rfl, h0, h1, hs, ha⟩
  obtain ⟨i, rfl⟩ := ex_nat h0
  rw [Int.toNat_natCast] at hs ha
  obtain ⟨k1, k2, k3⟩ := wrP_ok l2 i
  refine condI (fun h => ?_) fun h => ?_
  · simp only [decide_eq_true_eq] at h
    rw [suc_nat, ha, hs, Int.toNat_natCast, Int.toNat_natCast]
    exact ⟨by omega, by omega, by omega, by omega, ⟨rfl, rfl, by omega, by omega, rfl, rfl⟩, by omega⟩
  · simp only [decide_eq_false_iff_not] at h
    have hi : i = l2.length := by omega
    subst hi
    rw [ha, hs, Int.toNat_natCast, sumP, hid_eq]
    exact ⟨⟨k2, by omega, by omega⟩, rfl⟩
theorem ok61 : SpecOk (base.with sp100) 61 (mkF ct61) := spec_ct (fn := Tryz.f61) (c := bodyOf Tryz.f61) (k := Tryz.f61.ntmps - ct61.ps.length) (ct := ct61) c100 Tryz.func61 (by kernel_rfl) ann61 (by kernel_rfl) (fun vs w _ => Tryz.call61 vs w) (by rw [e61]; exact vc61)
theorem c61 : (base.with sp61).Ok := addS_ok c100 ok61
theorem xo_lt (a b : Nat) : ∀ n, xoN a b n < 2 ^ n
  | 0 => Nat.one_pos
  | n + 1 => by
    have := xo_lt a b n
    rw [xoN, Nat.pow_succ]
    split <;> omega
theorem xo_rng (a b : Int) : 0 ≤ xo a b ∧ xo a b < 256 := by
  have := xo_lt a.toNat b.toNat 8
  unfold xo
  rw [show (2 : Nat) ^ 8 = 256 from by decide] at this
  exact ⟨by omega, by omega⟩
theorem i64_id {n : Int} (h : 0 ≤ n) (h2 : n < 256) : IntKind.i64.wrap n = n := by
  unfold IntKind.wrap
  simp [IntKind.signed, IntKind.bits]
  omega
theorem vc154 : P154 := by
  rintro a' b' ⟨⟨a0, a1⟩, b0, b1⟩
  obtain ⟨a, rfl⟩ := ex_nat a0
  obtain ⟨b, rfl⟩ := ex_nat b0
  rw [i64_id a0 a1, i64_id b0 b1]
  simp only [Int.toNat_natCast]
  refine ⟨⟨⟨by omega, by omega, rfl, rfl, by omega, by omega⟩, trivial⟩, ?_⟩
  rintro o e x y i' ⟨h0, h1, rfl, rfl, rfl, rfl⟩
  obtain ⟨i, rfl⟩ := ex_nat h0
  rw [i64max]
  simp only [Int.toNat_natCast, suc_nat]
  refine condI (fun h => ?_) fun h => ?_
  · simp only [decide_eq_true_eq] at h
    have hp : 2 ^ i ≤ 2 ^ 7 := Nat.pow_le_pow_right (by decide) (by omega)
    rw [show (2 : Nat) ^ 7 = 128 from by decide] at hp
    have hx := xo_lt a b i
    have ha : a / 2 ^ i ≤ a := Nat.div_le_self _ _
    have hb : b / 2 ^ i ≤ b := Nat.div_le_self _ _
    have ea : a / 2 ^ (i + 1) = a / 2 ^ i / 2 := by rw [Nat.pow_succ, Nat.div_div_eq_div_mul]
    have eb : b / 2 ^ (i + 1) = b / 2 ^ i / 2 := by rw [Nat.pow_succ, Nat.div_div_eq_div_mul]
    have ep : 2 ^ (i + 1) = 2 ^ i * 2 := Nat.pow_succ 2 i
    refine ⟨⟨Int.natCast_nonneg _, by decide⟩, ⟨Int.natCast_nonneg _, by decide⟩, condI (fun h4 => ?_) fun h4 => ?_⟩
    · simp only [decide_eq_true_eq] at h4
      have ex : xoN a b (i + 1) = xoN a b i + 2 ^ i := by rw [xoN, if_pos (by omega)]
      rw [ex, ea, eb, ep]
      generalize 2 ^ i = P at *
      generalize a / P = X at *
      generalize b / P = Y at *
      generalize xoN a b i = O at *
      exact ⟨by omega, by omega, by omega, by omega, by omega, ⟨by omega, by omega, by omega, by omega, by omega, by omega⟩, by omega⟩
    · simp only [decide_eq_false_iff_not] at h4
      have ex : xoN a b (i + 1) = xoN a b i := by rw [xoN, if_neg (by omega)]
      rw [ex, ea, eb, ep]
      generalize 2 ^ i = P at *
      generalize a / P = X at *
      generalize b / P = Y at *
      generalize xoN a b i = O at *
      exact ⟨by omega, by omega, by omega, by omega, ⟨by omega, by omega, by omega, by omega, by omega, by omega⟩, by omega⟩
  · simp only [decide_eq_false_iff_not] at h
    have hi : i = 8 := by omega
    subst hi
    have hx := xo_lt a b 8
    rw [show (2 : Nat) ^ 8 = 256 from by decide] at hx
    unfold xo
    rw [wrap_u8K, Int.toNat_natCast, Int.toNat_natCast]
    omega
theorem ok154 : SpecOk (base.with sp61) 154 (mkF ct154) := spec_ct (fn := Tryz.f154) (c := bodyOf Tryz.f154) (k := Tryz.f154.ntmps - ct154.ps.length) (ct := ct154) c61 Tryz.func154 (by kernel_rfl) ann154 (by kernel_rfl) (fun vs w _ => Tryz.call154 vs w) (by rw [e154]; exact vc154)
theorem c154 : (base.with sp154).Ok := addS_ok c61 ok154
theorem padN_len (l : List (List CD)) (m : Nat) : (padN l m).length = l.length + 1 + m := by
  unfold padN
  simp only [List.length_append, List.length_cons, List.length_replicate]
  omega
theorem padN_s (l : List (List CD)) (m : Nat) : padN l m ++ [[.int 0]] = padN l (m + 1) := by
  unfold padN
  rw [List.append_assoc, List.cons_append, ← List.replicate_succ']
theorem last_set {α : Type} (A : List α) (x y : α) : (A ++ [x]).set A.length y = A ++ [y] := by
  rw [List.set_append_right _ _ (Nat.le_refl _), Nat.sub_self]; rfl
theorem last_get {α : Type} (A : List α) (x d : α) : (A ++ [x]).getD A.length d = x := by
  rw [List.getD_eq_getElem?_getD, List.getElem?_append_right (Nat.le_refl _), Nat.sub_self]; rfl
theorem pad_end (l : List (List CD)) (m : Nat) : (padN l m).set (l.length + m) (((padN l m).getD (l.length + m) []).set 0 (.int (IntKind.u8.wrap (rv (padN l m) (l.length + m) + 128)))) = l ++ (padT m).map row1 := by
  cases m with
  | zero =>
    have e : padN l 0 = l ++ [[.int 6]] := rfl
    rw [e, Nat.add_zero, last_get, last_set]
    unfold rv
    rw [last_get]
    rfl
  | succ m =>
    have e : padN l (m + 1) = (l ++ [.int 6] :: List.replicate m [.int 0]) ++ [[.int 0]] := by rw [← padN_s]; rfl
    have hl : (l ++ [CD.int 6] :: List.replicate m [CD.int 0]).length = l.length + (m + 1) := by
      simp only [List.length_append, List.length_cons, List.length_replicate]
    rw [e, ← hl, last_get, last_set]
    unfold rv
    rw [last_get]
    have e2 : padT (m + 1) = 6 :: (List.replicate m 0 ++ [128]) := by unfold padT; rw [if_neg (by omega), Nat.add_sub_cancel]
    rw [e2, List.map_cons, List.map_append, List.map_replicate, List.append_assoc]
    rfl
theorem vc153 : P153 := by
  intro l _ hl
  have e0 : [] ++ l ++ [[CD.int 6]] = padN l 0 := rfl
  rw [e0, padN_len, List.nil_append]
  refine ⟨by omega, by omega, ⟨⟨by omega, by omega, by rw [show l.length + 1 + 0 - l.length - 1 = 0 from by omega]⟩, trivial⟩, ?_⟩
  rintro o _ ⟨h0, h1, h2⟩ _
  obtain ⟨m, hm⟩ : ∃ m, o.length = l.length + 1 + m := ⟨o.length - l.length - 1, by omega⟩
  rw [show o.length - l.length - 1 = m from by omega] at h2
  have hpm : padm l = 135 - l.length % 136 := rfl
  refine ⟨by omega, condI (fun h => ?_) fun h => ?_⟩
  · simp only [decide_eq_true_eq] at h
    rw [h2, padN_s, padN_len, padN_len]
    have hm2 : m < padm l := by
      rw [hm] at h h1
      omega
    exact ⟨by omega, ⟨by omega, by omega, by rw [show l.length + 1 + (m + 1) - l.length - 1 = m + 1 from by omega]⟩, by show l.length + 200 - (l.length + 1 + (m + 1)) < l.length + 200 - (l.length + 1 + m); omega⟩
  · simp only [decide_eq_false_iff_not] at h
    have hm2 : m = padm l := by
      rw [hm] at h h1
      omega
    refine fun _ => ⟨by omega, fun _ => ⟨by omega, by omega, by omega, by omega, by omega, ?_⟩⟩
    rw [rv_def, show ((o.length : Int) - 1).toNat = l.length + m from by omega, h2, pad_end, padL, hid_eq, hm2]
theorem ok153 : SpecOk (base.with sp154) 153 (mkF ct153) := spec_ct (fn := Tryz.f153) (c := bodyOf Tryz.f153) (k := Tryz.f153.ntmps - ct153.ps.length) (ct := ct153) c154 Tryz.func153 (by kernel_rfl) ann153 (by kernel_rfl) (fun vs w _ => Tryz.call153 vs w) (by rw [e153]; exact vc153)
theorem c153 : (base.with sp153).Ok := addS_ok c154 ok153
theorem padT_len (m : Nat) : (padT m).length = m + 1 := by
  unfold padT
  split
  · simp [*]
  · simp; omega
theorem padL_len (l : List (List CD)) : (padL l).length = l.length + 1 + padm l := by
  rw [padL, hid_eq, List.length_append, List.length_map, padT_len]; omega
theorem padL_mod (l : List (List CD)) : (padL l).length % 136 = 0 := by
  rw [padL_len]
  unfold padm
  omega
theorem padT_rng (m i : Nat) : 0 ≤ (padT m).getD i 0 ∧ (padT m).getD i 0 < 256 := by
  have hall : ∀ x ∈ padT m, 0 ≤ x ∧ x < 256 := by
    intro x hx
    unfold padT at hx
    split at hx
    · simp at hx; omega
    · simp at hx; omega
  rw [List.getD_eq_getElem?_getD]
  cases h : (padT m)[i]? with
  | none => exact ⟨by decide, by decide⟩
  | some x => exact hall x (List.mem_of_getElem? h)
/-- What stands in the padded bytes. -/
theorem padL_get (l : List (List CD)) (i : Nat) : rv (padL l) i = if i < l.length then rv l i else (padT (padm l)).getD (i - l.length) 0 := by
  rw [padL, hid_eq]
  by_cases h : i < l.length
  · rw [if_pos h]
    unfold rv
    rw [List.getD_eq_getElem?_getD (l := l ++ _), List.getElem?_append_left h, ← List.getD_eq_getElem?_getD]
  · rw [if_neg h, ← rv_row1]
    unfold rv
    rw [List.getD_eq_getElem?_getD (l := l ++ _), List.getElem?_append_right (by omega), ← List.getD_eq_getElem?_getD]
theorem padL_b {l : List (List CD)} (h : areB l) : areB (padL l) := fun i => by
  rw [padL_get]
  split
  · exact h i
  · exact padT_rng _ _
theorem xs_len (o : Int → Int → Int) (S : List Int) (p : List (List CD)) (k : Nat) : ∀ n, (xsN o S p k n).length = S.length
  | 0 => rfl
  | n + 1 => by rw [xsN, List.length_set, xs_len o S p k n]
def areI (S : List Int) : Prop := ∀ j, 0 ≤ S.getD j 0 ∧ S.getD j 0 < 256
theorem set_i {S : List Int} (h : areI S) {x : Int} (hx : 0 ≤ x ∧ x < 256) (i : Nat) : areI (S.set i x) := fun j => by
  rcases Nat.lt_or_ge j S.length with hj | hj
  · rw [set_get _ _ _ _ hj]
    split
    · exact hx
    · exact h j
  · rw [List.getD_eq_getElem?_getD, List.getElem?_eq_none (by rw [List.length_set]; exact hj)]; exact ⟨by decide, by decide⟩
theorem xs_i {o : Int → Int → Int} (ho : ∀ a b, (0 ≤ a ∧ a < 256) → (0 ≤ b ∧ b < 256) → 0 ≤ o a b ∧ o a b < 256) {S : List Int} (hS : areI S) {p : List (List CD)} (hp : areB p) (k : Nat) : ∀ n, areI (xsN o S p k n)
  | 0 => hS
  | n + 1 => set_i (xs_i ho hS hp k n) (ho _ _ (xs_i ho hS hp k n n) (hp _)) n
theorem areI_B {S : List Int} (h : areI S) : areB (S.map row1) := fun i => by rw [rv_row1]; exact h i
theorem blkR_ok (p : List (List CD)) : ∀ n, (blkR p n).length = 200 ∧ areI (blkR p n)
  | 0 => ⟨by rw [blkR, List.length_replicate], fun j => by
    rw [blkR, List.getD_eq_getElem?_getD, List.getElem?_replicate]
    split <;> exact ⟨by decide, by decide⟩⟩
  | n + 1 => ⟨by rw [blkR, bysL_len], fun j => by rw [blkR]; exact bysL_rng _ _⟩
theorem wrap_isW (x : Int) : isW (IntKind.u64.wrap x) := by rw [wrap_u64']; exact ⟨by omega, by omega⟩
theorem rb_w (l : List (List CD)) : ∀ n, areW (rbN l n)
  | 0 => rep0_w 25
  | n + 1 => set_w (rb_w l n) (wrap_isW _) _
theorem ints_row1 (S : List Int) : ints (S.map row1) = S := row1_back S
theorem permR_w (s : List Int) : areW (permR s) := by rw [permR, hid_eq]; exact toW_w _
theorem vc111 : P111 := by
  rintro l _ ⟨hl, hb⟩
  have hpb := padL_b hb
  have hpm := padL_mod l
  refine ⟨hl, by omega, ⟨⟨⟨rfl, by omega, by omega, by omega, by rw [blkR, List.map_replicate]; rfl⟩, trivial⟩, ?_⟩, ?_⟩
  · rintro k' p s hpl _ ⟨rfl, h0, h1, hk, hs⟩ _
    obtain ⟨k, rfl⟩ := ex_nat h0
    rw [Int.toNat_natCast] at *
    obtain ⟨b1, b2⟩ := blkR_ok (padL l) (k / 136)
    refine condI (fun h => ?_) fun h => ?_
    · simp only [decide_eq_true_eq] at h
      rw [hs, ints_row1]
      refine ⟨⟨⟨rfl, rfl, by omega, by omega, rfl⟩, trivial⟩, ?_⟩
      rintro k' i' p2 s2 _ _ ⟨rfl, rfl, h2, h3, hs2⟩
      obtain ⟨i, rfl⟩ := ex_nat h2
      rw [Int.toNat_natCast] at hs2
      have hsl : s2.length = 200 := by rw [hs2, List.length_map, xs_len, b1]
      have hsb : areB s2 := by rw [hs2]; exact areI_B (xs_i (fun a b _ _ => xo_rng a b) b2 hpb _ _)
      refine condI (fun h4 => ?_) fun h4 => ?_
      · simp only [decide_eq_true_eq] at h4
        have e1 : ((k : Int) + (i : Int)).toNat = k + i := by omega
        rw [e1, rv_def, rv_def, Int.toNat_natCast, suc_nat]
        refine ⟨by omega, by omega, by omega, by omega, by omega, ⟨hsb _, hpb _⟩, by omega, by omega, by omega, ⟨rfl, rfl, by omega, by omega, ?_⟩, by omega⟩
        rw [hs2, row1_get (by rw [xs_len, b1]; omega)]
        show ((xsN xo _ _ _ _).map row1).set i [CD.int _] = _
        rw [row1_set, rv_row1, xsN]
      · simp only [decide_eq_false_iff_not] at h4
        have hi : i = 136 := by omega
        subst hi
        refine ⟨⟨by omega, hsb⟩, rb_w _ _, permR_w _, by omega, ⟨rfl, by omega, by omega, by omega, ?_⟩, by omega⟩
        rw [show ((k : Int) + 136).toNat / 136 = k / 136 + 1 from by omega, blkR, hsl, hs2, show 136 * (k / 136) = k from by omega]
    · simp only [decide_eq_false_iff_not] at h
      have hk2 : k = (padL l).length := by omega
      subst hk2
      exact ⟨hs, trivial⟩
  · rintro s _ hs
    obtain ⟨b1, b2⟩ := blkR_ok (padL l) ((padL l).length / 136)
    have hsl : s.length = 200 := by rw [hs, List.length_map, b1]
    refine ⟨by omega, ?_⟩
    rw [List.drop_zero, hs, sumR, hid_eq, List.map_take]
theorem ok111 : SpecOk (base.with sp153) 111 (mkF ct111) := spec_ct (fn := Tryz.f111) (c := bodyOf Tryz.f111) (k := Tryz.f111.ntmps - ct111.ps.length) (ct := ct111) c153 Tryz.func111 (by kernel_rfl) ann111 (by kernel_rfl) (fun vs w _ => Tryz.call111 vs w) (by rw [e111]; exact vc111)
theorem c111 : (base.with sp111).Ok := addS_ok c153 ok111
end Go.Proofs.YteiecapbaeajdaaGreatDoor
namespace Go.Avc
set_option linter.unusedVariables false
set_option linter.unusedSimpArgs false
/-- The closure does nothing where the function returns. -/
def Idle (P : Program) (f : FuncId) (n : Nat) : Prop := ∀ (vs : Array Value) (w : World), vs.size = n → (callFunc f vs).run P w = .ok (.enter f vs) w ∧ CallsD P f vs .returning w fun e u w' => (∃ v, e = .returned v) ∧ u = .returning ∧ w' = w
section
variable (C : Ctx) (n0 : Nat) (ann : Ann)
def evD (x : Code) (o1 o2 : Oper) (t : Tmp) (fc nc : Nat) (z : Code) (s : ES) (Q : Exit → ES → Prop) : Prop :=
  evE C n0 ann x s fun e s => match e with
    | .normal => opsE C #[o1, o2] [o1] s fun s => s.clr fun s => (match s.ev C.glob (.tmp t) with
      | .fn f caps => bif Nat.beq f fc && Nat.beq caps.length nc then evE C n0 ann z s Q else Miss 5 s
      | _ => Miss 5 s)
    | _ => False
end
def Ct.VCD (C : Ctx) (ct : Ct) (rs : List ResultVar) (nt k : Nat) (x : Code) (o1 o2 : Oper) (t : Tmp) (fc nc : Nat) (z : Code) (ann : List Dat → Ann) : Prop :=
  ct.VCG fun svs hp ds => evD C ct.bs.length (ann ds) x o1 o2 t fc nc z ⟨nt, [], svs ++ List.replicate k SV.dead, hp, []⟩ (retE C.P rs fun sv hp' => (ct.res ds).ok ct.bs.length sv hp')
theorem Mem.ent {C : Ctx} {E : Ent} {hp : List Blk} {Im : Nat → Prop} {ι : Nat → Option Value} {w : World} (m : Mem C E hp Im ι w) (D : List Deferred) : Mem C { E with dfr := D } hp Im ι w :=
  ⟨m.hv, ⟨m.mr.imlt, m.mr.imm, m.mr.sep, m.mr.mine⟩, ⟨m.since.os, m.since.tape, m.since.output, m.since.size, m.since.block, m.since.hd, m.since.im, m.since.imnew⟩, m.glob⟩
theorem Mem.ent' {C : Ctx} {E : Ent} {hp : List Blk} {Im : Nat → Prop} {ι : Nat → Option Value} {w : World} {D : List Deferred} (m : Mem C { E with dfr := D } hp Im ι w) : Mem C E hp Im ι w :=
  ⟨m.hv, ⟨m.mr.imlt, m.mr.imm, m.mr.sep, m.mr.mine⟩, ⟨m.since.os, m.since.tape, m.since.output, m.since.size, m.since.block, m.since.hd, m.since.im, m.since.imnew⟩, m.glob⟩
theorem bodyD_sound {C : Ctx} (hC : C.Ok) {f : FuncId} {fn : Func} {x z : Code} {i1 : Nat} {o1 o2 : Oper} {t : Tmp} {fc nc : Nat} (hf : C.P.funcs[f]? = some fn) (hb : fn.body = some (.seq x (.seq (.region i1 #[o1, o2] false) z)))
    (ho2 : o2.op = .defer ⟨.value (.tmp t), #[], #[]⟩) (hg2 : o2.guard = none) (hd2 : o2.dst = none) (hidle : Idle C.P fc nc) (ann : Ann) {svs : List SV} {hp : List Blk} {r : Res} {k : Nat} (hn : fn.ntmps - svs.length = k) (hn2 : svs.length + k = fn.ntmps)
    {E : Ent} {Im : Nat → Prop} {ι : Nat → Option Value} {w : World} (hE : ∀ b, hp.length ≤ b → E.ι b = none)
    (h : evD C hp.length ann x o1 o2 t fc nc z ⟨fn.ntmps, [], svs ++ List.replicate k SV.dead, hp, []⟩ (retE C.P fn.results.toList fun sv hp' => r.ok hp.length sv hp')) {vs : List Value} (hD : E.dfr = []) (hm : Mem C E hp Im ι w) (hF : Fresh hp.length ι) (hv : VRels Im ι w svs vs) :
    Calls C.P f vs.toArray w (ResPost C E Im ι w hp.length r) := by
  refine calls_of_wp_defers hf hb ?_
  have hlen := vrels_length hv
  refine wp_seq (evE_sound (E := E) (B := ⟨w, Im, ι, fun b => b < hp.length, []⟩) (n0 := hp.length) hC ann hE hF (fun b hb => hb) x _ _ _ _ _ (es_ok (by simp [hn2])) ⟨Im, ι, ⟨hD.symm, ?_, fun t => ?_, hm⟩, hF, ⟨Later.refl _ _ _, fun b hb => ⟨hb, rfl⟩⟩⟩ h fun e s a w' kk hs rr => ?_)
  · show _ = (applyOv [] (svs ++ List.replicate k SV.dead)).length
    simp [hlen, hn, applyOv]
  · show VRel Im ι w (lget (svs ++ List.replicate k SV.dead) t) _
    rw [lget_append]
    split
    · rename_i ht
      obtain ⟨v, h1, h2⟩ := vrels_lget hv t ht
      have : (vs.toArray ++ Array.replicate (fn.ntmps - vs.toArray.size) undef).getD t undef = v := by
        rw [Array.getD_eq_getD_getElem?, Array.getElem?_append_left (by simp; omega)]
        simp [h1]
      rw [this]
      exact h2
    · rw [lget_replicate]
      split <;> trivial
  · cases e with
    | normal =>
      have hops := opsE_imp [o1] s hs kk
      refine wp_seq (wp_region ?_)
      show wpOps C.P #[o1, o2] _ [0, 1] a w'
      -- behind the first operation
      have second : ∀ s' a1 w1, Next (fun s => s.clr fun s => (match s.ev C.glob (.tmp t) with
          | .fn f caps => bif Nat.beq f fc && Nat.beq caps.length nc then evE C hp.length ann z s (retE C.P fn.results.toList fun sv hp' => r.ok hp.length sv hp') else Miss 5 s
          | _ => Miss 5 s)) s' → RelF C E ⟨w, Im, ι, fun b => b < hp.length, []⟩ s' a1 w1 → wpOps C.P #[o1, o2] (Exit.then (z.wp C.P (bodyPostD C.P fn (ResPost C E Im ι w hp.length r))) (bodyPostD C.P fn (ResPost C E Im ι w hp.length r))) [1] a1 w1 := by
        intro s' a1 w1 hnx hR1
        obtain ⟨s2, hs2, e2, k2⟩ := hnx
        obtain ⟨s3, hs3, e3, k3⟩ := clr_ok hs2 k2
        obtain ⟨Im1, ι1, hRel, hFr, hA⟩ := hR1
        have hv3 : VRel Im1 ι1 w1 (s'.ev C.glob (.tmp t)) (a1.eval (.tmp t)) := ev_rel hRel.tm hRel.mem.glob (.tmp t)
        have hev : s3.ev C.glob (.tmp t) = s'.ev C.glob (.tmp t) := by rw [s3.ev_eq hs3, e3, e2]
        split at k3
        · rename_i g caps hg
          cases hb2 : (Nat.beq g fc && Nat.beq caps.length nc) with
          | false => rw [hb2] at k3; cases k3
          | true =>
            rw [hb2] at k3
            simp only [cond_true] at k3
            simp only [Bool.and_eq_true] at hb2
            cases beq_true.1 hb2.1
            have hcl := beq_true.1 hb2.2
            rw [← hev, hg] at hv3
            obtain ⟨us, hu, hus⟩ := hv3
            have hul : us.toArray.size = nc := by rw [List.size_toArray, vrels_length hus]; exact hcl
            show (if Region.wanted o2 (yielded #[o1, o2] a1.tmps) = true then _ else _)
            rw [if_pos (by simp [Region.wanted, hg2])]
            refine .inl ?_
            have hrun : (execOp a1.eval o2).run C.P w1 = .ok (.defer ⟨.fn (.func fc) us.toArray, #[]⟩) w1 := by
              unfold execOp
              rw [ho2]
              simp [resolve, hu, Deferred.ofValue]
            show Oper.upon C.P o2 a1 _ _ ((execOp a1.eval o2).run C.P w1)
            rw [hrun, Oper.upon_defer, hd2]
            subst e2
            show z.wp C.P _ { a1 with defers := ⟨.fn (.func fc) us.toArray, #[]⟩ :: a1.defers } w1
            refine evE_sound (E := { E with dfr := [⟨.fn (.func fc) us.toArray, #[]⟩] }) (B := ⟨w, Im, ι, fun b => b < hp.length, []⟩) (n0 := hp.length) hC ann hE hF (fun b hb => hb) z s3 _ _ _ w1 hs3 ⟨Im1, ι1, ⟨?_, ?_, ?_, ?_⟩, by rw [e3]; exact hFr, by rw [e3]; exact hA⟩ k3 fun e s4 a4 w4 kk4 hs4 rr4 => ?_
            · show _ :: a1.defers = _
              rw [hRel.defers, hD]
            · rw [e3]; exact hRel.size
            · rw [e3]; exact hRel.tm
            · rw [e3]; exact hRel.mem.ent _
            · obtain ⟨Im', ι', hR, hF', hA'⟩ := rr4
              have key : (match resEOf C.P s4 fn.results.toList with | some sv => forceSV sv fun sv => Res.ok hp.length r sv s4.hp | none => Miss 3 s4) → Leaves C.P fn a4.tmps (ResPost C E Im ι w hp.length r) a4.defers .returning w4 := fun kk => by
                rw [resEOf_eq hs4] at kk
                split at kk
                · rename_i sv hsv
                  rw [forceSV_eq] at kk
                  obtain ⟨v, h1, h2⟩ := resOf_run hR hsv
                  have hres : ResPost C E Im ι w hp.length r (.returned v) w4 := res_sound hC hE hA'.later hF (fun b hb => (hA'.keep b hb).2) hR.mem.ent' h2 _ kk
                  rw [hR.defers]
                  have hid := hidle us.toArray w4 hul
                  refine leaves_cons (by simp) (f := fc) (args := us.toArray) ?_ (CallsD.mono hid.2 fun e u' w' h => ?_)
                  · show (callFunc fc (#[] ++ us.toArray)).run C.P w4 = _
                    rw [Array.empty_append]; exact hid.1
                  · obtain ⟨⟨v0, rfl⟩, rfl, rfl⟩ := h
                    exact ⟨v, h1, hres⟩
                · cases kk
              cases e with
              | normal => exact key kk4
              | ret => exact key kk4
              | exit id => exact kk4.elim
              | goto l => exact kk4.elim
              | panic ch => exact kk4.elim
              | outgrown => exact kk4.elim
        · cases k3
      show (if Region.wanted o1 (yielded #[o1, o2] a.tmps) = true then _ else _)
      rcases opVC_sound (Q := Exit.then (z.wp C.P (bodyPostD C.P fn (ResPost C E Im ι w hp.length r))) (bodyPostD C.P fn (ResPost C E Im ι w hp.length r))) hC rr (guardS_imp hops) with ⟨h1, h2⟩ | ⟨h1, s', h2, h3⟩
      · rw [if_pos h1]
        exact .inl (Oper.wp_mono (fun a w ⟨s', k, r⟩ => second s' a w k r) h2)
      · rw [if_neg (by simp [h1])]
        exact second s' _ w' h2 h3
    | exit id => exact kk.elim
    | goto l => exact kk.elim
    | ret => exact kk.elim
    | panic ch => exact kk.elim
    | outgrown => exact kk.elim
theorem spec_ctD {C : Ctx} (hC : C.Ok) {f : FuncId} {fn : Func} {x z : Code} {i1 : Nat} {o1 o2 : Oper} {t : Tmp} {fc nc : Nat} (hf : C.P.funcs[f]? = some fn) (hb : fn.body = some (.seq x (.seq (.region i1 #[o1, o2] false) z)))
    (ho2 : o2.op = .defer ⟨.value (.tmp t), #[], #[]⟩) (hg2 : o2.guard = none) (hd2 : o2.dst = none) (hidle : Idle C.P fc nc) (ann : List Dat → Ann) {ct : Ct} {k : Nat} (hlenps : ct.ps.length + k = fn.ntmps) (hcall : ∀ vs : Array Value, ∀ w, vs.size = ct.ps.length → (callFunc f vs).run C.P w = .ok (.enter f vs) w)
    (hvc : ct.VCD C fn.results.toList fn.ntmps k x o1 o2 t fc nc z ann) : SpecOk C f (mkF ct) := by
  refine spec_ctG hC (fun svs hp ds => evD C ct.bs.length (ann ds) x o1 o2 t fc nc z ⟨fn.ntmps, [], svs ++ List.replicate k SV.dead, hp, []⟩ (retE C.P fn.results.toList fun sv hp' => (ct.res ds).ok ct.bs.length sv hp')) (fun svs hp ds E Im ι w vs h h1 h2 hD hE hm hF hv => ?_) hcall hvc
  rw [← h2] at h
  exact bodyD_sound hC hf hb ho2 hg2 hd2 hidle (ann ds) (k := k) (by omega) (by omega) hE h hD hm hF hv
end Go.Avc
namespace Go.Proofs.YteiecapbaeajdaaGreatDoor
open Go Go.Avc Go.Proofs
set_option linter.unusedVariables false
set_option maxRecDepth 100000
def adS (x y c : Int) : Int := (x + y + c) % 18446744073709551616
def adC (x y c : Int) : Int := (x + y + c) / 18446744073709551616
def sbD (x y c : Int) : Int := (x + 18446744073709551616 - y - c) % 18446744073709551616
def sbC (x y c : Int) : Int := if x < y + c then 1 else 0
def F190 : List SV → List Blk → CR := fun svs hp => match svs with
  | [.int .u64 x, .int .u64 y, .int .u64 c] => .need (isW x ∧ isW y ∧ 0 ≤ c ∧ c ≤ 1) (.ret (.tup [.int .u64 (adS x y c), .int .u64 (adC x y c)]) [] [])
  | _ => .bad
def F230 : List SV → List Blk → CR := fun svs hp => match svs with
  | [.int .u64 x, .int .u64 y, .int .u64 c] => .need (isW x ∧ isW y ∧ 0 ≤ c ∧ c ≤ 1) (.ret (.tup [.int .u64 (sbD x y c), .int .u64 (sbC x y c)]) [] [])
  | _ => .bad
/-- The model's entry. -/
def subEntry : Array Value → Sem Value := fun args => do
  let (x, y, b) ← Extern.MathBitsCarry.three "Sub64" args
  pure (Extern.MathBitsCarry.pair ((x + Extern.MathBitsCarry.m64 - y - b) % Extern.MathBitsCarry.m64) (if x < y + b then 1 else 0))
theorem run_subEntry {P : Program} (x y b : Nat) (hb : b ≤ 1) (w : World) :
    (subEntry #[.int .u64 x, .int .u64 y, .int .u64 b]).run P w = .ok (.tuple #[.int .u64 (((x + 18446744073709551616 - y - b) % 18446744073709551616 : Nat) : Int), .int .u64 ((if x < y + b then 1 else 0 : Nat) : Int)]) w := by
  have : b = 0 ∨ b = 1 := by omega
  rcases this with rfl | rfl <;> rfl
theorem ok190 {sp : SpecT} : SpecOk (base.with sp) 190 F190 := by
  intro svs hp K R h E Im ι w vs hm hRn hv
  unfold F190 at h
  split at h
  · rename_i x y c
    obtain ⟨⟨hx, hy, h0, h1⟩, hK, _⟩ := h
    obtain ⟨_, _, rfl, rfl, _, _, rfl, rfl, _, _, rfl, rfl, rfl⟩ := hv
    refine .inr ⟨.tuple #[.int .u64 (adS x y c), .int .u64 (adC x y c)], ?_, _, SV.tup [.int .u64 (adS x y c), .int .u64 (adC x y c)], hp, Im, ι, rfl, by rw [List.append_nil] at hK; exact hK, ⟨_, rfl, _, _, rfl, rfl, _, _, rfl, rfl, rfl⟩, hm, Nat.le_refl _, fun _ _ => rfl, Later.refl _ _ _⟩
    show (callFunc 190 #[.int .u64 x, .int .u64 y, .int .u64 c]).run Tryz.prog w = _
    rw [run_callFunc_extern Tryz.func190 (by kernel_rfl) (by kernel_rfl) (by kernel_rfl) (e := add64Entry) (by kernel_rfl), run_add64 x y c hx.1 hy.1 h0 h1]
    rfl
  · exact h.elim
theorem ok230 {sp : SpecT} : SpecOk (base.with sp) 230 F230 := by
  intro svs hp K R h E Im ι w vs hm hRn hv
  unfold F230 at h
  split at h
  · rename_i x y c
    obtain ⟨⟨hx, hy, h0, h1⟩, hK, _⟩ := h
    obtain ⟨_, _, rfl, rfl, _, _, rfl, rfl, _, _, rfl, rfl, rfl⟩ := hv
    refine .inr ⟨.tuple #[.int .u64 (sbD x y c), .int .u64 (sbC x y c)], ?_, _, SV.tup [.int .u64 (sbD x y c), .int .u64 (sbC x y c)], hp, Im, ι, rfl, by rw [List.append_nil] at hK; exact hK, ⟨_, rfl, _, _, rfl, rfl, _, _, rfl, rfl, rfl⟩, hm, Nat.le_refl _, fun _ _ => rfl, Later.refl _ _ _⟩
    show (callFunc 230 #[.int .u64 x, .int .u64 y, .int .u64 c]).run Tryz.prog w = _
    have hx' := hx; have hy' := hy
    unfold isW at hx' hy'
    obtain ⟨a, rfl⟩ := Int.eq_ofNat_of_zero_le hx'.1
    obtain ⟨b, rfl⟩ := Int.eq_ofNat_of_zero_le hy'.1
    obtain ⟨d, rfl⟩ := Int.eq_ofNat_of_zero_le h0
    rw [run_callFunc_extern Tryz.func230 (by kernel_rfl) (by kernel_rfl) (by kernel_rfl) (e := subEntry) (by kernel_rfl), run_subEntry a b d (by omega)]
    have e1 : (((a + 18446744073709551616 - b - d) % 18446744073709551616 : Nat) : Int) = sbD a b d := by unfold sbD; omega
    have e2 : ((if a < b + d then 1 else 0 : Nat) : Int) = sbC a b d := by
      unfold sbC
      by_cases h : a < b + d
      · rw [if_pos h, if_pos (by omega)]; rfl
      · rw [if_neg h, if_neg (by omega)]; rfl
    rw [e1, e2]
    rfl
  · exact h.elim
noncomputable def sp190 : SpecT := addS sp111 190 F190
theorem c190 : (base.with sp190).Ok := addS_ok c111 ok190
noncomputable def sp230 : SpecT := addS sp190 230 F230
theorem c230 : (base.with sp230).Ok := addS_ok c190 ok230
end Go.Proofs.YteiecapbaeajdaaGreatDoor
namespace Go.Proofs.YteiecapbaeajdaaGreatDoor
open Go.Avc
set_option linter.unusedVariables false
abbrev a4 : Pat := .arrI 4 .u64
abbrev w4 : Pat := .agg [a4]
abbrev q4 : BPat := .cells 74 [a4]
def pW : List Int := [4891460686036598785, 2896914383306846353, 13281191951274694749, 3486998266802970665]
def gI (l : List Int) (i : Nat) : Int := l.getD i 0
/-- a - b, word by word. -/
def boN (a b : List Int) : Nat → List Int × Int
  | 0 => ([0, 0, 0, 0], 0)
  | i + 1 => ((boN a b i).1.set i (sbD (gI a i) (gI b i) (boN a b i).2), sbC (gI a i) (gI b i) (boN a b i).2)
def plN (a b : List Int) : Nat → List Int × Int
  | 0 => ([0, 0, 0, 0], 0)
  | i + 1 => ((plN a b i).1.set i (adS (gI a i) (gI b i) (plN a b i).2), adC (gI a i) (gI b i) (plN a b i).2)
def belW (a : List Int) : List Int := if (boN a pW 4).2 = 0 then (boN a pW 4).1 else a
def liL (a x y c : Int) : Int := (a + x * y + c) % 18446744073709551616
def liH (a x y c : Int) : Int := (a + x * y + c) / 18446744073709551616
def inN : Nat → Int
  | 0 => 1
  | i + 1 => IntKind.u64.wrap (inN i * IntKind.u64.wrap (2 - IntKind.u64.wrap (4891460686036598785 * inN i)))
def inv : Int := 14042775128853446655
/-! ### Contracts -/
def ct142 : Ct := { ps := [], bs := [], pre := fun _ => True, res := fun _ => .ret w4 [] [.li pW] }
def ct202 : Ct := { ps := [w4, w4], bs := [], pre := fun | [.li a, .li b] => areW a ∧ areW b | _ => False, res := fun | [.li a, .li b] => .ret (.tup [w4, u64]) [] [.li (boN a b 4).1, .i (boN a b 4).2] | _ => noRes }
def ann202 : List Dat → Ann
  | [.li a, .li b] => { cut := [], loop := [(2, [la 26 [(2, .ptr 0 0), (3, .ptr 1 0), (4, .ptr 2 0), (5, u64), (7, i64)] [q4, q4, q4] (fun | [.i c, .i i, .li a', .li b', .li o] => a' = a ∧ b' = b ∧ 0 ≤ i ∧ i ≤ 4 ∧ o = (boN a b i.toNat).1 ∧ c = (boN a b i.toNat).2 | _ => False) (fun | [_, .i i, _, _, _] => (4 - i).toNat | _ => 0)])] }
  | _ => { cut := [], loop := [] }
def ct181 : Ct := { ps := [w4, w4], bs := [], pre := fun | [.li a, .li b] => areW a ∧ areW b | _ => False, res := fun | [.li a, .li b] => .ret w4 [] [.li (plN a b 4).1] | _ => noRes }
def ann181 : List Dat → Ann
  | [.li a, .li b] => { cut := [], loop := [(3, [la 25 [(2, .ptr 0 0), (3, .ptr 1 0), (4, .ptr 2 0), (5, u64), (7, i64)] [q4, q4, q4] (fun | [.i c, .i i, .li a', .li b', .li o] => a' = a ∧ b' = b ∧ 0 ≤ i ∧ i ≤ 4 ∧ o = (plN a b i.toNat).1 ∧ c = (plN a b i.toNat).2 | _ => False) (fun | [_, .i i, _, _, _] => (4 - i).toNat | _ => 0)])] }
  | _ => { cut := [], loop := [] }
def ct180 : Ct := { ps := [w4], bs := [], pre := fun | [.li a] => areW a | _ => False, res := fun | [.li a] => .ret w4 [] [.li (belW a)] | _ => noRes }
def ct215 : Ct := { ps := [u64, u64], bs := [], pre := fun | [.i x, .i y] => isW x ∧ isW y | _ => False, res := fun | [.i x, .i y] => .ret (.tup [u64, u64]) [] [.i (x * y / 18446744073709551616), .i (x * y % 18446744073709551616)] | _ => noRes }
def ct189 : Ct := { ps := [u64, u64, u64, u64], bs := [], pre := fun | [.i a, .i x, .i y, .i c] => isW a ∧ isW x ∧ isW y ∧ isW c | _ => False, res := fun | [.i a, .i x, .i y, .i c] => .ret (.tup [u64, u64]) [] [.i (liL a x y c), .i (liH a x y c)] | _ => noRes }
def ct188 : Ct := { ps := [], bs := [], pre := fun _ => True, res := fun _ => .ret u64 [] [.i inv] }
def ann188 : List Dat → Ann := fun _ => { cut := [], loop := [(3, [la 16 [(1, u64), (2, u64), (5, i64)] [] (fun | [.i p, .i x, .i i] => p = 4891460686036598785 ∧ 0 ≤ i ∧ i ≤ 6 ∧ x = inN i.toNat | _ => False) (fun | [_, _, .i i] => (6 - i).toNat | _ => 0)])] }
end Go.Proofs.YteiecapbaeajdaaGreatDoor
namespace Go.Proofs.YteiecapbaeajdaaGreatDoor
open Go Go.Avc Go.Proofs
set_option linter.unusedVariables false
set_option maxRecDepth 100000
def P142 : Prop :=
 True →
 [(4891460686036598785 : Int), (2896914383306846353 : Int), (13281191951274694749 : Int), (3486998266802970665 : Int)] =
 [(4891460686036598785 : Int), (2896914383306846353 : Int), (13281191951274694749 : Int), (3486998266802970665 : Int)]
theorem e142 : ct142.VC (base.with sp230) Tryz.f142.results.toList Tryz.f142.ntmps (Tryz.f142.ntmps - ct142.ps.length) (bodyOf Tryz.f142) noAnn = P142 := by kernel_rfl
noncomputable def sp142 : SpecT := addS sp230 142 (mkF ct142)
def P202 : Prop :=
 ∀ (l l_1 : List Int),
 l.length = (4 : Nat) →
 l_1.length = (4 : Nat) →
 areW l ∧ areW l_1 →
 ((l = l ∧
 l_1 = l_1 ∧
 (0 : Int) ≤ (0 : Int) ∧
 (0 : Int) ≤ (4 : Int) ∧
 [(0 : Int), (0 : Int), (0 : Int), (0 : Int)] = (boN l l_1 (0 : Nat)).fst ∧
 (0 : Int) = (boN l l_1 (0 : Nat)).snd) ∧
 True) ∧
 ∀ (n n_1 : Int) (l_2 l_3 l_4 : List Int),
 l_2.length = (4 : Nat) →
 l_3.length = (4 : Nat) →
 l_4.length = (4 : Nat) →
 l_2 = l ∧
 l_3 = l_1 ∧
 (0 : Int) ≤ n_1 ∧
 n_1 ≤ (4 : Int) ∧
 l_4 = (boN l l_1 n_1.toNat).fst ∧ n = (boN l l_1 n_1.toNat).snd →
 bif decide (n_1 < (4 : Int)) then
 ((0 : Int) ≤ n_1 ∧ n_1 < (↑(4 : Nat) : Int)) ∧
 n_1.toNat * (1 : Nat) < (4 : Nat) ∧
 ((0 : Int) ≤ n_1 ∧ n_1 < (↑(4 : Nat) : Int)) ∧
 n_1.toNat * (1 : Nat) < (4 : Nat) ∧
 (isW (l_2.getD (n_1.toNat * (1 : Nat)) (0 : Int)) ∧
 isW (l_3.getD (n_1.toNat * (1 : Nat)) (0 : Int)) ∧ (0 : Int) ≤ n ∧ n ≤ (1 : Int)) ∧
 ((0 : Int) ≤ n_1 ∧ n_1 < (↑(4 : Nat) : Int)) ∧
 n_1.toNat * (1 : Nat) < (4 : Nat) ∧
 ((-9223372036854775808 : Int) ≤ n_1 + (1 : Int) ∧ n_1 + (1 : Int) ≤ (9223372036854775807 : Int)) ∧
 (l_2 = l ∧
 l_3 = l_1 ∧
 (0 : Int) ≤ n_1 + (1 : Int) ∧
 n_1 + (1 : Int) ≤ (4 : Int) ∧
 l_4.set (n_1.toNat * (1 : Nat))
 (sbD (l_2.getD (n_1.toNat * (1 : Nat)) (0 : Int))
 (l_3.getD (n_1.toNat * (1 : Nat)) (0 : Int)) n) =
 (boN l l_1 (n_1 + (1 : Int)).toNat).fst ∧
 sbC (l_2.getD (n_1.toNat * (1 : Nat)) (0 : Int)) (l_3.getD (n_1.toNat * (1 : Nat)) (0 : Int))
 n =
 (boN l l_1 (n_1 + (1 : Int)).toNat).snd) ∧
 ((4 : Int) - (n_1 + (1 : Int))).toNat < ((4 : Int) - n_1).toNat
 else l_4 = (boN l l_1 (4 : Nat)).fst ∧ n = (boN l l_1 (4 : Nat)).snd
theorem e202 : ct202.VC (base.with sp142) Tryz.f202.results.toList Tryz.f202.ntmps (Tryz.f202.ntmps - ct202.ps.length) (bodyOf Tryz.f202) ann202 = P202 := by kernel_rfl
noncomputable def sp202 : SpecT := addS sp142 202 (mkF ct202)
def P181 : Prop :=
 ∀ (l l_1 : List Int),
 l.length = (4 : Nat) →
 l_1.length = (4 : Nat) →
 areW l ∧ areW l_1 →
 ((l = l ∧
 l_1 = l_1 ∧
 (0 : Int) ≤ (0 : Int) ∧
 (0 : Int) ≤ (4 : Int) ∧
 [(0 : Int), (0 : Int), (0 : Int), (0 : Int)] = (plN l l_1 (0 : Nat)).fst ∧
 (0 : Int) = (plN l l_1 (0 : Nat)).snd) ∧
 True) ∧
 ∀ (n n_1 : Int) (l_2 l_3 l_4 : List Int),
 l_2.length = (4 : Nat) →
 l_3.length = (4 : Nat) →
 l_4.length = (4 : Nat) →
 l_2 = l ∧
 l_3 = l_1 ∧
 (0 : Int) ≤ n_1 ∧
 n_1 ≤ (4 : Int) ∧
 l_4 = (plN l l_1 n_1.toNat).fst ∧ n = (plN l l_1 n_1.toNat).snd →
 bif decide (n_1 < (4 : Int)) then
 ((0 : Int) ≤ n_1 ∧ n_1 < (↑(4 : Nat) : Int)) ∧
 n_1.toNat * (1 : Nat) < (4 : Nat) ∧
 ((0 : Int) ≤ n_1 ∧ n_1 < (↑(4 : Nat) : Int)) ∧
 n_1.toNat * (1 : Nat) < (4 : Nat) ∧
 (isW (l_2.getD (n_1.toNat * (1 : Nat)) (0 : Int)) ∧
 isW (l_3.getD (n_1.toNat * (1 : Nat)) (0 : Int)) ∧ (0 : Int) ≤ n ∧ n ≤ (1 : Int)) ∧
 ((0 : Int) ≤ n_1 ∧ n_1 < (↑(4 : Nat) : Int)) ∧
 n_1.toNat * (1 : Nat) < (4 : Nat) ∧
 ((-9223372036854775808 : Int) ≤ n_1 + (1 : Int) ∧ n_1 + (1 : Int) ≤ (9223372036854775807 : Int)) ∧
 (l_2 = l ∧
 l_3 = l_1 ∧
 (0 : Int) ≤ n_1 + (1 : Int) ∧
 n_1 + (1 : Int) ≤ (4 : Int) ∧
 l_4.set (n_1.toNat * (1 : Nat))
 (adS (l_2.getD (n_1.toNat * (1 : Nat)) (0 : Int))
 (l_3.getD (n_1.toNat * (1 : Nat)) (0 : Int)) n) =
 (plN l l_1 (n_1 + (1 : Int)).toNat).fst ∧
 adC (l_2.getD (n_1.toNat * (1 : Nat)) (0 : Int)) (l_3.getD (n_1.toNat * (1 : Nat)) (0 : Int))
 n =
 (plN l l_1 (n_1 + (1 : Int)).toNat).snd) ∧
 ((4 : Int) - (n_1 + (1 : Int))).toNat < ((4 : Int) - n_1).toNat
 else l_4 = (plN l l_1 (4 : Nat)).fst
theorem e181 : ct181.VC (base.with sp202) Tryz.f181.results.toList Tryz.f181.ntmps (Tryz.f181.ntmps - ct181.ps.length) (bodyOf Tryz.f181) ann181 = P181 := by kernel_rfl
noncomputable def sp181 : SpecT := addS sp202 181 (mkF ct181)
def P180 : Prop :=
 ∀ (l : List Int),
 l.length = (4 : Nat) →
 areW l →
 True ∧
 (areW l ∧
 areW [(4891460686036598785 : Int), (2896914383306846353 : Int), (13281191951274694749 : Int), (3486998266802970665 : Int)]) ∧
 bif
 decide
 ((boN l [(4891460686036598785 : Int), (2896914383306846353 : Int), (13281191951274694749 : Int), (3486998266802970665 : Int)]
 (4 : Nat)).snd =
 (0 : Int)) then
 (boN l [(4891460686036598785 : Int), (2896914383306846353 : Int), (13281191951274694749 : Int), (3486998266802970665 : Int)]
 (4 : Nat)).fst =
 belW l
 else l = belW l
theorem e180 : ct180.VC (base.with sp181) Tryz.f180.results.toList Tryz.f180.ntmps (Tryz.f180.ntmps - ct180.ps.length) (bodyOf Tryz.f180) noAnn = P180 := by kernel_rfl
noncomputable def sp180 : SpecT := addS sp181 180 (mkF ct180)
def P215 : Prop :=
 ∀ (n n_1 : Int),
 isW n ∧ isW n_1 →
 (0 : Int) ≤ (32 : Int) ∧
 (0 : Int) ≤ (32 : Int) ∧
 (0 : Int) ≤ (32 : Int) ∧
 (0 : Int) ≤ (32 : Int) ∧
 (0 : Int) ≤ (32 : Int) ∧
 Go.IntKind.u64.wrap
 (Go.IntKind.u64.wrap
 (Go.IntKind.u64.wrap (bShr Go.IntKind.u64 n (32 : Int) * bShr Go.IntKind.u64 n_1 (32 : Int)) +
 bShr Go.IntKind.u64
 (Go.IntKind.u64.wrap
 (Go.IntKind.u64.wrap (bShr Go.IntKind.u64 n (32 : Int) * bAnd Go.IntKind.u64 n_1 (4294967295 : Int)) +
 bShr Go.IntKind.u64
 (Go.IntKind.u64.wrap (bAnd Go.IntKind.u64 n (4294967295 : Int) * bAnd Go.IntKind.u64 n_1 (4294967295 : Int))) (32 : Int)))
 (32 : Int)) +
 bShr Go.IntKind.u64
 (Go.IntKind.u64.wrap
 (bAnd Go.IntKind.u64
 (Go.IntKind.u64.wrap
 (Go.IntKind.u64.wrap (bShr Go.IntKind.u64 n (32 : Int) * bAnd Go.IntKind.u64 n_1 (4294967295 : Int)) +
 bShr Go.IntKind.u64
 (Go.IntKind.u64.wrap (bAnd Go.IntKind.u64 n (4294967295 : Int) * bAnd Go.IntKind.u64 n_1 (4294967295 : Int))) (32 : Int)))
 (4294967295 : Int) +
 Go.IntKind.u64.wrap (bAnd Go.IntKind.u64 n (4294967295 : Int) * bShr Go.IntKind.u64 n_1 (32 : Int))))
 (32 : Int)) =
 n * n_1 / (18446744073709551616 : Int) ∧
 Go.IntKind.u64.wrap (n * n_1) = n * n_1 % (18446744073709551616 : Int)
theorem e215 : ct215.VC (base.with sp180) Tryz.f215.results.toList Tryz.f215.ntmps (Tryz.f215.ntmps - ct215.ps.length) (bodyOf Tryz.f215) noAnn = P215 := by kernel_rfl
noncomputable def sp215 : SpecT := addS sp180 215 (mkF ct215)
def P189 : Prop :=
 ∀ (n n_1 n_2 n_3 : Int),
 isW n ∧
 isW n_1 ∧ isW n_2 ∧ isW n_3 →
 (isW n_1 ∧ isW n_2) ∧
 (isW (n_1 * n_2 % (18446744073709551616 : Int)) ∧
 isW n ∧ (0 : Int) ≤ (0 : Int) ∧ (0 : Int) ≤ (1 : Int)) ∧
 (isW (adS (n_1 * n_2 % (18446744073709551616 : Int)) n (0 : Int)) ∧
 isW n_3 ∧ (0 : Int) ≤ (0 : Int) ∧ (0 : Int) ≤ (1 : Int)) ∧
 adS (adS (n_1 * n_2 % (18446744073709551616 : Int)) n (0 : Int)) n_3 (0 : Int) =
 liL n n_1 n_2 n_3 ∧
 Go.IntKind.u64.wrap
 (Go.IntKind.u64.wrap (n_1 * n_2 / (18446744073709551616 : Int) + adC (n_1 * n_2 % (18446744073709551616 : Int)) n (0 : Int)) +
 adC (adS (n_1 * n_2 % (18446744073709551616 : Int)) n (0 : Int)) n_3 (0 : Int)) =
 liH n n_1 n_2 n_3
theorem e189 : ct189.VC (base.with sp215) Tryz.f189.results.toList Tryz.f189.ntmps (Tryz.f189.ntmps - ct189.ps.length) (bodyOf Tryz.f189) noAnn = P189 := by kernel_rfl
noncomputable def sp189 : SpecT := addS sp215 189 (mkF ct189)
def P188 : Prop :=
 True →
 True ∧
 ((0 : Int) ≤ (0 : Int) ∧ (0 : Int) < (↑(4 : Nat) : Int) ∧ (0 : Nat) < (4 : Nat)) ∧
 (([(4891460686036598785 : Int), (2896914383306846353 : Int), (13281191951274694749 : Int), (3486998266802970665 : Int)].getD (0 : Nat) (0 : Int) =
 (4891460686036598785 : Int) ∧
 (0 : Int) ≤ (0 : Int) ∧ (0 : Int) ≤ (6 : Int) ∧ (1 : Int) = inN (0 : Nat)) ∧
 True) ∧
 ∀ (n n_1 n_2 : Int),
 n = (4891460686036598785 : Int) ∧ (0 : Int) ≤ n_2 ∧ n_2 ≤ (6 : Int) ∧ n_1 = inN n_2.toNat →
 bif decide (n_2 < (6 : Int)) then
 ((-9223372036854775808 : Int) ≤ n_2 + (1 : Int) ∧ n_2 + (1 : Int) ≤ (9223372036854775807 : Int)) ∧
 (n = (4891460686036598785 : Int) ∧
 (0 : Int) ≤ n_2 + (1 : Int) ∧
 n_2 + (1 : Int) ≤ (6 : Int) ∧
 Go.IntKind.u64.wrap (n_1 * Go.IntKind.u64.wrap ((2 : Int) - Go.IntKind.u64.wrap (n * n_1))) =
 inN (n_2 + (1 : Int)).toNat) ∧
 ((6 : Int) - (n_2 + (1 : Int))).toNat < ((6 : Int) - n_2).toNat
 else Go.IntKind.u64.wrap ((0 : Int) - n_1) = inv
theorem e188 : ct188.VC (base.with sp189) Tryz.f188.results.toList Tryz.f188.ntmps (Tryz.f188.ntmps - ct188.ps.length) (bodyOf Tryz.f188) ann188 = P188 := by kernel_rfl
noncomputable def sp188 : SpecT := addS sp189 188 (mkF ct188)
end Go.Proofs.YteiecapbaeajdaaGreatDoor
namespace Go.Proofs.YteiecapbaeajdaaGreatDoor
open Go Go.Avc Go.Proofs
set_option linter.unusedVariables false
set_option linter.unusedSimpArgs false
set_option maxRecDepth 100000
theorem adS_w (x y c : Int) : isW (adS x y c) := by unfold isW adS; omega
theorem sbD_w (x y c : Int) : isW (sbD x y c) := by unfold isW sbD; omega
theorem adC_b {x y c : Int} (hx : isW x) (hy : isW y) (hc : 0 ≤ c ∧ c ≤ 1) : 0 ≤ adC x y c ∧ adC x y c ≤ 1 := by unfold isW at hx hy; unfold adC; omega
theorem sbC_b (x y c : Int) : 0 ≤ sbC x y c ∧ sbC x y c ≤ 1 := by unfold sbC; split <;> omega
theorem areW_set {s : List Int} (h : areW s) {v : Int} (hv : isW v) (i : Nat) : areW (s.set i v) := fun j => by
  rw [List.getD_eq_getElem?_getD, List.getElem?_set]
  split
  · split
    · exact hv
    · exact isW0
  · rw [← List.getD_eq_getElem?_getD]; exact h j
theorem areW_0 : areW [0, 0, 0, 0] := fun j => by
  match j with
  | 0 => exact isW0
  | 1 => exact isW0
  | 2 => exact isW0
  | 3 => exact isW0
  | _ + 4 => exact isW0
theorem areW_p : areW pW := fun j => by
  match j with
  | 0 => exact ⟨by decide, by decide⟩
  | 1 => exact ⟨by decide, by decide⟩
  | 2 => exact ⟨by decide, by decide⟩
  | 3 => exact ⟨by decide, by decide⟩
  | _ + 4 => exact isW0
theorem boN_ok (a b : List Int) : ∀ i, areW (boN a b i).1 ∧ 0 ≤ (boN a b i).2 ∧ (boN a b i).2 ≤ 1
  | 0 => ⟨areW_0, by show (0 : Int) ≤ 0; omega, by show (0 : Int) ≤ 1; omega⟩
  | i + 1 => ⟨areW_set (boN_ok a b i).1 (sbD_w _ _ _) i, sbC_b _ _ _⟩
theorem plN_ok {a b : List Int} (ha : areW a) (hb : areW b) : ∀ i, areW (plN a b i).1 ∧ 0 ≤ (plN a b i).2 ∧ (plN a b i).2 ≤ 1
  | 0 => ⟨areW_0, by show (0 : Int) ≤ 0; omega, by show (0 : Int) ≤ 1; omega⟩
  | i + 1 => ⟨areW_set (plN_ok ha hb i).1 (adS_w _ _ _) i, adC_b (ha i) (hb i) (plN_ok ha hb i).2⟩
theorem wrapW (n : Int) : IntKind.u64.wrap n = n % 18446744073709551616 := IntKind.wrap_u64 n
theorem vc142 : P142 := fun _ => rfl
theorem ok142 : SpecOk (base.with sp230) 142 (mkF ct142) := spec_ct (fn := Tryz.f142) (c := bodyOf Tryz.f142) (k := Tryz.f142.ntmps - ct142.ps.length) (ct := ct142) c230 Tryz.func142 (by kernel_rfl) noAnn (by kernel_rfl) (fun vs w _ => Tryz.call142 vs w) (by rw [e142]; exact vc142)
theorem c142 : (base.with sp142).Ok := addS_ok c230 ok142
theorem vc202 : P202 := by
  rintro a b ha hb ⟨wa, wb⟩
  refine ⟨⟨⟨rfl, rfl, by omega, by omega, rfl, rfl⟩, trivial⟩, ?_⟩
  rintro c n a' b' o _ _ _ ⟨rfl, rfl, h0, h1, rfl, rfl⟩
  obtain ⟨i, rfl⟩ := Int.eq_ofNat_of_zero_le h0
  rw [Int.toNat_natCast, Nat.mul_one]
  refine condI (fun h => ?_) fun h => ?_
  · simp only [decide_eq_true_eq] at h
    have := (boN_ok a' b' i).2
    refine ⟨⟨h0, h⟩, by omega, ⟨h0, h⟩, by omega, ⟨wa i, wb i, this⟩, ⟨h0, h⟩, by omega, ⟨by omega, by omega⟩, ⟨rfl, rfl, by omega, by omega, ?_, ?_⟩, by omega⟩
    · rw [show ((i : Int) + 1).toNat = i + 1 from by omega]; rfl
    · rw [show ((i : Int) + 1).toNat = i + 1 from by omega]; rfl
  · simp only [decide_eq_false_iff_not] at h
    rw [show i = 4 from by omega]
    exact ⟨rfl, rfl⟩
theorem ok202 : SpecOk (base.with sp142) 202 (mkF ct202) := spec_ct (fn := Tryz.f202) (c := bodyOf Tryz.f202) (k := Tryz.f202.ntmps - ct202.ps.length) (ct := ct202) c142 Tryz.func202 (by kernel_rfl) ann202 (by kernel_rfl) (fun vs w _ => Tryz.call202 vs w) (by rw [e202]; exact vc202)
theorem c202 : (base.with sp202).Ok := addS_ok c142 ok202
theorem vc181 : P181 := by
  rintro a b ha hb ⟨wa, wb⟩
  refine ⟨⟨⟨rfl, rfl, by omega, by omega, rfl, rfl⟩, trivial⟩, ?_⟩
  rintro c n a' b' o _ _ _ ⟨rfl, rfl, h0, h1, rfl, rfl⟩
  obtain ⟨i, rfl⟩ := Int.eq_ofNat_of_zero_le h0
  rw [Int.toNat_natCast, Nat.mul_one]
  refine condI (fun h => ?_) fun h => ?_
  · simp only [decide_eq_true_eq] at h
    have := (plN_ok wa wb i).2
    refine ⟨⟨h0, h⟩, by omega, ⟨h0, h⟩, by omega, ⟨wa i, wb i, this⟩, ⟨h0, h⟩, by omega, ⟨by omega, by omega⟩, ⟨rfl, rfl, by omega, by omega, ?_, ?_⟩, by omega⟩
    · rw [show ((i : Int) + 1).toNat = i + 1 from by omega]; rfl
    · rw [show ((i : Int) + 1).toNat = i + 1 from by omega]; rfl
  · simp only [decide_eq_false_iff_not] at h
    rw [show i = 4 from by omega]
theorem ok181 : SpecOk (base.with sp202) 181 (mkF ct181) := spec_ct (fn := Tryz.f181) (c := bodyOf Tryz.f181) (k := Tryz.f181.ntmps - ct181.ps.length) (ct := ct181) c202 Tryz.func181 (by kernel_rfl) ann181 (by kernel_rfl) (fun vs w _ => Tryz.call181 vs w) (by rw [e181]; exact vc181)
theorem c181 : (base.with sp181).Ok := addS_ok c202 ok181
theorem vc180 : P180 := by
  intro a ha wa
  refine ⟨trivial, ⟨wa, areW_p⟩, condI (fun h => ?_) fun h => ?_⟩
  · exact (if_pos (of_decide_eq_true h)).symm
  · exact (if_neg (of_decide_eq_false h)).symm
theorem ok180 : SpecOk (base.with sp181) 180 (mkF ct180) := spec_ct (fn := Tryz.f180) (c := bodyOf Tryz.f180) (k := Tryz.f180.ntmps - ct180.ps.length) (ct := ct180) c181 Tryz.func180 (by kernel_rfl) noAnn (by kernel_rfl) (fun vs w _ => Tryz.call180 vs w) (by rw [e180]; exact vc180)
theorem c180 : (base.with sp180).Ok := addS_ok c181 ok180
theorem vc215 : P215 := by
  rintro x y ⟨hx, hy⟩
  refine ⟨by omega, by omega, by omega, by omega, by omega, ?_, wrapW _⟩
  have l32 : ∀ z, isW z → bAnd .u64 z 4294967295 = z % 4294967296 := fun z hz => and_low32 z hz.1 hz.2
  have s32 : ∀ z, bShr .u64 z 32 = z / 4294967296 := fun z => by
    unfold bShr
    exact Int.fdiv_eq_ediv_of_nonneg _ (by decide)
  have iw : ∀ z : Int, isW (z % 18446744073709551616) := fun z => by unfold isW; omega
  simp only [s32, wrapW, l32 _ hx, l32 _ hy, l32 _ (iw _)]
  exact mul64_arith x y hx.1 hx.2 hy.1 hy.2
theorem ok215 : SpecOk (base.with sp180) 215 (mkF ct215) := spec_ct (fn := Tryz.f215) (c := bodyOf Tryz.f215) (k := Tryz.f215.ntmps - ct215.ps.length) (ct := ct215) c180 Tryz.func215 (by kernel_rfl) noAnn (by kernel_rfl) (fun vs w _ => Tryz.call215 vs w) (by rw [e215]; exact vc215)
theorem c215 : (base.with sp215).Ok := addS_ok c180 ok215
theorem line_w {a x y c : Int} (ha : isW a) (hx : isW x) (hy : isW y) (hc : isW c) : 0 ≤ a + x * y + c ∧ a + x * y + c < 340282366920938463463374607431768211456 := by
  unfold isW at *
  have h1 := Int.mul_nonneg hx.1 hy.1
  have h2 : x * y ≤ 18446744073709551615 * 18446744073709551615 := Int.mul_le_mul (by omega) (by omega) hy.1 (by omega)
  omega
theorem vc189 : P189 := by
  rintro a x y c ⟨ha, hx, hy, hc⟩
  have iw : ∀ z : Int, isW (z % 18446744073709551616) := fun z => by unfold isW; omega
  refine ⟨⟨hx, hy⟩, ⟨iw _, ha, by omega, by omega⟩, ⟨adS_w _ _ _, hc, by omega, by omega⟩, ?_⟩
  have hb := line_w ha hx hy hc
  unfold isW at ha hc
  have h1 : 0 ≤ x * y := Int.mul_nonneg hx.1 hy.1
  simp only [wrapW]
  unfold liL liH adS adC
  generalize x * y = m at *
  refine ⟨by omega, by omega⟩
theorem ok189 : SpecOk (base.with sp215) 189 (mkF ct189) := spec_ct (fn := Tryz.f189) (c := bodyOf Tryz.f189) (k := Tryz.f189.ntmps - ct189.ps.length) (ct := ct189) c215 Tryz.func189 (by kernel_rfl) noAnn (by kernel_rfl) (fun vs w _ => Tryz.call189 vs w) (by rw [e189]; exact vc189)
theorem c189 : (base.with sp189).Ok := addS_ok c215 ok189
theorem vc188 : P188 := by
  intro _
  refine ⟨trivial, ⟨by decide, by decide, by decide⟩, ⟨⟨rfl, by omega, by omega, rfl⟩, trivial⟩, ?_⟩
  rintro p x n ⟨rfl, h0, h1, rfl⟩
  obtain ⟨i, rfl⟩ := Int.eq_ofNat_of_zero_le h0
  refine condI (fun h => ?_) fun h => ?_
  · simp only [decide_eq_true_eq] at h
    refine ⟨⟨by omega, by omega⟩, ⟨rfl, by omega, by omega, ?_⟩, by omega⟩
    rw [show ((i : Int) + 1).toNat = i + 1 from by omega]
    rfl
  · simp only [decide_eq_false_iff_not] at h
    rw [Int.toNat_natCast, show i = 6 from by omega]
    decide
theorem ok188 : SpecOk (base.with sp189) 188 (mkF ct188) := spec_ct (fn := Tryz.f188) (c := bodyOf Tryz.f188) (k := Tryz.f188.ntmps - ct188.ps.length) (ct := ct188) c189 Tryz.func188 (by kernel_rfl) ann188 (by kernel_rfl) (fun vs w _ => Tryz.call188 vs w) (by rw [e188]; exact vc188)
theorem c188 : (base.with sp188).Ok := addS_ok c189 ok188
end Go.Proofs.YteiecapbaeajdaaGreatDoor
namespace Go.Proofs.YteiecapbaeajdaaGreatDoor
open Go.Avc
set_option linter.unusedVariables false
abbrev q5 : BPat := .cells 337 [.arrI 5 .u64]
abbrev qe : BPat := .cells 76 [a4]
def muN (x : Int) (b t : List Int) : Nat → List Int × Int
  | 0 => (t, 0)
  | j + 1 => ((muN x b t j).1.set j (liL (gI (muN x b t j).1 j) x (gI b j) (muN x b t j).2), liH (gI (muN x b t j).1 j) x (gI b j) (muN x b t j).2)
def reN (k : Int) (t : List Int) (c : Int) : Nat → List Int × Int
  | 0 => (t, c)
  | n + 1 => ((reN k t c n).1.set n (liL (gI (reN k t c n).1 (n + 1)) k (gI pW (n + 1)) (reN k t c n).2), liH (gI (reN k t c n).1 (n + 1)) k (gI pW (n + 1)) (reN k t c n).2)
def u1 (x : Int) (b t : List Int) : List Int := (muN x b t 4).1.set 4 (IntKind.u64.wrap (gI (muN x b t 4).1 4 + (muN x b t 4).2))
def kW (t : List Int) : Int := IntKind.u64.wrap (gI t 0 * inv)
def r1 (t : List Int) : List Int × Int := reN (kW t) t (liH (gI t 0) (kW t) (gI pW 0) 0) 3
def f5 (r : List Int × Int) : List Int := (r.1.set 3 (adS (gI r.1 4) r.2 0)).set 4 (adC (gI r.1 4) r.2 0)
def stW (x : Int) (b t : List Int) : List Int := f5 (r1 (u1 x b t))
def prN (a b : List Int) : Nat → List Int
  | 0 => [0, 0, 0, 0, 0]
  | i + 1 => stW (gI a i) b (prN a b i)
def prW (a b : List Int) : List Int := belW ((prN a b 4).take 4)
def sqN : Nat → List Int
  | 0 => [1, 0, 0, 0]
  | i + 1 => belW (plN (sqN i) (sqN i) 4).1
def enW (a : List Int) : List Int := prW a (sqN 512)
def leW (a : List Int) : List Int := prW a [1, 0, 0, 0]
/-- An element's bytes. -/
def elB (a : List Int) : List Int := bysN (fun i => gI (leW a) i) 4
/-- The words of 32 bytes. -/
def w32 (l : List (List CD)) : List Int := wsN l 32
/-! ### Contracts -/
def ct149 : Ct := { ps := [w4, w4], bs := [], pre := fun | [.li a, .li b] => areW a ∧ areW b | _ => False, res := fun | [.li a, .li b] => .ret w4 [] [.li (prW a b)] | _ => noRes }
def sl149 : List (Nat × Pat) := [(2, .ptr 0 0), (3, .ptr 1 0), (4, .ptr 2 0), (5, .ptr 3 0), (6, u64), (7, .ptr 4 0), (17, w4), (18, i64)]
def ann149 : List Dat → Ann
  | [.li a, .li b] => ⟨[], [(4, [la 91 sl149 [q4, q4, q4, q4, q5] (fun | [.i v, .li a', .i i, .li _, .li b', .li _, .li p, .li t] => v = inv ∧ a' = a ∧ 0 ≤ i ∧ i ≤ 4 ∧ b' = b ∧ p = pW ∧ t = prN a b i.toNat | _ => False) (fun | [_, _, .i i, _, _, _, _, _] => (4 - i).toNat | _ => 0)])],
      [
        (8, [la 91 (sl149 ++ [(9, u64), (10, u64), (21, w4), (22, i64)]) [q4, q4, q4, q4, q5] (fun _ => True) (fun _ => 0)], fun
          | [.i v0, .i x0, .i c0, .li a0, .i i0, .li b0, .i j0, .li e0, .li f0, .li o0, .li p0, .li t0] => [la 91 (sl149 ++ [(9, u64), (10, u64), (21, w4), (22, i64)]) [q4, q4, q4, q4, q5]
            (fun | [.i v, .i x, .i c, .li a, .i i, .li b, .i j, .li e, .li f, .li _, .li p, .li t] => v = v0 ∧ x = x0 ∧ a = a0 ∧ i = i0 ∧ b = b0 ∧ 0 ≤ j ∧ j ≤ 4 ∧ f = f0 ∧ p = p0 ∧ t = (muN x0 b0 t0 j.toNat).1 ∧ c = (muN x0 b0 t0 j.toNat).2 | _ => False)
            (fun | [_, _, _, _, _, _, .i j, _, _, _, _, _] => (4 - j).toNat | _ => 0)]
          | _ => []),
        (16, [la 91 (sl149 ++ [(10, u64), (13, u64), (14, i64)]) [q4, q4, q4, q4, q5] (fun _ => True) (fun _ => 0)], fun
          | [.i v0, .i c0, .i k0, .i j0, .li a0, .i i0, .li e0, .li f0, .li o0, .li p0, .li t0] => [la 91 (sl149 ++ [(10, u64), (13, u64), (14, i64)]) [q4, q4, q4, q4, q5]
            (fun | [.i v, .i c, .i k, .i j, .li a, .i i, .li e, .li f, .li _, .li p, .li t] => v = v0 ∧ k = k0 ∧ a = a0 ∧ i = i0 ∧ 1 ≤ j ∧ j ≤ 4 ∧ f = f0 ∧ p = p0 ∧ t = (reN k0 t0 c0 (j.toNat - 1)).1 ∧ c = (reN k0 t0 c0 (j.toNat - 1)).2 | _ => False)
            (fun | [_, _, _, .i j, _, _, _, _, _, _, _] => (4 - j).toNat | _ => 0)]
          | _ => [])]⟩
  | _ => { cut := [], loop := [] }
def ct139 : Ct := { ps := [w4], bs := [], pre := fun | [.li a] => areW a | _ => False, res := fun | [.li a] => .ret w4 [] [.li (enW a)] | _ => noRes }
def ann139 : List Dat → Ann
  | [.li a] => { cut := [], loop := [(3, [la 16 [(1, .ptr 0 0), (2, .ptr 1 0), (3, .ptr 2 0), (5, i64)] [q4, qe, q4] (fun | [.i i, .li a', .li _, .li s] => 0 ≤ i ∧ i ≤ 512 ∧ a' = a ∧ s = sqN i.toNat | _ => False) (fun | [.i i, _, _, _] => (512 - i).toNat | _ => 0)])] }
  | _ => { cut := [], loop := [] }
def ct101 : Ct := { ps := [w4], bs := [], pre := fun | [.li a] => areW a | _ => False, res := fun | [.li a] => .ret w4 [] [.li (leW a)] | _ => noRes }
def ct63 : Ct := { ps := [w4], bs := [], pre := fun | [.li a] => areW a | _ => False, res := fun | [.li a] => .ret a32 [] [.li (elB a)] | _ => noRes }
def ct177 : Ct := { ps := [rb], bs := [], pre := fun | [.r l] => areB l | _ => False, res := fun
  | [.r l] => .ite (decide (l.length ≠ 32)) (.ret (.tup [w4, i64]) [] [.li [0, 0, 0, 0], .i 1]) (.ite (decide ((boN (w32 l) pW 4).2 = 0)) (.ret (.tup [w4, i64]) [] [.li [0, 0, 0, 0], .i 4]) (.ret (.tup [w4, i64]) [] [.li (enW (w32 l)), .i 0]))
  | _ => noRes }
/-- A block without its two highest bits. -/
def maskL (b : List Int) : List Int := b.set 31 (bAnd .u8 (gI b 31) 63)
def ct280 : Ct := { ps := [a32], bs := [], pre := fun _ => True, res := fun | [.li b] => .ret a32 [] [.li (maskL b)] | _ => noRes }
end Go.Proofs.YteiecapbaeajdaaGreatDoor
namespace Go.Proofs.YteiecapbaeajdaaGreatDoor
open Go Go.Avc Go.Proofs
set_option linter.unusedVariables false
set_option maxRecDepth 100000
def P149 : Prop :=
 ∀ (l l_1 : List Int),
 l.length = (4 : Nat) →
 l_1.length = (4 : Nat) →
 areW l ∧ areW l_1 →
 True ∧
 True ∧
 ((inv = inv ∧
 l = l ∧
 (0 : Int) ≤ (0 : Int) ∧
 (0 : Int) ≤ (4 : Int) ∧
 l_1 = l_1 ∧
 [(4891460686036598785 : Int), (2896914383306846353 : Int), (13281191951274694749 : Int), (3486998266802970665 : Int)] =
 [(4891460686036598785 : Int), (2896914383306846353 : Int), (13281191951274694749 : Int), (3486998266802970665 : Int)] ∧
 [(0 : Int), (0 : Int), (0 : Int), (0 : Int), (0 : Int)] = prN l l_1 (0 : Nat)) ∧
 True) ∧
 ∀ (n : Int) (l_2 : List Int) (n_1 : Int) (l_3 l_4 l_5 l_6 l_7 : List Int),
 l_2.length = (4 : Nat) →
 l_3.length = (4 : Nat) →
 l_4.length = (4 : Nat) →
 l_5.length = (4 : Nat) →
 l_6.length = (4 : Nat) →
 l_7.length = (5 : Nat) →
 n = inv ∧
 l_2 = l ∧
 (0 : Int) ≤ n_1 ∧
 n_1 ≤ (4 : Int) ∧
 l_4 = l_1 ∧
 l_6 = [(4891460686036598785 : Int), (2896914383306846353 : Int), (13281191951274694749 : Int), (3486998266802970665 : Int)] ∧
 l_7 = prN l l_1 n_1.toNat →
 bif decide (n_1 < (4 : Int)) then
 ((0 : Int) ≤ n_1 ∧ n_1 < (↑(4 : Nat) : Int) ∧ n_1.toNat * (1 : Nat) < (4 : Nat)) ∧
 ((n = n ∧
 l_2.getD (n_1.toNat * (1 : Nat)) (0 : Int) = l_2.getD (n_1.toNat * (1 : Nat)) (0 : Int) ∧
 l_2 = l_2 ∧
 n_1 = n_1 ∧
 l_4 = l_4 ∧
 (0 : Int) ≤ (0 : Int) ∧
 (0 : Int) ≤ (4 : Int) ∧
 l_4 = l_4 ∧
 l_6 = l_6 ∧
 l_7 = (muN (l_2.getD (n_1.toNat * (1 : Nat)) (0 : Int)) l_4 l_7 (0 : Nat)).fst ∧
 (0 : Int) =
 (muN (l_2.getD (n_1.toNat * (1 : Nat)) (0 : Int)) l_4 l_7 (0 : Nat)).snd) ∧
 True) ∧
 ∀ (n_2 n_3 n_4 : Int) (l_8 : List Int) (n_5 : Int) (l_9 : List Int) (n_6 : Int) (l_10 l_11 l_12 l_13 l_14 : List Int),
 l_8.length = (4 : Nat) →
 l_9.length = (4 : Nat) →
 l_10.length = (4 : Nat) →
 l_11.length = (4 : Nat) →
 l_12.length = (4 : Nat) →
 l_13.length = (4 : Nat) →
 l_14.length = (5 : Nat) →
 n_2 = n ∧
 n_3 = l_2.getD (n_1.toNat * (1 : Nat)) (0 : Int) ∧
 l_8 = l_2 ∧
 n_5 = n_1 ∧
 l_9 = l_4 ∧
 (0 : Int) ≤ n_6 ∧
 n_6 ≤ (4 : Int) ∧
 l_11 = l_4 ∧
 l_13 = l_6 ∧
 l_14 =
 (muN (l_2.getD (n_1.toNat * (1 : Nat)) (0 : Int)) l_4 l_7
 n_6.toNat).fst ∧
 n_4 =
 (muN (l_2.getD (n_1.toNat * (1 : Nat)) (0 : Int)) l_4 l_7
 n_6.toNat).snd →
 bif decide (n_6 < (4 : Int)) then
 ((0 : Int) ≤ n_6 ∧ n_6 < (↑(4 : Nat) : Int) ∧ n_6.toNat * (1 : Nat) < (4 : Nat)) ∧
 ((0 : Int) ≤ n_6 ∧ n_6 < (↑(5 : Nat) : Int)) ∧
 n_6.toNat * (1 : Nat) < (5 : Nat) ∧
 (isW (l_14.getD (n_6.toNat * (1 : Nat)) (0 : Int)) ∧
 isW n_3 ∧
 isW (l_9.getD (n_6.toNat * (1 : Nat)) (0 : Int)) ∧
 isW n_4) ∧
 ((0 : Int) ≤ n_6 ∧ n_6 < (↑(5 : Nat) : Int)) ∧
 n_6.toNat * (1 : Nat) < (5 : Nat) ∧
 ((-9223372036854775808 : Int) ≤ n_6 + (1 : Int) ∧ n_6 + (1 : Int) ≤ (9223372036854775807 : Int)) ∧
 (n_2 = n ∧
 n_3 = l_2.getD (n_1.toNat * (1 : Nat)) (0 : Int) ∧
 l_8 = l_2 ∧
 n_5 = n_1 ∧
 l_9 = l_4 ∧
 (0 : Int) ≤ n_6 + (1 : Int) ∧
 n_6 + (1 : Int) ≤ (4 : Int) ∧
 l_11 = l_4 ∧
 l_13 = l_6 ∧
 l_14.set (n_6.toNat * (1 : Nat))
 (liL
 (l_14.getD (n_6.toNat * (1 : Nat)) (0 : Int)) n_3
 (l_9.getD (n_6.toNat * (1 : Nat)) (0 : Int)) n_4) =
 (muN (l_2.getD (n_1.toNat * (1 : Nat)) (0 : Int))
 l_4 l_7 (n_6 + (1 : Int)).toNat).fst ∧
 liH (l_14.getD (n_6.toNat * (1 : Nat)) (0 : Int))
 n_3 (l_9.getD (n_6.toNat * (1 : Nat)) (0 : Int)) n_4 =
 (muN (l_2.getD (n_1.toNat * (1 : Nat)) (0 : Int))
 l_4 l_7 (n_6 + (1 : Int)).toNat).snd) ∧
 ((4 : Int) - (n_6 + (1 : Int))).toNat < ((4 : Int) - n_6).toNat
 else
 ((0 : Int) ≤ (4 : Int) ∧ (4 : Int) < (↑(5 : Nat) : Int)) ∧
 (4 : Nat) < (5 : Nat) ∧
 ((0 : Int) ≤ (4 : Int) ∧ (4 : Int) < (↑(5 : Nat) : Int)) ∧
 (4 : Nat) < (5 : Nat) ∧
 ((0 : Int) ≤ (0 : Int) ∧ (0 : Int) < (↑(5 : Nat) : Int)) ∧
 (0 : Nat) < (5 : Nat) ∧
 ((0 : Int) ≤ (0 : Int) ∧ (0 : Int) < (↑(5 : Nat) : Int)) ∧
 (0 : Nat) < (5 : Nat) ∧
 ((0 : Int) ≤ (0 : Int) ∧ (0 : Int) < (↑(4 : Nat) : Int)) ∧
 (0 : Nat) < (4 : Nat) ∧
 (isW
 ((l_14.set (4 : Nat) (Go.IntKind.u64.wrap (l_14.getD (4 : Nat) (0 : Int) + n_4))).getD (0 : Nat)
 (0 : Int)) ∧
 isW
 (Go.IntKind.u64.wrap
 ((l_14.set (4 : Nat) (Go.IntKind.u64.wrap (l_14.getD (4 : Nat) (0 : Int) + n_4))).getD
 (0 : Nat) (0 : Int) *
 n_2)) ∧
 isW (l_13.getD (0 : Nat) (0 : Int)) ∧
 isW (0 : Int)) ∧
 ((n_2 = n_2 ∧
 Go.IntKind.u64.wrap
 ((l_14.set (4 : Nat) (Go.IntKind.u64.wrap (l_14.getD (4 : Nat) (0 : Int) + n_4))).getD
 (0 : Nat) (0 : Int) *
 n_2) =
 Go.IntKind.u64.wrap
 ((l_14.set (4 : Nat) (Go.IntKind.u64.wrap (l_14.getD (4 : Nat) (0 : Int) + n_4))).getD
 (0 : Nat) (0 : Int) *
 n_2) ∧
 l_8 = l_8 ∧
 n_5 = n_5 ∧
 (1 : Int) ≤ (1 : Int) ∧
 (1 : Int) ≤ (4 : Int) ∧
 l_11 = l_11 ∧
 l_13 = l_13 ∧
 l_14.set (4 : Nat) (Go.IntKind.u64.wrap (l_14.getD (4 : Nat) (0 : Int) + n_4)) =
 (reN
 (Go.IntKind.u64.wrap
 ((l_14.set (4 : Nat)
 (Go.IntKind.u64.wrap
 (l_14.getD (4 : Nat) (0 : Int) + n_4))).getD
 (0 : Nat) (0 : Int) *
 n_2))
 (l_14.set (4 : Nat)
 (Go.IntKind.u64.wrap (l_14.getD (4 : Nat) (0 : Int) + n_4)))
 (liH
 ((l_14.set (4 : Nat)
 (Go.IntKind.u64.wrap (l_14.getD (4 : Nat) (0 : Int) + n_4))).getD
 (0 : Nat) (0 : Int))
 (Go.IntKind.u64.wrap
 ((l_14.set (4 : Nat)
 (Go.IntKind.u64.wrap
 (l_14.getD (4 : Nat) (0 : Int) + n_4))).getD
 (0 : Nat) (0 : Int) *
 n_2))
 (l_13.getD (0 : Nat) (0 : Int)) (0 : Int))
 (0 : Nat)).fst ∧
 liH
 ((l_14.set (4 : Nat)
 (Go.IntKind.u64.wrap (l_14.getD (4 : Nat) (0 : Int) + n_4))).getD
 (0 : Nat) (0 : Int))
 (Go.IntKind.u64.wrap
 ((l_14.set (4 : Nat)
 (Go.IntKind.u64.wrap (l_14.getD (4 : Nat) (0 : Int) + n_4))).getD
 (0 : Nat) (0 : Int) *
 n_2))
 (l_13.getD (0 : Nat) (0 : Int)) (0 : Int) =
 (reN
 (Go.IntKind.u64.wrap
 ((l_14.set (4 : Nat)
 (Go.IntKind.u64.wrap
 (l_14.getD (4 : Nat) (0 : Int) + n_4))).getD
 (0 : Nat) (0 : Int) *
 n_2))
 (l_14.set (4 : Nat)
 (Go.IntKind.u64.wrap (l_14.getD (4 : Nat) (0 : Int) + n_4)))
 (liH
 ((l_14.set (4 : Nat)
 (Go.IntKind.u64.wrap (l_14.getD (4 : Nat) (0 : Int) + n_4))).getD
 (0 : Nat) (0 : Int))
 (Go.IntKind.u64.wrap
 ((l_14.set (4 : Nat)
 (Go.IntKind.u64.wrap
 (l_14.getD (4 : Nat) (0 : Int) + n_4))).getD
 (0 : Nat) (0 : Int) *
 n_2))
 (l_13.getD (0 : Nat) (0 : Int)) (0 : Int))
 (0 : Nat)).snd) ∧
 True) ∧
 ∀ (n n_7 n_8 n_9 : Int) (l_15 : List Int) (n_10 : Int) (l_16 l_17 l_18 l_19 l_20 : List Int),
 l_15.length = (4 : Nat) →
 l_16.length = (4 : Nat) →
 l_17.length = (4 : Nat) →
 l_18.length = (4 : Nat) →
 l_19.length = (4 : Nat) →
 l_20.length = (5 : Nat) →
 n = n_2 ∧
 n_8 =
 Go.IntKind.u64.wrap
 ((l_14.set (4 : Nat)
 (Go.IntKind.u64.wrap (l_14.getD (4 : Nat) (0 : Int) + n_4))).getD
 (0 : Nat) (0 : Int) *
 n_2) ∧
 l_15 = l_8 ∧
 n_10 = n_5 ∧
 (1 : Int) ≤ n_9 ∧
 n_9 ≤ (4 : Int) ∧
 l_17 = l_11 ∧
 l_19 = l_13 ∧
 l_20 =
 (reN
 (Go.IntKind.u64.wrap
 ((l_14.set (4 : Nat)
 (Go.IntKind.u64.wrap
 (l_14.getD (4 : Nat) (0 : Int) + n_4))).getD
 (0 : Nat) (0 : Int) *
 n_2))
 (l_14.set (4 : Nat)
 (Go.IntKind.u64.wrap
 (l_14.getD (4 : Nat) (0 : Int) + n_4)))
 (liH
 ((l_14.set (4 : Nat)
 (Go.IntKind.u64.wrap
 (l_14.getD (4 : Nat) (0 : Int) + n_4))).getD
 (0 : Nat) (0 : Int))
 (Go.IntKind.u64.wrap
 ((l_14.set (4 : Nat)
 (Go.IntKind.u64.wrap
 (l_14.getD (4 : Nat) (0 : Int) + n_4))).getD
 (0 : Nat) (0 : Int) *
 n_2))
 (l_13.getD (0 : Nat) (0 : Int)) (0 : Int))
 (n_9.toNat - (1 : Nat))).fst ∧
 n_7 =
 (reN
 (Go.IntKind.u64.wrap
 ((l_14.set (4 : Nat)
 (Go.IntKind.u64.wrap
 (l_14.getD (4 : Nat) (0 : Int) + n_4))).getD
 (0 : Nat) (0 : Int) *
 n_2))
 (l_14.set (4 : Nat)
 (Go.IntKind.u64.wrap
 (l_14.getD (4 : Nat) (0 : Int) + n_4)))
 (liH
 ((l_14.set (4 : Nat)
 (Go.IntKind.u64.wrap
 (l_14.getD (4 : Nat) (0 : Int) + n_4))).getD
 (0 : Nat) (0 : Int))
 (Go.IntKind.u64.wrap
 ((l_14.set (4 : Nat)
 (Go.IntKind.u64.wrap
 (l_14.getD (4 : Nat) (0 : Int) + n_4))).getD
 (0 : Nat) (0 : Int) *
 n_2))
 (l_13.getD (0 : Nat) (0 : Int)) (0 : Int))
 (n_9.toNat - (1 : Nat))).snd →
 bif decide (n_9 < (4 : Int)) then
 ((-9223372036854775808 : Int) ≤ n_9 - (1 : Int) ∧
 n_9 - (1 : Int) ≤ (9223372036854775807 : Int)) ∧
 ((0 : Int) ≤ n_9 ∧ n_9 < (↑(5 : Nat) : Int)) ∧
 n_9.toNat * (1 : Nat) < (5 : Nat) ∧
 ((0 : Int) ≤ n_9 ∧ n_9 < (↑(4 : Nat) : Int)) ∧
 n_9.toNat * (1 : Nat) < (4 : Nat) ∧
 (isW
 (l_20.getD (n_9.toNat * (1 : Nat)) (0 : Int)) ∧
 isW n_8 ∧
 isW
 (l_19.getD (n_9.toNat * (1 : Nat)) (0 : Int)) ∧
 isW n_7) ∧
 ((0 : Int) ≤ n_9 - (1 : Int) ∧ n_9 - (1 : Int) < (↑(5 : Nat) : Int)) ∧
 (n_9 - (1 : Int)).toNat * (1 : Nat) < (5 : Nat) ∧
 ((-9223372036854775808 : Int) ≤ n_9 + (1 : Int) ∧
 n_9 + (1 : Int) ≤ (9223372036854775807 : Int)) ∧
 (n = n_2 ∧
 n_8 =
 Go.IntKind.u64.wrap
 ((l_14.set (4 : Nat)
 (Go.IntKind.u64.wrap
 (l_14.getD (4 : Nat) (0 : Int) + n_4))).getD
 (0 : Nat) (0 : Int) *
 n_2) ∧
 l_15 = l_8 ∧
 n_10 = n_5 ∧
 (1 : Int) ≤ n_9 + (1 : Int) ∧
 n_9 + (1 : Int) ≤ (4 : Int) ∧
 l_17 = l_11 ∧
 l_19 = l_13 ∧
 l_20.set ((n_9 - (1 : Int)).toNat * (1 : Nat))
 (liL
 (l_20.getD (n_9.toNat * (1 : Nat))
 (0 : Int))
 n_8
 (l_19.getD (n_9.toNat * (1 : Nat))
 (0 : Int))
 n_7) =
 (reN
 (Go.IntKind.u64.wrap
 ((l_14.set (4 : Nat)
 (Go.IntKind.u64.wrap
 (l_14.getD (4 : Nat)
 (0 : Int) +
 n_4))).getD
 (0 : Nat) (0 : Int) *
 n_2))
 (l_14.set (4 : Nat)
 (Go.IntKind.u64.wrap
 (l_14.getD (4 : Nat) (0 : Int) +
 n_4)))
 (liH
 ((l_14.set (4 : Nat)
 (Go.IntKind.u64.wrap
 (l_14.getD (4 : Nat)
 (0 : Int) +
 n_4))).getD
 (0 : Nat) (0 : Int))
 (Go.IntKind.u64.wrap
 ((l_14.set (4 : Nat)
 (Go.IntKind.u64.wrap
 (l_14.getD (4 : Nat)
 (0 : Int) +
 n_4))).getD
 (0 : Nat) (0 : Int) *
 n_2))
 (l_13.getD (0 : Nat) (0 : Int))
 (0 : Int))
 ((n_9 + (1 : Int)).toNat -
 (1 : Nat))).fst ∧
 liH
 (l_20.getD (n_9.toNat * (1 : Nat))
 (0 : Int))
 n_8
 (l_19.getD (n_9.toNat * (1 : Nat))
 (0 : Int))
 n_7 =
 (reN
 (Go.IntKind.u64.wrap
 ((l_14.set (4 : Nat)
 (Go.IntKind.u64.wrap
 (l_14.getD (4 : Nat)
 (0 : Int) +
 n_4))).getD
 (0 : Nat) (0 : Int) *
 n_2))
 (l_14.set (4 : Nat)
 (Go.IntKind.u64.wrap
 (l_14.getD (4 : Nat) (0 : Int) +
 n_4)))
 (liH
 ((l_14.set (4 : Nat)
 (Go.IntKind.u64.wrap
 (l_14.getD (4 : Nat)
 (0 : Int) +
 n_4))).getD
 (0 : Nat) (0 : Int))
 (Go.IntKind.u64.wrap
 ((l_14.set (4 : Nat)
 (Go.IntKind.u64.wrap
 (l_14.getD (4 : Nat)
 (0 : Int) +
 n_4))).getD
 (0 : Nat) (0 : Int) *
 n_2))
 (l_13.getD (0 : Nat) (0 : Int))
 (0 : Int))
 ((n_9 + (1 : Int)).toNat -
 (1 : Nat))).snd) ∧
 ((4 : Int) - (n_9 + (1 : Int))).toNat <
 ((4 : Int) - n_9).toNat
 else
 ((0 : Int) ≤ (4 : Int) ∧ (4 : Int) < (↑(5 : Nat) : Int)) ∧
 (4 : Nat) < (5 : Nat) ∧
 (isW (l_20.getD (4 : Nat) (0 : Int)) ∧
 isW n_7 ∧
 (0 : Int) ≤ (0 : Int) ∧ (0 : Int) ≤ (1 : Int)) ∧
 ((0 : Int) ≤ (3 : Int) ∧ (3 : Int) < (↑(5 : Nat) : Int)) ∧
 (3 : Nat) < (5 : Nat) ∧
 ((0 : Int) ≤ (4 : Int) ∧ (4 : Int) < (↑(5 : Nat) : Int)) ∧
 (4 : Nat) < (5 : Nat) ∧
 ((-9223372036854775808 : Int) ≤ n_10 + (1 : Int) ∧
 n_10 + (1 : Int) ≤ (9223372036854775807 : Int)) ∧
 (n = inv ∧
 l_15 = l ∧
 (0 : Int) ≤ n_10 + (1 : Int) ∧
 n_10 + (1 : Int) ≤ (4 : Int) ∧
 l_17 = l_1 ∧
 l_19 =
 [(4891460686036598785 : Int),
 (2896914383306846353 : Int),
 (13281191951274694749 : Int),
 (3486998266802970665 : Int)] ∧
 (l_20.set (3 : Nat)
 (adS
 (l_20.getD (4 : Nat) (0 : Int)) n_7
 (0 : Int))).set
 (4 : Nat)
 (adC
 (l_20.getD (4 : Nat) (0 : Int)) n_7
 (0 : Int)) =
 prN l l_1
 (n_10 + (1 : Int)).toNat) ∧
 ((4 : Int) - (n_10 + (1 : Int))).toNat < ((4 : Int) - n_1).toNat
 else
 ((0 : Int) ≤ (0 : Int) ∧ (0 : Int) ≤ (4 : Int) ∧ (4 : Int) ≤ (↑(5 : Nat) : Int) ∧ (0 : Int) < (↑(5 : Nat) : Int)) ∧
 (4 : Nat) ≤ (4 : Nat) ∧
 (4 : Nat) ≤ (5 : Nat) ∧
 areW (List.take (4 : Nat) (List.drop (0 : Nat) l_7)) ∧
 belW (List.take (4 : Nat) (List.drop (0 : Nat) l_7)) = prW l l_1
theorem e149 : ct149.VC (base.with sp188) Tryz.f149.results.toList Tryz.f149.ntmps (Tryz.f149.ntmps - ct149.ps.length) (bodyOf Tryz.f149) ann149 = P149 := by kernel_rfl
noncomputable def sp149 : SpecT := addS sp188 149 (mkF ct149)
def P139 : Prop :=
 ∀ (l : List Int),
 l.length = (4 : Nat) →
 areW l →
 (((0 : Int) ≤ (0 : Int) ∧ (0 : Int) ≤ (512 : Int) ∧ l = l ∧ [(1 : Int), (0 : Int), (0 : Int), (0 : Int)] = [(1 : Int), (0 : Int), (0 : Int), (0 : Int)]) ∧ True) ∧
 ∀ (n : Int) (l_1 l_2 l_3 : List Int),
 l_1.length = (4 : Nat) →
 l_2.length = (4 : Nat) →
 l_3.length = (4 : Nat) →
 (0 : Int) ≤ n ∧ n ≤ (512 : Int) ∧ l_1 = l ∧ l_3 = sqN n.toNat →
 bif decide (n < (512 : Int)) then
 (areW l_3 ∧ areW l_3) ∧
 areW (plN l_3 l_3 (4 : Nat)).fst ∧
 ((-9223372036854775808 : Int) ≤ n + (1 : Int) ∧ n + (1 : Int) ≤ (9223372036854775807 : Int)) ∧
 ((0 : Int) ≤ n + (1 : Int) ∧
 n + (1 : Int) ≤ (512 : Int) ∧
 l_1 = l ∧
 belW (plN l_3 l_3 (4 : Nat)).fst =
 sqN (n + (1 : Int)).toNat) ∧
 ((512 : Int) - (n + (1 : Int))).toNat < ((512 : Int) - n).toNat
 else
 (areW l_1 ∧ areW l_3) ∧
 prW l_1 l_3 = enW l
theorem e139 : ct139.VC (base.with sp149) Tryz.f139.results.toList Tryz.f139.ntmps (Tryz.f139.ntmps - ct139.ps.length) (bodyOf Tryz.f139) ann139 = P139 := by kernel_rfl
noncomputable def sp139 : SpecT := addS sp149 139 (mkF ct139)
def P101 : Prop :=
 ∀ (l : List Int),
 l.length = (4 : Nat) →
 areW l →
 (areW l ∧ areW [(1 : Int), (0 : Int), (0 : Int), (0 : Int)]) ∧
 prW l [(1 : Int), (0 : Int), (0 : Int), (0 : Int)] = leW l
theorem e101 : ct101.VC (base.with sp139) Tryz.f101.results.toList Tryz.f101.ntmps (Tryz.f101.ntmps - ct101.ps.length) (bodyOf Tryz.f101) noAnn = P101 := by kernel_rfl
noncomputable def sp101 : SpecT := addS sp139 101 (mkF ct101)
def P63 : Prop :=
 ∀ (l : List Int),
 l.length = (4 : Nat) →
 areW l →
 areW l ∧
 ((0 : Int) ≤ (0 : Int) ∧ (0 : Int) ≤ (↑(4 : Nat) : Int) ∧ (↑(4 : Nat) : Int) ≤ (↑(4 : Nat) : Int) ∧ (0 : Int) < (↑(4 : Nat) : Int)) ∧
 ((List.map (fun x => [CD.int x]) (List.take (4 : Nat) (List.drop (0 : Nat) (leW l)))).length ≤ (1000 : Nat) ∧
 areR
 (List.map (fun x => [CD.int x]) (List.take (4 : Nat) (List.drop (0 : Nat) (leW l))))) ∧
 (32 : Nat) ≤
 (List.map row1
 (bysN
 (rv
 (List.map (fun x => [CD.int x]) (List.take (4 : Nat) (List.drop (0 : Nat) (leW l)))))
 (List.map (fun x => [CD.int x]) (List.take (4 : Nat) (List.drop (0 : Nat) (leW l)))).length)).length ∧
 (32 : Nat) ≤
 (List.map row1
 (bysN
 (rv
 (List.map (fun x => [CD.int x]) (List.take (4 : Nat) (List.drop (0 : Nat) (leW l)))))
 (List.map (fun x => [CD.int x]) (List.take (4 : Nat) (List.drop (0 : Nat) (leW l)))).length)).length ∧
 List.map (fun r => (r.getD (0 : Nat) (CD.int (0 : Int))).toInt)
 (List.take (32 : Nat)
 (List.drop (0 : Nat)
 (List.map row1
 (bysN
 (rv
 (List.map (fun x => [CD.int x]) (List.take (4 : Nat) (List.drop (0 : Nat) (leW l)))))
 (List.map (fun x => [CD.int x]) (List.take (4 : Nat) (List.drop (0 : Nat) (leW l)))).length)))) =
 elB l
theorem e63 : ct63.VC (base.with sp101) Tryz.f63.results.toList Tryz.f63.ntmps (Tryz.f63.ntmps - ct63.ps.length) (bodyOf Tryz.f63) noAnn = P63 := by kernel_rfl
noncomputable def sp63 : SpecT := addS sp101 63 (mkF ct63)
def P177 : Prop :=
 ∀ (l : List (List CD)),
 l.length ≤ (9223372036854775807 : Nat) →
 areB l →
 l.length ≤ (9223372036854775807 : Nat) →
 bif decide ((↑l.length : Int) ≠ (32 : Int)) then
 bif decide (l.length ≠ (32 : Nat)) then [(0 : Int), (0 : Int), (0 : Int), (0 : Int)] = [(0 : Int), (0 : Int), (0 : Int), (0 : Int)] ∧ (1 : Int) = (1 : Int)
 else
 bif
 decide
 ((boN (w32 l)
 [(4891460686036598785 : Int), (2896914383306846353 : Int), (13281191951274694749 : Int), (3486998266802970665 : Int)] (4 : Nat)).snd =
 (0 : Int)) then
 [(0 : Int), (0 : Int), (0 : Int), (0 : Int)] = [(0 : Int), (0 : Int), (0 : Int), (0 : Int)] ∧ (1 : Int) = (4 : Int)
 else [(0 : Int), (0 : Int), (0 : Int), (0 : Int)] = enW (w32 l) ∧ (1 : Int) = (0 : Int)
 else
 (l.length ≤ (1000 : Nat) ∧ areB l) ∧
 (4 : Nat) ≤ (List.map row1 (wsN l l.length)).length ∧
 (4 : Nat) ≤ (List.map row1 (wsN l l.length)).length ∧
 True ∧
 (areW
 (List.map (fun r => (r.getD (0 : Nat) (CD.int (0 : Int))).toInt)
 (List.take (4 : Nat) (List.drop (0 : Nat) (List.map row1 (wsN l l.length))))) ∧
 areW
 [(4891460686036598785 : Int), (2896914383306846353 : Int), (13281191951274694749 : Int), (3486998266802970665 : Int)]) ∧
 bif
 decide
 ((boN
 (List.map (fun r => (r.getD (0 : Nat) (CD.int (0 : Int))).toInt)
 (List.take (4 : Nat)
 (List.drop (0 : Nat) (List.map row1 (wsN l l.length)))))
 [(4891460686036598785 : Int), (2896914383306846353 : Int), (13281191951274694749 : Int), (3486998266802970665 : Int)] (4 : Nat)).snd =
 (0 : Int)) then
 bif decide (l.length ≠ (32 : Nat)) then [(0 : Int), (0 : Int), (0 : Int), (0 : Int)] = [(0 : Int), (0 : Int), (0 : Int), (0 : Int)] ∧ (4 : Int) = (1 : Int)
 else
 bif
 decide
 ((boN (w32 l)
 [(4891460686036598785 : Int), (2896914383306846353 : Int), (13281191951274694749 : Int), (3486998266802970665 : Int)] (4 : Nat)).snd =
 (0 : Int)) then
 [(0 : Int), (0 : Int), (0 : Int), (0 : Int)] = [(0 : Int), (0 : Int), (0 : Int), (0 : Int)] ∧ (4 : Int) = (4 : Int)
 else
 [(0 : Int), (0 : Int), (0 : Int), (0 : Int)] = enW (w32 l) ∧ (4 : Int) = (0 : Int)
 else
 areW
 (List.map (fun r => (r.getD (0 : Nat) (CD.int (0 : Int))).toInt)
 (List.take (4 : Nat) (List.drop (0 : Nat) (List.map row1 (wsN l l.length))))) ∧
 bif decide (l.length ≠ (32 : Nat)) then
 enW
 (List.map (fun r => (r.getD (0 : Nat) (CD.int (0 : Int))).toInt)
 (List.take (4 : Nat)
 (List.drop (0 : Nat) (List.map row1 (wsN l l.length))))) =
 [(0 : Int), (0 : Int), (0 : Int), (0 : Int)] ∧
 (0 : Int) = (1 : Int)
 else
 bif
 decide
 ((boN (w32 l)
 [(4891460686036598785 : Int), (2896914383306846353 : Int), (13281191951274694749 : Int), (3486998266802970665 : Int)] (4 : Nat)).snd =
 (0 : Int)) then
 enW
 (List.map (fun r => (r.getD (0 : Nat) (CD.int (0 : Int))).toInt)
 (List.take (4 : Nat)
 (List.drop (0 : Nat) (List.map row1 (wsN l l.length))))) =
 [(0 : Int), (0 : Int), (0 : Int), (0 : Int)] ∧
 (0 : Int) = (4 : Int)
 else
 enW
 (List.map (fun r => (r.getD (0 : Nat) (CD.int (0 : Int))).toInt)
 (List.take (4 : Nat)
 (List.drop (0 : Nat) (List.map row1 (wsN l l.length))))) =
 enW (w32 l) ∧
 (0 : Int) = (0 : Int)
theorem e177 : ct177.VC (base.with sp63) Tryz.f177.results.toList Tryz.f177.ntmps (Tryz.f177.ntmps - ct177.ps.length) (bodyOf Tryz.f177) noAnn = P177 := by kernel_rfl
noncomputable def sp177 : SpecT := addS sp63 177 (mkF ct177)
def P280 : Prop :=
 ∀ (l : List Int),
 l.length = (32 : Nat) →
 True →
 ((0 : Int) ≤ (31 : Int) ∧ (31 : Int) < (↑(32 : Nat) : Int)) ∧
 (31 : Nat) < (32 : Nat) ∧
 ((0 : Int) ≤ (31 : Int) ∧ (31 : Int) < (↑(32 : Nat) : Int)) ∧
 (31 : Nat) < (32 : Nat) ∧ l.set (31 : Nat) (bAnd Go.IntKind.u8 (l.getD (31 : Nat) (0 : Int)) (63 : Int)) = maskL l
theorem e280 : ct280.VC (base.with sp177) Tryz.f280.results.toList Tryz.f280.ntmps (Tryz.f280.ntmps - ct280.ps.length) (bodyOf Tryz.f280) noAnn = P280 := by kernel_rfl
noncomputable def sp280 : SpecT := addS sp177 280 (mkF ct280)
end Go.Proofs.YteiecapbaeajdaaGreatDoor
