/-
 Conditions of contracts, as the kernel reckons them (printed by a program of ours, checked by the kernel).
-/
import Derived.Test.YteiecapbaeajdaaGreatDoorJ8
import Derived.Test.YteiecapbaeajdaaGreatDoorJ7
import Derived.WalkKit
namespace Go.Proofs.YteiecapbaeajdaaGreatDoor
open Go Go.Avc Go.Proofs
set_option linter.unusedVariables false
set_option maxRecDepth 100000
def P210 : Prop :=
 ∀ (n : Int),
 isW n →
 bif decide ((4294967296 : Int) ≤ n) then
 (0 : Int) ≤ (32 : Int) ∧
 bif decide ((65536 : Int) ≤ bShr Go.IntKind.u64 n (32 : Int)) then
 (0 : Int) ≤ (16 : Int) ∧
 ((-9223372036854775808 : Int) ≤ (32 : Int) + (16 : Int) ∧ (32 : Int) + (16 : Int) ≤ (9223372036854775807 : Int)) ∧
 bif decide ((256 : Int) ≤ bShr Go.IntKind.u64 (bShr Go.IntKind.u64 n (32 : Int)) (16 : Int)) then
 (0 : Int) ≤ (8 : Int) ∧
 ((-9223372036854775808 : Int) ≤ (32 : Int) + (16 : Int) + (8 : Int) ∧ (32 : Int) + (16 : Int) + (8 : Int) ≤ (9223372036854775807 : Int)) ∧
 ((0 : Int) ≤ Go.IntKind.u8.wrap (bShr Go.IntKind.u64 (bShr Go.IntKind.u64 (bShr Go.IntKind.u64 n (32 : Int)) (16 : Int)) (8 : Int)) ∧
 Go.IntKind.u8.wrap (bShr Go.IntKind.u64 (bShr Go.IntKind.u64 (bShr Go.IntKind.u64 n (32 : Int)) (16 : Int)) (8 : Int)) <
 (↑(256 : Nat) : Int)) ∧
 ((-9223372036854775808 : Int) ≤
 (32 : Int) + (16 : Int) + (8 : Int) +
 Go.IntKind.i64.wrap
 (↑(len8T.getD
 (Go.IntKind.u8.wrap
 (bShr Go.IntKind.u64 (bShr Go.IntKind.u64 (bShr Go.IntKind.u64 n (32 : Int)) (16 : Int)) (8 : Int))).toNat
 (0 : UInt8)).toNat :
 Int) ∧
 (32 : Int) + (16 : Int) + (8 : Int) +
 Go.IntKind.i64.wrap
 (↑(len8T.getD
 (Go.IntKind.u8.wrap
 (bShr Go.IntKind.u64 (bShr Go.IntKind.u64 (bShr Go.IntKind.u64 n (32 : Int)) (16 : Int)) (8 : Int))).toNat
 (0 : UInt8)).toNat :
 Int) ≤
 (9223372036854775807 : Int)) ∧
 (32 : Int) + (16 : Int) + (8 : Int) +
 Go.IntKind.i64.wrap
 (↑(len8T.getD
 (Go.IntKind.u8.wrap
 (bShr Go.IntKind.u64 (bShr Go.IntKind.u64 (bShr Go.IntKind.u64 n (32 : Int)) (16 : Int)) (8 : Int))).toNat
 (0 : UInt8)).toNat :
 Int) =
 lenW n
 else
 ((0 : Int) ≤ Go.IntKind.u8.wrap (bShr Go.IntKind.u64 (bShr Go.IntKind.u64 n (32 : Int)) (16 : Int)) ∧
 Go.IntKind.u8.wrap (bShr Go.IntKind.u64 (bShr Go.IntKind.u64 n (32 : Int)) (16 : Int)) < (↑(256 : Nat) : Int)) ∧
 ((-9223372036854775808 : Int) ≤
 (32 : Int) + (16 : Int) +
 Go.IntKind.i64.wrap
 (↑(len8T.getD
 (Go.IntKind.u8.wrap (bShr Go.IntKind.u64 (bShr Go.IntKind.u64 n (32 : Int)) (16 : Int))).toNat (0 : UInt8)).toNat :
 Int) ∧
 (32 : Int) + (16 : Int) +
 Go.IntKind.i64.wrap
 (↑(len8T.getD
 (Go.IntKind.u8.wrap (bShr Go.IntKind.u64 (bShr Go.IntKind.u64 n (32 : Int)) (16 : Int))).toNat (0 : UInt8)).toNat :
 Int) ≤
 (9223372036854775807 : Int)) ∧
 (32 : Int) + (16 : Int) +
 Go.IntKind.i64.wrap
 (↑(len8T.getD
 (Go.IntKind.u8.wrap (bShr Go.IntKind.u64 (bShr Go.IntKind.u64 n (32 : Int)) (16 : Int))).toNat (0 : UInt8)).toNat :
 Int) =
 lenW n
 else
 bif decide ((256 : Int) ≤ bShr Go.IntKind.u64 n (32 : Int)) then
 (0 : Int) ≤ (8 : Int) ∧
 ((-9223372036854775808 : Int) ≤ (32 : Int) + (8 : Int) ∧ (32 : Int) + (8 : Int) ≤ (9223372036854775807 : Int)) ∧
 ((0 : Int) ≤ Go.IntKind.u8.wrap (bShr Go.IntKind.u64 (bShr Go.IntKind.u64 n (32 : Int)) (8 : Int)) ∧
 Go.IntKind.u8.wrap (bShr Go.IntKind.u64 (bShr Go.IntKind.u64 n (32 : Int)) (8 : Int)) < (↑(256 : Nat) : Int)) ∧
 ((-9223372036854775808 : Int) ≤
 (32 : Int) + (8 : Int) +
 Go.IntKind.i64.wrap
 (↑(len8T.getD
 (Go.IntKind.u8.wrap (bShr Go.IntKind.u64 (bShr Go.IntKind.u64 n (32 : Int)) (8 : Int))).toNat (0 : UInt8)).toNat :
 Int) ∧
 (32 : Int) + (8 : Int) +
 Go.IntKind.i64.wrap
 (↑(len8T.getD
 (Go.IntKind.u8.wrap (bShr Go.IntKind.u64 (bShr Go.IntKind.u64 n (32 : Int)) (8 : Int))).toNat (0 : UInt8)).toNat :
 Int) ≤
 (9223372036854775807 : Int)) ∧
 (32 : Int) + (8 : Int) +
 Go.IntKind.i64.wrap
 (↑(len8T.getD
 (Go.IntKind.u8.wrap (bShr Go.IntKind.u64 (bShr Go.IntKind.u64 n (32 : Int)) (8 : Int))).toNat (0 : UInt8)).toNat :
 Int) =
 lenW n
 else
 ((0 : Int) ≤ Go.IntKind.u8.wrap (bShr Go.IntKind.u64 n (32 : Int)) ∧ Go.IntKind.u8.wrap (bShr Go.IntKind.u64 n (32 : Int)) < (↑(256 : Nat) : Int)) ∧
 ((-9223372036854775808 : Int) ≤
 (32 : Int) +
 Go.IntKind.i64.wrap
 (↑(len8T.getD
 (Go.IntKind.u8.wrap (bShr Go.IntKind.u64 n (32 : Int))).toNat (0 : UInt8)).toNat :
 Int) ∧
 (32 : Int) +
 Go.IntKind.i64.wrap
 (↑(len8T.getD
 (Go.IntKind.u8.wrap (bShr Go.IntKind.u64 n (32 : Int))).toNat (0 : UInt8)).toNat :
 Int) ≤
 (9223372036854775807 : Int)) ∧
 (32 : Int) +
 Go.IntKind.i64.wrap
 (↑(len8T.getD
 (Go.IntKind.u8.wrap (bShr Go.IntKind.u64 n (32 : Int))).toNat (0 : UInt8)).toNat :
 Int) =
 lenW n
 else
 bif decide ((65536 : Int) ≤ n) then
 (0 : Int) ≤ (16 : Int) ∧
 ((-9223372036854775808 : Int) ≤ (0 : Int) + (16 : Int) ∧ (0 : Int) + (16 : Int) ≤ (9223372036854775807 : Int)) ∧
 bif decide ((256 : Int) ≤ bShr Go.IntKind.u64 n (16 : Int)) then
 (0 : Int) ≤ (8 : Int) ∧
 ((-9223372036854775808 : Int) ≤ (0 : Int) + (16 : Int) + (8 : Int) ∧ (0 : Int) + (16 : Int) + (8 : Int) ≤ (9223372036854775807 : Int)) ∧
 ((0 : Int) ≤ Go.IntKind.u8.wrap (bShr Go.IntKind.u64 (bShr Go.IntKind.u64 n (16 : Int)) (8 : Int)) ∧
 Go.IntKind.u8.wrap (bShr Go.IntKind.u64 (bShr Go.IntKind.u64 n (16 : Int)) (8 : Int)) < (↑(256 : Nat) : Int)) ∧
 ((-9223372036854775808 : Int) ≤
 (0 : Int) + (16 : Int) + (8 : Int) +
 Go.IntKind.i64.wrap
 (↑(len8T.getD
 (Go.IntKind.u8.wrap (bShr Go.IntKind.u64 (bShr Go.IntKind.u64 n (16 : Int)) (8 : Int))).toNat (0 : UInt8)).toNat :
 Int) ∧
 (0 : Int) + (16 : Int) + (8 : Int) +
 Go.IntKind.i64.wrap
 (↑(len8T.getD
 (Go.IntKind.u8.wrap (bShr Go.IntKind.u64 (bShr Go.IntKind.u64 n (16 : Int)) (8 : Int))).toNat (0 : UInt8)).toNat :
 Int) ≤
 (9223372036854775807 : Int)) ∧
 (0 : Int) + (16 : Int) + (8 : Int) +
 Go.IntKind.i64.wrap
 (↑(len8T.getD
 (Go.IntKind.u8.wrap (bShr Go.IntKind.u64 (bShr Go.IntKind.u64 n (16 : Int)) (8 : Int))).toNat (0 : UInt8)).toNat :
 Int) =
 lenW n
 else
 ((0 : Int) ≤ Go.IntKind.u8.wrap (bShr Go.IntKind.u64 n (16 : Int)) ∧ Go.IntKind.u8.wrap (bShr Go.IntKind.u64 n (16 : Int)) < (↑(256 : Nat) : Int)) ∧
 ((-9223372036854775808 : Int) ≤
 (0 : Int) + (16 : Int) +
 Go.IntKind.i64.wrap
 (↑(len8T.getD
 (Go.IntKind.u8.wrap (bShr Go.IntKind.u64 n (16 : Int))).toNat (0 : UInt8)).toNat :
 Int) ∧
 (0 : Int) + (16 : Int) +
 Go.IntKind.i64.wrap
 (↑(len8T.getD
 (Go.IntKind.u8.wrap (bShr Go.IntKind.u64 n (16 : Int))).toNat (0 : UInt8)).toNat :
 Int) ≤
 (9223372036854775807 : Int)) ∧
 (0 : Int) + (16 : Int) +
 Go.IntKind.i64.wrap
 (↑(len8T.getD
 (Go.IntKind.u8.wrap (bShr Go.IntKind.u64 n (16 : Int))).toNat (0 : UInt8)).toNat :
 Int) =
 lenW n
 else
 bif decide ((256 : Int) ≤ n) then
 (0 : Int) ≤ (8 : Int) ∧
 ((-9223372036854775808 : Int) ≤ (0 : Int) + (8 : Int) ∧ (0 : Int) + (8 : Int) ≤ (9223372036854775807 : Int)) ∧
 ((0 : Int) ≤ Go.IntKind.u8.wrap (bShr Go.IntKind.u64 n (8 : Int)) ∧ Go.IntKind.u8.wrap (bShr Go.IntKind.u64 n (8 : Int)) < (↑(256 : Nat) : Int)) ∧
 ((-9223372036854775808 : Int) ≤
 (0 : Int) + (8 : Int) +
 Go.IntKind.i64.wrap
 (↑(len8T.getD
 (Go.IntKind.u8.wrap (bShr Go.IntKind.u64 n (8 : Int))).toNat (0 : UInt8)).toNat :
 Int) ∧
 (0 : Int) + (8 : Int) +
 Go.IntKind.i64.wrap
 (↑(len8T.getD
 (Go.IntKind.u8.wrap (bShr Go.IntKind.u64 n (8 : Int))).toNat (0 : UInt8)).toNat :
 Int) ≤
 (9223372036854775807 : Int)) ∧
 (0 : Int) + (8 : Int) +
 Go.IntKind.i64.wrap
 (↑(len8T.getD
 (Go.IntKind.u8.wrap (bShr Go.IntKind.u64 n (8 : Int))).toNat (0 : UInt8)).toNat :
 Int) =
 lenW n
 else
 ((0 : Int) ≤ Go.IntKind.u8.wrap n ∧ Go.IntKind.u8.wrap n < (↑(256 : Nat) : Int)) ∧
 ((-9223372036854775808 : Int) ≤
 (0 : Int) +
 Go.IntKind.i64.wrap
 (↑(len8T.getD
 (Go.IntKind.u8.wrap n).toNat (0 : UInt8)).toNat :
 Int) ∧
 (0 : Int) +
 Go.IntKind.i64.wrap
 (↑(len8T.getD
 (Go.IntKind.u8.wrap n).toNat (0 : UInt8)).toNat :
 Int) ≤
 (9223372036854775807 : Int)) ∧
 (0 : Int) +
 Go.IntKind.i64.wrap
 (↑(len8T.getD
 (Go.IntKind.u8.wrap n).toNat (0 : UInt8)).toNat :
 Int) =
 lenW n
theorem e210 : ct210.VC (base.with sp30) Tryz.f210.results.toList Tryz.f210.ntmps (Tryz.f210.ntmps - ct210.ps.length) (bodyOf Tryz.f210) noAnn = P210 := by kernel_rfl
noncomputable def sp210 : SpecT := addS sp30 210 (mkF ct210)
def P186 : Prop :=
 ∀ (l : List (List CD)),
 l.length ≤ (9223372036854775807 : Nat) →
 okL l →
 l.length ≤ (9223372036854775807 : Nat) →
 ((-9223372036854775808 : Int) ≤ (↑l.length : Int) - (1 : Int) ∧ (↑l.length : Int) - (1 : Int) ≤ (9223372036854775807 : Int)) ∧
 ((l = l ∧
 (-1 : Int) ≤ (↑l.length : Int) - (1 : Int) ∧
 (↑l.length : Int) - (1 : Int) < (↑l.length : Int) ∧
 btN l l.length = btN l ((↑l.length : Int) - (1 : Int) + (1 : Int)).toNat) ∧
 True) ∧
 ∀ (l_1 : List (List CD)) (n : Int),
 l_1.length ≤ (9223372036854775807 : Nat) →
 l_1 = l ∧
 (-1 : Int) ≤ n ∧ n < (↑l.length : Int) ∧ btN l l.length = btN l (n + (1 : Int)).toNat →
 bif decide ((0 : Int) ≤ n) then
 ((0 : Int) ≤ n ∧ n < (↑l_1.length : Int)) ∧
 n.toNat < l_1.length ∧
 bif decide (((l_1.getD n.toNat []).getD (0 : Nat) (CD.int (0 : Int))).toInt ≠ (0 : Int)) then
 ((-9223372036854775808 : Int) ≤ (64 : Int) * n ∧ (64 : Int) * n ≤ (9223372036854775807 : Int)) ∧
 ((0 : Int) ≤ n ∧ n < (↑l_1.length : Int)) ∧
 n.toNat < l_1.length ∧
 isW ((l_1.getD n.toNat []).getD (0 : Nat) (CD.int (0 : Int))).toInt ∧
 ((-9223372036854775808 : Int) ≤
 (64 : Int) * n + lenW ((l_1.getD n.toNat []).getD (0 : Nat) (CD.int (0 : Int))).toInt ∧
 (64 : Int) * n + lenW ((l_1.getD n.toNat []).getD (0 : Nat) (CD.int (0 : Int))).toInt ≤
 (9223372036854775807 : Int)) ∧
 (64 : Int) * n + lenW ((l_1.getD n.toNat []).getD (0 : Nat) (CD.int (0 : Int))).toInt =
 btN l l.length
 else
 ((-9223372036854775808 : Int) ≤ n - (1 : Int) ∧ n - (1 : Int) ≤ (9223372036854775807 : Int)) ∧
 (l_1 = l ∧
 (-1 : Int) ≤ n - (1 : Int) ∧
 n - (1 : Int) < (↑l.length : Int) ∧
 btN l l.length = btN l (n - (1 : Int) + (1 : Int)).toNat) ∧
 (n - (1 : Int) + (1 : Int)).toNat < (n + (1 : Int)).toNat
 else (0 : Int) = btN l l.length
theorem e186 : ct186.VC (base.with sp210) Tryz.f186.results.toList Tryz.f186.ntmps (Tryz.f186.ntmps - ct186.ps.length) (bodyOf Tryz.f186) ann186 = P186 := by kernel_rfl
noncomputable def sp186 : SpecT := addS sp210 186 (mkF ct186)
def P143 : Prop :=
 ∀ (l : List (List CD)),
 l.length ≤ (9223372036854775807 : Nat) →
 okM l →
 l.length ≤ (9223372036854775807 : Nat) →
 (bw false (decide ((↑l.length : Int) < (1 : Int))) = true → l.length ≤ (9223372036854775807 : Nat)) →
 ((!(decide ((↑l.length : Int) < (1 : Int)) || decide ((16 : Int) < (↑l.length : Int)))) = true → (0 : Int) ≤ (0 : Int) ∧ (0 : Int) < (↑l.length : Int)) ∧
 ((!(decide ((↑l.length : Int) < (1 : Int)) || decide ((16 : Int) < (↑l.length : Int)))) = true → (0 : Nat) < l.length) ∧
 ((bw false
 (decide ((↑l.length : Int) < (1 : Int)) || decide ((16 : Int) < (↑l.length : Int)) ||
 decide (bAnd Go.IntKind.u64 ((l.getD (Int.toNat (0 : Int)) []).getD (0 : Nat) CD.d0).toInt (1 : Int) = (0 : Int))) =
 true →
 l.length ≤ (9223372036854775807 : Nat)) →
 ((!(decide ((↑l.length : Int) < (1 : Int)) || decide ((16 : Int) < (↑l.length : Int)) ||
 decide (bAnd Go.IntKind.u64 ((l.getD (0 : Nat) []).getD (0 : Nat) (CD.int (0 : Int))).toInt (1 : Int) = (0 : Int)))) =
 true →
 (-9223372036854775808 : Int) ≤ (↑l.length : Int) - (1 : Int) ∧ (↑l.length : Int) - (1 : Int) ≤ (9223372036854775807 : Int)) ∧
 ((!(decide ((↑l.length : Int) < (1 : Int)) || decide ((16 : Int) < (↑l.length : Int)) ||
 decide (bAnd Go.IntKind.u64 ((l.getD (0 : Nat) []).getD (0 : Nat) (CD.int (0 : Int))).toInt (1 : Int) = (0 : Int)))) =
 true →
 (0 : Int) ≤ (↑l.length : Int) - (1 : Int) ∧ (↑l.length : Int) - (1 : Int) < (↑l.length : Int)) ∧
 ((!(decide ((↑l.length : Int) < (1 : Int)) || decide ((16 : Int) < (↑l.length : Int)) ||
 decide (bAnd Go.IntKind.u64 ((l.getD (0 : Nat) []).getD (0 : Nat) (CD.int (0 : Int))).toInt (1 : Int) = (0 : Int)))) =
 true →
 ((↑l.length : Int) - (1 : Int)).toNat < l.length) ∧
 ((bw false
 (decide ((↑l.length : Int) < (1 : Int)) || decide ((16 : Int) < (↑l.length : Int)) ||
 decide (bAnd Go.IntKind.u64 ((l.getD (Int.toNat (0 : Int)) []).getD (0 : Nat) CD.d0).toInt (1 : Int) = (0 : Int)) ||
 decide (((l.getD ((↑l.length : Int) - (1 : Int)).toNat []).getD (0 : Nat) CD.d0).toInt = (0 : Int))) =
 true →
 l.length ≤ (9223372036854775807 : Nat)) →
 ((({ t := (34 : Nat), d := (30 : Nat), want := false, c := !(decide ((↑l.length : Int) < (1 : Int)) || decide ((16 : Int) < (↑l.length : Int)) || decide (bAnd Go.IntKind.u64 ((l.getD (0 : Nat) []).getD (0 : Nat) (CD.int (0 : Int))).toInt (1 : Int) = (0 : Int)) || decide (((l.getD ((↑l.length : Int) - (1 : Int)).toNat []).getD (0 : Nat) (CD.int (0 : Int))).toInt = (0 : Int))), sv := SV.bool (decide ((↑l.length : Int) = (1 : Int))) } : GE).c &&
 decide ((↑l.length : Int) = (1 : Int))) =
 true →
 (0 : Int) ≤ (0 : Int) ∧ (0 : Int) < (↑l.length : Int)) ∧
 ((({ t := (34 : Nat), d := (30 : Nat), want := false, c := !(decide ((↑l.length : Int) < (1 : Int)) || decide ((16 : Int) < (↑l.length : Int)) || decide (bAnd Go.IntKind.u64 ((l.getD (0 : Nat) []).getD (0 : Nat) (CD.int (0 : Int))).toInt (1 : Int) = (0 : Int)) || decide (((l.getD ((↑l.length : Int) - (1 : Int)).toNat []).getD (0 : Nat) (CD.int (0 : Int))).toInt = (0 : Int))), sv := SV.bool (decide ((↑l.length : Int) = (1 : Int))) } : GE).c &&
 decide ((↑l.length : Int) = (1 : Int))) =
 true →
 (0 : Nat) < l.length) ∧
 bif
 decide ((↑l.length : Int) < (1 : Int)) || decide ((16 : Int) < (↑l.length : Int)) ||
 decide (bAnd Go.IntKind.u64 ((l.getD (0 : Nat) []).getD (0 : Nat) (CD.int (0 : Int))).toInt (1 : Int) = (0 : Int)) ||
 decide (((l.getD ((↑l.length : Int) - (1 : Int)).toNat []).getD (0 : Nat) (CD.int (0 : Int))).toInt = (0 : Int)) ||
 decide ((↑l.length : Int) = (1 : Int)) && decide (((l.getD (0 : Nat) []).getD (0 : Nat) (CD.int (0 : Int))).toInt = (1 : Int)) then
 Miss (2 : Nat) { n := (0 : Nat), ov := [], tm := [SV.tup [SV.nilp, SV.int Go.IntKind.i64 (1 : Int)]], hp := [], G := [] }
 else
 l.length ≤ (1000 : Nat) ∧
 ((l = l ∧
 l = l ∧
 (0 : Int) ≤ (0 : Int) ∧
 (0 : Int) ≤ (6 : Int) ∧
 (1 : Int) = ngN (rv l (0 : Nat)) (0 : Nat)) ∧
 True) ∧
 ∀ (l_1 : List (List CD)) (n n_1 : Int) (l_2 : List (List CD)) (n_2 : Int) (l_3 : List (List CD)),
 l_1.length ≤ (9223372036854775807 : Nat) →
 l_2.length ≤ (9223372036854775807 : Nat) →
 l_3.length ≤ (9223372036854775807 : Nat) →
 l_1 = l ∧
 l_2 = l ∧
 (0 : Int) ≤ n_1 ∧
 n_1 ≤ (6 : Int) ∧ n = ngN (rv l (0 : Nat)) n_1.toNat →
 bif decide (n_1 < (6 : Int)) then
 ((0 : Int) ≤ (0 : Int) ∧ (0 : Int) < (↑l_1.length : Int)) ∧
 (0 : Nat) < l_1.length ∧
 ((-9223372036854775808 : Int) ≤ n_1 + (1 : Int) ∧ n_1 + (1 : Int) ≤ (9223372036854775807 : Int)) ∧
 (l_1 = l ∧
 l_2 = l ∧
 (0 : Int) ≤ n_1 + (1 : Int) ∧
 n_1 + (1 : Int) ≤ (6 : Int) ∧
 Go.IntKind.u64.wrap
 (n *
 Go.IntKind.u64.wrap
 ((2 : Int) -
 Go.IntKind.u64.wrap (((l_1.getD (0 : Nat) []).getD (0 : Nat) (CD.int (0 : Int))).toInt * n))) =
 ngN (rv l (0 : Nat))
 (n_1 + (1 : Int)).toNat) ∧
 ((6 : Int) - (n_1 + (1 : Int))).toNat < ((6 : Int) - n_1).toNat
 else
 l_1.length ≤ (9223372036854775807 : Nat) →
 ((0 : Int) ≤ (↑l_1.length : Int) ∧
 (↑l_1.length : Int) ≤ (↑l_1.length : Int) ∧
 (↑(8 : Nat) : Int) * (↑l_1.length : Int) ≤ (140737488355328 : Int) ∧ (↑l_1.length : Int) ≤ (9223372036854775807 : Int)) ∧
 ((0 : Int) ≤ (0 : Int) ∧ (0 : Int) < (↑(List.replicate (↑l_1.length : Int).toNat [CD.int (0 : Int)]).length : Int)) ∧
 (0 : Nat) < (List.replicate (↑l_1.length : Int).toNat [CD.int (0 : Int)]).length ∧
 (l_1.length ≤ (9223372036854775807 : Nat) →
 ((-9223372036854775808 : Int) ≤ (128 : Int) * (↑l_1.length : Int) ∧
 (128 : Int) * (↑l_1.length : Int) ≤ (9223372036854775807 : Int)) ∧
 (((128 : Int) * (↑l_1.length : Int) = (128 : Int) * (↑l.length : Int) ∧
 (0 : Int) ≤ (0 : Int) ∧
 (0 : Int) ≤ (128 : Int) * (↑l_1.length : Int) ∧
 l_2 = l ∧
 Go.IntKind.u64.wrap ((0 : Int) - n) =
 ngI (rv l (0 : Nat)) ∧
 (List.replicate (↑l_1.length : Int).toNat [CD.int (0 : Int)]).set (0 : Nat)
 (((List.replicate (↑l_1.length : Int).toNat [CD.int (0 : Int)]).getD (0 : Nat) []).set (0 : Nat)
 (CD.int (1 : Int))) =
 sqM l (0 : Nat)) ∧
 True) ∧
 ∀ (n n_3 : Int) (l_4 : List (List CD)) (n_4 : Int) (l_5 : List (List CD)),
 l_4.length ≤ (9223372036854775807 : Nat) →
 l_5.length ≤ (9223372036854775807 : Nat) →
 n = (128 : Int) * (↑l.length : Int) ∧
 (0 : Int) ≤ n_3 ∧
 n_3 ≤ n ∧
 l_4 = l ∧
 n_4 = ngI (rv l (0 : Nat)) ∧
 l_5 = sqM l n_3.toNat →
 bif decide (n_3 < n) then
 (okL l_5 ∧ okL l_4) ∧
 ((-9223372036854775808 : Int) ≤ n_3 + (1 : Int) ∧ n_3 + (1 : Int) ≤ (9223372036854775807 : Int)) ∧
 (n = (128 : Int) * (↑l.length : Int) ∧
 (0 : Int) ≤ n_3 + (1 : Int) ∧
 n_3 + (1 : Int) ≤ n ∧
 l_4 = l ∧
 n_4 =
 ngI
 (rv l (0 : Nat)) ∧
 twR l_4 l_5 (0 : Int) =
 sqM l (n_3 + (1 : Int)).toNat) ∧
 (n - (n_3 + (1 : Int))).toNat < (n - n_3).toNat
 else
 (0 : Int) = (0 : Int) ∧
 l_4 = l ∧
 n_4 = ngI (rv l (0 : Nat)) ∧
 l_5 = sqMh l)))
theorem e143 : ct143.VC (base.with sp186) Tryz.f143.results.toList Tryz.f143.ntmps (Tryz.f143.ntmps - ct143.ps.length) (bodyOf Tryz.f143) ann143 = P143 := by kernel_rfl
noncomputable def sp143 : SpecT := addS sp186 143 (mkF ct143)
def P144 : Prop :=
 ∀ (l l_1 : List (List CD)) (n : Int) (l_2 : List (List CD)),
 l.length ≤ (9223372036854775807 : Nat) →
 l_1.length ≤ (9223372036854775807 : Nat) →
 l_2.length ≤ (9223372036854775807 : Nat) →
 okL l ∧ okL l_1 →
 l_1.length ≤ (9223372036854775807 : Nat) →
 ((0 : Int) ≤ (↑l_1.length : Int) ∧
 (↑l_1.length : Int) ≤ (↑l_1.length : Int) ∧
 (↑(8 : Nat) : Int) * (↑l_1.length : Int) ≤ (140737488355328 : Int) ∧ (↑l_1.length : Int) ≤ (9223372036854775807 : Int)) ∧
 okL l ∧
 ((-9223372036854775808 : Int) ≤ btN l l.length - (1 : Int) ∧
 btN l l.length - (1 : Int) ≤ (9223372036854775807 : Int)) ∧
 ((l = l ∧
 l_1 = l_1 ∧
 n = n ∧
 l_2 = l_2 ∧
 (-1 : Int) ≤ btN l l.length - (1 : Int) ∧
 btN l l.length - (1 : Int) < btN l l.length ∧
 List.replicate (↑l_1.length : Int).toNat [CD.int (0 : Int)] =
 rdN l_1 l (btN l l.length).toNat
 ((btN l l.length).toNat -
 (btN l l.length - (1 : Int) + (1 : Int)).toNat)) ∧
 True) ∧
 ∀ (l_3 l_4 : List (List CD)) (n_1 : Int) (l_5 : List (List CD)) (n_2 : Int) (l_6 : List (List CD)),
 l_3.length ≤ (9223372036854775807 : Nat) →
 l_4.length ≤ (9223372036854775807 : Nat) →
 l_5.length ≤ (9223372036854775807 : Nat) →
 l_6.length ≤ (9223372036854775807 : Nat) →
 l_3 = l ∧
 l_5 = l_1 ∧
 n_2 = n ∧
 l_6 = l_2 ∧
 (-1 : Int) ≤ n_1 ∧
 n_1 < btN l l.length ∧
 l_4 =
 rdN l_1 l (btN l l.length).toNat
 ((btN l l.length).toNat - (n_1 + (1 : Int)).toNat) →
 bif decide ((0 : Int) ≤ n_1) then
 ((0 : Int) ≤ n_1 ∧ (0 : Int) < (64 : Int) ∧ n_1 ≤ Go.IntKind.i64.max) ∧
 ((0 : Int) ≤ n_1 / (64 : Int) ∧ n_1 / (64 : Int) < (↑l_3.length : Int)) ∧
 (n_1 / (64 : Int)).toNat < l_3.length ∧
 ((0 : Int) ≤ n_1 ∧ (0 : Int) < (64 : Int)) ∧
 (0 : Int) ≤ n_1 % (64 : Int) ∧
 (okL l_4 ∧ okL l_5) ∧
 ((-9223372036854775808 : Int) ≤ n_1 - (1 : Int) ∧ n_1 - (1 : Int) ≤ (9223372036854775807 : Int)) ∧
 (l_3 = l ∧
 l_5 = l_1 ∧
 n_2 = n ∧
 l_6 = l_2 ∧
 (-1 : Int) ≤ n_1 - (1 : Int) ∧
 n_1 - (1 : Int) < btN l l.length ∧
 twR l_5 l_4
 (bAnd Go.IntKind.u64
 (bShr Go.IntKind.u64
 ((l_3.getD (n_1 / (64 : Int)).toNat []).getD (0 : Nat) (CD.int (0 : Int))).toInt (n_1 % (64 : Int)))
 (1 : Int)) =
 rdN l_1 l (btN l l.length).toNat
 ((btN l l.length).toNat - (n_1 - (1 : Int) + (1 : Int)).toNat)) ∧
 (n_1 - (1 : Int) + (1 : Int)).toNat < (n_1 + (1 : Int)).toNat
 else l_4 = redR l_1 l ∧ l_5 = l_1 ∧ n_2 = n ∧ l_6 = l_2
theorem e144 : ct144.VC (base.with sp143) Tryz.f144.results.toList Tryz.f144.ntmps (Tryz.f144.ntmps - ct144.ps.length) (bodyOf Tryz.f144) ann144 = P144 := by kernel_rfl
noncomputable def sp144 : SpecT := addS sp143 144 (mkF ct144)
end Go.Proofs.YteiecapbaeajdaaGreatDoor
namespace Go.Proofs.YteiecapbaeajdaaGreatDoor
open Go Go.Avc Go.Proofs
set_option linter.unusedVariables false
set_option linter.unusedSimpArgs false
set_option maxRecDepth 100000
theorem len8_get : ∀ i : Fin 256, (len8T.getD i.val 0).toNat = bitLen i.val := by decide +kernel
theorem bitLen_b (i : Nat) (h : i < 256) : bitLen i ≤ 8 := bitLen_le8 i h
theorem leaf210 {b n z : Int} (h0 : 0 ≤ z) (h1 : z < 256) (hb0 : 0 ≤ b) (hb : b ≤ 56) (h : lenW n = b + lenW z) :
    ((0 : Int) ≤ IntKind.u8.wrap z ∧ IntKind.u8.wrap z < ((256 : Nat) : Int)) ∧
    ((-9223372036854775808 : Int) ≤ b + IntKind.i64.wrap (((len8T.getD (IntKind.u8.wrap z).toNat 0).toNat : Nat) : Int) ∧ b + IntKind.i64.wrap (((len8T.getD (IntKind.u8.wrap z).toNat 0).toNat : Nat) : Int) ≤ 9223372036854775807) ∧
    b + IntKind.i64.wrap (((len8T.getD (IntKind.u8.wrap z).toNat 0).toNat : Nat) : Int) = lenW n := by
  obtain ⟨k, rfl⟩ := Int.eq_ofNat_of_zero_le h0
  have hk : k < 256 := by omega
  have e1 : IntKind.u8.wrap (k : Int) = k := wrap_nonneg _ _ (by omega) (by show (k : Int) ≤ 255; omega)
  have h8 := bitLen_b k hk
  have e2 : (len8T.getD k 0).toNat = bitLen k := len8_get ⟨k, hk⟩
  have e3 : IntKind.i64.wrap ((bitLen k : Nat) : Int) = (bitLen k : Nat) := wrap_nonneg _ _ (by omega) (by show ((bitLen k : Nat) : Int) ≤ 9223372036854775807; omega)
  have e4 : lenW (k : Int) = (bitLen k : Nat) := by unfold lenW; rw [Int.toNat_natCast]
  rw [e1, Int.toNat_natCast, e2, e3, h, e4]
  exact ⟨⟨by omega, by omega⟩, ⟨by omega, by omega⟩, rfl⟩
theorem shr_is (n : Int) (b : Nat) (hb : b ≤ 64) : bShr .u64 n b = n / 2 ^ b := by
  unfold bShr
  rw [Int.toNat_natCast, show min b IntKind.u64.bits = b from Nat.min_eq_left hb]
  exact Int.fdiv_eq_ediv_of_nonneg _ (by exact_mod_cast Nat.zero_le (2 ^ b))
theorem lenW_shift {n : Int} (h0 : 0 ≤ n) (b : Nat) (h : n / 2 ^ b ≠ 0) : lenW n = b + lenW (n / 2 ^ b) := by
  obtain ⟨k, rfl⟩ := Int.eq_ofNat_of_zero_le h0
  have e1 : ((k : Nat) : Int) / 2 ^ b = ((k / 2 ^ b : Nat) : Int) := by simp
  rw [e1] at h ⊢
  unfold lenW
  rw [Int.toNat_natCast, Int.toNat_natCast, bitLen_shift k b (by omega)]
  omega
theorem lenW_b {n : Int} (h : isW n) : 0 ≤ lenW n ∧ lenW n ≤ 64 := by
  obtain ⟨k, rfl⟩ := Int.eq_ofNat_of_zero_le h.1
  unfold lenW
  rw [Int.toNat_natCast]
  refine ⟨by omega, ?_⟩
  have hk : k < 2 ^ 64 := by have := h.2; omega
  unfold bitLen
  split
  · decide
  · rename_i h0
    have := (Nat.log2_lt h0).2 hk
    omega
theorem vc210 : P210 := by
  intro n hn
  have h0 : 0 ≤ n := hn.1
  have h1 : n < 18446744073709551616 := hn.2
  have s : ∀ z : Int, ∀ b : Nat, b ≤ 64 → bShr .u64 z (b : Int) = z / 2 ^ b := shr_is
  have s32 : ∀ z : Int, bShr .u64 z 32 = z / 4294967296 := fun z => s z 32 (by decide)
  have s16 : ∀ z : Int, bShr .u64 z 16 = z / 65536 := fun z => s z 16 (by decide)
  have s8 : ∀ z : Int, bShr .u64 z 8 = z / 256 := fun z => s z 8 (by decide)
  have l32 : ∀ z : Int, 0 ≤ z → 4294967296 ≤ z → lenW z = 32 + lenW (z / 4294967296) := fun z h k => lenW_shift h 32 (by show z / 4294967296 ≠ 0; omega)
  have l16 : ∀ z : Int, 0 ≤ z → 65536 ≤ z → lenW z = 16 + lenW (z / 65536) := fun z h k => lenW_shift h 16 (by show z / 65536 ≠ 0; omega)
  have l8 : ∀ z : Int, 0 ≤ z → 256 ≤ z → lenW z = 8 + lenW (z / 256) := fun z h k => lenW_shift h 8 (by show z / 256 ≠ 0; omega)
  simp only [s32, s16, s8]
  have T : ∀ {p : Prop}, p → ((0 : Int) ≤ 32 ∧ p) := fun h => ⟨by decide, h⟩
  refine condI (fun c1 => ⟨by decide, condI (fun c2 => ⟨by decide, ⟨by decide, by decide⟩, condI (fun c3 => ⟨by decide, ⟨by decide, by decide⟩, ?_⟩) fun c3 => ?_⟩) fun c2 => condI (fun c3 => ⟨by decide, ⟨by decide, by decide⟩, ?_⟩) fun c3 => ?_⟩)
    fun c1 => condI (fun c2 => ⟨by decide, ⟨by decide, by decide⟩, condI (fun c3 => ⟨by decide, ⟨by decide, by decide⟩, ?_⟩) fun c3 => ?_⟩) fun c2 => condI (fun c3 => ⟨by decide, ⟨by decide, by decide⟩, ?_⟩) fun c3 => ?_
  all_goals
    first
    | replace c1 := of_decide_eq_true c1
    | replace c1 := of_decide_eq_false c1
    first
    | replace c2 := of_decide_eq_true c2
    | replace c2 := of_decide_eq_false c2
    first
    | replace c3 := of_decide_eq_true c3
    | replace c3 := of_decide_eq_false c3
  · exact leaf210 (by omega) (by omega) (by decide) (by decide) (by rw [l32 n h0 c1, l16 _ (by omega) c2, l8 _ (by omega) c3]; omega)
  · exact leaf210 (by omega) (by omega) (by decide) (by decide) (by rw [l32 n h0 c1, l16 _ (by omega) c2]; omega)
  · exact leaf210 (by omega) (by omega) (by decide) (by decide) (by rw [l32 n h0 c1, l8 _ (by omega) c3]; omega)
  · exact leaf210 (by omega) (by omega) (by decide) (by decide) (by rw [l32 n h0 c1])
  · exact leaf210 (by omega) (by omega) (by decide) (by decide) (by rw [l16 n h0 c2, l8 _ (by omega) c3]; omega)
  · exact leaf210 (by omega) (by omega) (by decide) (by decide) (by rw [l16 n h0 c2]; omega)
  · exact leaf210 (by omega) (by omega) (by decide) (by decide) (by rw [l8 n h0 c3]; omega)
  · exact leaf210 (by omega) (by omega) (by decide) (by decide) (by omega)
theorem ok210 : SpecOk (base.with sp30) 210 (mkF ct210) := spec_ct (fn := Tryz.f210) (c := bodyOf Tryz.f210) (k := Tryz.f210.ntmps - ct210.ps.length) (ct := ct210) c30 Tryz.func210 (by kernel_rfl) noAnn (by kernel_rfl) (fun vs w _ => Tryz.call210 vs w) (by rw [e210]; exact vc210)
theorem c210 : (base.with sp210).Ok := addS_ok c30 ok210
theorem btN_b {a : List (List CD)} (h : areR a) : ∀ n : Nat, 0 ≤ btN a n ∧ btN a n ≤ 64 * n
  | 0 => ⟨Int.le_refl 0, by show (0 : Int) ≤ _; omega⟩
  | n + 1 => by
    have ih := btN_b h n
    have := lenW_b (h n)
    rw [btN]
    split <;> omega
theorem vc186 : P186 := by
  rintro a _ ⟨ha, hw⟩ _
  refine ⟨⟨by omega, by omega⟩, ⟨⟨rfl, by omega, by omega, by rw [show ((a.length : Int) - 1 + 1).toNat = a.length from by omega]⟩, trivial⟩, ?_⟩
  rintro a' n _ ⟨rfl, h0, h1, h2⟩
  refine condI (fun h => ?_) fun h => ?_
  · have h := of_decide_eq_true h
    obtain ⟨i, rfl⟩ := Int.eq_ofNat_of_zero_le h
    rw [Int.toNat_natCast]
    have e1 : ((i : Int) + 1).toNat = i + 1 := by omega
    rw [e1, btN] at h2
    have hb := lenW_b (hw i)
    refine ⟨⟨h, h1⟩, by omega, condI (fun h3 => ?_) fun h3 => ⟨⟨by omega, by omega⟩, ⟨rfl, by omega, by omega, ?_⟩, by omega⟩⟩
    · have h3 : rv a' i ≠ 0 := of_decide_eq_true h3
      rw [if_neg h3] at h2
      have hb' : 0 ≤ lenW ((a'.getD i []).getD 0 (CD.int 0)).toInt ∧ lenW ((a'.getD i []).getD 0 (CD.int 0)).toInt ≤ 64 := hb
      exact ⟨⟨by omega, by omega⟩, ⟨h, h1⟩, by omega, hw i, ⟨by omega, by omega⟩, h2.symm⟩
    · have h3 : rv a' i = 0 := Decidable.not_not.1 (of_decide_eq_false h3)
      rw [h2, if_pos h3, show ((i : Int) - 1 + 1).toNat = i from by omega]
  · have h := of_decide_eq_false h
    rw [h2, show (n + 1).toNat = 0 from by omega]
    rfl
theorem ok186 : SpecOk (base.with sp210) 186 (mkF ct186) := spec_ct (fn := Tryz.f186) (c := bodyOf Tryz.f186) (k := Tryz.f186.ntmps - ct186.ps.length) (ct := ct186) c210 Tryz.func186 (by kernel_rfl) ann186 (by kernel_rfl) (fun vs w _ => Tryz.call186 vs w) (by rw [e186]; exact vc186)
theorem c186 : (base.with sp186).Ok := addS_ok c210 ok186
theorem row_ok {l : List Int} (h : areW l) (hl : l.length ≤ 1000) : okL (l.map row1) := ⟨by rw [List.length_map]; exact hl, fun i => by rw [rv_row1]; exact h i⟩
theorem lesR_ok {m a : List (List CD)} (ha : okL a) (hm : okL m) (c : Int) : okL (lesR m a c) := by
  unfold lesR
  split
  · exact ha
  · exact row_ok (eaN_w _ _ _) (by rw [eaN_len]; have := ha.1; have := hm.1; unfold mxL; omega)
theorem lesR_len {m a : List (List CD)} (h : a.length = m.length) (c : Int) : (lesR m a c).length = m.length := by
  unfold lesR
  split
  · exact h
  · rw [List.length_map, eaN_len]; unfold mxL; omega
theorem twR_ok {m a : List (List CD)} (ha : okL a) (hm : okL m) (c : Int) : okL (twR m a c) := lesR_ok (row_ok (twN_w _ _ _) (by rw [twN_len]; exact ha.1)) hm _
theorem twR_len {m a : List (List CD)} (h : a.length = m.length) (c : Int) : (twR m a c).length = m.length := lesR_len (by rw [List.length_map, twN_len]; exact h) _
theorem zer_ok {n : Nat} (h : n ≤ 1000) : okL (List.replicate n [CD.int 0]) := by
  rw [show List.replicate n [CD.int 0] = (List.replicate n 0).map row1 from by rw [List.map_replicate]; rfl]
  exact row_ok (rep0_w n) (by rw [List.length_replicate]; exact h)
theorem rdN_ok {m a : List (List CD)} (hm : okL m) (k : Nat) : ∀ i, okL (rdN m a k i)
  | 0 => zer_ok hm.1
  | i + 1 => twR_ok (rdN_ok hm k i) hm _
theorem rdN_len (m a : List (List CD)) (k : Nat) : ∀ i, (rdN m a k i).length = m.length
  | 0 => List.length_replicate
  | i + 1 => twR_len (rdN_len m a k i) _
theorem one_row {n : Nat} (h : 0 < n) : (List.replicate n [CD.int 0]).set 0 [CD.int 1] = ((List.replicate n 0).set 0 1).map row1 := by
  rw [List.map_set, List.map_replicate]
  rfl
theorem sqM_ok {m : List (List CD)} (hm : okL m) (h0 : 0 < m.length) : ∀ i, okL (sqM m i)
  | 0 => by
    rw [sqM, one_row h0]
    exact row_ok (areW_set (rep0_w _) (by exact ⟨by decide, by decide⟩) 0) (by rw [List.length_set, List.length_replicate]; exact hm.1)
  | i + 1 => twR_ok (sqM_ok hm h0 i) hm _
theorem vc143 : P143 := by
  rintro l _ ⟨h2, h16, hw, hodd, htop⟩ _ _
  have c1 : decide ((l.length : Int) < 1) = false := decide_eq_false (by omega)
  have c2 : decide ((16 : Int) < (l.length : Int)) = false := decide_eq_false (by omega)
  have c3 : decide (bAnd .u64 ((l.getD 0 []).getD 0 (CD.int 0)).toInt 1 = 0) = false := decide_eq_false hodd
  have e4 : ((l.length : Int) - 1).toNat = l.length - 1 := by omega
  have c4 : decide (((l.getD ((l.length : Int) - 1).toNat []).getD 0 (CD.int 0)).toInt = 0) = false := by rw [e4]; exact decide_eq_false htop
  have c5 : decide ((l.length : Int) = 1) = false := decide_eq_false (by omega)
  have hl : okL l := ⟨by omega, hw⟩
  refine ⟨fun _ => ⟨by omega, by omega⟩, fun _ => by omega, fun _ => ⟨fun _ => ⟨by omega, by omega⟩, fun _ => ⟨by omega, by omega⟩, fun _ => by omega, fun _ => ⟨fun _ => ⟨by omega, by omega⟩, fun _ => by omega, condI (fun h => ?_) fun _ => ⟨by omega, ⟨⟨rfl, rfl, by omega, by omega, rfl⟩, trivial⟩, ?_⟩⟩⟩⟩
  · rw [c1, c2, c3, c4, c5] at h
    cases h
  · rintro l1 x n l2 v q _ _ _ ⟨e1, e2, h0, h1, rfl⟩
    subst e1 e2
    obtain ⟨i, rfl⟩ := Int.eq_ofNat_of_zero_le h0
    rw [Int.toNat_natCast]
    refine condI (fun h => ?_) fun h _ => ?_
    · have h := of_decide_eq_true h
      refine ⟨⟨by omega, by omega⟩, by omega, ⟨by omega, by omega⟩, ⟨rfl, rfl, by omega, by omega, ?_⟩, by omega⟩
      rw [show ((i : Int) + 1).toNat = i + 1 from by omega]
      rfl
    · have h := of_decide_eq_false h
      have hi : i = 6 := by omega
      subst hi
      rw [Int.toNat_natCast]
      have hs : (List.replicate l2.length [CD.int 0]).set 0 (((List.replicate l2.length [CD.int 0]).getD 0 []).set 0 (CD.int 1)) = sqM l2 0 := by
        rw [sqM]
        congr 1
        rw [List.getD_eq_getElem?_getD, List.getElem?_replicate, if_pos (by omega)]
        rfl
      refine ⟨⟨by omega, by omega, by omega, by omega⟩, ⟨by omega, by rw [List.length_replicate]; omega⟩, by rw [List.length_replicate]; omega, fun _ => ⟨⟨by omega, by omega⟩, ⟨⟨rfl, by omega, by omega, rfl, rfl, hs⟩, trivial⟩, ?_⟩⟩
      rintro n k l4 v4 l5 _ _ ⟨rfl, h0, h1, rfl, rfl, rfl⟩
      obtain ⟨j, rfl⟩ := Int.eq_ofNat_of_zero_le h0
      rw [Int.toNat_natCast]
      refine condI (fun h => ?_) fun h => ?_
      · have h := of_decide_eq_true h
        refine ⟨⟨sqM_ok hl (by omega) _, hl⟩, ⟨by omega, by omega⟩, ⟨rfl, by omega, by omega, rfl, rfl, ?_⟩, by omega⟩
        rw [show ((j : Int) + 1).toNat = j + 1 from by omega]
        rfl
      · have h := of_decide_eq_false h
        refine ⟨rfl, rfl, rfl, ?_⟩
        rw [sqMh, hid_eq, show j = 128 * l4.length from by omega]
theorem ok143 : SpecOk (base.with sp186) 143 (mkF ct143) := spec_ct (fn := Tryz.f143) (c := bodyOf Tryz.f143) (k := Tryz.f143.ntmps - ct143.ps.length) (ct := ct143) c186 Tryz.func143 (by kernel_rfl) ann143 (by kernel_rfl) (fun vs w _ => Tryz.call143 vs w) (by rw [e143]; exact vc143)
theorem c143 : (base.with sp143).Ok := addS_ok c186 ok143
theorem vc144 : P144 := by
  rintro a m v q _ _ _ ⟨ha, hm⟩ _
  have hm1 := hm.1
  have ha1 := ha.1
  have hb := btN_b ha.2 a.length
  have hz : List.replicate ((m.length : Int)).toNat [CD.int 0] = rdN m a (btN a a.length).toNat ((btN a a.length).toNat - (btN a a.length - 1 + 1).toNat) := by
    rw [Int.toNat_natCast, show (btN a a.length).toNat - (btN a a.length - 1 + 1).toNat = 0 from by omega]
    rfl
  refine ⟨⟨by omega, by omega, by omega, by omega⟩, ha, ⟨by omega, by omega⟩, ⟨⟨rfl, rfl, rfl, rfl, by omega, by omega, hz⟩, trivial⟩, ?_⟩
  rintro a' o n m' v' q' _ _ _ _ ⟨e1, e2, e3, e4, h0, h1, rfl⟩
  subst e1 e2 e3 e4
  refine condI (fun h => ?_) fun h => ?_
  · have h := of_decide_eq_true h
    obtain ⟨j, rfl⟩ := Int.eq_ofNat_of_zero_le h
    refine ⟨⟨h, by decide, by show (j : Int) ≤ 9223372036854775807; omega⟩, ⟨by omega, by omega⟩, by omega, ⟨h, by decide⟩, by omega, ⟨rdN_ok hm _ _, hm⟩, ⟨by omega, by omega⟩, ⟨rfl, rfl, rfl, rfl, by omega, by omega, ?_⟩, by omega⟩
    rw [show ((j : Int) + 1).toNat = j + 1 from by omega, show ((j : Int) - 1 + 1).toNat = j from by omega]
    generalize hK : (btN a' a'.length).toNat = K
    have hj : j < K := by omega
    rw [show K - j = (K - (j + 1)) + 1 from by omega, rdN, show K - 1 - (K - (j + 1)) = j from by omega]
    rw [show ((j : Int) / 64).toNat = j / 64 from by omega, show ((j % 64 : Nat) : Int) = (j : Int) % 64 from by omega]
    rfl
  · have h := of_decide_eq_false h
    refine ⟨?_, rfl, rfl, rfl⟩
    rw [redR, hid_eq, show (n + 1).toNat = 0 from by omega, Nat.sub_zero]
theorem ok144 : SpecOk (base.with sp143) 144 (mkF ct144) := spec_ct (fn := Tryz.f144) (c := bodyOf Tryz.f144) (k := Tryz.f144.ntmps - ct144.ps.length) (ct := ct144) c143 Tryz.func144 (by kernel_rfl) ann144 (by kernel_rfl) (fun vs w _ => Tryz.call144 vs w) (by rw [e144]; exact vc144)
theorem c144 : (base.with sp144).Ok := addS_ok c143 ok144
end Go.Proofs.YteiecapbaeajdaaGreatDoor
namespace Go.Proofs.YteiecapbaeajdaaGreatDoor
open Go Go.Avc
set_option linter.unusedVariables false
abbrev u32 : Pat := .int .u32
abbrev i32 : Pat := .int .i32
abbrev qPm : BPat := .cells 318 [u32, i32, u32, .arrI 780 .u64, .arrI 36 .u64]
abbrev elP : Pat := .iface 259 (.agg [.ptr 0 0])
abbrev qSe : BPat := .cells 300 [elP, .own 2, i64, i64, i64]
abbrev qSo : BPat := .cells 300 [.iface 259 (.agg [.ptr 1 0]), .own 2, i64, i64, i64]
/-- The element of a number's bytes. -/
noncomputable def fwW (l : List (List CD)) : List Int := hid (enW ((((redR pR ((wsN l l.length).map row1)).drop 0).take 4).map fun r => (r.getD 0 .d0).toInt))
def stE (l : List (List CD)) : List (List CD) := spl (List.replicate 3 [.int 0, .int 0, .int 0, .int 0]) 2 1 l
noncomputable def z780 : List Int := hid (List.replicate 780 0)
noncomputable def z36 : List Int := hid (List.replicate 36 0)
def isYs (l : List Int) : Prop := areB (l.map row1)
/-! ### Contracts -/
noncomputable def ct98 : Ct := { ps := [rb], bs := [], pre := fun | [.r l] => areB l ∧ l.length ≤ 400 | _ => False, res := fun | [.r l] => .ret w4 [] [.li (fwW l)] | _ => noRes }
noncomputable def ct86 : Ct := { ps := [a32], bs := [], pre := fun | [.li t] => isYs t | _ => False, res := fun | [.li t] => .ret w4 [] [.li (fwW (t.map row1))] | _ => noRes }
noncomputable def ct132 : Ct := { ps := [], bs := [], pre := fun _ => True, res := fun _ => .ret (.ptr 0 0) [qPm] [.i 0, .i 0, .i 0, .li z780, .li z36] }
noncomputable def ct85 : Ct := { ps := [], bs := [], pre := fun _ => True, res := fun _ => .ret elP [qPm] [.i 0, .i 0, .i 0, .li z780, .li z36] }
def ct345 : Ct := { ps := [.agg [.skip]], bs := [], pre := fun _ => True, res := fun _ => .ret i64 [] [.i 2] }
def ct346 : Ct := { ps := [.agg [.skip]], bs := [], pre := fun _ => True, res := fun _ => .ret i64 [] [.i 3] }
def ct131 : Ct := { ps := [elP, .rd elE], bs := [qPm], pre := fun | [.r l, .i _, .i _, .i _, .li _, .li _] => l.length ≤ 1 | _ => False, res := fun
  | [.r l, .i a, .i b, .i c, .li u, .li v] => .ret (.tup [.ptr 1 0, i64]) [qPm, qSe, oe] [.i 0, .i a, .i b, .i c, .li u, .li v, .i 0, .i 2, .i 0, .r (stE l)]
  | _ => noRes }
def ct84 : Ct := { ps := [elP, .rd elE], bs := [qPm], pre := fun | [.r l, .i _, .i _, .i _, .li _, .li _] => l.length ≤ 1 | _ => False, res := fun
  | [.r l, .i a, .i b, .i c, .li u, .li v] => .ret (.ptr 1 0) [qPm, qSe, oe] [.i a, .i b, .i c, .li u, .li v, .i 0, .i 2, .i 0, .r (stE l)]
  | _ => noRes }
noncomputable def ct46 : Ct := { ps := [a32], bs := [], pre := fun | [.li t] => isYs t | _ => False, res := fun
  | [.li t] => .ret (.ptr 0 0) [qSo, qPm, oe] [.i 0, .i 2, .i 0, .i 0, .i 0, .i 0, .li z780, .li z36, .r (stE [rowE (fwW (t.map row1))])]
  | _ => noRes }
end Go.Proofs.YteiecapbaeajdaaGreatDoor
namespace Go.Proofs.YteiecapbaeajdaaGreatDoor
open Go Go.Avc Go.Proofs
set_option linter.unusedVariables false
set_option maxRecDepth 100000
def P98 : Prop :=
 ∀ (l : List (List CD)),
 l.length ≤ (9223372036854775807 : Nat) →
 areB l ∧ l.length ≤ (400 : Nat) →
 True ∧
 ((0 : Int) ≤ (0 : Int) ∧ (0 : Int) ≤ (↑(4 : Nat) : Int) ∧ (↑(4 : Nat) : Int) ≤ (↑(4 : Nat) : Int) ∧ (0 : Int) < (↑(4 : Nat) : Int)) ∧
 okM
 [[CD.int (4891460686036598785 : Int)], [CD.int (2896914383306846353 : Int)], [CD.int (13281191951274694749 : Int)],
 [CD.int (3486998266802970665 : Int)]] ∧
 (l.length ≤ (1000 : Nat) ∧ areB l) ∧
 (okL (List.map row1 (wsN l l.length)) ∧
 okL
 [[CD.int (4891460686036598785 : Int)], [CD.int (2896914383306846353 : Int)], [CD.int (13281191951274694749 : Int)],
 [CD.int (3486998266802970665 : Int)]]) ∧
 (4 : Nat) ≤
 (redR
 [[CD.int (4891460686036598785 : Int)], [CD.int (2896914383306846353 : Int)], [CD.int (13281191951274694749 : Int)],
 [CD.int (3486998266802970665 : Int)]]
 (List.map row1 (wsN l l.length))).length ∧
 (4 : Nat) ≤
 (redR
 [[CD.int (4891460686036598785 : Int)], [CD.int (2896914383306846353 : Int)], [CD.int (13281191951274694749 : Int)],
 [CD.int (3486998266802970665 : Int)]]
 (List.map row1 (wsN l l.length))).length ∧
 areW
 (List.map (fun r => (r.getD (0 : Nat) (CD.int (0 : Int))).toInt)
 (List.take (4 : Nat)
 (List.drop (0 : Nat)
 (redR
 [[CD.int (4891460686036598785 : Int)], [CD.int (2896914383306846353 : Int)], [CD.int (13281191951274694749 : Int)],
 [CD.int (3486998266802970665 : Int)]]
 (List.map row1 (wsN l l.length)))))) ∧
 enW
 (List.map (fun r => (r.getD (0 : Nat) (CD.int (0 : Int))).toInt)
 (List.take (4 : Nat)
 (List.drop (0 : Nat)
 (redR
 [[CD.int (4891460686036598785 : Int)], [CD.int (2896914383306846353 : Int)], [CD.int (13281191951274694749 : Int)],
 [CD.int (3486998266802970665 : Int)]]
 (List.map row1 (wsN l l.length)))))) =
 fwW l
theorem e98 : ct98.VC (base.with sp144) Tryz.f98.results.toList Tryz.f98.ntmps (Tryz.f98.ntmps - ct98.ps.length) (bodyOf Tryz.f98) noAnn = P98 := by kernel_rfl
noncomputable def sp98 : SpecT := addS sp144 98 (mkF ct98)
def P86 : Prop :=
 ∀ (l : List Int),
 l.length = (32 : Nat) →
 isYs l →
 ((0 : Int) ≤ (0 : Int) ∧ (0 : Int) ≤ (↑(32 : Nat) : Int) ∧ (↑(32 : Nat) : Int) ≤ (↑(32 : Nat) : Int) ∧ (0 : Int) < (↑(32 : Nat) : Int)) ∧
 (areB (List.map (fun x => [CD.int x]) (List.take (32 : Nat) (List.drop (0 : Nat) l))) ∧
 (List.map (fun x => [CD.int x]) (List.take (32 : Nat) (List.drop (0 : Nat) l))).length ≤ (400 : Nat)) ∧
 fwW (List.map (fun x => [CD.int x]) (List.take (32 : Nat) (List.drop (0 : Nat) l))) =
 fwW (List.map row1 l)
theorem e86 : ct86.VC (base.with sp98) Tryz.f86.results.toList Tryz.f86.ntmps (Tryz.f86.ntmps - ct86.ps.length) (bodyOf Tryz.f86) noAnn = P86 := by kernel_rfl
noncomputable def sp86 : SpecT := addS sp98 86 (mkF ct86)
def P132 : Prop :=
 True →
 (0 : Int) = (0 : Int) ∧
 (0 : Int) = (0 : Int) ∧
 (0 : Int) = (0 : Int) ∧
 (List.replicate 780 (0 : Int)) =
 z780 ∧
 (List.replicate 36 (0 : Int)) =
 z36
theorem e132 : ct132.VC (base.with sp86) Tryz.f132.results.toList Tryz.f132.ntmps (Tryz.f132.ntmps - ct132.ps.length) (bodyOf Tryz.f132) noAnn = P132 := by kernel_rfl
noncomputable def sp132 : SpecT := addS sp86 132 (mkF ct132)
def P85 : Prop :=
 True →
 True ∧
 (0 : Int) = (0 : Int) ∧
 (0 : Int) = (0 : Int) ∧
 (0 : Int) = (0 : Int) ∧
 z780 = z780 ∧ z36 = z36
theorem e85 : ct85.VC (base.with sp132) Tryz.f85.results.toList Tryz.f85.ntmps (Tryz.f85.ntmps - ct85.ps.length) (bodyOf Tryz.f85) noAnn = P85 := by kernel_rfl
noncomputable def sp85 : SpecT := addS sp132 85 (mkF ct85)
def P345 : Prop :=
 True → (2 : Int) = (2 : Int)
theorem e345 : ct345.VC (base.with sp85) Tryz.f345.results.toList Tryz.f345.ntmps (Tryz.f345.ntmps - ct345.ps.length) (bodyOf Tryz.f345) noAnn = P345 := by kernel_rfl
noncomputable def sp345 : SpecT := addS sp85 345 (mkF ct345)
def P346 : Prop :=
 True → (3 : Int) = (3 : Int)
theorem e346 : ct346.VC (base.with sp345) Tryz.f346.results.toList Tryz.f346.ntmps (Tryz.f346.ntmps - ct346.ps.length) (bodyOf Tryz.f346) noAnn = P346 := by kernel_rfl
noncomputable def sp346 : SpecT := addS sp345 346 (mkF ct346)
def P131 : Prop :=
 ∀ (l : List (List CD)) (n n_1 n_2 : Int) (l_1 l_2 : List Int),
 l.length ≤ (9223372036854775807 : Nat) →
 l_1.length = (780 : Nat) →
 l_2.length = (36 : Nat) →
 l.length ≤ (1 : Nat) →
 l.length ≤ (9223372036854775807 : Nat) →
 True ∧
 True ∧
 ((-9223372036854775808 : Int) ≤ (3 : Int) - (2 : Int) ∧ (3 : Int) - (2 : Int) ≤ (9223372036854775807 : Int)) ∧
 bif decide ((3 : Int) - (2 : Int) < (↑l.length : Int)) then
 Miss (2 : Nat)
 { n := (0 : Nat), ov := [], tm := [SV.tup [SV.nilp, SV.int Go.IntKind.i64 (1 : Int)]], hp := [Blk.cells (318 : Go.TypeId) [SV.int Go.IntKind.u32 n, SV.int Go.IntKind.i32 n_1, SV.int Go.IntKind.u32 n_2, SV.arrI (780 : Nat) Go.IntKind.u64 l_1, SV.arrI (36 : Nat) Go.IntKind.u64 l_2]], G := [] }
 else
 True ∧
 ((0 : Int) ≤ (3 : Int) ∧ (3 : Int) ≤ (3 : Int) ∧ (↑(32 : Nat) : Int) * (3 : Int) ≤ (140737488355328 : Int) ∧ (3 : Int) ≤ (9223372036854775807 : Int)) ∧
 True ∧
 True ∧
 ((0 : Int) ≤ (2 : Int) ∧ (2 : Int) ≤ (↑(3 : Nat) : Int) ∧ (↑(3 : Nat) : Int) ≤ (↑(3 : Nat) : Int) ∧ (2 : Int) < (↑(3 : Nat) : Int)) ∧
 (0 : Int) = (0 : Int) ∧
 n = n ∧
 n_1 = n_1 ∧
 n_2 = n_2 ∧
 l_1 = l_1 ∧
 l_2 = l_2 ∧
 (0 : Int) = (0 : Int) ∧
 (2 : Int) = (2 : Int) ∧
 (0 : Int) = (0 : Int) ∧
 spl
 [[CD.int ([(0 : Int), (0 : Int), (0 : Int), (0 : Int)].getD 0 (0 : Int)),
 CD.int ([(0 : Int), (0 : Int), (0 : Int), (0 : Int)].getD 1 (0 : Int)),
 CD.int ([(0 : Int), (0 : Int), (0 : Int), (0 : Int)].getD 2 (0 : Int)),
 CD.int ([(0 : Int), (0 : Int), (0 : Int), (0 : Int)].getD 3 (0 : Int))],
 [CD.int ([(0 : Int), (0 : Int), (0 : Int), (0 : Int)].getD 0 (0 : Int)),
 CD.int ([(0 : Int), (0 : Int), (0 : Int), (0 : Int)].getD 1 (0 : Int)),
 CD.int ([(0 : Int), (0 : Int), (0 : Int), (0 : Int)].getD 2 (0 : Int)),
 CD.int ([(0 : Int), (0 : Int), (0 : Int), (0 : Int)].getD 3 (0 : Int))],
 [CD.int ([(0 : Int), (0 : Int), (0 : Int), (0 : Int)].getD 0 (0 : Int)),
 CD.int ([(0 : Int), (0 : Int), (0 : Int), (0 : Int)].getD 1 (0 : Int)),
 CD.int ([(0 : Int), (0 : Int), (0 : Int), (0 : Int)].getD 2 (0 : Int)),
 CD.int ([(0 : Int), (0 : Int), (0 : Int), (0 : Int)].getD 3 (0 : Int))]]
 (2 : Nat) (1 : Nat) l =
 stE l
theorem e131 : ct131.VC (base.with sp346) Tryz.f131.results.toList Tryz.f131.ntmps (Tryz.f131.ntmps - ct131.ps.length) (bodyOf Tryz.f131) noAnn = P131 := by kernel_rfl
noncomputable def sp131 : SpecT := addS sp346 131 (mkF ct131)
def P84 : Prop :=
 ∀ (l : List (List CD)) (n n_1 n_2 : Int) (l_1 l_2 : List Int),
 l.length ≤ (9223372036854775807 : Nat) →
 l_1.length = (780 : Nat) →
 l_2.length = (36 : Nat) →
 l.length ≤ (1 : Nat) →
 l.length ≤ (1 : Nat) ∧
 n = n ∧
 n_1 = n_1 ∧
 n_2 = n_2 ∧
 l_1 = l_1 ∧
 l_2 = l_2 ∧
 (0 : Int) = (0 : Int) ∧ (2 : Int) = (2 : Int) ∧ (0 : Int) = (0 : Int) ∧ stE l = stE l
theorem e84 : ct84.VC (base.with sp131) Tryz.f84.results.toList Tryz.f84.ntmps (Tryz.f84.ntmps - ct84.ps.length) (bodyOf Tryz.f84) noAnn = P84 := by kernel_rfl
noncomputable def sp84 : SpecT := addS sp131 84 (mkF ct84)
def P46 : Prop :=
 ∀ (l : List Int),
 l.length = (32 : Nat) →
 isYs l →
 True ∧
 isYs l ∧
 (1 : Nat) ≤ (1 : Nat) ∧
 (0 : Int) = (0 : Int) ∧
 (2 : Int) = (2 : Int) ∧
 (0 : Int) = (0 : Int) ∧
 (0 : Int) = (0 : Int) ∧
 (0 : Int) = (0 : Int) ∧
 (0 : Int) = (0 : Int) ∧
 z780 = z780 ∧
 z36 = z36 ∧
 stE
 [[CD.int ((fwW (List.map row1 l)).getD 0 (0 : Int)),
 CD.int ((fwW (List.map row1 l)).getD 1 (0 : Int)),
 CD.int ((fwW (List.map row1 l)).getD 2 (0 : Int)),
 CD.int ((fwW (List.map row1 l)).getD 3 (0 : Int))]] =
 stE
 [rowE (fwW (List.map row1 l))]
theorem e46 : ct46.VC (base.with sp84) Tryz.f46.results.toList Tryz.f46.ntmps (Tryz.f46.ntmps - ct46.ps.length) (bodyOf Tryz.f46) noAnn = P46 := by kernel_rfl
noncomputable def sp46 : SpecT := addS sp84 46 (mkF ct46)
end Go.Proofs.YteiecapbaeajdaaGreatDoor
namespace Go.Proofs.YteiecapbaeajdaaGreatDoor
open Go Go.Avc Go.Proofs
set_option linter.unusedVariables false
set_option linter.unusedSimpArgs false
set_option maxRecDepth 100000
theorem okM_p : okM pR := by
  refine ⟨by decide, by decide, fun i => ?_, by decide, by decide⟩
  unfold pR
  rw [rv_row1]
  exact areW_p i
theorem okL_p : okL pR := ⟨by decide, okM_p.2.2.1⟩
theorem okL_ws {l : List (List CD)} (h : l.length ≤ 400) (hb : areB l) : okL ((wsN l l.length).map row1) := row_ok (ws_w l _) (by rw [ws_len]; omega)
theorem redR_ok {m a : List (List CD)} (hm : okL m) : okL (redR m a) := by rw [redR, hid_eq]; exact rdN_ok hm _ _
theorem redR_len (m a : List (List CD)) : (redR m a).length = m.length := by rw [redR, hid_eq]; exact rdN_len m a _ _
theorem rows_w {l : List (List CD)} (h : areR l) (n : Nat) : areW ((l.take n).map fun r => (r.getD 0 (CD.int 0)).toInt) := fun j => by
  rw [List.getD_eq_getElem?_getD, List.getElem?_map, List.getElem?_take]
  split
  · cases hj : l[j]? with
    | none => exact isW0
    | some r =>
      have e : l.getD j [] = r := by rw [List.getD_eq_getElem?_getD, hj]; rfl
      have := h j
      unfold rv at this
      rw [e] at this
      exact this
  · exact isW0
theorem vc98 : P98 := by
  rintro l _ ⟨hb, hl⟩
  have hlen : (4 : Nat) ≤ (redR pR ((wsN l l.length).map row1)).length := by rw [redR_len]; decide
  refine ⟨trivial, ⟨by decide, by decide, by decide, by decide⟩, okM_p, ⟨by omega, hb⟩, ⟨okL_ws hl hb, okL_p⟩, hlen, hlen, ?_, ?_⟩
  · rw [List.drop_zero]
    exact rows_w (redR_ok okL_p).2 4
  · rw [fwW, hid_eq]
    rfl
theorem ok98 : SpecOk (base.with sp144) 98 (mkF ct98) := spec_ct (fn := Tryz.f98) (c := bodyOf Tryz.f98) (k := Tryz.f98.ntmps - ct98.ps.length) (ct := ct98) c144 Tryz.func98 (by kernel_rfl) noAnn (by kernel_rfl) (fun vs w _ => Tryz.call98 vs w) (by rw [e98]; exact vc98)
theorem c98 : (base.with sp98).Ok := addS_ok c144 ok98
theorem vc86 : P86 := by
  intro t ht hy
  have e : ((t.drop 0).take 32).map (fun x => [CD.int x]) = t.map row1 := by
    rw [List.drop_zero, List.take_of_length_le (by omega)]
    rfl
  rw [e]
  exact ⟨⟨by decide, by decide, by decide, by decide⟩, ⟨hy, by rw [List.length_map]; omega⟩, rfl⟩
theorem ok86 : SpecOk (base.with sp98) 86 (mkF ct86) := spec_ct (fn := Tryz.f86) (c := bodyOf Tryz.f86) (k := Tryz.f86.ntmps - ct86.ps.length) (ct := ct86) c98 Tryz.func86 (by kernel_rfl) noAnn (by kernel_rfl) (fun vs w _ => Tryz.call86 vs w) (by rw [e86]; exact vc86)
theorem c86 : (base.with sp86).Ok := addS_ok c98 ok86
theorem vc132 : P132 := fun _ => ⟨rfl, rfl, rfl, (by rw [z780, hid_eq]), (by rw [z36, hid_eq])⟩
theorem ok132 : SpecOk (base.with sp86) 132 (mkF ct132) := spec_ct (fn := Tryz.f132) (c := bodyOf Tryz.f132) (k := Tryz.f132.ntmps - ct132.ps.length) (ct := ct132) c86 Tryz.func132 (by kernel_rfl) noAnn (by kernel_rfl) (fun vs w _ => Tryz.call132 vs w) (by rw [e132]; exact vc132)
theorem c132 : (base.with sp132).Ok := addS_ok c86 ok132
theorem vc85 : P85 := fun _ => ⟨trivial, rfl, rfl, rfl, rfl, rfl⟩
theorem ok85 : SpecOk (base.with sp132) 85 (mkF ct85) := spec_ct (fn := Tryz.f85) (c := bodyOf Tryz.f85) (k := Tryz.f85.ntmps - ct85.ps.length) (ct := ct85) c132 Tryz.func85 (by kernel_rfl) noAnn (by kernel_rfl) (fun vs w _ => Tryz.call85 vs w) (by rw [e85]; exact vc85)
theorem c85 : (base.with sp85).Ok := addS_ok c132 ok85
theorem vc345 : P345 := fun _ => rfl
theorem ok345 : SpecOk (base.with sp85) 345 (mkF ct345) := spec_ct (fn := Tryz.f345) (c := bodyOf Tryz.f345) (k := Tryz.f345.ntmps - ct345.ps.length) (ct := ct345) c85 Tryz.func345 (by kernel_rfl) noAnn (by kernel_rfl) (fun vs w _ => Tryz.call345 vs w) (by rw [e345]; exact vc345)
theorem c345 : (base.with sp345).Ok := addS_ok c85 ok345
theorem vc346 : P346 := fun _ => rfl
theorem ok346 : SpecOk (base.with sp345) 346 (mkF ct346) := spec_ct (fn := Tryz.f346) (c := bodyOf Tryz.f346) (k := Tryz.f346.ntmps - ct346.ps.length) (ct := ct346) c345 Tryz.func346 (by kernel_rfl) noAnn (by kernel_rfl) (fun vs w _ => Tryz.call346 vs w) (by rw [e346]; exact vc346)
theorem c346 : (base.with sp346).Ok := addS_ok c345 ok346
theorem vc131 : P131 := by
  rintro l a b c u v _ _ _ h _
  refine ⟨trivial, trivial, ⟨by decide, by decide⟩, condI (fun k => ?_) fun _ => ⟨trivial, ⟨by decide, by decide, by decide, by decide⟩, trivial, trivial, ⟨by decide, by decide, by decide, by decide⟩, rfl, rfl, rfl, rfl, rfl, rfl, rfl, rfl, rfl, rfl⟩⟩
  have := of_decide_eq_true k
  omega
theorem ok131 : SpecOk (base.with sp346) 131 (mkF ct131) := spec_ct (fn := Tryz.f131) (c := bodyOf Tryz.f131) (k := Tryz.f131.ntmps - ct131.ps.length) (ct := ct131) c346 Tryz.func131 (by kernel_rfl) noAnn (by kernel_rfl) (fun vs w _ => Tryz.call131 vs w) (by rw [e131]; exact vc131)
theorem c131 : (base.with sp131).Ok := addS_ok c346 ok131
theorem vc84 : P84 := fun l a b c u v _ _ _ h => ⟨h, rfl, rfl, rfl, rfl, rfl, rfl, rfl, rfl, rfl⟩
theorem ok84 : SpecOk (base.with sp131) 84 (mkF ct84) := spec_ct (fn := Tryz.f84) (c := bodyOf Tryz.f84) (k := Tryz.f84.ntmps - ct84.ps.length) (ct := ct84) c131 Tryz.func84 (by kernel_rfl) noAnn (by kernel_rfl) (fun vs w _ => Tryz.call84 vs w) (by rw [e84]; exact vc84)
theorem c84 : (base.with sp84).Ok := addS_ok c131 ok84
theorem vc46 : P46 := fun t _ h => ⟨trivial, h, Nat.le_refl 1, rfl, rfl, rfl, rfl, rfl, rfl, rfl, rfl, rfl⟩
theorem ok46 : SpecOk (base.with sp84) 46 (mkF ct46) := spec_ct (fn := Tryz.f46) (c := bodyOf Tryz.f46) (k := Tryz.f46.ntmps - ct46.ps.length) (ct := ct46) c84 Tryz.func46 (by kernel_rfl) noAnn (by kernel_rfl) (fun vs w _ => Tryz.call46 vs w) (by rw [e46]; exact vc46)
theorem c46 : (base.with sp46).Ok := addS_ok c84 ok46
end Go.Proofs.YteiecapbaeajdaaGreatDoor
namespace Go.Proofs.YteiecapbaeajdaaGreatDoor
open Go Go.Avc
set_option linter.unusedVariables false
/-- The items of a pattern's bytes; the tag. -/
def itm (l : List (List CD)) : List (List CD) := rowsIt (prs (bytesOfRows l)).1
noncomputable def tgB (k : Int) (l : List (List CD)) : List Int := tagX k (itm l)
abbrev qTb : BPat := .cells 128 [.ptr 1 0, .arrI 32 .u8, .iface 133 (.agg [.ptr 2 0])]
abbrev qTe : BPat := .cells 128 [.ptr 1 0, .arrI 32 .u8, .iface 137 (.agg [.ptr 2 0])]
abbrev qSb : BPat := .cells 298 [lanP, .own 3, i64, i64, i64]
abbrev qSf : BPat := .cells 300 [.iface 259 (.agg [.ptr 3 0]), .own 4, i64, i64, i64]
noncomputable def ct21 : Ct := { ps := [i64, rb], bs := [], pre := fun | [.i k, .r l] => pre129 l | _ => False, res := fun
  | [.i k, .r l] => .ite (decide (k ≠ 1) && decide (k ≠ 2)) (.ret (.tup [.nilp, i64, i64]) [] [.i (-1), .i 15])
      (.ite (decide ((prs (bytesOfRows l)).2.2 = 0))
        (.ite (decide (k = 2)) (.ret (.tup [.ptr 0 0, i64, i64]) [qTe, gA, qSf, qPm, oe] [.i (-1), .i 0, .li (tgB k l), .r (itm l), .i 0, .i 0, .i 2, .i 0, .i 0, .i 0, .i 0, .li z780, .li z36, .r (stE [rowE (fwW ((tgB k l).map row1))])])
          (.ret (.tup [.ptr 0 0, i64, i64]) [qTb, gA, qSb, ob] [.i (-1), .i 0, .li (tgB k l), .r (itm l), .i 0, .i 0, .i 136, .i 0, .r (stB ((tgB k l).map row1))]))
        (.ret (.tup [.nilp, i64, i64]) [] [.i (prs (bytesOfRows l)).2.1, .i (prs (bytesOfRows l)).2.2]))
  | _ => noRes }
end Go.Proofs.YteiecapbaeajdaaGreatDoor
namespace Go.Proofs.YteiecapbaeajdaaGreatDoor
open Go Go.Avc Go.Proofs
set_option linter.unusedVariables false
set_option maxRecDepth 100000
def P21 : Prop :=
 ∀ (n : Int) (l : List (List CD)),
 l.length ≤ (9223372036854775807 : Nat) →
 pre129 l →
 bif decide (n ≠ (1 : Int)) && decide (n ≠ (2 : Int)) then
 bif decide (n ≠ (1 : Int)) && decide (n ≠ (2 : Int)) then (-1 : Int) = (-1 : Int) ∧ (15 : Int) = (15 : Int)
 else
 bif decide ((prs (bytesOfRows l)).snd.snd = (0 : Int)) then
 bif decide (n = (2 : Int)) then
 Miss (2 : Nat)
 { n := (0 : Nat), ov := [], tm := [SV.tup [SV.nilp, SV.int Go.IntKind.i64 (-1 : Int), SV.int Go.IntKind.i64 (15 : Int)]], hp := [], G := [] }
 else
 Miss (2 : Nat)
 { n := (0 : Nat), ov := [], tm := [SV.tup [SV.nilp, SV.int Go.IntKind.i64 (-1 : Int), SV.int Go.IntKind.i64 (15 : Int)]], hp := [], G := [] }
 else
 (-1 : Int) = (prs (bytesOfRows l)).snd.fst ∧
 (15 : Int) = (prs (bytesOfRows l)).snd.snd
 else
 pre129 l ∧
 bif decide ((prs (bytesOfRows l)).snd.snd = (0 : Int)) then
 (rowsIt (prs (bytesOfRows l)).fst).length ≤ (1000000 : Nat) ∧
 ((n = (1 : Int) ∨ n = (2 : Int)) ∧
 preL (rowsIt (prs (bytesOfRows l)).fst)) ∧
 True ∧
 bif decide (n = (2 : Int)) then
 isYs
 (tagX n
 (rowsIt (prs (bytesOfRows l)).fst)) ∧
 bif decide (n ≠ (1 : Int)) && decide (n ≠ (2 : Int)) then
 Miss (2 : Nat)
 { n := (0 : Nat), ov := [], tm := [SV.tup [SV.ptr (1 : Nat) (0 : Nat), SV.int Go.IntKind.i64 (-1 : Int), SV.int Go.IntKind.i64 (0 : Int)]], hp := [Blk.cells (185 : Go.TypeId) [SV.rd [CSh.int Go.IntKind.i64, CSh.int Go.IntKind.i64, CSh.int Go.IntKind.i64, CSh.str] (rowsIt (prs (bytesOfRows l)).fst), SV.int Go.IntKind.i64 (0 : Int), SV.nilp], Blk.cells (128 : Nat) [SV.ptr (0 : Nat) (0 : Nat), SV.arrI (32 : Nat) Go.IntKind.u8 (tagX n (rowsIt (prs (bytesOfRows l)).fst)), SV.iface (137 : Nat) (SV.agg [SV.ptr (5 : Nat) (0 : Nat)])], Blk.own (116 : Go.TypeId) [CSh.int Go.IntKind.i64, CSh.int Go.IntKind.i64, CSh.int Go.IntKind.i64, CSh.str] (rowsIt (prs (bytesOfRows l)).fst), Blk.cells (298 : Go.TypeId) [SV.iface (253 : Go.TypeId) (SV.agg []), SV.own (4 : Nat), SV.int Go.IntKind.i64 (0 : Int), SV.int Go.IntKind.i64 (136 : Int), SV.int Go.IntKind.i64 (0 : Int)], Blk.own (5 : Go.TypeId) [CSh.int Go.IntKind.u8] (stB (List.map row1 (tagX n (rowsIt (prs (bytesOfRows l)).fst)))), Blk.cells (300 : Go.TypeId) [SV.iface (259 : Go.TypeId) (SV.agg [SV.ptr (6 : Nat) (0 : Nat)]), SV.own (7 : Nat), SV.int Go.IntKind.i64 (0 : Int), SV.int Go.IntKind.i64 (2 : Int), SV.int Go.IntKind.i64 (0 : Int)], Blk.cells (318 : Go.TypeId) [SV.int Go.IntKind.u32 (0 : Int), SV.int Go.IntKind.i32 (0 : Int), SV.int Go.IntKind.u32 (0 : Int), SV.arrI (780 : Nat) Go.IntKind.u64 z780, SV.arrI (36 : Nat) Go.IntKind.u64 z36], Blk.own (76 : Go.TypeId) [CSh.int Go.IntKind.u64, CSh.int Go.IntKind.u64, CSh.int Go.IntKind.u64, CSh.int Go.IntKind.u64] (stE [rowE (fwW (List.map row1 (tagX n (rowsIt (prs (bytesOfRows l)).fst))))])], G := [] }
 else
 bif decide ((prs (bytesOfRows l)).snd.snd = (0 : Int)) then
 bif decide (n = (2 : Int)) then
 (-1 : Int) = (-1 : Int) ∧
 (0 : Int) = (0 : Int) ∧
 tagX n
 (rowsIt (prs (bytesOfRows l)).fst) =
 tgB n l ∧
 rowsIt (prs (bytesOfRows l)).fst =
 itm l ∧
 (0 : Int) = (0 : Int) ∧
 (0 : Int) = (0 : Int) ∧
 (2 : Int) = (2 : Int) ∧
 (0 : Int) = (0 : Int) ∧
 (0 : Int) = (0 : Int) ∧
 (0 : Int) = (0 : Int) ∧
 (0 : Int) = (0 : Int) ∧
 z780 = z780 ∧
 z36 = z36 ∧
 stE
 [rowE
 (fwW
 (List.map row1
 (tagX n
 (rowsIt
 (prs (bytesOfRows l)).fst))))] =
 stE
 [rowE
 (fwW
 (List.map row1 (tgB n l)))]
 else
 Miss (2 : Nat)
 { n := (0 : Nat), ov := [], tm := [SV.tup [SV.ptr (1 : Nat) (0 : Nat), SV.int Go.IntKind.i64 (-1 : Int), SV.int Go.IntKind.i64 (0 : Int)]], hp := [Blk.cells (185 : Go.TypeId) [SV.rd [CSh.int Go.IntKind.i64, CSh.int Go.IntKind.i64, CSh.int Go.IntKind.i64, CSh.str] (rowsIt (prs (bytesOfRows l)).fst), SV.int Go.IntKind.i64 (0 : Int), SV.nilp], Blk.cells (128 : Nat) [SV.ptr (0 : Nat) (0 : Nat), SV.arrI (32 : Nat) Go.IntKind.u8 (tagX n (rowsIt (prs (bytesOfRows l)).fst)), SV.iface (137 : Nat) (SV.agg [SV.ptr (5 : Nat) (0 : Nat)])], Blk.own (116 : Go.TypeId) [CSh.int Go.IntKind.i64, CSh.int Go.IntKind.i64, CSh.int Go.IntKind.i64, CSh.str] (rowsIt (prs (bytesOfRows l)).fst), Blk.cells (298 : Go.TypeId) [SV.iface (253 : Go.TypeId) (SV.agg []), SV.own (4 : Nat), SV.int Go.IntKind.i64 (0 : Int), SV.int Go.IntKind.i64 (136 : Int), SV.int Go.IntKind.i64 (0 : Int)], Blk.own (5 : Go.TypeId) [CSh.int Go.IntKind.u8] (stB (List.map row1 (tagX n (rowsIt (prs (bytesOfRows l)).fst)))), Blk.cells (300 : Go.TypeId) [SV.iface (259 : Go.TypeId) (SV.agg [SV.ptr (6 : Nat) (0 : Nat)]), SV.own (7 : Nat), SV.int Go.IntKind.i64 (0 : Int), SV.int Go.IntKind.i64 (2 : Int), SV.int Go.IntKind.i64 (0 : Int)], Blk.cells (318 : Go.TypeId) [SV.int Go.IntKind.u32 (0 : Int), SV.int Go.IntKind.i32 (0 : Int), SV.int Go.IntKind.u32 (0 : Int), SV.arrI (780 : Nat) Go.IntKind.u64 z780, SV.arrI (36 : Nat) Go.IntKind.u64 z36], Blk.own (76 : Go.TypeId) [CSh.int Go.IntKind.u64, CSh.int Go.IntKind.u64, CSh.int Go.IntKind.u64, CSh.int Go.IntKind.u64] (stE [rowE (fwW (List.map row1 (tagX n (rowsIt (prs (bytesOfRows l)).fst))))])], G := [] }
 else
 Miss (2 : Nat)
 { n := (0 : Nat), ov := [], tm := [SV.tup [SV.ptr (1 : Nat) (0 : Nat), SV.int Go.IntKind.i64 (-1 : Int), SV.int Go.IntKind.i64 (0 : Int)]], hp := [Blk.cells (185 : Go.TypeId) [SV.rd [CSh.int Go.IntKind.i64, CSh.int Go.IntKind.i64, CSh.int Go.IntKind.i64, CSh.str] (rowsIt (prs (bytesOfRows l)).fst), SV.int Go.IntKind.i64 (0 : Int), SV.nilp], Blk.cells (128 : Nat) [SV.ptr (0 : Nat) (0 : Nat), SV.arrI (32 : Nat) Go.IntKind.u8 (tagX n (rowsIt (prs (bytesOfRows l)).fst)), SV.iface (137 : Nat) (SV.agg [SV.ptr (5 : Nat) (0 : Nat)])], Blk.own (116 : Go.TypeId) [CSh.int Go.IntKind.i64, CSh.int Go.IntKind.i64, CSh.int Go.IntKind.i64, CSh.str] (rowsIt (prs (bytesOfRows l)).fst), Blk.cells (298 : Go.TypeId) [SV.iface (253 : Go.TypeId) (SV.agg []), SV.own (4 : Nat), SV.int Go.IntKind.i64 (0 : Int), SV.int Go.IntKind.i64 (136 : Int), SV.int Go.IntKind.i64 (0 : Int)], Blk.own (5 : Go.TypeId) [CSh.int Go.IntKind.u8] (stB (List.map row1 (tagX n (rowsIt (prs (bytesOfRows l)).fst)))), Blk.cells (300 : Go.TypeId) [SV.iface (259 : Go.TypeId) (SV.agg [SV.ptr (6 : Nat) (0 : Nat)]), SV.own (7 : Nat), SV.int Go.IntKind.i64 (0 : Int), SV.int Go.IntKind.i64 (2 : Int), SV.int Go.IntKind.i64 (0 : Int)], Blk.cells (318 : Go.TypeId) [SV.int Go.IntKind.u32 (0 : Int), SV.int Go.IntKind.i32 (0 : Int), SV.int Go.IntKind.u32 (0 : Int), SV.arrI (780 : Nat) Go.IntKind.u64 z780, SV.arrI (36 : Nat) Go.IntKind.u64 z36], Blk.own (76 : Go.TypeId) [CSh.int Go.IntKind.u64, CSh.int Go.IntKind.u64, CSh.int Go.IntKind.u64, CSh.int Go.IntKind.u64] (stE [rowE (fwW (List.map row1 (tagX n (rowsIt (prs (bytesOfRows l)).fst))))])], G := [] }
 else
 bif decide (n ≠ (1 : Int)) && decide (n ≠ (2 : Int)) then
 Miss (2 : Nat)
 { n := (0 : Nat), ov := [], tm := [SV.tup [SV.ptr (1 : Nat) (0 : Nat), SV.int Go.IntKind.i64 (-1 : Int), SV.int Go.IntKind.i64 (0 : Int)]], hp := [Blk.cells (185 : Go.TypeId) [SV.rd [CSh.int Go.IntKind.i64, CSh.int Go.IntKind.i64, CSh.int Go.IntKind.i64, CSh.str] (rowsIt (prs (bytesOfRows l)).fst), SV.int Go.IntKind.i64 (0 : Int), SV.nilp], Blk.cells (128 : Nat) [SV.ptr (0 : Nat) (0 : Nat), SV.arrI (32 : Nat) Go.IntKind.u8 (tagX n (rowsIt (prs (bytesOfRows l)).fst)), SV.iface (133 : Nat) (SV.agg [SV.ptr (3 : Nat) (0 : Nat)])], Blk.own (116 : Go.TypeId) [CSh.int Go.IntKind.i64, CSh.int Go.IntKind.i64, CSh.int Go.IntKind.i64, CSh.str] (rowsIt (prs (bytesOfRows l)).fst), Blk.cells (298 : Go.TypeId) [SV.iface (253 : Go.TypeId) (SV.agg []), SV.own (4 : Nat), SV.int Go.IntKind.i64 (0 : Int), SV.int Go.IntKind.i64 (136 : Int), SV.int Go.IntKind.i64 (0 : Int)], Blk.own (5 : Go.TypeId) [CSh.int Go.IntKind.u8] (stB (List.map row1 (tagX n (rowsIt (prs (bytesOfRows l)).fst))))], G := [] }
 else
 bif decide ((prs (bytesOfRows l)).snd.snd = (0 : Int)) then
 bif decide (n = (2 : Int)) then
 Miss (2 : Nat)
 { n := (0 : Nat), ov := [], tm := [SV.tup [SV.ptr (1 : Nat) (0 : Nat), SV.int Go.IntKind.i64 (-1 : Int), SV.int Go.IntKind.i64 (0 : Int)]], hp := [Blk.cells (185 : Go.TypeId) [SV.rd [CSh.int Go.IntKind.i64, CSh.int Go.IntKind.i64, CSh.int Go.IntKind.i64, CSh.str] (rowsIt (prs (bytesOfRows l)).fst), SV.int Go.IntKind.i64 (0 : Int), SV.nilp], Blk.cells (128 : Nat) [SV.ptr (0 : Nat) (0 : Nat), SV.arrI (32 : Nat) Go.IntKind.u8 (tagX n (rowsIt (prs (bytesOfRows l)).fst)), SV.iface (133 : Nat) (SV.agg [SV.ptr (3 : Nat) (0 : Nat)])], Blk.own (116 : Go.TypeId) [CSh.int Go.IntKind.i64, CSh.int Go.IntKind.i64, CSh.int Go.IntKind.i64, CSh.str] (rowsIt (prs (bytesOfRows l)).fst), Blk.cells (298 : Go.TypeId) [SV.iface (253 : Go.TypeId) (SV.agg []), SV.own (4 : Nat), SV.int Go.IntKind.i64 (0 : Int), SV.int Go.IntKind.i64 (136 : Int), SV.int Go.IntKind.i64 (0 : Int)], Blk.own (5 : Go.TypeId) [CSh.int Go.IntKind.u8] (stB (List.map row1 (tagX n (rowsIt (prs (bytesOfRows l)).fst))))], G := [] }
 else
 (-1 : Int) = (-1 : Int) ∧
 (0 : Int) = (0 : Int) ∧
 tagX n
 (rowsIt (prs (bytesOfRows l)).fst) =
 tgB n l ∧
 rowsIt (prs (bytesOfRows l)).fst =
 itm l ∧
 (0 : Int) = (0 : Int) ∧
 (0 : Int) = (0 : Int) ∧
 (136 : Int) = (136 : Int) ∧
 (0 : Int) = (0 : Int) ∧
 stB
 (List.map row1
 (tagX n
 (rowsIt (prs (bytesOfRows l)).fst))) =
 stB
 (List.map row1 (tgB n l))
 else
 Miss (2 : Nat)
 { n := (0 : Nat), ov := [], tm := [SV.tup [SV.ptr (1 : Nat) (0 : Nat), SV.int Go.IntKind.i64 (-1 : Int), SV.int Go.IntKind.i64 (0 : Int)]], hp := [Blk.cells (185 : Go.TypeId) [SV.rd [CSh.int Go.IntKind.i64, CSh.int Go.IntKind.i64, CSh.int Go.IntKind.i64, CSh.str] (rowsIt (prs (bytesOfRows l)).fst), SV.int Go.IntKind.i64 (0 : Int), SV.nilp], Blk.cells (128 : Nat) [SV.ptr (0 : Nat) (0 : Nat), SV.arrI (32 : Nat) Go.IntKind.u8 (tagX n (rowsIt (prs (bytesOfRows l)).fst)), SV.iface (133 : Nat) (SV.agg [SV.ptr (3 : Nat) (0 : Nat)])], Blk.own (116 : Go.TypeId) [CSh.int Go.IntKind.i64, CSh.int Go.IntKind.i64, CSh.int Go.IntKind.i64, CSh.str] (rowsIt (prs (bytesOfRows l)).fst), Blk.cells (298 : Go.TypeId) [SV.iface (253 : Go.TypeId) (SV.agg []), SV.own (4 : Nat), SV.int Go.IntKind.i64 (0 : Int), SV.int Go.IntKind.i64 (136 : Int), SV.int Go.IntKind.i64 (0 : Int)], Blk.own (5 : Go.TypeId) [CSh.int Go.IntKind.u8] (stB (List.map row1 (tagX n (rowsIt (prs (bytesOfRows l)).fst))))], G := [] }
 else
 bif decide ((prs (bytesOfRows l)).snd.snd ≠ (0 : Int)) then
 bif decide (n ≠ (1 : Int)) && decide (n ≠ (2 : Int)) then
 (prs (bytesOfRows l)).snd.fst = (-1 : Int) ∧
 (prs (bytesOfRows l)).snd.snd = (15 : Int)
 else
 bif decide ((prs (bytesOfRows l)).snd.snd = (0 : Int)) then
 bif decide (n = (2 : Int)) then
 Miss (2 : Nat)
 { n := (0 : Nat), ov := [], tm := [SV.tup [SV.nilp, SV.int Go.IntKind.i64 (prs (bytesOfRows l)).snd.fst, SV.int Go.IntKind.i64 (prs (bytesOfRows l)).snd.snd]], hp := [], G := [] }
 else
 Miss (2 : Nat)
 { n := (0 : Nat), ov := [], tm := [SV.tup [SV.nilp, SV.int Go.IntKind.i64 (prs (bytesOfRows l)).snd.fst, SV.int Go.IntKind.i64 (prs (bytesOfRows l)).snd.snd]], hp := [], G := [] }
 else
 (prs (bytesOfRows l)).snd.fst = (prs (bytesOfRows l)).snd.fst ∧
 (prs (bytesOfRows l)).snd.snd = (prs (bytesOfRows l)).snd.snd
 else False
theorem e21 : ct21.VC (base.with sp46) Tryz.f21.results.toList Tryz.f21.ntmps (Tryz.f21.ntmps - ct21.ps.length) (bodyOf Tryz.f21) noAnn = P21 := by kernel_rfl
noncomputable def sp21 : SpecT := addS sp46 21 (mkF ct21)
end Go.Proofs.YteiecapbaeajdaaGreatDoor
namespace Go.Proofs.YteiecapbaeajdaaGreatDoor
open Go Go.Avc Go.Proofs
set_option linter.unusedVariables false
set_option linter.unusedSimpArgs false
set_option maxRecDepth 100000
theorem take_b {L : List Int} (h : ∀ j, 0 ≤ L.getD j 0 ∧ L.getD j 0 < 256) (n : Nat) : isYs (L.take n) := fun j => by
  rw [rv_row1, List.getD_eq_getElem?_getD, List.getElem?_take]
  split
  · rw [← List.getD_eq_getElem?_getD]; exact h j
  · exact ⟨by decide, by decide⟩
theorem fin_y (h : Hs) : isYs (fin h) := by rw [fin, hid_eq]; exact take_b (bysL_rng _) 32
theorem sumP_y (l : List (List CD)) : isYs (sumP l) := by rw [sumP, hid_eq]; exact fin_y _
theorem tagX_y (k : Int) (l : List (List CD)) : isYs (tagX k l) := by
  unfold tagX
  split
  · exact sumP_y _
  · intro j
    rw [rv_row1, List.getD_eq_getElem?_getD, List.getElem?_replicate]
    split <;> exact ⟨by decide, by decide⟩
theorem vc21 : P21 := by
  intro k l _ hp
  have both : ∀ {p : Prop} [Decidable p], decide p = true → decide p = false → False := fun h1 h2 => by rw [h1] at h2; cases h2
  refine condI (fun h => condI (fun _ => ⟨rfl, rfl⟩) fun h' => by rw [h] at h'; cases h') fun h => ⟨hp, condI (fun e => ?_) fun e => condI (fun _ => condI (fun h' => by rw [h] at h'; cases h') fun _ => condI (fun e' => (both e' e).elim) fun _ => ⟨rfl, rfl⟩) fun e' => ?_⟩
  · have hl := prs_len (bytesOfRows l)
    have hr : (rowsIt (prs (bytesOfRows l)).1).length ≤ 1024 := by rw [rowsIt_length]; exact hl
    have hk : k = 1 ∨ k = 2 := by
      simp only [Bool.and_eq_false_iff, decide_eq_false_iff_not] at h
      omega
    refine ⟨by omega, ⟨hk, by unfold preL; omega⟩, trivial, condI (fun k2 => ⟨tagX_y _ _, condI (fun h' => by rw [h] at h'; cases h') fun _ => condI (fun _ => condI (fun _ => ?_) fun k2' => (both k2 k2').elim) fun e' => (both e e').elim⟩) fun k2 => condI (fun h' => by rw [h] at h'; cases h') fun _ => condI (fun _ => condI (fun k2' => (both k2' k2).elim) fun _ => ?_) fun e' => (both e e').elim⟩
    · exact ⟨rfl, rfl, rfl, rfl, rfl, rfl, rfl, rfl, rfl, rfl, rfl, rfl, rfl, rfl⟩
    · exact ⟨rfl, rfl, rfl, rfl, rfl, rfl, rfl, rfl, rfl⟩
  · exact absurd (Decidable.not_not.1 (of_decide_eq_false e')) (of_decide_eq_false e)
theorem ok21 : SpecOk (base.with sp46) 21 (mkF ct21) := spec_ct (fn := Tryz.f21) (c := bodyOf Tryz.f21) (k := Tryz.f21.ntmps - ct21.ps.length) (ct := ct21) c46 Tryz.func21 (by kernel_rfl) noAnn (by kernel_rfl) (fun vs w _ => Tryz.call21 vs w) (by rw [e21]; exact vc21)
theorem c21 : (base.with sp21).Ok := addS_ok c46 ok21
end Go.Proofs.YteiecapbaeajdaaGreatDoor
namespace Go.Proofs.YteiecapbaeajdaaGreatDoor
open Go Go.Avc
set_option linter.unusedVariables false
abbrev gAe : BPat := .cells 185 [.rd itemE, i64, .ptr 4 0]
abbrev stA : List BPat := [qTb, gA, qSb, ob]
abbrev stX : List BPat := [qTb, gAe, qSb, ob, eB]
/-- An operation is told. -/
noncomputable def opS (k t n : Int) (d : List (List CD)) (x : Sp) : Sp := abN (toB k t n d) x (toB k t n d).length
/-- What is drawn behind the telling of one element's drawing. -/
noncomputable def drX (x : Sp) : List Int × Int × Int × Sp := fdX (opS 2 3 1 [] x)
def pre36 (k t n : Int) (d it : List (List CD)) (at' : Int) (x : Sp) : Prop :=
  pre137 it at' ∧ spB 800000000 x ∧ ((k = 0 ∧ t = 1 ∧ areB d ∧ d.length ≤ 900 ∧ cntE d = 0 ∧ hit it at' 1 1 d.length = true) ∨ (k = 2 ∧ n = 1 ∧ hit it at' 2 3 1 = true ∧ (drX x).2.2.1 = 0) ∨ (k = 4 ∧ at' = it.length))
noncomputable def nxt (k : Int) (d : List (List CD)) (at' : Int) (x : Sp) : Int × Sp := if k = 0 then (at' + 1, opS 1 1 d.length d x) else if k = 2 then (at' + 1, (drX x).2.2.2) else (at', x)
noncomputable def drw (k : Int) (x : Sp) : List (List CD) := if k = 2 then (elB (drX x).1).map row1 else []
abbrev callE : List CSh := [.int .i64, .int .i64, .int .i64, .sl [.int .u8]]
abbrev ansE : List CSh := [.int .i64, .sl [.int .u8]]
def cC (l : List (List CD)) (i c : Nat) : Int := ((l.getD i []).getD c .d0).toInt
def cD (l : List (List CD)) (i : Nat) : List (List CD) := ((l.getD i []).getD 3 .d0).toSl
/-- Where a story is behind so many calls; what they answered. -/
noncomputable def plS (l : List (List CD)) (x : Sp) : Nat → Int × Sp
  | 0 => (0, x)
  | i + 1 => nxt (cC l i 0) (cD l i) (plS l x i).1 (plS l x i).2
noncomputable def anR (l : List (List CD)) (x : Sp) : Nat → List (List CD)
  | 0 => []
  | i + 1 => anR l x i ++ [[.int 0, .sl (drw (cC l i 0) (plS l x i).2)]]
noncomputable def x0B (p : List (List CD)) : Sp := (0, 136, 0, stB ((tgB 1 p).map row1))
/-! ### Contracts -/
def ct25a : Ct := { ps := [.ptr 0 0], bs := stA, pre := fun _ => True, res := fun
  | [.li tg, .r it, .i at', .i a, .i b, .i c, .r s] => .ret i64 stA [.i 0, .li tg, .r it, .i at', .i a, .i b, .i c, .r s]
  | _ => noRes }
def ct25b : Ct := { ps := [.ptr 0 0], bs := stX, pre := fun _ => True, res := fun
  | [.li tg, .r it, .i at', .i a, .i b, .i c, .r s, .i w] => .ret i64 stX [.i w, .li tg, .r it, .i at', .i a, .i b, .i c, .r s, .i w]
  | _ => noRes }
def ct92a : Ct := { ps := [.ptr 0 0, opP], bs := stA, pre := fun | [.i _, .i _, .i _, .r _, .li _, .r it, .i at', .i _, .i _, .i _, .r _] => pre137 it at' | _ => False, res := fun
  | [.i k, .i t, .i n, .r _, .li tg, .r it, .i at', .i a, .i b, .i c, .r s] => .ite (hit it at' k t n) (.ret i64 stA [.i 0, .li tg, .r it, .i (at' + 1), .i a, .i b, .i c, .r s]) (.ret i64 stX [.i 10, .li tg, .r it, .i at', .i a, .i b, .i c, .r s, .i 10])
  | _ => noRes }
def ct92b : Ct := { ps := [.ptr 0 0, opP], bs := stX, pre := fun | [.i _, .i _, .i _, .r _, .li _, .r it, .i at', .i _, .i _, .i _, .r _, .i w] => pre137 it at' ∧ w ≠ 0 | _ => False, res := fun
  | [.i k, .i t, .i n, .r _, .li tg, .r it, .i at', .i a, .i b, .i c, .r s, .i w] => .ret i64 stX [.i w, .li tg, .r it, .i at', .i a, .i b, .i c, .r s, .i w]
  | _ => noRes }
noncomputable def ctp51 : List Dat → Prop
  | [.i t, .r d, .li _, .r it, .i at', .i a, .i b, .i c, .r s] => t = 1 ∧ areB d ∧ d.length ≤ 900 ∧ cntE d = 0 ∧ pre137 it at' ∧ hit it at' 1 1 d.length = true ∧ spB 800000000 (a, b, c, s)
  | _ => False
noncomputable def ct51 : Ct := { ps := [.ptr 0 0, i64, rb], bs := stA, pre := ctp51, res := fun
  | [.i t, .r d, .li tg, .r it, .i at', .i a, .i b, .i c, .r s] => .ret i64 stA [.i 0, .li tg, .r it, .i (at' + 1), .i (opS 1 1 d.length d (a, b, c, s)).1, .i (opS 1 1 d.length d (a, b, c, s)).2.1, .i (opS 1 1 d.length d (a, b, c, s)).2.2.1, .r (opS 1 1 d.length d (a, b, c, s)).2.2.2]
  | _ => noRes }
noncomputable def ctp53 : List Dat → Prop
  | [.i n, .li _, .r it, .i at', .i a, .i b, .i c, .r s] => n = 1 ∧ pre137 it at' ∧ hit it at' 2 3 1 = true ∧ spB 800000000 (a, b, c, s) ∧ (drX (a, b, c, s)).2.2.1 = 0
  | _ => False
noncomputable def ct53 : Ct := { ps := [.ptr 0 0, i64], bs := stA, pre := ctp53, res := fun
  | [.i n, .li tg, .r it, .i at', .i a, .i b, .i c, .r s] => .ret (.tup [.own 4, i64]) [qTb, gA, qSb, ob, oe] [.i 0, .li tg, .r it, .i (at' + 1), .i (drX (a, b, c, s)).2.2.2.1, .i (drX (a, b, c, s)).2.2.2.2.1, .i (drX (a, b, c, s)).2.2.2.2.2.1, .r (drX (a, b, c, s)).2.2.2.2.2.2, .r [rowE (drX (a, b, c, s)).1]]
  | _ => noRes }
def ct27a : Ct := { ps := [.ptr 0 0], bs := stA, pre := fun _ => True, res := fun
  | [.li tg, .r it, .i at', .i a, .i b, .i c, .r s] => .ite (decide (at' = it.length)) (.ret i64 stA [.i 0, .li tg, .r it, .i at', .i a, .i b, .i c, .r s]) (.ret i64 stX [.i 12, .li tg, .r it, .i at', .i a, .i b, .i c, .r s, .i 12])
  | _ => noRes }
def ct27b : Ct := { ps := [.ptr 0 0], bs := stX, pre := fun _ => True, res := fun
  | [.li tg, .r it, .i at', .i a, .i b, .i c, .r s, .i w] => .ret i64 stX [.i w, .li tg, .r it, .i at', .i a, .i b, .i c, .r s, .i w]
  | _ => noRes }
noncomputable def ctp36 : List Dat → Prop
  | [.i k, .i t, .i n, .r d, .li _, .r it, .i at', .i a, .i b, .i c, .r s] => pre36 k t n d it at' (a, b, c, s)
  | _ => False
noncomputable def ct36 : Ct := { ps := [.agg [i64, i64, i64, rb], .ptr 0 0], bs := stA, pre := ctp36, res := fun
  | [.i k, .i t, .i n, .r d, .li tg, .r it, .i at', .i a, .i b, .i c, .r s] => .ret (.agg [i64, rb]) stA [.i 0, .r (drw k (a, b, c, s)), .li tg, .r it, .i (nxt k d at' (a, b, c, s)).1, .i (nxt k d at' (a, b, c, s)).2.1, .i (nxt k d at' (a, b, c, s)).2.2.1, .i (nxt k d at' (a, b, c, s)).2.2.2.1, .r (nxt k d at' (a, b, c, s)).2.2.2.2]
  | _ => noRes }
noncomputable def ann36 : List Dat → Ann
  | [.i k, .i t, .i n, .r d, .li tg, .r it, .i at', .i a, .i b, .i c, .r s] => { cut := [], loop := [(11, [la 70 [(4, .ptr 4 0), (9, .ptr 5 0), (47, .rd elE), (48, i64), (49, i64)] (stA ++ [.cells 86 [i64, .nils], .cells 86 [i64, .own 6], ob]) (fun
      | [.r l', .i m, .i i, .li tg', .r it', .i at2, .i a', .i b', .i c', .r s', .i _, .i e, .r o] => l' = [rowE (drX (a, b, c, s)).1] ∧ m = 1 ∧ e = 0 ∧ tg' = tg ∧ it' = it ∧ at2 = at' + 1 ∧ (a', b', c', s') = (drX (a, b, c, s)).2.2.2 ∧ ((i = 0 ∧ o = []) ∨ (i = 1 ∧ o = (elB (drX (a, b, c, s)).1).map row1))
      | _ => False) (fun | [_, .i m, .i i, _, _, _, _, _, _, _, _, _, _] => (m - i).toNat | _ => 0)])] }
  | _ => { cut := [], loop := [] }
/-- The answers (behind a choice). -/
noncomputable def anH (l p : List (List CD)) : List (List CD) := hid (anR l (x0B p) l.length)
noncomputable def pre13 (k : Int) (p l : List (List CD)) : Prop := k = 1 ∧ pre129 p ∧ (prs (bytesOfRows p)).2.2 = 0 ∧ l.length ≤ 200 ∧ ∀ i, i < l.length → pre36 (cC l i 0) (cC l i 1) (cC l i 2) (cD l i) (itm p) (plS l (x0B p) i).1 (plS l (x0B p) i).2
noncomputable def ct13 : Ct := { ps := [.agg [i64, rb, .own 0]], bs := [.own 84 callE], pre := fun | [.i k, .r p, .r l] => pre13 k p l | _ => False, res := fun
  | [.i k, .r p, .r l] => .ret (.tup [.own 1, i64, i64]) [.own 84 callE, .own 86 ansE] [.i (-1), .i 0, .r l, .r (anH l p)]
  | _ => noRes }
noncomputable def ann13 : List Dat → Ann
  | [.i k, .r p, .r l] => { cut := [], loop := [(6, [la 39 [(5, .ptr 1 0), (8, .own 5), (25, .own 0), (26, i64), (27, i64)] [.own 84 callE, .cells 128 [.ptr 2 0, .arrI 32 .u8, .iface 133 (.agg [.ptr 3 0])], gA, .cells 298 [lanP, .own 4, i64, i64, i64], ob, .own 86 ansE] (fun
      | [.i n, .i i, .r l', .li tg, .r it, .i at', .i a, .i b, .i c, .r s, .r o] => n = l.length ∧ 0 ≤ i ∧ i ≤ n ∧ l' = l ∧ it = itm p ∧ (at', a, b, c, s) = plS l (x0B p) i.toNat ∧ o = anR l (x0B p) i.toNat
      | _ => False) (fun | [.i n, .i i, _, _, _, _, _, _, _, _, _] => (n - i).toNat | _ => 0)])] }
  | _ => { cut := [], loop := [] }
/-! Reading a story. -/
abbrev q90 : BPat := .cells 90 [rb]
def nuN (l : List (List CD)) : Nat → Int
  | 0 => 0
  | i + 1 => bOr .i64 (nuN l i) (bShl .i64 (IntKind.i64.wrap (rv l i)) (8 * (i : Int)))
def ct62 : Ct := { ps := [rb], bs := [], pre := fun | [.r l] => l.length ≤ 1000000 | _ => False, res := fun | [.r l] => .ret (.own 0) [ob] [.r l] | _ => noRes }
def ct34 : Ct := { ps := [.ptr 0 0, i64], bs := [q90], pre := fun | [.i n, .r l] => 0 ≤ n ∧ n ≤ l.length ∧ l.length ≤ 1000000 | _ => False, res := fun | [.i n, .r l] => .ret rb [q90] [.r (l.take n.toNat), .r (l.drop n.toNat)] | _ => noRes }
def ct33 : Ct := { ps := [.ptr 0 0, i64], bs := [q90], pre := fun | [.i w, .r l] => 0 ≤ w ∧ w ≤ 2 ∧ w ≤ l.length ∧ l.length ≤ 1000000 ∧ areB l | _ => False, res := fun | [.i w, .r l] => .ret i64 [q90] [.i (nuN (l.take w.toNat) w.toNat), .r (l.drop w.toNat)] | _ => noRes }
def ann33 : List Dat → Ann
  | [.i w, .r l] => { cut := [], loop := [(3, [la 26 [(5, i64), (10, rb), (11, i64), (12, i64)] [q90] (fun | [.i x, .r l', .i n, .i i, .r rest] => l' = l.take w.toNat ∧ n = w ∧ 0 ≤ i ∧ i ≤ n ∧ x = nuN (l.take w.toNat) i.toNat ∧ rest = l.drop w.toNat | _ => False) (fun | [_, _, .i n, .i i, _] => (n - i).toNat | _ => 0)])] }
  | _ => { cut := [], loop := [] }
end Go.Proofs.YteiecapbaeajdaaGreatDoor
namespace Go.Proofs.YteiecapbaeajdaaGreatDoor
open Go Go.Avc Go.Proofs
set_option linter.unusedVariables false
set_option maxRecDepth 100000
def P25a : Prop :=
 ∀ (l : List Int) (l_1 : List (List CD)) (n n_1 n_2 n_3 : Int) (l_2 : List (List CD)),
 l.length = (32 : Nat) → True → True ∧ (0 : Int) = (0 : Int) ∧ l = l ∧ l_1 = l_1 ∧ n = n ∧ n_1 = n_1 ∧ n_2 = n_2 ∧ n_3 = n_3 ∧ l_2 = l_2
theorem e25a : ct25a.VC (base.with sp21) Tryz.f25.results.toList Tryz.f25.ntmps (Tryz.f25.ntmps - ct25a.ps.length) (bodyOf Tryz.f25) noAnn = P25a := by kernel_rfl
def P25b : Prop :=
 ∀ (l : List Int) (l_1 : List (List CD)) (n n_1 n_2 n_3 : Int) (l_2 : List (List CD)) (n_4 : Int),
 l.length = (32 : Nat) → True → True ∧ n_4 = n_4 ∧ l = l ∧ l_1 = l_1 ∧ n = n ∧ n_1 = n_1 ∧ n_2 = n_2 ∧ n_3 = n_3 ∧ l_2 = l_2 ∧ n_4 = n_4
theorem e25b : ct25b.VC (base.with sp21) Tryz.f25.results.toList Tryz.f25.ntmps (Tryz.f25.ntmps - ct25b.ps.length) (bodyOf Tryz.f25) noAnn = P25b := by kernel_rfl
noncomputable def sp25 : SpecT := addS sp21 25 (altF ct25a (mkF ct25b))
def P92a : Prop :=
 ∀ (n n_1 n_2 : Int) (l : List (List CD)) (l_1 : List Int) (l_2 : List (List CD)) (n_3 n_4 n_5 n_6 : Int) (l_3 : List (List CD)),
 l.length ≤ (9223372036854775807 : Nat) →
 l_1.length = (32 : Nat) →
 pre137 l_2 n_3 →
 pre137 l_2 n_3 ∧
 bif hit l_2 n_3 n n_1 n_2 then
 bif hit l_2 n_3 n n_1 n_2 then
 (0 : Int) = (0 : Int) ∧ l_1 = l_1 ∧ l_2 = l_2 ∧ n_3 + (1 : Int) = n_3 + (1 : Int) ∧ n_4 = n_4 ∧ n_5 = n_5 ∧ n_6 = n_6 ∧ l_3 = l_3
 else
 Miss (2 : Nat)
 { n := (0 : Nat), ov := [], tm := [SV.int Go.IntKind.i64 (0 : Int)], hp := [Blk.cells (128 : Go.TypeId) [SV.ptr (1 : Nat) (0 : Nat), SV.arrI (32 : Nat) Go.IntKind.u8 l_1, SV.iface (133 : Go.TypeId) (SV.agg [SV.ptr (2 : Nat) (0 : Nat)])], Blk.cells (185 : Go.TypeId) [SV.rd [CSh.int Go.IntKind.i64, CSh.int Go.IntKind.i64, CSh.int Go.IntKind.i64, CSh.str] l_2, SV.int Go.IntKind.i64 (n_3 + (1 : Int)), SV.nilp], Blk.cells (298 : Go.TypeId) [SV.iface (253 : Go.TypeId) (SV.agg []), SV.own (3 : Nat), SV.int Go.IntKind.i64 n_4, SV.int Go.IntKind.i64 n_5, SV.int Go.IntKind.i64 n_6], Blk.own (5 : Go.TypeId) [CSh.int Go.IntKind.u8] l_3, Blk.cells (151 : Nat) [SV.int Go.IntKind.i64 n, SV.int Go.IntKind.i64 n_1, SV.int Go.IntKind.i64 n_2, SV.rd [CSh.int Go.IntKind.u8] l]], G := [] }
 else
 bif hit l_2 n_3 n n_1 n_2 then
 Miss (2 : Nat)
 { n := (0 : Nat), ov := [], tm := [SV.int Go.IntKind.i64 (10 : Int)], hp := [Blk.cells (128 : Go.TypeId) [SV.ptr (1 : Nat) (0 : Nat), SV.arrI (32 : Nat) Go.IntKind.u8 l_1, SV.iface (133 : Go.TypeId) (SV.agg [SV.ptr (2 : Nat) (0 : Nat)])], Blk.cells (185 : Go.TypeId) [SV.rd [CSh.int Go.IntKind.i64, CSh.int Go.IntKind.i64, CSh.int Go.IntKind.i64, CSh.str] l_2, SV.int Go.IntKind.i64 n_3, SV.ptr (5 : Nat) (0 : Nat)], Blk.cells (298 : Go.TypeId) [SV.iface (253 : Go.TypeId) (SV.agg []), SV.own (3 : Nat), SV.int Go.IntKind.i64 n_4, SV.int Go.IntKind.i64 n_5, SV.int Go.IntKind.i64 n_6], Blk.own (5 : Go.TypeId) [CSh.int Go.IntKind.u8] l_3, Blk.cells (151 : Nat) [SV.int Go.IntKind.i64 n, SV.int Go.IntKind.i64 n_1, SV.int Go.IntKind.i64 n_2, SV.rd [CSh.int Go.IntKind.u8] l], Blk.cells (204 : Go.TypeId) [SV.int Go.IntKind.i64 (10 : Int)]], G := [] }
 else (10 : Int) = (10 : Int) ∧ l_1 = l_1 ∧ l_2 = l_2 ∧ n_3 = n_3 ∧ n_4 = n_4 ∧ n_5 = n_5 ∧ n_6 = n_6 ∧ l_3 = l_3 ∧ (10 : Int) = (10 : Int)
theorem e92a : ct92a.VC (base.with sp25) Tryz.f92.results.toList Tryz.f92.ntmps (Tryz.f92.ntmps - ct92a.ps.length) (bodyOf Tryz.f92) noAnn = P92a := by kernel_rfl
def P92b : Prop :=
 ∀ (n n n : Int) (l : List (List CD)) (l_1 : List Int) (l_2 : List (List CD)) (n n_1 n_2 n_3 : Int) (l_3 : List (List CD)) (n_4 : Int),
 l.length ≤ (9223372036854775807 : Nat) →
 l_1.length = (32 : Nat) →
 pre137 l_2 n ∧ n_4 ≠ (0 : Int) →
 (pre137 l_2 n ∧ n_4 ≠ (0 : Int)) ∧ n_4 = n_4 ∧ l_1 = l_1 ∧ l_2 = l_2 ∧ n = n ∧ n_1 = n_1 ∧ n_2 = n_2 ∧ n_3 = n_3 ∧ l_3 = l_3 ∧ n_4 = n_4
theorem e92b : ct92b.VC (base.with sp25) Tryz.f92.results.toList Tryz.f92.ntmps (Tryz.f92.ntmps - ct92b.ps.length) (bodyOf Tryz.f92) noAnn = P92b := by kernel_rfl
noncomputable def sp92 : SpecT := addS sp25 92 (altF ct92a (mkF ct92b))
def P51 : Prop :=
 ∀ (n : Int) (l : List (List CD)) (l_1 : List Int) (l_2 : List (List CD)) (n_1 n_2 n_3 n_4 : Int) (l_3 : List (List CD)),
 l.length ≤ (9223372036854775807 : Nat) →
 l_1.length = (32 : Nat) →
 n = (1 : Int) ∧
 areB l ∧
 l.length ≤ (900 : Nat) ∧
 cntE l = (0 : Int) ∧
 pre137 l_2 n_1 ∧
 hit l_2 n_1 (1 : Int) (1 : Int) (↑l.length : Int) = true ∧
 spB (800000000 : Int) (n_2, n_3, n_4, l_3) →
 True ∧
 n = (1 : Int) ∧
 bif decide (cntE l ≠ (0 : Int)) then
 True ∧
 bif decide (cntE l = (0 : Int)) then
 (0 : Int) = (0 : Int) ∧
 l_1 = l_1 ∧
 l_2 = l_2 ∧
 n_1 = n_1 + (1 : Int) ∧
 n_2 = (opS (1 : Int) (1 : Int) (↑l.length : Int) l (n_2, n_3, n_4, l_3)).fst ∧
 n_3 = (opS (1 : Int) (1 : Int) (↑l.length : Int) l (n_2, n_3, n_4, l_3)).snd.fst ∧
 n_4 = (opS (1 : Int) (1 : Int) (↑l.length : Int) l (n_2, n_3, n_4, l_3)).snd.snd.fst ∧
 l_3 = (opS (1 : Int) (1 : Int) (↑l.length : Int) l (n_2, n_3, n_4, l_3)).snd.snd.snd
 else
 Miss (2 : Nat)
 { n := (0 : Nat), ov := [], tm := [SV.int Go.IntKind.i64 (cntE l)], hp := [Blk.cells (128 : Go.TypeId) [SV.ptr (1 : Nat) (0 : Nat), SV.arrI (32 : Nat) Go.IntKind.u8 l_1, SV.iface (133 : Go.TypeId) (SV.agg [SV.ptr (2 : Nat) (0 : Nat)])], Blk.cells (185 : Go.TypeId) [SV.rd [CSh.int Go.IntKind.i64, CSh.int Go.IntKind.i64, CSh.int Go.IntKind.i64, CSh.str] l_2, SV.int Go.IntKind.i64 n_1, SV.ptr (4 : Nat) (0 : Nat)], Blk.cells (298 : Go.TypeId) [SV.iface (253 : Go.TypeId) (SV.agg []), SV.own (3 : Nat), SV.int Go.IntKind.i64 n_2, SV.int Go.IntKind.i64 n_3, SV.int Go.IntKind.i64 n_4], Blk.own (5 : Go.TypeId) [CSh.int Go.IntKind.u8] l_3, Blk.cells (204 : Go.TypeId) [SV.int Go.IntKind.i64 (cntE l)]], G := [] }
 else
 pre137 l_2 n_1 ∧
 bif
 hit l_2 n_1 (1 : Int) n
 (if cntE l = (0 : Int) then (↑l.length : Int) else (0 : Int)) then
 n = (1 : Int) ∧
 bif decide (cntE l ≠ (0 : Int)) then
 True ∧
 bif decide (cntE l = (0 : Int)) then
 (0 : Int) = (0 : Int) ∧
 l_1 = l_1 ∧
 l_2 = l_2 ∧
 n_1 + (1 : Int) = n_1 + (1 : Int) ∧
 n_2 = (opS (1 : Int) (1 : Int) (↑l.length : Int) l (n_2, n_3, n_4, l_3)).fst ∧
 n_3 = (opS (1 : Int) (1 : Int) (↑l.length : Int) l (n_2, n_3, n_4, l_3)).snd.fst ∧
 n_4 = (opS (1 : Int) (1 : Int) (↑l.length : Int) l (n_2, n_3, n_4, l_3)).snd.snd.fst ∧
 l_3 = (opS (1 : Int) (1 : Int) (↑l.length : Int) l (n_2, n_3, n_4, l_3)).snd.snd.snd
 else
 Miss (2 : Nat)
 { n := (0 : Nat), ov := [], tm := [SV.int Go.IntKind.i64 (cntE l)], hp := [Blk.cells (128 : Go.TypeId) [SV.ptr (1 : Nat) (0 : Nat), SV.arrI (32 : Nat) Go.IntKind.u8 l_1, SV.iface (133 : Go.TypeId) (SV.agg [SV.ptr (2 : Nat) (0 : Nat)])], Blk.cells (185 : Go.TypeId) [SV.rd [CSh.int Go.IntKind.i64, CSh.int Go.IntKind.i64, CSh.int Go.IntKind.i64, CSh.str] l_2, SV.int Go.IntKind.i64 (n_1 + (1 : Int)), SV.ptr (5 : Nat) (0 : Nat)], Blk.cells (298 : Go.TypeId) [SV.iface (253 : Go.TypeId) (SV.agg []), SV.own (3 : Nat), SV.int Go.IntKind.i64 n_2, SV.int Go.IntKind.i64 n_3, SV.int Go.IntKind.i64 n_4], Blk.own (5 : Go.TypeId) [CSh.int Go.IntKind.u8] l_3, Blk.cells (151 : Nat) [SV.int Go.IntKind.i64 (1 : Int), SV.int Go.IntKind.i64 n, SV.int Go.IntKind.i64 (if cntE l = (0 : Int) then (↑l.length : Int) else (0 : Int)), SV.rd [CSh.int Go.IntKind.u8] l], Blk.cells (204 : Go.TypeId) [SV.int Go.IntKind.i64 (cntE l)]], G := [] }
 else
 (pre95 (1 : Int) n (if cntE l = (0 : Int) then (↑l.length : Int) else (0 : Int)) l ∧
 l.length ≤ (1000 : Nat) ∧ areB l ∧ spOk (n_2, n_3, n_4, l_3)) ∧
 (0 : Int) = (0 : Int) ∧
 l_1 = l_1 ∧
 l_2 = l_2 ∧
 n_1 + (1 : Int) = n_1 + (1 : Int) ∧
 (abN
 (toB (1 : Int) n
 (if cntE l = (0 : Int) then (↑l.length : Int) else (0 : Int)) l)
 (n_2, n_3, n_4, l_3)
 (toB (1 : Int) n
 (if cntE l = (0 : Int) then (↑l.length : Int) else (0 : Int)) l).length).fst =
 (opS (1 : Int) (1 : Int) (↑l.length : Int) l (n_2, n_3, n_4, l_3)).fst ∧
 (abN
 (toB (1 : Int) n
 (if cntE l = (0 : Int) then (↑l.length : Int) else (0 : Int)) l)
 (n_2, n_3, n_4, l_3)
 (toB (1 : Int) n
 (if cntE l = (0 : Int) then (↑l.length : Int) else (0 : Int)) l).length).snd.fst =
 (opS (1 : Int) (1 : Int) (↑l.length : Int) l (n_2, n_3, n_4, l_3)).snd.fst ∧
 (abN
 (toB (1 : Int) n
 (if cntE l = (0 : Int) then (↑l.length : Int) else (0 : Int)) l)
 (n_2, n_3, n_4, l_3)
 (toB (1 : Int) n
 (if cntE l = (0 : Int) then (↑l.length : Int) else (0 : Int)) l).length).snd.snd.fst =
 (opS (1 : Int) (1 : Int) (↑l.length : Int) l (n_2, n_3, n_4, l_3)).snd.snd.fst ∧
 (abN
 (toB (1 : Int) n
 (if cntE l = (0 : Int) then (↑l.length : Int) else (0 : Int)) l)
 (n_2, n_3, n_4, l_3)
 (toB (1 : Int) n
 (if cntE l = (0 : Int) then (↑l.length : Int) else (0 : Int)) l).length).snd.snd.snd =
 (opS (1 : Int) (1 : Int) (↑l.length : Int) l (n_2, n_3, n_4, l_3)).snd.snd.snd
 else
 Miss (2 : Nat)
 { n := (0 : Nat), ov := [], tm := [SV.int Go.IntKind.i64 (10 : Int)], hp := [Blk.cells (128 : Go.TypeId) [SV.ptr (1 : Nat) (0 : Nat), SV.arrI (32 : Nat) Go.IntKind.u8 l_1, SV.iface (133 : Go.TypeId) (SV.agg [SV.ptr (2 : Nat) (0 : Nat)])], Blk.cells (185 : Go.TypeId) [SV.rd [CSh.int Go.IntKind.i64, CSh.int Go.IntKind.i64, CSh.int Go.IntKind.i64, CSh.str] l_2, SV.int Go.IntKind.i64 n_1, SV.ptr (5 : Nat) (0 : Nat)], Blk.cells (298 : Go.TypeId) [SV.iface (253 : Go.TypeId) (SV.agg []), SV.own (3 : Nat), SV.int Go.IntKind.i64 n_2, SV.int Go.IntKind.i64 n_3, SV.int Go.IntKind.i64 n_4], Blk.own (5 : Go.TypeId) [CSh.int Go.IntKind.u8] l_3, Blk.cells (151 : Nat) [SV.int Go.IntKind.i64 (1 : Int), SV.int Go.IntKind.i64 n, SV.int Go.IntKind.i64 (if cntE l = (0 : Int) then (↑l.length : Int) else (0 : Int)), SV.rd [CSh.int Go.IntKind.u8] l], Blk.cells (204 : Go.TypeId) [SV.int Go.IntKind.i64 (10 : Int)]], G := [] }
theorem e51 : ct51.VC (base.with sp92) Tryz.f51.results.toList Tryz.f51.ntmps (Tryz.f51.ntmps - ct51.ps.length) (bodyOf Tryz.f51) noAnn = P51 := by kernel_rfl
noncomputable def sp51 : SpecT := addS sp92 51 (mkF ct51)
def P53 : Prop :=
 ∀ (n : Int) (l : List Int) (l_1 : List (List CD)) (n_1 n_2 n_3 n_4 : Int) (l_2 : List (List CD)),
 l.length = (32 : Nat) →
 n = (1 : Int) ∧
 pre137 l_1 n_1 ∧
 hit l_1 n_1 (2 : Int) (3 : Int) (1 : Int) = true ∧
 spB (800000000 : Int) (n_2, n_3, n_4, l_2) ∧
 (drX (n_2, n_3, n_4, l_2)).snd.snd.fst = (0 : Int) →
 pre137 l_1 n_1 ∧
 bif hit l_1 n_1 (2 : Int) (3 : Int) n then
 (pre95 (2 : Int) (3 : Int) n [] ∧
 (0 : Nat) ≤ (1000 : Nat) ∧ areB [] ∧ spOk (n_2, n_3, n_4, l_2)) ∧
 (n = (1 : Int) ∧
 spC
 ((abN (toB (2 : Int) (3 : Int) n []) (n_2, n_3, n_4, l_2)
 (toB (2 : Int) (3 : Int) n []).length).fst,
 (abN (toB (2 : Int) (3 : Int) n []) (n_2, n_3, n_4, l_2)
 (toB (2 : Int) (3 : Int) n []).length).snd.fst,
 (abN (toB (2 : Int) (3 : Int) n []) (n_2, n_3, n_4, l_2)
 (toB (2 : Int) (3 : Int) n []).length).snd.snd.fst,
 (abN (toB (2 : Int) (3 : Int) n []) (n_2, n_3, n_4, l_2)
 (toB (2 : Int) (3 : Int) n []).length).snd.snd.snd)) ∧
 bif
 decide
 ((fdX
 ((abN (toB (2 : Int) (3 : Int) n []) (n_2, n_3, n_4, l_2)
 (toB (2 : Int) (3 : Int) n []).length).fst,
 (abN (toB (2 : Int) (3 : Int) n []) (n_2, n_3, n_4, l_2)
 (toB (2 : Int) (3 : Int) n []).length).snd.fst,
 (abN (toB (2 : Int) (3 : Int) n []) (n_2, n_3, n_4, l_2)
 (toB (2 : Int) (3 : Int) n []).length).snd.snd.fst,
 (abN (toB (2 : Int) (3 : Int) n []) (n_2, n_3, n_4, l_2)
 (toB (2 : Int) (3 : Int) n []).length).snd.snd.snd)).snd.snd.fst =
 (0 : Int)) then
 (0 : Int) = (0 : Int) ∧
 l = l ∧
 l_1 = l_1 ∧
 n_1 + (1 : Int) = n_1 + (1 : Int) ∧
 (fdX
 ((abN (toB (2 : Int) (3 : Int) n []) (n_2, n_3, n_4, l_2)
 (toB (2 : Int) (3 : Int) n []).length).fst,
 (abN (toB (2 : Int) (3 : Int) n []) (n_2, n_3, n_4, l_2)
 (toB (2 : Int) (3 : Int) n []).length).snd.fst,
 (abN (toB (2 : Int) (3 : Int) n []) (n_2, n_3, n_4, l_2)
 (toB (2 : Int) (3 : Int) n []).length).snd.snd.fst,
 (abN (toB (2 : Int) (3 : Int) n []) (n_2, n_3, n_4, l_2)
 (toB (2 : Int) (3 : Int) n []).length).snd.snd.snd)).snd.snd.snd.fst =
 (drX (n_2, n_3, n_4, l_2)).snd.snd.snd.fst ∧
 (fdX
 ((abN (toB (2 : Int) (3 : Int) n []) (n_2, n_3, n_4, l_2)
 (toB (2 : Int) (3 : Int) n []).length).fst,
 (abN (toB (2 : Int) (3 : Int) n []) (n_2, n_3, n_4, l_2)
 (toB (2 : Int) (3 : Int) n []).length).snd.fst,
 (abN (toB (2 : Int) (3 : Int) n []) (n_2, n_3, n_4, l_2)
 (toB (2 : Int) (3 : Int) n []).length).snd.snd.fst,
 (abN (toB (2 : Int) (3 : Int) n []) (n_2, n_3, n_4, l_2)
 (toB (2 : Int) (3 : Int) n []).length).snd.snd.snd)).snd.snd.snd.snd.fst =
 (drX (n_2, n_3, n_4, l_2)).snd.snd.snd.snd.fst ∧
 (fdX
 ((abN (toB (2 : Int) (3 : Int) n []) (n_2, n_3, n_4, l_2)
 (toB (2 : Int) (3 : Int) n []).length).fst,
 (abN (toB (2 : Int) (3 : Int) n []) (n_2, n_3, n_4, l_2)
 (toB (2 : Int) (3 : Int) n []).length).snd.fst,
 (abN (toB (2 : Int) (3 : Int) n []) (n_2, n_3, n_4, l_2)
 (toB (2 : Int) (3 : Int) n []).length).snd.snd.fst,
 (abN (toB (2 : Int) (3 : Int) n []) (n_2, n_3, n_4, l_2)
 (toB (2 : Int) (3 : Int) n []).length).snd.snd.snd)).snd.snd.snd.snd.snd.fst =
 (drX (n_2, n_3, n_4, l_2)).snd.snd.snd.snd.snd.fst ∧
 (fdX
 ((abN (toB (2 : Int) (3 : Int) n []) (n_2, n_3, n_4, l_2)
 (toB (2 : Int) (3 : Int) n []).length).fst,
 (abN (toB (2 : Int) (3 : Int) n []) (n_2, n_3, n_4, l_2)
 (toB (2 : Int) (3 : Int) n []).length).snd.fst,
 (abN (toB (2 : Int) (3 : Int) n []) (n_2, n_3, n_4, l_2)
 (toB (2 : Int) (3 : Int) n []).length).snd.snd.fst,
 (abN (toB (2 : Int) (3 : Int) n []) (n_2, n_3, n_4, l_2)
 (toB (2 : Int) (3 : Int) n []).length).snd.snd.snd)).snd.snd.snd.snd.snd.snd =
 (drX (n_2, n_3, n_4, l_2)).snd.snd.snd.snd.snd.snd ∧
 [rowE
 (fdX
 ((abN (toB (2 : Int) (3 : Int) n []) (n_2, n_3, n_4, l_2)
 (toB (2 : Int) (3 : Int) n []).length).fst,
 (abN (toB (2 : Int) (3 : Int) n []) (n_2, n_3, n_4, l_2)
 (toB (2 : Int) (3 : Int) n []).length).snd.fst,
 (abN (toB (2 : Int) (3 : Int) n []) (n_2, n_3, n_4, l_2)
 (toB (2 : Int) (3 : Int) n []).length).snd.snd.fst,
 (abN (toB (2 : Int) (3 : Int) n []) (n_2, n_3, n_4, l_2)
 (toB (2 : Int) (3 : Int) n []).length).snd.snd.snd)).fst] =
 [rowE (drX (n_2, n_3, n_4, l_2)).fst]
 else
 bif
 decide
 ((fdX
 ((abN (toB (2 : Int) (3 : Int) n []) (n_2, n_3, n_4, l_2)
 (toB (2 : Int) (3 : Int) n []).length).fst,
 (abN (toB (2 : Int) (3 : Int) n []) (n_2, n_3, n_4, l_2)
 (toB (2 : Int) (3 : Int) n []).length).snd.fst,
 (abN (toB (2 : Int) (3 : Int) n []) (n_2, n_3, n_4, l_2)
 (toB (2 : Int) (3 : Int) n []).length).snd.snd.fst,
 (abN (toB (2 : Int) (3 : Int) n []) (n_2, n_3, n_4, l_2)
 (toB (2 : Int) (3 : Int) n []).length).snd.snd.snd)).snd.snd.fst ≠
 (0 : Int)) then
 True ∧
 bif
 decide
 ((fdX
 ((abN (toB (2 : Int) (3 : Int) n []) (n_2, n_3, n_4, l_2)
 (toB (2 : Int) (3 : Int) n []).length).fst,
 (abN (toB (2 : Int) (3 : Int) n []) (n_2, n_3, n_4, l_2)
 (toB (2 : Int) (3 : Int) n []).length).snd.fst,
 (abN (toB (2 : Int) (3 : Int) n []) (n_2, n_3, n_4, l_2)
 (toB (2 : Int) (3 : Int) n []).length).snd.snd.fst,
 (abN (toB (2 : Int) (3 : Int) n []) (n_2, n_3, n_4, l_2)
 (toB (2 : Int) (3 : Int) n []).length).snd.snd.snd)).snd.snd.fst =
 (0 : Int)) then
 (0 : Int) = (0 : Int) ∧
 l = l ∧
 l_1 = l_1 ∧
 n_1 + (1 : Int) = n_1 + (1 : Int) ∧
 (fdX
 ((abN (toB (2 : Int) (3 : Int) n []) (n_2, n_3, n_4, l_2)
 (toB (2 : Int) (3 : Int) n []).length).fst,
 (abN (toB (2 : Int) (3 : Int) n []) (n_2, n_3, n_4, l_2)
 (toB (2 : Int) (3 : Int) n []).length).snd.fst,
 (abN (toB (2 : Int) (3 : Int) n []) (n_2, n_3, n_4, l_2)
 (toB (2 : Int) (3 : Int) n []).length).snd.snd.fst,
 (abN (toB (2 : Int) (3 : Int) n []) (n_2, n_3, n_4, l_2)
 (toB (2 : Int) (3 : Int) n []).length).snd.snd.snd)).snd.snd.snd.fst =
 (drX (n_2, n_3, n_4, l_2)).snd.snd.snd.fst ∧
 (fdX
 ((abN (toB (2 : Int) (3 : Int) n []) (n_2, n_3, n_4, l_2)
 (toB (2 : Int) (3 : Int) n []).length).fst,
 (abN (toB (2 : Int) (3 : Int) n []) (n_2, n_3, n_4, l_2)
 (toB (2 : Int) (3 : Int) n []).length).snd.fst,
 (abN (toB (2 : Int) (3 : Int) n []) (n_2, n_3, n_4, l_2)
 (toB (2 : Int) (3 : Int) n []).length).snd.snd.fst,
 (abN (toB (2 : Int) (3 : Int) n []) (n_2, n_3, n_4, l_2)
 (toB (2 : Int) (3 : Int) n []).length).snd.snd.snd)).snd.snd.snd.snd.fst =
 (drX (n_2, n_3, n_4, l_2)).snd.snd.snd.snd.fst ∧
 (fdX
 ((abN (toB (2 : Int) (3 : Int) n [])
 (n_2, n_3, n_4, l_2) (toB (2 : Int) (3 : Int) n []).length).fst,
 (abN (toB (2 : Int) (3 : Int) n [])
 (n_2, n_3, n_4, l_2) (toB (2 : Int) (3 : Int) n []).length).snd.fst,
 (abN (toB (2 : Int) (3 : Int) n [])
 (n_2, n_3, n_4, l_2) (toB (2 : Int) (3 : Int) n []).length).snd.snd.fst,
 (abN (toB (2 : Int) (3 : Int) n [])
 (n_2, n_3, n_4, l_2)
 (toB (2 : Int) (3 : Int) n []).length).snd.snd.snd)).snd.snd.snd.snd.snd.fst =
 (drX (n_2, n_3, n_4, l_2)).snd.snd.snd.snd.snd.fst ∧
 (fdX
 ((abN (toB (2 : Int) (3 : Int) n [])
 (n_2, n_3, n_4, l_2) (toB (2 : Int) (3 : Int) n []).length).fst,
 (abN (toB (2 : Int) (3 : Int) n [])
 (n_2, n_3, n_4, l_2) (toB (2 : Int) (3 : Int) n []).length).snd.fst,
 (abN (toB (2 : Int) (3 : Int) n [])
 (n_2, n_3, n_4, l_2) (toB (2 : Int) (3 : Int) n []).length).snd.snd.fst,
 (abN (toB (2 : Int) (3 : Int) n [])
 (n_2, n_3, n_4, l_2)
 (toB (2 : Int) (3 : Int) n []).length).snd.snd.snd)).snd.snd.snd.snd.snd.snd =
 (drX (n_2, n_3, n_4, l_2)).snd.snd.snd.snd.snd.snd ∧
 [] = [rowE (drX (n_2, n_3, n_4, l_2)).fst]
 else
 Miss (2 : Nat)
 { n := (0 : Nat), ov := [], tm := [SV.tup [SV.nils, SV.int Go.IntKind.i64 (fdX ((abN (toB (2 : Int) (3 : Int) n []) (n_2, n_3, n_4, l_2) (toB (2 : Int) (3 : Int) n []).length).fst, (abN (toB (2 : Int) (3 : Int) n []) (n_2, n_3, n_4, l_2) (toB (2 : Int) (3 : Int) n []).length).snd.fst, (abN (toB (2 : Int) (3 : Int) n []) (n_2, n_3, n_4, l_2) (toB (2 : Int) (3 : Int) n []).length).snd.snd.fst, (abN (toB (2 : Int) (3 : Int) n []) (n_2, n_3, n_4, l_2) (toB (2 : Int) (3 : Int) n []).length).snd.snd.snd)).snd.snd.fst]], hp := [Blk.cells (128 : Go.TypeId) [SV.ptr (1 : Nat) (0 : Nat), SV.arrI (32 : Nat) Go.IntKind.u8 l, SV.iface (133 : Go.TypeId) (SV.agg [SV.ptr (2 : Nat) (0 : Nat)])], Blk.cells (185 : Go.TypeId) [SV.rd [CSh.int Go.IntKind.i64, CSh.int Go.IntKind.i64, CSh.int Go.IntKind.i64, CSh.str] l_1, SV.int Go.IntKind.i64 (n_1 + (1 : Int)), SV.ptr (5 : Nat) (0 : Nat)], Blk.cells (298 : Go.TypeId) [SV.iface (253 : Go.TypeId) (SV.agg []), SV.own (3 : Nat), SV.int Go.IntKind.i64 (fdX ((abN (toB (2 : Int) (3 : Int) n []) (n_2, n_3, n_4, l_2) (toB (2 : Int) (3 : Int) n []).length).fst, (abN (toB (2 : Int) (3 : Int) n []) (n_2, n_3, n_4, l_2) (toB (2 : Int) (3 : Int) n []).length).snd.fst, (abN (toB (2 : Int) (3 : Int) n []) (n_2, n_3, n_4, l_2) (toB (2 : Int) (3 : Int) n []).length).snd.snd.fst, (abN (toB (2 : Int) (3 : Int) n []) (n_2, n_3, n_4, l_2) (toB (2 : Int) (3 : Int) n []).length).snd.snd.snd)).snd.snd.snd.fst, SV.int Go.IntKind.i64 (fdX ((abN (toB (2 : Int) (3 : Int) n []) (n_2, n_3, n_4, l_2) (toB (2 : Int) (3 : Int) n []).length).fst, (abN (toB (2 : Int) (3 : Int) n []) (n_2, n_3, n_4, l_2) (toB (2 : Int) (3 : Int) n []).length).snd.fst, (abN (toB (2 : Int) (3 : Int) n []) (n_2, n_3, n_4, l_2) (toB (2 : Int) (3 : Int) n []).length).snd.snd.fst, (abN (toB (2 : Int) (3 : Int) n []) (n_2, n_3, n_4, l_2) (toB (2 : Int) (3 : Int) n []).length).snd.snd.snd)).snd.snd.snd.snd.fst, SV.int Go.IntKind.i64 (fdX ((abN (toB (2 : Int) (3 : Int) n []) (n_2, n_3, n_4, l_2) (toB (2 : Int) (3 : Int) n []).length).fst, (abN (toB (2 : Int) (3 : Int) n []) (n_2, n_3, n_4, l_2) (toB (2 : Int) (3 : Int) n []).length).snd.fst, (abN (toB (2 : Int) (3 : Int) n []) (n_2, n_3, n_4, l_2) (toB (2 : Int) (3 : Int) n []).length).snd.snd.fst, (abN (toB (2 : Int) (3 : Int) n []) (n_2, n_3, n_4, l_2) (toB (2 : Int) (3 : Int) n []).length).snd.snd.snd)).snd.snd.snd.snd.snd.fst], Blk.own (5 : Go.TypeId) [CSh.int Go.IntKind.u8] (fdX ((abN (toB (2 : Int) (3 : Int) n []) (n_2, n_3, n_4, l_2) (toB (2 : Int) (3 : Int) n []).length).fst, (abN (toB (2 : Int) (3 : Int) n []) (n_2, n_3, n_4, l_2) (toB (2 : Int) (3 : Int) n []).length).snd.fst, (abN (toB (2 : Int) (3 : Int) n []) (n_2, n_3, n_4, l_2) (toB (2 : Int) (3 : Int) n []).length).snd.snd.fst, (abN (toB (2 : Int) (3 : Int) n []) (n_2, n_3, n_4, l_2) (toB (2 : Int) (3 : Int) n []).length).snd.snd.snd)).snd.snd.snd.snd.snd.snd, Blk.cells (151 : Nat) [SV.int Go.IntKind.i64 (2 : Int), SV.int Go.IntKind.i64 (3 : Int), SV.int Go.IntKind.i64 n, SV.nils], Blk.cells (204 : Go.TypeId) [SV.int Go.IntKind.i64 (fdX ((abN (toB (2 : Int) (3 : Int) n []) (n_2, n_3, n_4, l_2) (toB (2 : Int) (3 : Int) n []).length).fst, (abN (toB (2 : Int) (3 : Int) n []) (n_2, n_3, n_4, l_2) (toB (2 : Int) (3 : Int) n []).length).snd.fst, (abN (toB (2 : Int) (3 : Int) n []) (n_2, n_3, n_4, l_2) (toB (2 : Int) (3 : Int) n []).length).snd.snd.fst, (abN (toB (2 : Int) (3 : Int) n []) (n_2, n_3, n_4, l_2) (toB (2 : Int) (3 : Int) n []).length).snd.snd.snd)).snd.snd.fst]], G := [] }
 else
 (0 : Int) = (0 : Int) ∧
 l = l ∧
 l_1 = l_1 ∧
 n_1 + (1 : Int) = n_1 + (1 : Int) ∧
 (fdX
 ((abN (toB (2 : Int) (3 : Int) n []) (n_2, n_3, n_4, l_2)
 (toB (2 : Int) (3 : Int) n []).length).fst,
 (abN (toB (2 : Int) (3 : Int) n []) (n_2, n_3, n_4, l_2)
 (toB (2 : Int) (3 : Int) n []).length).snd.fst,
 (abN (toB (2 : Int) (3 : Int) n []) (n_2, n_3, n_4, l_2)
 (toB (2 : Int) (3 : Int) n []).length).snd.snd.fst,
 (abN (toB (2 : Int) (3 : Int) n []) (n_2, n_3, n_4, l_2)
 (toB (2 : Int) (3 : Int) n []).length).snd.snd.snd)).snd.snd.snd.fst =
 (drX (n_2, n_3, n_4, l_2)).snd.snd.snd.fst ∧
 (fdX
 ((abN (toB (2 : Int) (3 : Int) n []) (n_2, n_3, n_4, l_2)
 (toB (2 : Int) (3 : Int) n []).length).fst,
 (abN (toB (2 : Int) (3 : Int) n []) (n_2, n_3, n_4, l_2)
 (toB (2 : Int) (3 : Int) n []).length).snd.fst,
 (abN (toB (2 : Int) (3 : Int) n []) (n_2, n_3, n_4, l_2)
 (toB (2 : Int) (3 : Int) n []).length).snd.snd.fst,
 (abN (toB (2 : Int) (3 : Int) n []) (n_2, n_3, n_4, l_2)
 (toB (2 : Int) (3 : Int) n []).length).snd.snd.snd)).snd.snd.snd.snd.fst =
 (drX (n_2, n_3, n_4, l_2)).snd.snd.snd.snd.fst ∧
 (fdX
 ((abN (toB (2 : Int) (3 : Int) n []) (n_2, n_3, n_4, l_2)
 (toB (2 : Int) (3 : Int) n []).length).fst,
 (abN (toB (2 : Int) (3 : Int) n []) (n_2, n_3, n_4, l_2)
 (toB (2 : Int) (3 : Int) n []).length).snd.fst,
 (abN (toB (2 : Int) (3 : Int) n []) (n_2, n_3, n_4, l_2)
 (toB (2 : Int) (3 : Int) n []).length).snd.snd.fst,
 (abN (toB (2 : Int) (3 : Int) n []) (n_2, n_3, n_4, l_2)
 (toB (2 : Int) (3 : Int) n []).length).snd.snd.snd)).snd.snd.snd.snd.snd.fst =
 (drX (n_2, n_3, n_4, l_2)).snd.snd.snd.snd.snd.fst ∧
 (fdX
 ((abN (toB (2 : Int) (3 : Int) n []) (n_2, n_3, n_4, l_2)
 (toB (2 : Int) (3 : Int) n []).length).fst,
 (abN (toB (2 : Int) (3 : Int) n []) (n_2, n_3, n_4, l_2)
 (toB (2 : Int) (3 : Int) n []).length).snd.fst,
 (abN (toB (2 : Int) (3 : Int) n []) (n_2, n_3, n_4, l_2)
 (toB (2 : Int) (3 : Int) n []).length).snd.snd.fst,
 (abN (toB (2 : Int) (3 : Int) n []) (n_2, n_3, n_4, l_2)
 (toB (2 : Int) (3 : Int) n []).length).snd.snd.snd)).snd.snd.snd.snd.snd.snd =
 (drX (n_2, n_3, n_4, l_2)).snd.snd.snd.snd.snd.snd ∧
 [] = [rowE (drX (n_2, n_3, n_4, l_2)).fst]
 else
 Miss (2 : Nat)
 { n := (0 : Nat), ov := [], tm := [SV.tup [SV.nils, SV.int Go.IntKind.i64 (10 : Int)]], hp := [Blk.cells (128 : Go.TypeId) [SV.ptr (1 : Nat) (0 : Nat), SV.arrI (32 : Nat) Go.IntKind.u8 l, SV.iface (133 : Go.TypeId) (SV.agg [SV.ptr (2 : Nat) (0 : Nat)])], Blk.cells (185 : Go.TypeId) [SV.rd [CSh.int Go.IntKind.i64, CSh.int Go.IntKind.i64, CSh.int Go.IntKind.i64, CSh.str] l_1, SV.int Go.IntKind.i64 n_1, SV.ptr (5 : Nat) (0 : Nat)], Blk.cells (298 : Go.TypeId) [SV.iface (253 : Go.TypeId) (SV.agg []), SV.own (3 : Nat), SV.int Go.IntKind.i64 n_2, SV.int Go.IntKind.i64 n_3, SV.int Go.IntKind.i64 n_4], Blk.own (5 : Go.TypeId) [CSh.int Go.IntKind.u8] l_2, Blk.cells (151 : Nat) [SV.int Go.IntKind.i64 (2 : Int), SV.int Go.IntKind.i64 (3 : Int), SV.int Go.IntKind.i64 n, SV.nils], Blk.cells (204 : Go.TypeId) [SV.int Go.IntKind.i64 (10 : Int)]], G := [] }
theorem e53 : ct53.VC (base.with sp51) Tryz.f53.results.toList Tryz.f53.ntmps (Tryz.f53.ntmps - ct53.ps.length) (bodyOf Tryz.f53) noAnn = P53 := by kernel_rfl
noncomputable def sp53 : SpecT := addS sp51 53 (mkF ct53)
def P27a : Prop :=
 ∀ (l : List Int) (l_1 : List (List CD)) (n n_1 n_2 n_3 : Int) (l_2 : List (List CD)),
 l.length = (32 : Nat) →
 True →
 True ∧
 bif decide (n = (↑l_1.length : Int)) then
 bif decide (n = (↑l_1.length : Int)) then (0 : Int) = (0 : Int) ∧ l = l ∧ l_1 = l_1 ∧ n = n ∧ n_1 = n_1 ∧ n_2 = n_2 ∧ n_3 = n_3 ∧ l_2 = l_2
 else
 Miss (2 : Nat)
 { n := (0 : Nat), ov := [], tm := [SV.int Go.IntKind.i64 (0 : Int)], hp := [Blk.cells (128 : Go.TypeId) [SV.ptr (1 : Nat) (0 : Nat), SV.arrI (32 : Nat) Go.IntKind.u8 l, SV.iface (133 : Go.TypeId) (SV.agg [SV.ptr (2 : Nat) (0 : Nat)])], Blk.cells (185 : Go.TypeId) [SV.rd [CSh.int Go.IntKind.i64, CSh.int Go.IntKind.i64, CSh.int Go.IntKind.i64, CSh.str] l_1, SV.int Go.IntKind.i64 n, SV.nilp], Blk.cells (298 : Go.TypeId) [SV.iface (253 : Go.TypeId) (SV.agg []), SV.own (3 : Nat), SV.int Go.IntKind.i64 n_1, SV.int Go.IntKind.i64 n_2, SV.int Go.IntKind.i64 n_3], Blk.own (5 : Go.TypeId) [CSh.int Go.IntKind.u8] l_2], G := [] }
 else
 bif decide (n = (↑l_1.length : Int)) then
 Miss (2 : Nat)
 { n := (0 : Nat), ov := [], tm := [SV.int Go.IntKind.i64 (12 : Int)], hp := [Blk.cells (128 : Go.TypeId) [SV.ptr (1 : Nat) (0 : Nat), SV.arrI (32 : Nat) Go.IntKind.u8 l, SV.iface (133 : Go.TypeId) (SV.agg [SV.ptr (2 : Nat) (0 : Nat)])], Blk.cells (185 : Go.TypeId) [SV.rd [CSh.int Go.IntKind.i64, CSh.int Go.IntKind.i64, CSh.int Go.IntKind.i64, CSh.str] l_1, SV.int Go.IntKind.i64 n, SV.ptr (4 : Nat) (0 : Nat)], Blk.cells (298 : Go.TypeId) [SV.iface (253 : Go.TypeId) (SV.agg []), SV.own (3 : Nat), SV.int Go.IntKind.i64 n_1, SV.int Go.IntKind.i64 n_2, SV.int Go.IntKind.i64 n_3], Blk.own (5 : Go.TypeId) [CSh.int Go.IntKind.u8] l_2, Blk.cells (204 : Go.TypeId) [SV.int Go.IntKind.i64 (12 : Int)]], G := [] }
 else (12 : Int) = (12 : Int) ∧ l = l ∧ l_1 = l_1 ∧ n = n ∧ n_1 = n_1 ∧ n_2 = n_2 ∧ n_3 = n_3 ∧ l_2 = l_2 ∧ (12 : Int) = (12 : Int)
theorem e27a : ct27a.VC (base.with sp53) Tryz.f27.results.toList Tryz.f27.ntmps (Tryz.f27.ntmps - ct27a.ps.length) (bodyOf Tryz.f27) noAnn = P27a := by kernel_rfl
def P27b : Prop :=
 ∀ (l : List Int) (l_1 : List (List CD)) (n n_1 n_2 n_3 : Int) (l_2 : List (List CD)) (n_4 : Int),
 l.length = (32 : Nat) → True → True ∧ n_4 = n_4 ∧ l = l ∧ l_1 = l_1 ∧ n = n ∧ n_1 = n_1 ∧ n_2 = n_2 ∧ n_3 = n_3 ∧ l_2 = l_2 ∧ n_4 = n_4
theorem e27b : ct27b.VC (base.with sp53) Tryz.f27.results.toList Tryz.f27.ntmps (Tryz.f27.ntmps - ct27b.ps.length) (bodyOf Tryz.f27) noAnn = P27b := by kernel_rfl
noncomputable def sp27 : SpecT := addS sp53 27 (altF ct27a (mkF ct27b))
def P36 : Prop :=
 ∀ (n n_1 n_2 : Int) (l : List (List CD)) (l_1 : List Int) (l_2 : List (List CD)) (n_3 n_4 n_5 n_6 : Int) (l_3 : List (List CD)),
 l.length ≤ (9223372036854775807 : Nat) →
 l_1.length = (32 : Nat) →
 pre36 n n_1 n_2 l l_2 n_3 (n_4, n_5, n_6, l_3) →
 bif decide (n = (0 : Int)) then
 (n_1 = (1 : Int) ∧
 areB l ∧
 l.length ≤ (900 : Nat) ∧
 cntE l = (0 : Int) ∧
 pre137 l_2 n_3 ∧
 hit l_2 n_3 (1 : Int) (1 : Int) (↑l.length : Int) = true ∧
 spB (800000000 : Int) (n_4, n_5, n_6, l_3)) ∧
 (0 : Int) = (0 : Int) ∧
 [] = drw n (n_4, n_5, n_6, l_3) ∧
 l_1 = l_1 ∧
 l_2 = l_2 ∧
 n_3 + (1 : Int) = (nxt n l n_3 (n_4, n_5, n_6, l_3)).fst ∧
 (opS (1 : Int) (1 : Int) (↑l.length : Int) l (n_4, n_5, n_6, l_3)).fst =
 (nxt n l n_3 (n_4, n_5, n_6, l_3)).snd.fst ∧
 (opS (1 : Int) (1 : Int) (↑l.length : Int) l (n_4, n_5, n_6, l_3)).snd.fst =
 (nxt n l n_3 (n_4, n_5, n_6, l_3)).snd.snd.fst ∧
 (opS (1 : Int) (1 : Int) (↑l.length : Int) l (n_4, n_5, n_6, l_3)).snd.snd.fst =
 (nxt n l n_3 (n_4, n_5, n_6, l_3)).snd.snd.snd.fst ∧
 (opS (1 : Int) (1 : Int) (↑l.length : Int) l (n_4, n_5, n_6, l_3)).snd.snd.snd =
 (nxt n l n_3 (n_4, n_5, n_6, l_3)).snd.snd.snd.snd
 else
 bif decide (n = (1 : Int)) then False
 else
 bif decide (n = (2 : Int)) then
 (n_2 = (1 : Int) ∧
 pre137 l_2 n_3 ∧
 hit l_2 n_3 (2 : Int) (3 : Int) (1 : Int) = true ∧
 spB (800000000 : Int) (n_4, n_5, n_6, l_3) ∧
 (drX (n_4, n_5, n_6, l_3)).snd.snd.fst = (0 : Int)) ∧
 ((1 : Nat) ≤ (9223372036854775807 : Nat) →
 (([rowE (drX (n_4, n_5, n_6, l_3)).fst] =
 [rowE (drX (n_4, n_5, n_6, l_3)).fst] ∧
 (↑(1 : Nat) : Int) = (1 : Int) ∧
 (0 : Int) = (0 : Int) ∧
 l_1 = l_1 ∧
 l_2 = l_2 ∧
 n_3 + (1 : Int) = n_3 + (1 : Int) ∧
 ((drX (n_4, n_5, n_6, l_3)).snd.snd.snd.fst,
 (drX (n_4, n_5, n_6, l_3)).snd.snd.snd.snd.fst,
 (drX (n_4, n_5, n_6, l_3)).snd.snd.snd.snd.snd.fst,
 (drX (n_4, n_5, n_6, l_3)).snd.snd.snd.snd.snd.snd) =
 (drX (n_4, n_5, n_6, l_3)).snd.snd.snd ∧
 ((0 : Int) = (0 : Int) ∧ ([] : List (List CD)) = [] ∨
 (0 : Int) = (1 : Int) ∧
 [] =
 List.map row1
 (elB (drX (n_4, n_5, n_6, l_3)).fst))) ∧
 True) ∧
 ∀ (l_4 : List (List CD)) (n_7 n_8 : Int) (l_5 : List Int) (l_6 : List (List CD)) (n_9 n_10 n_11 n_12 : Int) (l_7 : List (List CD))
 (n_13 n_14 : Int) (l_8 : List (List CD)),
 l_4.length ≤ (9223372036854775807 : Nat) →
 l_4 = [rowE (drX (n_4, n_5, n_6, l_3)).fst] ∧
 n_7 = (1 : Int) ∧
 n_14 = (0 : Int) ∧
 l_5 = l_1 ∧
 l_6 = l_2 ∧
 n_9 = n_3 + (1 : Int) ∧
 (n_10, n_11, n_12, l_7) = (drX (n_4, n_5, n_6, l_3)).snd.snd.snd ∧
 (n_8 = (0 : Int) ∧ l_8 = [] ∨
 n_8 = (1 : Int) ∧
 l_8 =
 List.map row1
 (elB (drX (n_4, n_5, n_6, l_3)).fst)) →
 bif decide (n_8 < n_7) then
 ((0 : Int) ≤ n_8 ∧ n_8 < (↑l_4.length : Int)) ∧
 n_8.toNat < l_4.length ∧
 areW
 [((l_4.getD n_8.toNat []).getD (0 : Nat) (CD.int (0 : Int))).toInt,
 ((l_4.getD n_8.toNat []).getD (1 : Nat) (CD.int (0 : Int))).toInt,
 ((l_4.getD n_8.toNat []).getD (2 : Nat) (CD.int (0 : Int))).toInt,
 ((l_4.getD n_8.toNat []).getD (3 : Nat) (CD.int (0 : Int))).toInt] ∧
 ((0 : Int) ≤ (0 : Int) ∧ (0 : Int) ≤ (↑(32 : Nat) : Int) ∧ (↑(32 : Nat) : Int) ≤ (↑(32 : Nat) : Int) ∧ (0 : Int) < (↑(32 : Nat) : Int)) ∧
 ((l_8.length + (32 : Nat)) * (1 : Nat) ≤ (140737488355328 : Nat) ∧ l_8.length + (32 : Nat) ≤ (9223372036854775807 : Nat)) ∧
 ((-9223372036854775808 : Int) ≤ n_8 + (1 : Int) ∧ n_8 + (1 : Int) ≤ (9223372036854775807 : Int)) ∧
 (l_4 = [rowE (drX (n_4, n_5, n_6, l_3)).fst] ∧
 n_7 = (1 : Int) ∧
 n_14 = (0 : Int) ∧
 l_5 = l_1 ∧
 l_6 = l_2 ∧
 n_9 = n_3 + (1 : Int) ∧
 (n_10, n_11, n_12, l_7) = (drX (n_4, n_5, n_6, l_3)).snd.snd.snd ∧
 (n_8 + (1 : Int) = (0 : Int) ∧
 l_8 ++
 List.map (fun x => [CD.int x])
 (List.take (32 : Nat)
 (List.drop (0 : Nat)
 (elB
 [((l_4.getD n_8.toNat []).getD (0 : Nat) (CD.int (0 : Int))).toInt,
 ((l_4.getD n_8.toNat []).getD (1 : Nat) (CD.int (0 : Int))).toInt,
 ((l_4.getD n_8.toNat []).getD (2 : Nat) (CD.int (0 : Int))).toInt,
 ((l_4.getD n_8.toNat []).getD (3 : Nat) (CD.int (0 : Int))).toInt]))) =
 [] ∨
 n_8 + (1 : Int) = (1 : Int) ∧
 l_8 ++
 List.map (fun x => [CD.int x])
 (List.take (32 : Nat)
 (List.drop (0 : Nat)
 (elB
 [((l_4.getD n_8.toNat []).getD (0 : Nat) (CD.int (0 : Int))).toInt,
 ((l_4.getD n_8.toNat []).getD (1 : Nat) (CD.int (0 : Int))).toInt,
 ((l_4.getD n_8.toNat []).getD (2 : Nat) (CD.int (0 : Int))).toInt,
 ((l_4.getD n_8.toNat []).getD (3 : Nat) (CD.int (0 : Int))).toInt]))) =
 List.map row1
 (elB (drX (n_4, n_5, n_6, l_3)).fst))) ∧
 (n_7 - (n_8 + (1 : Int))).toNat < (n_7 - n_8).toNat
 else
 n_14 = (0 : Int) ∧
 l_8 = drw n (n_4, n_5, n_6, l_3) ∧
 l_5 = l_1 ∧
 l_6 = l_2 ∧
 n_9 = (nxt n l n_3 (n_4, n_5, n_6, l_3)).fst ∧
 n_10 = (nxt n l n_3 (n_4, n_5, n_6, l_3)).snd.fst ∧
 n_11 = (nxt n l n_3 (n_4, n_5, n_6, l_3)).snd.snd.fst ∧
 n_12 = (nxt n l n_3 (n_4, n_5, n_6, l_3)).snd.snd.snd.fst ∧
 l_7 = (nxt n l n_3 (n_4, n_5, n_6, l_3)).snd.snd.snd.snd)
 else
 bif decide (n = (3 : Int)) then False
 else
 True ∧
 bif decide (n_3 = (↑l_2.length : Int)) then
 (0 : Int) = (0 : Int) ∧
 [] = drw n (n_4, n_5, n_6, l_3) ∧
 l_1 = l_1 ∧
 l_2 = l_2 ∧
 n_3 = (nxt n l n_3 (n_4, n_5, n_6, l_3)).fst ∧
 n_4 = (nxt n l n_3 (n_4, n_5, n_6, l_3)).snd.fst ∧
 n_5 = (nxt n l n_3 (n_4, n_5, n_6, l_3)).snd.snd.fst ∧
 n_6 = (nxt n l n_3 (n_4, n_5, n_6, l_3)).snd.snd.snd.fst ∧
 l_3 = (nxt n l n_3 (n_4, n_5, n_6, l_3)).snd.snd.snd.snd
 else
 Miss (2 : Nat)
 { n := (0 : Nat), ov := [], tm := [SV.agg [SV.int Go.IntKind.i64 (12 : Int), SV.nils]], hp := [Blk.cells (128 : Go.TypeId) [SV.ptr (1 : Nat) (0 : Nat), SV.arrI (32 : Nat) Go.IntKind.u8 l_1, SV.iface (133 : Go.TypeId) (SV.agg [SV.ptr (2 : Nat) (0 : Nat)])], Blk.cells (185 : Go.TypeId) [SV.rd [CSh.int Go.IntKind.i64, CSh.int Go.IntKind.i64, CSh.int Go.IntKind.i64, CSh.str] l_2, SV.int Go.IntKind.i64 n_3, SV.ptr (6 : Nat) (0 : Nat)], Blk.cells (298 : Go.TypeId) [SV.iface (253 : Go.TypeId) (SV.agg []), SV.own (3 : Nat), SV.int Go.IntKind.i64 n_4, SV.int Go.IntKind.i64 n_5, SV.int Go.IntKind.i64 n_6], Blk.own (5 : Go.TypeId) [CSh.int Go.IntKind.u8] l_3, Blk.cells (84 : Nat) [SV.int Go.IntKind.i64 n, SV.int Go.IntKind.i64 n_1, SV.int Go.IntKind.i64 n_2, SV.rd [CSh.int Go.IntKind.u8] l], Blk.cells (86 : Nat) [SV.int Go.IntKind.i64 (12 : Int), SV.nils], Blk.cells (204 : Go.TypeId) [SV.int Go.IntKind.i64 (12 : Int)]], G := [] }
theorem e36 : ct36.VC (base.with sp27) Tryz.f36.results.toList Tryz.f36.ntmps (Tryz.f36.ntmps - ct36.ps.length) (bodyOf Tryz.f36) ann36 = P36 := by kernel_rfl
noncomputable def sp36 : SpecT := addS sp27 36 (mkF ct36)
def P13 : Prop :=
 ∀ (n : Int) (l l_1 : List (List CD)),
 l.length ≤ (9223372036854775807 : Nat) →
 l_1.length ≤ (9223372036854775807 : Nat) →
 pre13 n l l_1 →
 pre129 l ∧
 bif decide (n ≠ (1 : Int)) && decide (n ≠ (2 : Int)) then
 (-1 : Int) = (-1 : Int) ∧ (15 : Int) = (0 : Int) ∧ l_1 = l_1 ∧ [] = anH l_1 l
 else
 bif decide ((prs (bytesOfRows l)).snd.snd = (0 : Int)) then
 bif decide (n = (2 : Int)) then
 l_1.length ≤ (9223372036854775807 : Nat) →
 Miss (0 : Nat)
 { n := 39, ov := [((27 : Nat), SV.int Go.IntKind.i64 (0 : Int)), ((26 : Nat), SV.int Go.IntKind.i64 (↑l_1.length : Int)), ((25 : Nat), SV.own (0 : Nat)), ((24 : Nat), SV.ptr (1 : Nat) (2 : Nat)), ((8 : Nat), SV.nils), ((21 : Nat), SV.bool (decide ((0 : Int) ≠ (0 : Int)))), ((20 : Nat), SV.int Go.IntKind.i64 (0 : Int)), ((7 : Nat), SV.int Go.IntKind.i64 (0 : Int)), ((6 : Nat), SV.int Go.IntKind.i64 (-1 : Int)), ((5 : Nat), SV.ptr (2 : Nat) (0 : Nat)), ((19 : Nat), SV.int Go.IntKind.i64 (0 : Int)), ((18 : Nat), SV.int Go.IntKind.i64 (-1 : Int)), ((17 : Nat), SV.ptr (2 : Nat) (0 : Nat)), ((11 : Nat), SV.tup [SV.ptr (2 : Nat) (0 : Nat), SV.int Go.IntKind.i64 (-1 : Int), SV.int Go.IntKind.i64 (0 : Int)]), ((16 : Nat), SV.tup [SV.ptr (2 : Nat) (0 : Nat), SV.int Go.IntKind.i64 (-1 : Int), SV.int Go.IntKind.i64 (0 : Int)]), ((15 : Nat), SV.rd [CSh.int Go.IntKind.u8] l), ((14 : Nat), SV.ptr (1 : Nat) (1 : Nat)), ((13 : Nat), SV.int Go.IntKind.i64 n), ((12 : Nat), SV.ptr (1 : Nat) (0 : Nat)), ((4 : Nat), SV.int Go.IntKind.i64 (0 : Int)), ((3 : Nat), SV.int Go.IntKind.i64 (0 : Int)), ((2 : Nat), SV.nils), ((1 : Nat), SV.ptr (1 : Nat) (0 : Nat))], tm := [SV.agg [SV.int Go.IntKind.i64 n, SV.rd [CSh.int Go.IntKind.u8] l, SV.own (0 : Nat)], SV.dead, SV.dead, SV.dead, SV.dead, SV.dead, SV.dead, SV.dead, SV.dead, SV.dead, SV.dead, SV.dead, SV.dead, SV.dead, SV.dead, SV.dead, SV.dead, SV.dead, SV.dead, SV.dead, SV.dead, SV.dead, SV.dead, SV.dead, SV.dead, SV.dead, SV.dead, SV.dead, SV.dead, SV.dead, SV.dead, SV.dead, SV.dead, SV.dead, SV.dead, SV.dead, SV.dead, SV.dead, SV.dead], hp := [Blk.own (84 : Go.TypeId) [CSh.int Go.IntKind.i64, CSh.int Go.IntKind.i64, CSh.int Go.IntKind.i64, CSh.sl [CSh.int Go.IntKind.u8]] l_1, Blk.cells (26 : Nat) [SV.int Go.IntKind.i64 n, SV.rd [CSh.int Go.IntKind.u8] l, SV.own (0 : Nat)], Blk.cells (128 : Go.TypeId) [SV.ptr (3 : Nat) (0 : Nat), SV.arrI (32 : Nat) Go.IntKind.u8 (tgB n l), SV.iface (137 : Go.TypeId) (SV.agg [SV.ptr (4 : Nat) (0 : Nat)])], Blk.cells (185 : Go.TypeId) [SV.rd [CSh.int Go.IntKind.i64, CSh.int Go.IntKind.i64, CSh.int Go.IntKind.i64, CSh.str] (itm l), SV.int Go.IntKind.i64 (0 : Int), SV.nilp], Blk.cells (300 : Go.TypeId) [SV.iface (259 : Go.TypeId) (SV.agg [SV.ptr (5 : Nat) (0 : Nat)]), SV.own (6 : Nat), SV.int Go.IntKind.i64 (0 : Int), SV.int Go.IntKind.i64 (2 : Int), SV.int Go.IntKind.i64 (0 : Int)], Blk.cells (318 : Go.TypeId) [SV.int Go.IntKind.u32 (0 : Int), SV.int Go.IntKind.i32 (0 : Int), SV.int Go.IntKind.u32 (0 : Int), SV.arrI (780 : Nat) Go.IntKind.u64 z780, SV.arrI (36 : Nat) Go.IntKind.u64 z36], Blk.own (76 : Go.TypeId) [CSh.int Go.IntKind.u64, CSh.int Go.IntKind.u64, CSh.int Go.IntKind.u64, CSh.int Go.IntKind.u64] (stE [rowE (fwW (List.map row1 (tgB n l)))])], G := [] } ∧
 ∀ (n n_1 : Int) (l_2 : List (List CD)) (l_3 : List Int) (l_4 : List (List CD)) (n_2 n_3 n_4 n_5 : Int) (l_5 l_6 : List (List CD)),
 l_2.length ≤ (9223372036854775807 : Nat) →
 l_3.length = (32 : Nat) →
 l_6.length ≤ (9223372036854775807 : Nat) →
 n = (↑l_1.length : Int) ∧
 (0 : Int) ≤ n_1 ∧
 n_1 ≤ n ∧
 l_2 = l_1 ∧
 l_4 = itm l ∧
 (n_2, n_3, n_4, n_5, l_5) = plS l_1 (x0B l) n_1.toNat ∧
 l_6 = anR l_1 (x0B l) n_1.toNat →
 bif decide (n_1 < n) then
 ((0 : Int) ≤ n_1 ∧ n_1 < (↑l_2.length : Int)) ∧
 n_1.toNat < l_2.length ∧
 pre36 ((l_2.getD n_1.toNat []).getD (0 : Nat) (CD.int (0 : Int))).toInt
 ((l_2.getD n_1.toNat []).getD (1 : Nat) (CD.int (0 : Int))).toInt
 ((l_2.getD n_1.toNat []).getD (2 : Nat) (CD.int (0 : Int))).toInt
 ((l_2.getD n_1.toNat []).getD (3 : Nat) (CD.int (0 : Int))).toSl l_4 n_2 (n_3, n_4, n_5, l_5) ∧
 ((l_6.length + (1 : Nat)) * (32 : Nat) ≤ (140737488355328 : Nat) ∧ l_6.length + (1 : Nat) ≤ (9223372036854775807 : Nat)) ∧
 ((-9223372036854775808 : Int) ≤ n_1 + (1 : Int) ∧ n_1 + (1 : Int) ≤ (9223372036854775807 : Int)) ∧
 (n = (↑l_1.length : Int) ∧
 (0 : Int) ≤ n_1 + (1 : Int) ∧
 n_1 + (1 : Int) ≤ n ∧
 l_2 = l_1 ∧
 l_4 = itm l ∧
 ((nxt ((l_2.getD n_1.toNat []).getD (0 : Nat) (CD.int (0 : Int))).toInt
 ((l_2.getD n_1.toNat []).getD (3 : Nat) (CD.int (0 : Int))).toSl n_2 (n_3, n_4, n_5, l_5)).fst,
 (nxt ((l_2.getD n_1.toNat []).getD (0 : Nat) (CD.int (0 : Int))).toInt
 ((l_2.getD n_1.toNat []).getD (3 : Nat) (CD.int (0 : Int))).toSl n_2 (n_3, n_4, n_5, l_5)).snd.fst,
 (nxt ((l_2.getD n_1.toNat []).getD (0 : Nat) (CD.int (0 : Int))).toInt
 ((l_2.getD n_1.toNat []).getD (3 : Nat) (CD.int (0 : Int))).toSl n_2 (n_3, n_4, n_5, l_5)).snd.snd.fst,
 (nxt ((l_2.getD n_1.toNat []).getD (0 : Nat) (CD.int (0 : Int))).toInt
 ((l_2.getD n_1.toNat []).getD (3 : Nat) (CD.int (0 : Int))).toSl n_2
 (n_3, n_4, n_5, l_5)).snd.snd.snd.fst,
 (nxt ((l_2.getD n_1.toNat []).getD (0 : Nat) (CD.int (0 : Int))).toInt
 ((l_2.getD n_1.toNat []).getD (3 : Nat) (CD.int (0 : Int))).toSl n_2
 (n_3, n_4, n_5, l_5)).snd.snd.snd.snd) =
 plS l_1 (x0B l) (n_1 + (1 : Int)).toNat ∧
 l_6 ++
 [[CD.int (0 : Int),
 CD.sl
 (drw ((l_2.getD n_1.toNat []).getD (0 : Nat) (CD.int (0 : Int))).toInt
 (n_3, n_4, n_5, l_5))]] =
 anR l_1 (x0B l) (n_1 + (1 : Int)).toNat) ∧
 (n - (n_1 + (1 : Int))).toNat < (n - n_1).toNat
 else (-1 : Int) = (-1 : Int) ∧ (0 : Int) = (0 : Int) ∧ l_2 = l_1 ∧ l_6 = anH l_1 l
 else
 l_1.length ≤ (9223372036854775807 : Nat) →
 (((↑l_1.length : Int) = (↑l_1.length : Int) ∧
 (0 : Int) ≤ (0 : Int) ∧
 (0 : Int) ≤ (↑l_1.length : Int) ∧
 l_1 = l_1 ∧
 itm l = itm l ∧
 ((0 : Int), (0 : Int), (136 : Int), (0 : Int),
 stB (List.map row1 (tgB n l))) =
 plS l_1 (x0B l) (0 : Nat) ∧
 [] = anR l_1 (x0B l) (0 : Nat)) ∧
 True) ∧
 ∀ (n n_1 : Int) (l_2 : List (List CD)) (l_3 : List Int) (l_4 : List (List CD)) (n_2 n_3 n_4 n_5 : Int) (l_5 l_6 : List (List CD)),
 l_2.length ≤ (9223372036854775807 : Nat) →
 l_3.length = (32 : Nat) →
 l_6.length ≤ (9223372036854775807 : Nat) →
 n = (↑l_1.length : Int) ∧
 (0 : Int) ≤ n_1 ∧
 n_1 ≤ n ∧
 l_2 = l_1 ∧
 l_4 = itm l ∧
 (n_2, n_3, n_4, n_5, l_5) = plS l_1 (x0B l) n_1.toNat ∧
 l_6 = anR l_1 (x0B l) n_1.toNat →
 bif decide (n_1 < n) then
 ((0 : Int) ≤ n_1 ∧ n_1 < (↑l_2.length : Int)) ∧
 n_1.toNat < l_2.length ∧
 pre36 ((l_2.getD n_1.toNat []).getD (0 : Nat) (CD.int (0 : Int))).toInt
 ((l_2.getD n_1.toNat []).getD (1 : Nat) (CD.int (0 : Int))).toInt
 ((l_2.getD n_1.toNat []).getD (2 : Nat) (CD.int (0 : Int))).toInt
 ((l_2.getD n_1.toNat []).getD (3 : Nat) (CD.int (0 : Int))).toSl l_4 n_2 (n_3, n_4, n_5, l_5) ∧
 ((l_6.length + (1 : Nat)) * (32 : Nat) ≤ (140737488355328 : Nat) ∧ l_6.length + (1 : Nat) ≤ (9223372036854775807 : Nat)) ∧
 ((-9223372036854775808 : Int) ≤ n_1 + (1 : Int) ∧ n_1 + (1 : Int) ≤ (9223372036854775807 : Int)) ∧
 (n = (↑l_1.length : Int) ∧
 (0 : Int) ≤ n_1 + (1 : Int) ∧
 n_1 + (1 : Int) ≤ n ∧
 l_2 = l_1 ∧
 l_4 = itm l ∧
 ((nxt ((l_2.getD n_1.toNat []).getD (0 : Nat) (CD.int (0 : Int))).toInt
 ((l_2.getD n_1.toNat []).getD (3 : Nat) (CD.int (0 : Int))).toSl n_2 (n_3, n_4, n_5, l_5)).fst,
 (nxt ((l_2.getD n_1.toNat []).getD (0 : Nat) (CD.int (0 : Int))).toInt
 ((l_2.getD n_1.toNat []).getD (3 : Nat) (CD.int (0 : Int))).toSl n_2 (n_3, n_4, n_5, l_5)).snd.fst,
 (nxt ((l_2.getD n_1.toNat []).getD (0 : Nat) (CD.int (0 : Int))).toInt
 ((l_2.getD n_1.toNat []).getD (3 : Nat) (CD.int (0 : Int))).toSl n_2 (n_3, n_4, n_5, l_5)).snd.snd.fst,
 (nxt ((l_2.getD n_1.toNat []).getD (0 : Nat) (CD.int (0 : Int))).toInt
 ((l_2.getD n_1.toNat []).getD (3 : Nat) (CD.int (0 : Int))).toSl n_2
 (n_3, n_4, n_5, l_5)).snd.snd.snd.fst,
 (nxt ((l_2.getD n_1.toNat []).getD (0 : Nat) (CD.int (0 : Int))).toInt
 ((l_2.getD n_1.toNat []).getD (3 : Nat) (CD.int (0 : Int))).toSl n_2
 (n_3, n_4, n_5, l_5)).snd.snd.snd.snd) =
 plS l_1 (x0B l) (n_1 + (1 : Int)).toNat ∧
 l_6 ++
 [[CD.int (0 : Int),
 CD.sl
 (drw ((l_2.getD n_1.toNat []).getD (0 : Nat) (CD.int (0 : Int))).toInt
 (n_3, n_4, n_5, l_5))]] =
 anR l_1 (x0B l) (n_1 + (1 : Int)).toNat) ∧
 (n - (n_1 + (1 : Int))).toNat < (n - n_1).toNat
 else (-1 : Int) = (-1 : Int) ∧ (0 : Int) = (0 : Int) ∧ l_2 = l_1 ∧ l_6 = anH l_1 l
 else
 bif decide ((prs (bytesOfRows l)).snd.snd ≠ (0 : Int)) then
 (prs (bytesOfRows l)).snd.fst = (-1 : Int) ∧
 (prs (bytesOfRows l)).snd.snd = (0 : Int) ∧ l_1 = l_1 ∧ [] = anH l_1 l
 else
 l_1.length ≤ (9223372036854775807 : Nat) →
 Miss (0 : Nat)
 { n := 39, ov := [((27 : Nat), SV.int Go.IntKind.i64 (0 : Int)), ((26 : Nat), SV.int Go.IntKind.i64 (↑l_1.length : Int)), ((25 : Nat), SV.own (0 : Nat)), ((24 : Nat), SV.ptr (1 : Nat) (2 : Nat)), ((8 : Nat), SV.nils), ((21 : Nat), SV.bool (decide ((prs (bytesOfRows l)).snd.snd ≠ (0 : Int)))), ((20 : Nat), SV.int Go.IntKind.i64 (prs (bytesOfRows l)).snd.snd), ((7 : Nat), SV.int Go.IntKind.i64 (prs (bytesOfRows l)).snd.snd), ((6 : Nat), SV.int Go.IntKind.i64 (prs (bytesOfRows l)).snd.fst), ((5 : Nat), SV.nilp), ((19 : Nat), SV.int Go.IntKind.i64 (prs (bytesOfRows l)).snd.snd), ((18 : Nat), SV.int Go.IntKind.i64 (prs (bytesOfRows l)).snd.fst), ((17 : Nat), SV.nilp), ((11 : Nat), SV.tup [SV.nilp, SV.int Go.IntKind.i64 (prs (bytesOfRows l)).snd.fst, SV.int Go.IntKind.i64 (prs (bytesOfRows l)).snd.snd]), ((16 : Nat), SV.tup [SV.nilp, SV.int Go.IntKind.i64 (prs (bytesOfRows l)).snd.fst, SV.int Go.IntKind.i64 (prs (bytesOfRows l)).snd.snd]), ((15 : Nat), SV.rd [CSh.int Go.IntKind.u8] l), ((14 : Nat), SV.ptr (1 : Nat) (1 : Nat)), ((13 : Nat), SV.int Go.IntKind.i64 n), ((12 : Nat), SV.ptr (1 : Nat) (0 : Nat)), ((4 : Nat), SV.int Go.IntKind.i64 (0 : Int)), ((3 : Nat), SV.int Go.IntKind.i64 (0 : Int)), ((2 : Nat), SV.nils), ((1 : Nat), SV.ptr (1 : Nat) (0 : Nat))], tm := [SV.agg [SV.int Go.IntKind.i64 n, SV.rd [CSh.int Go.IntKind.u8] l, SV.own (0 : Nat)], SV.dead, SV.dead, SV.dead, SV.dead, SV.dead, SV.dead, SV.dead, SV.dead, SV.dead, SV.dead, SV.dead, SV.dead, SV.dead, SV.dead, SV.dead, SV.dead, SV.dead, SV.dead, SV.dead, SV.dead, SV.dead, SV.dead, SV.dead, SV.dead, SV.dead, SV.dead, SV.dead, SV.dead, SV.dead, SV.dead, SV.dead, SV.dead, SV.dead, SV.dead, SV.dead, SV.dead, SV.dead, SV.dead], hp := [Blk.own (84 : Go.TypeId) [CSh.int Go.IntKind.i64, CSh.int Go.IntKind.i64, CSh.int Go.IntKind.i64, CSh.sl [CSh.int Go.IntKind.u8]] l_1, Blk.cells (26 : Nat) [SV.int Go.IntKind.i64 n, SV.rd [CSh.int Go.IntKind.u8] l, SV.own (0 : Nat)]], G := [] } ∧
 ∀ (n n_1 : Int) (l_2 : List (List CD)) (l_3 : List Int) (l_4 : List (List CD)) (n_2 n_3 n_4 n_5 : Int) (l_5 l_6 : List (List CD)),
 l_2.length ≤ (9223372036854775807 : Nat) →
 l_3.length = (32 : Nat) →
 l_6.length ≤ (9223372036854775807 : Nat) →
 n = (↑l_1.length : Int) ∧
 (0 : Int) ≤ n_1 ∧
 n_1 ≤ n ∧
 l_2 = l_1 ∧
 l_4 = itm l ∧
 (n_2, n_3, n_4, n_5, l_5) = plS l_1 (x0B l) n_1.toNat ∧
 l_6 = anR l_1 (x0B l) n_1.toNat →
 bif decide (n_1 < n) then
 ((0 : Int) ≤ n_1 ∧ n_1 < (↑l_2.length : Int)) ∧
 n_1.toNat < l_2.length ∧
 pre36 ((l_2.getD n_1.toNat []).getD (0 : Nat) (CD.int (0 : Int))).toInt
 ((l_2.getD n_1.toNat []).getD (1 : Nat) (CD.int (0 : Int))).toInt
 ((l_2.getD n_1.toNat []).getD (2 : Nat) (CD.int (0 : Int))).toInt
 ((l_2.getD n_1.toNat []).getD (3 : Nat) (CD.int (0 : Int))).toSl l_4 n_2 (n_3, n_4, n_5, l_5) ∧
 ((l_6.length + (1 : Nat)) * (32 : Nat) ≤ (140737488355328 : Nat) ∧ l_6.length + (1 : Nat) ≤ (9223372036854775807 : Nat)) ∧
 ((-9223372036854775808 : Int) ≤ n_1 + (1 : Int) ∧ n_1 + (1 : Int) ≤ (9223372036854775807 : Int)) ∧
 (n = (↑l_1.length : Int) ∧
 (0 : Int) ≤ n_1 + (1 : Int) ∧
 n_1 + (1 : Int) ≤ n ∧
 l_2 = l_1 ∧
 l_4 = itm l ∧
 ((nxt ((l_2.getD n_1.toNat []).getD (0 : Nat) (CD.int (0 : Int))).toInt
 ((l_2.getD n_1.toNat []).getD (3 : Nat) (CD.int (0 : Int))).toSl n_2 (n_3, n_4, n_5, l_5)).fst,
 (nxt ((l_2.getD n_1.toNat []).getD (0 : Nat) (CD.int (0 : Int))).toInt
 ((l_2.getD n_1.toNat []).getD (3 : Nat) (CD.int (0 : Int))).toSl n_2 (n_3, n_4, n_5, l_5)).snd.fst,
 (nxt ((l_2.getD n_1.toNat []).getD (0 : Nat) (CD.int (0 : Int))).toInt
 ((l_2.getD n_1.toNat []).getD (3 : Nat) (CD.int (0 : Int))).toSl n_2 (n_3, n_4, n_5, l_5)).snd.snd.fst,
 (nxt ((l_2.getD n_1.toNat []).getD (0 : Nat) (CD.int (0 : Int))).toInt
 ((l_2.getD n_1.toNat []).getD (3 : Nat) (CD.int (0 : Int))).toSl n_2
 (n_3, n_4, n_5, l_5)).snd.snd.snd.fst,
 (nxt ((l_2.getD n_1.toNat []).getD (0 : Nat) (CD.int (0 : Int))).toInt
 ((l_2.getD n_1.toNat []).getD (3 : Nat) (CD.int (0 : Int))).toSl n_2
 (n_3, n_4, n_5, l_5)).snd.snd.snd.snd) =
 plS l_1 (x0B l) (n_1 + (1 : Int)).toNat ∧
 l_6 ++
 [[CD.int (0 : Int),
 CD.sl
 (drw ((l_2.getD n_1.toNat []).getD (0 : Nat) (CD.int (0 : Int))).toInt
 (n_3, n_4, n_5, l_5))]] =
 anR l_1 (x0B l) (n_1 + (1 : Int)).toNat) ∧
 (n - (n_1 + (1 : Int))).toNat < (n - n_1).toNat
 else (-1 : Int) = (-1 : Int) ∧ (0 : Int) = (0 : Int) ∧ l_2 = l_1 ∧ l_6 = anH l_1 l
theorem e13 : ct13.VC (base.with sp36) Tryz.f13.results.toList Tryz.f13.ntmps (Tryz.f13.ntmps - ct13.ps.length) (bodyOf Tryz.f13) ann13 = P13 := by kernel_rfl
noncomputable def sp13 : SpecT := addS sp36 13 (mkF ct13)
def P62 : Prop :=
 ∀ (l : List (List CD)),
 l.length ≤ (9223372036854775807 : Nat) →
 l.length ≤ (1000000 : Nat) →
 ∀ (β : Bool),
 (β = true → l = []) →
 bif β then [] = l else (((0 : Nat) + l.length) * (1 : Nat) ≤ (140737488355328 : Nat) ∧ (0 : Nat) + l.length ≤ (9223372036854775807 : Nat)) ∧ [] ++ l = l
theorem e62 : ct62.VC (base.with sp13) Tryz.f62.results.toList Tryz.f62.ntmps (Tryz.f62.ntmps - ct62.ps.length) (bodyOf Tryz.f62) noAnn = P62 := by kernel_rfl
noncomputable def sp62 : SpecT := addS sp13 62 (mkF ct62)
def P34 : Prop :=
 ∀ (n : Int) (l : List (List CD)),
 l.length ≤ (9223372036854775807 : Nat) →
 (0 : Int) ≤ n ∧ n ≤ (↑l.length : Int) ∧ l.length ≤ (1000000 : Nat) →
 l.length ≤ (9223372036854775807 : Nat) →
 bif decide ((↑l.length : Int) < n) then False
 else
 ((0 : Int) ≤ (0 : Int) ∧ (0 : Int) ≤ n ∧ n ≤ (↑l.length : Int)) ∧
 (List.drop (0 : Nat) (List.take n.toNat l)).length ≤ (1000000 : Nat) ∧
 ((0 : Int) ≤ n ∧ n ≤ (↑l.length : Int) ∧ (↑l.length : Int) ≤ (↑l.length : Int)) ∧
 List.drop (0 : Nat) (List.take n.toNat l) = List.take n.toNat l ∧ List.drop n.toNat (List.take (↑l.length : Int).toNat l) = List.drop n.toNat l
theorem e34 : ct34.VC (base.with sp62) Tryz.f34.results.toList Tryz.f34.ntmps (Tryz.f34.ntmps - ct34.ps.length) (bodyOf Tryz.f34) noAnn = P34 := by kernel_rfl
noncomputable def sp34 : SpecT := addS sp62 34 (mkF ct34)
def P33 : Prop :=
 ∀ (n : Int) (l : List (List CD)),
 l.length ≤ (9223372036854775807 : Nat) →
 (0 : Int) ≤ n ∧ n ≤ (2 : Int) ∧ n ≤ (↑l.length : Int) ∧ l.length ≤ (1000000 : Nat) ∧ areB l →
 ((0 : Int) ≤ n ∧ n ≤ (↑l.length : Int) ∧ l.length ≤ (1000000 : Nat)) ∧
 ((List.take n.toNat l).length ≤ (9223372036854775807 : Nat) →
 ((List.take n.toNat l = List.take n.toNat l ∧
 (↑(List.take n.toNat l).length : Int) = n ∧
 (0 : Int) ≤ (0 : Int) ∧
 (0 : Int) ≤ (↑(List.take n.toNat l).length : Int) ∧
 (0 : Int) = nuN (List.take n.toNat l) (0 : Nat) ∧ List.drop n.toNat l = List.drop n.toNat l) ∧
 True) ∧
 ∀ (n_1 : Int) (l_1 : List (List CD)) (n_2 n_3 : Int) (l_2 : List (List CD)),
 l_1.length ≤ (9223372036854775807 : Nat) →
 l_1 = List.take n.toNat l ∧
 n_2 = n ∧ (0 : Int) ≤ n_3 ∧ n_3 ≤ n_2 ∧ n_1 = nuN (List.take n.toNat l) n_3.toNat ∧ l_2 = List.drop n.toNat l →
 bif decide (n_3 < n_2) then
 ((0 : Int) ≤ n_3 ∧ n_3 < (↑l_1.length : Int)) ∧
 n_3.toNat < l_1.length ∧
 ((-9223372036854775808 : Int) ≤ (8 : Int) * n_3 ∧ (8 : Int) * n_3 ≤ (9223372036854775807 : Int)) ∧
 (0 : Int) ≤ (8 : Int) * n_3 ∧
 ((-9223372036854775808 : Int) ≤ n_3 + (1 : Int) ∧ n_3 + (1 : Int) ≤ (9223372036854775807 : Int)) ∧
 (l_1 = List.take n.toNat l ∧
 n_2 = n ∧
 (0 : Int) ≤ n_3 + (1 : Int) ∧
 n_3 + (1 : Int) ≤ n_2 ∧
 bOr Go.IntKind.i64 n_1
 (bShl Go.IntKind.i64 (Go.IntKind.i64.wrap ((l_1.getD n_3.toNat []).getD (0 : Nat) (CD.int (0 : Int))).toInt)
 ((8 : Int) * n_3)) =
 nuN (List.take n.toNat l) (n_3 + (1 : Int)).toNat ∧
 l_2 = List.drop n.toNat l) ∧
 (n_2 - (n_3 + (1 : Int))).toNat < (n_2 - n_3).toNat
 else n_1 = nuN (List.take n.toNat l) n.toNat ∧ l_2 = List.drop n.toNat l)
theorem e33 : ct33.VC (base.with sp34) Tryz.f33.results.toList Tryz.f33.ntmps (Tryz.f33.ntmps - ct33.ps.length) (bodyOf Tryz.f33) ann33 = P33 := by kernel_rfl
noncomputable def sp33 : SpecT := addS sp34 33 (mkF ct33)
end Go.Proofs.YteiecapbaeajdaaGreatDoor
namespace Go.Proofs.YteiecapbaeajdaaGreatDoor
open Go Go.Avc Go.Proofs
set_option linter.unusedVariables false
set_option linter.unusedSimpArgs false
set_option maxRecDepth 100000
theorem noWay {b : Bool} {p : Prop} (h1 : b = true) (h2 : b = false) : p := by rw [h1] at h2; cases h2
theorem notT {p : Prop} [Decidable p] {q : Prop} (h : ¬ p) (e : decide p = true) : q := absurd (of_decide_eq_true e) h
theorem notF {p : Prop} [Decidable p] {q : Prop} (h : p) (e : decide p = false) : q := absurd h (of_decide_eq_false e)
theorem vc25a : P25a := fun l its n a b c s _ _ => ⟨trivial, rfl, rfl, rfl, rfl, rfl, rfl, rfl, rfl⟩
theorem vc25b : P25b := fun l its n a b c s w _ _ => ⟨trivial, rfl, rfl, rfl, rfl, rfl, rfl, rfl, rfl, rfl⟩
theorem ok25a : SpecOk (base.with sp21) 25 (mkF ct25a) := spec_ct (fn := Tryz.f25) (c := bodyOf Tryz.f25) (k := Tryz.f25.ntmps - ct25a.ps.length) (ct := ct25a) c21 Tryz.func25 (by kernel_rfl) noAnn (by kernel_rfl) (fun vs w _ => Tryz.call25 vs w) (by rw [e25a]; exact vc25a)
theorem ok25b : SpecOk (base.with sp21) 25 (mkF ct25b) := spec_ct (fn := Tryz.f25) (c := bodyOf Tryz.f25) (k := Tryz.f25.ntmps - ct25b.ps.length) (ct := ct25b) c21 Tryz.func25 (by kernel_rfl) noAnn (by kernel_rfl) (fun vs w _ => Tryz.call25 vs w) (by rw [e25b]; exact vc25b)
theorem c25 : (base.with sp25).Ok := addS_ok c21 (alt_ok ok25a ok25b)
theorem vc92a : P92a := fun k t n d tg its at' a b c s _ _ h => ⟨h, condI (fun e => condI (fun _ => ⟨rfl, rfl, rfl, rfl, rfl, rfl, rfl, rfl⟩) fun e' => noWay e e') fun e => condI (fun e' => noWay e' e) fun _ => ⟨rfl, rfl, rfl, rfl, rfl, rfl, rfl, rfl, rfl⟩⟩
theorem vc92b : P92b := fun _ _ _ _ _ _ _ _ _ _ _ _ _ _ h => ⟨h, rfl, rfl, rfl, rfl, rfl, rfl, rfl, rfl, rfl⟩
theorem ok92a : SpecOk (base.with sp25) 92 (mkF ct92a) := spec_ct (fn := Tryz.f92) (c := bodyOf Tryz.f92) (k := Tryz.f92.ntmps - ct92a.ps.length) (ct := ct92a) c25 Tryz.func92 (by kernel_rfl) noAnn (by kernel_rfl) (fun vs w _ => Tryz.call92 vs w) (by rw [e92a]; exact vc92a)
theorem ok92b : SpecOk (base.with sp25) 92 (mkF ct92b) := spec_ct (fn := Tryz.f92) (c := bodyOf Tryz.f92) (k := Tryz.f92.ntmps - ct92b.ps.length) (ct := ct92b) c25 Tryz.func92 (by kernel_rfl) noAnn (by kernel_rfl) (fun vs w _ => Tryz.call92 vs w) (by rw [e92b]; exact vc92b)
theorem c92 : (base.with sp92).Ok := addS_ok c25 (alt_ok ok92a ok92b)
theorem vc51 : P51 := by
  rintro t d tg its at' a b c s _ _ ⟨rfl, hb, hd, hc, hp, hh, hs⟩
  refine ⟨trivial, rfl, condI (fun e => notT (fun h => h hc) e) fun _ => ?_⟩
  rw [if_pos hc]
  exact ⟨hp, condI (fun _ => ⟨rfl, condI (fun e => notT (fun h => h hc) e) fun _ => ⟨⟨fun _ => rfl, by omega, hb, spB_mono (by omega) hs⟩, rfl, rfl, rfl, rfl, rfl, rfl, rfl, rfl⟩⟩) fun e => noWay hh e⟩
theorem ok51 : SpecOk (base.with sp92) 51 (mkF ct51) := spec_ct (fn := Tryz.f51) (c := bodyOf Tryz.f51) (k := Tryz.f51.ntmps - ct51.ps.length) (ct := ct51) c92 Tryz.func51 (by kernel_rfl) noAnn (by kernel_rfl) (fun vs w _ => Tryz.call51 vs w) (by rw [e51]; exact vc51)
theorem c51 : (base.with sp51).Ok := addS_ok c92 ok51
theorem opS_ok {k t n m : Int} {d : List (List CD)} (hd : areB d) {x : Sp} (h : spB m x) : spB (m + (d.length + 6 : Nat)) (opS k t n d x) :=
  spB_mono (by have := toB_len k t n d; omega) (abN_ok (toB_b k t n hd) h _)
theorem areB0 : areB [] := fun i => rv_none (Nat.zero_le i)
theorem vc53 : P53 := by
  rintro n tg its at' a b c s _ ⟨rfl, hp, hh, hs, hf⟩
  have ho := opS_ok (k := 2) (t := 3) (n := 1) areB0 hs
  refine ⟨hp, condI (fun _ => ⟨⟨fun h => by omega, by omega, areB0, spB_mono (by omega) hs⟩, ⟨rfl, spB_mono (by simp) ho⟩, condI (fun _ => ⟨rfl, rfl, rfl, rfl, rfl, rfl, rfl, rfl, rfl⟩) fun e => notF hf e⟩) fun e => noWay hh e⟩
theorem ok53 : SpecOk (base.with sp51) 53 (mkF ct53) := spec_ct (fn := Tryz.f53) (c := bodyOf Tryz.f53) (k := Tryz.f53.ntmps - ct53.ps.length) (ct := ct53) c51 Tryz.func53 (by kernel_rfl) noAnn (by kernel_rfl) (fun vs w _ => Tryz.call53 vs w) (by rw [e53]; exact vc53)
theorem c53 : (base.with sp53).Ok := addS_ok c51 ok53
theorem vc27a : P27a := fun tg its n a b c s _ _ => ⟨trivial, condI (fun e => condI (fun _ => ⟨rfl, rfl, rfl, rfl, rfl, rfl, rfl, rfl⟩) fun e' => noWay e e') fun e => condI (fun e' => noWay e' e) fun _ => ⟨rfl, rfl, rfl, rfl, rfl, rfl, rfl, rfl, rfl⟩⟩
theorem vc27b : P27b := fun _ _ _ _ _ _ _ _ _ _ => ⟨trivial, rfl, rfl, rfl, rfl, rfl, rfl, rfl, rfl, rfl⟩
theorem ok27a : SpecOk (base.with sp53) 27 (mkF ct27a) := spec_ct (fn := Tryz.f27) (c := bodyOf Tryz.f27) (k := Tryz.f27.ntmps - ct27a.ps.length) (ct := ct27a) c53 Tryz.func27 (by kernel_rfl) noAnn (by kernel_rfl) (fun vs w _ => Tryz.call27 vs w) (by rw [e27a]; exact vc27a)
theorem ok27b : SpecOk (base.with sp53) 27 (mkF ct27b) := spec_ct (fn := Tryz.f27) (c := bodyOf Tryz.f27) (k := Tryz.f27.ntmps - ct27b.ps.length) (ct := ct27b) c53 Tryz.func27 (by kernel_rfl) noAnn (by kernel_rfl) (fun vs w _ => Tryz.call27 vs w) (by rw [e27b]; exact vc27b)
theorem c27 : (base.with sp27).Ok := addS_ok c53 (alt_ok ok27a ok27b)
theorem w4_eq {w : List Int} (h : w.length = 4) : [gI w 0, gI w 1, gI w 2, gI w 3] = w := by
  match w, h with
  | [a, b, c, d], _ => rfl
theorem enW_len (a : List Int) : (enW a).length = 4 := by unfold enW; exact prW_len _ _
theorem enW_w {a : List Int} (h : areW a) : areW (enW a) := by unfold enW; exact prW_ok h (sqN_ok 512)
theorem fdF_wl : ∀ (f i : Nat) (x : Sp), (fdF x f i).1.length = 4 ∧ areW (fdF x f i).1
  | 0, i, x => ⟨rfl, areW_0⟩
  | f + 1, i, x => by
    have h1 := enW_len (blW x)
    have h2 : areW (enW (blW x)) := enW_w (ws_w _ _)
    rw [fdF]
    generalize enW (blW x) = Y at *
    split
    · exact fdF_wl f _ _
    · exact ⟨h1, h2⟩
theorem fdX_len (x : Sp) : (fdX x).1.length = 4 := by rw [fdX, hid_eq]; exact (fdF_wl _ _ _).1
theorem fdX_w (x : Sp) : areW (fdX x).1 := by rw [fdX, hid_eq]; exact (fdF_wl _ _ _).2
theorem elB_len (a : List Int) : (elB a).length = 32 := bys_len _ 4
theorem vc36 : P36 := by
  rintro k t n d tg its at' a b c s _ _ ⟨hp, hs, h | h | h⟩
  · obtain ⟨rfl, rfl, hb, hd, hc, hh⟩ := h
    exact condI (fun _ => ⟨⟨rfl, hb, hd, hc, hp, hh, hs⟩, rfl, rfl, rfl, rfl, rfl, rfl, rfl, rfl, rfl⟩) fun e => notF rfl e
  · obtain ⟨rfl, rfl, hh, hf⟩ := h
    have hx1 := fdX_len (opS 2 3 1 [] (a, b, c, s))
    have hx2 := fdX_w (opS 2 3 1 [] (a, b, c, s))
    refine condI (fun e => notT (by decide) e) fun _ => condI (fun e => notT (by decide) e) fun _ => condI (fun _ => ⟨⟨rfl, hp, hh, hs, hf⟩, fun _ => ⟨⟨⟨rfl, rfl, rfl, rfl, rfl, rfl, rfl, .inl ⟨rfl, rfl⟩⟩, trivial⟩, ?_⟩⟩) fun e => notF rfl e
    rintro l m i tg' its' at2 a' b' c' s' e0 e o _ ⟨rfl, rfl, rfl, rfl, rfl, rfl, hst, hio⟩
    refine condI (fun hlt => ?_) fun hlt => ?_
    · have hlt := of_decide_eq_true hlt
      obtain ⟨rfl, rfl⟩ : i = 0 ∧ o = [] := hio.resolve_right fun h => by omega
      have ew : [((([rowE (drX (a, b, c, s)).1].getD (0 : Int).toNat []).getD 0 (CD.int 0))).toInt, ((([rowE (drX (a, b, c, s)).1].getD (0 : Int).toNat []).getD 1 (CD.int 0))).toInt, ((([rowE (drX (a, b, c, s)).1].getD (0 : Int).toNat []).getD 2 (CD.int 0))).toInt, ((([rowE (drX (a, b, c, s)).1].getD (0 : Int).toNat []).getD 3 (CD.int 0))).toInt] = (drX (a, b, c, s)).1 := w4_eq hx1
      rw [ew]
      refine ⟨⟨by omega, Int.one_pos⟩, Nat.one_pos, hx2, ⟨by decide, by decide, by decide, by decide⟩, ⟨by decide, by decide⟩, ⟨by decide, by decide⟩, ⟨rfl, rfl, rfl, rfl, rfl, rfl, hst, .inr ⟨rfl, ?_⟩⟩, by decide⟩
      rw [List.drop_zero, List.take_of_length_le (by rw [elB_len]; exact Nat.le_refl _), List.nil_append]
      rfl
    · have hlt := of_decide_eq_false hlt
      obtain ⟨rfl, rfl⟩ : i = 1 ∧ o = (elB (drX (a, b, c, s)).1).map row1 := hio.resolve_left fun h => by omega
      have hst' : (a', b', c', s') = (nxt 2 d at' (a, b, c, s)).2 := hst
      refine ⟨rfl, rfl, rfl, rfl, rfl, congrArg (·.1) hst', congrArg (·.2.1) hst', congrArg (·.2.2.1) hst', congrArg (·.2.2.2) hst'⟩
  · obtain ⟨rfl, hat⟩ := h
    exact condI (fun e => notT (by decide) e) fun _ => condI (fun e => notT (by decide) e) fun _ => condI (fun e => notT (by decide) e) fun _ => condI (fun e => notT (by decide) e) fun _ => ⟨trivial, condI (fun _ => ⟨rfl, rfl, rfl, rfl, rfl, rfl, rfl, rfl, rfl⟩) fun e => notF hat e⟩
theorem ok36 : SpecOk (base.with sp27) 36 (mkF ct36) := spec_ct (fn := Tryz.f36) (c := bodyOf Tryz.f36) (k := Tryz.f36.ntmps - ct36.ps.length) (ct := ct36) c27 Tryz.func36 (by kernel_rfl) ann36 (by kernel_rfl) (fun vs w _ => Tryz.call36 vs w) (by rw [e36]; exact vc36)
theorem c36 : (base.with sp36).Ok := addS_ok c27 ok36
theorem anR_len (l : List (List CD)) (x : Sp) : ∀ i, (anR l x i).length = i
  | 0 => rfl
  | i + 1 => by rw [anR, List.length_append, anR_len l x i]; rfl
theorem vc13 : P13 := by
  rintro k p l _ _ ⟨rfl, hp, hok, hl, hpre⟩
  refine ⟨hp, condI (fun e => by cases e) fun _ => condI (fun _ => condI (fun e => notT (by decide) e) fun _ => fun _ => ⟨⟨⟨rfl, by omega, by omega, rfl, rfl, rfl, rfl⟩, trivial⟩, ?_⟩) fun e => notF hok e⟩
  rintro n i' l' tg its at' a b c s o _ _ _ ⟨rfl, h0, h1, rfl, rfl, hst, rfl⟩
  obtain ⟨i, rfl⟩ := Int.eq_ofNat_of_zero_le h0
  rw [Int.toNat_natCast] at hst ⊢
  refine condI (fun h => ?_) fun h => ?_
  · have h := of_decide_eq_true h
    have hi : i < l'.length := by omega
    have hpr := hpre i hi
    rw [← hst] at hpr
    have hn : plS l' (x0B p) (i + 1) = nxt (cC l' i 0) (cD l' i) at' (a, b, c, s) := by rw [plS, ← hst]
    have hm : anR l' (x0B p) (i + 1) = anR l' (x0B p) i ++ [[.int 0, .sl (drw (cC l' i 0) (a, b, c, s))]] := by rw [anR, ← hst]
    rw [show ((i : Int) + 1).toNat = i + 1 from by omega, hn, hm, anR_len]
    exact ⟨⟨by omega, h⟩, hi, hpr, ⟨by omega, by omega⟩, ⟨by omega, by omega⟩, ⟨rfl, by omega, by omega, rfl, rfl, rfl, rfl⟩, by omega⟩
  · have h := of_decide_eq_false h
    rw [show i = l'.length from by omega]
    exact ⟨rfl, rfl, rfl, (by rw [anH, hid_eq])⟩
theorem ok13 : SpecOk (base.with sp36) 13 (mkF ct13) := spec_ct (fn := Tryz.f13) (c := bodyOf Tryz.f13) (k := Tryz.f13.ntmps - ct13.ps.length) (ct := ct13) c36 Tryz.func13 (by kernel_rfl) ann13 (by kernel_rfl) (fun vs w _ => Tryz.call13 vs w) (by rw [e13]; exact vc13)
theorem c13 : (base.with sp13).Ok := addS_ok c36 ok13
theorem vc62 : P62 := by
  intro l _ h β hβ
  refine condI (fun e => (hβ e).symm) fun _ => ⟨⟨by omega, by omega⟩, rfl⟩
theorem ok62 : SpecOk (base.with sp13) 62 (mkF ct62) := spec_ct (fn := Tryz.f62) (c := bodyOf Tryz.f62) (k := Tryz.f62.ntmps - ct62.ps.length) (ct := ct62) c13 Tryz.func62 (by kernel_rfl) noAnn (by kernel_rfl) (fun vs w _ => Tryz.call62 vs w) (by rw [e62]; exact vc62)
theorem c62 : (base.with sp62).Ok := addS_ok c13 ok62
theorem vc34 : P34 := by
  rintro n l _ ⟨h0, h1, h2⟩ _
  refine condI (fun e => ?_) fun _ => ⟨⟨by omega, h0, h1⟩, ?_, ⟨h0, h1, by omega⟩, by rw [List.drop_zero], ?_⟩
  · have := of_decide_eq_true e
    omega
  · rw [List.drop_zero, List.length_take]; omega
  · rw [Int.toNat_natCast, List.take_length]
theorem ok34 : SpecOk (base.with sp62) 34 (mkF ct34) := spec_ct (fn := Tryz.f34) (c := bodyOf Tryz.f34) (k := Tryz.f34.ntmps - ct34.ps.length) (ct := ct34) c62 Tryz.func34 (by kernel_rfl) noAnn (by kernel_rfl) (fun vs w _ => Tryz.call34 vs w) (by rw [e34]; exact vc34)
theorem c34 : (base.with sp34).Ok := addS_ok c62 ok34
theorem vc33 : P33 := by
  rintro w l _ ⟨h0, h1, h2, h3, hb⟩
  obtain ⟨k, rfl⟩ := Int.eq_ofNat_of_zero_le h0
  rw [Int.toNat_natCast]
  have hk : (l.take k).length = k := by rw [List.length_take]; omega
  refine ⟨⟨h0, h2, h3⟩, fun _ => ⟨⟨⟨rfl, by rw [hk], by omega, by omega, rfl, rfl⟩, trivial⟩, ?_⟩⟩
  rintro x l' n i' rest _ ⟨rfl, rfl, g0, g1, rfl, rfl⟩
  obtain ⟨i, rfl⟩ := Int.eq_ofNat_of_zero_le g0
  rw [Int.toNat_natCast]
  refine condI (fun h => ?_) fun h => ?_
  · have h := of_decide_eq_true h
    rw [show ((i : Int) + 1).toNat = i + 1 from by omega]
    exact ⟨⟨g0, by rw [hk]; exact h⟩, by rw [hk]; omega, ⟨by omega, by omega⟩, by omega, ⟨by omega, by omega⟩, ⟨rfl, rfl, by omega, by omega, rfl, rfl⟩, by omega⟩
  · have h := of_decide_eq_false h
    rw [show i = k from by omega]
    exact ⟨rfl, rfl⟩
theorem ok33 : SpecOk (base.with sp34) 33 (mkF ct33) := spec_ct (fn := Tryz.f33) (c := bodyOf Tryz.f33) (k := Tryz.f33.ntmps - ct33.ps.length) (ct := ct33) c34 Tryz.func33 (by kernel_rfl) ann33 (by kernel_rfl) (fun vs w _ => Tryz.call33 vs w) (by rw [e33]; exact vc33)
theorem c33 : (base.with sp33).Ok := addS_ok c34 ok33
end Go.Proofs.YteiecapbaeajdaaGreatDoor
namespace Go.Proofs.YteiecapbaeajdaaGreatDoor
open Go Go.Avc
set_option linter.unusedVariables false
/-- The story's bytes. -/
def spR : List (List CD) := ([1, 16, 0, 1, 1, 1, 0, 0, 0, 0, 0, 2, 3, 1, 0, 0, 0, 0, 0, 0, 1, 1, 0, 7, 2, 1, 0, 4] : List Int).map row1
def patR : List (List CD) := ([1, 1, 1, 0, 0, 0, 0, 0, 2, 3, 1, 0, 0, 0, 0, 0] : List Int).map row1
def calR (b : Int) : List (List CD) := [[.int 0, .int 1, .int 0, .sl [[.int b]]], [.int 2, .int 0, .int 1, .sl []], [.int 4, .int 0, .int 0, .sl []]]
/-- Where the reading stands. -/
def rdS (j : Nat) : List (List CD) × List (List CD) := (spR.drop ([19, 24, 27, 28].getD j 28), (calR 7).take j)
noncomputable def x10 : Code := match Tryz.f10.body with | some (.seq x _) => x | _ => .skip
noncomputable def z10 : Code := match Tryz.f10.body with | some (.seq _ (.seq _ z)) => z | _ => .skip
noncomputable def oa10 : Oper := match Tryz.f10.body with | some (.seq _ (.seq (.region _ os _) _)) => (os[0]?).getD default | _ => default
noncomputable def ob10 : Oper := match Tryz.f10.body with | some (.seq _ (.seq (.region _ os _) _)) => (os[1]?).getD default | _ => default
def ct10 : Ct := { ps := [rb], bs := [], pre := fun | [.r l] => l = spR | _ => False, res := fun | [.r l] => .ret (.tup [.agg [i64, rb, .own 0], i64]) [.own 84 callE] [.i 1, .r patR, .i 0, .r (calR 7)] | _ => noRes }
def ann10 : List Dat → Ann := fun _ => { cut := [], loop := [(5, [la 48 [(2, .ptr 0 0), (3, .ptr 1 0), (4, .ptr 2 0)] [.cells 26 [i64, rb, .own 3], .cells 27 [i64], .cells 90 [rb], .own 84 callE] (fun
  | [.i k, .r p, .i e, .r rest, .r l] => k = 1 ∧ p = patR ∧ e = 0 ∧ ((rest, l) = rdS 0 ∨ (rest, l) = rdS 1 ∨ (rest, l) = rdS 2 ∨ (rest, l) = rdS 3)
  | _ => False) (fun | [_, _, _, .r rest, _] => rest.length | _ => 0)])] }
end Go.Proofs.YteiecapbaeajdaaGreatDoor
namespace Go.Proofs.YteiecapbaeajdaaGreatDoor
open Go Go.Avc Go.Proofs
open Go.RowKit Go.Extern.Stop Go.Stop Go.Extern
set_option linter.unusedVariables false
set_option linter.unusedSimpArgs false
set_option maxRecDepth 100000
theorem idle32 : Idle Tryz.prog 32 2 := by
  intro vs w hvs
  refine ⟨Tryz.call32 vs w, ?_⟩
  have hbin : ∀ w : World, (binOp BinOp.neq 20 .nilIface .nilIface).run Tryz.prog w = .ok (.bool false) w := fun _ => by kernel_rfl
  have hnt : Tryz.f32.ntmps = 17 := by kernel_rfl
  obtain ⟨p, q, rfl⟩ : ∃ p q, vs = #[p, q] := by
    rcases vs with ⟨l⟩
    match l, hvs with
    | [p, q], _ => exact ⟨p, q, rfl⟩
  refine callsD_of_wpS Tryz.func32 rfl fun c₀ cs hu => ?_
  apply wpS_seq
  apply wpS_region
  simp [wpOpsS, go_sem, recoverD, hu, hnt, Exit.thenS]
  apply wpS_seq
  apply wpS_region
  simp [wpOpsS, go_sem, hbin, Exit.thenS]
  refine wpS_cond (t := false) (by simp [Act.eval, Array.replicate]) ?_
  simp only [if_false, Bool.false_eq_true]
  refine wpS_of_wp (wp_skip ?_)
  have hres : Tryz.f32.results = #[] := by kernel_rfl
  cases c₀
  simp_all [bodyPostS, results, Exit.thenS]
end Go.Proofs.YteiecapbaeajdaaGreatDoor
