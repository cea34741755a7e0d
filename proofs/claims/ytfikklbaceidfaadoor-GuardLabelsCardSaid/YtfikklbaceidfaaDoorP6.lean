/-
  Conditions of contracts, as the kernel reckons them (printed by a program of ours, checked by the kernel).
-/
import Derived.Test.YtfikklbaceidfaaDoorS6
namespace Go.Proofs.YtfikklbaceidfaaDoor
open Go Go.Avc Go.Proofs
set_option linter.unusedVariables false
set_option maxRecDepth 100000
def P6 : Prop :=
  ∀ (l : List (List CD)),
    l.length ≤ (9223372036854775807 : Nat) →
      pre6 l →
        pre22 l ∧
          bif decide ((prs (bytesOfRows l)).snd.snd ≠ (0 : Int)) then
            Miss (2 : Nat)
              { n := (0 : Nat), ov := [],
                tm :=
                  [SV.tup
                      [SV.nilp, SV.int Go.IntKind.i64 (prs (bytesOfRows l)).snd.fst,
                        SV.int Go.IntKind.i64 (prs (bytesOfRows l)).snd.snd]],
                hp :=
                  [Blk.own (51 : Go.TypeId) [CSh.int Go.IntKind.i64, CSh.int Go.IntKind.i64, CSh.int Go.IntKind.i64, CSh.str]
                      (rowsIt (prs (bytesOfRows l)).fst)],
                G := [] }
          else
            (-1 : Int) = (-1 : Int) ∧
              (0 : Int) = (0 : Int) ∧
                rowsIt (prs (bytesOfRows l)).fst =
                    rowsIt (prs (bytesOfRows l)).fst ∧
                  (0 : Int) = (0 : Int)
theorem e6 : ct6.VC (base.with sp5) Tryd.f6.results.toList Tryd.f6.ntmps (Tryd.f6.ntmps - ct6.ps.length) (bodyOf Tryd.f6) noAnn = P6 := by kernel_rfl
noncomputable def sp6 : SpecT := addS sp5 6 (mkF ct6)
def P23a : Prop :=
  ∀ (n : Int) (l : List (List CD)) (n_1 : Int),
    l.length ≤ (9223372036854775807 : Nat) →
      True →
        bif true && decide (n ≠ (0 : Int)) then
          bif decide (n = (0 : Int)) then
            Miss (2 : Nat)
              { n := (0 : Nat), ov := [], tm := [SV.int Go.IntKind.i64 n],
                hp :=
                  [Blk.cells (50 : Go.TypeId)
                      [SV.rd [CSh.int Go.IntKind.i64, CSh.int Go.IntKind.i64, CSh.int Go.IntKind.i64, CSh.str] l, SV.int Go.IntKind.i64 n_1,
                        SV.ptr (1 : Nat) (0 : Nat)],
                    Blk.cells (59 : Nat) [SV.int Go.IntKind.i64 n]],
                G := [] }
          else n = n ∧ l = l ∧ n_1 = n_1 ∧ n = n
        else
          bif decide (n = (0 : Int)) then (0 : Int) = (0 : Int) ∧ l = l ∧ n_1 = n_1
          else
            Miss (2 : Nat)
              { n := (0 : Nat), ov := [], tm := [SV.int Go.IntKind.i64 (0 : Int)],
                hp :=
                  [Blk.cells (50 : Go.TypeId)
                      [SV.rd [CSh.int Go.IntKind.i64, CSh.int Go.IntKind.i64, CSh.int Go.IntKind.i64, CSh.str] l, SV.int Go.IntKind.i64 n_1,
                        SV.nilp]],
                G := [] }
theorem e23a : ct23a.VC (base.with sp6) Tryd.f23.results.toList Tryd.f23.ntmps (Tryd.f23.ntmps - ct23a.ps.length) (bodyOf Tryd.f23) noAnn = P23a := by kernel_rfl
def P23b : Prop :=
  ∀ (n : Int) (l : List (List CD)) (n n_1 : Int), l.length ≤ (9223372036854775807 : Nat) → True → n_1 = n_1 ∧ l = l ∧ n = n ∧ n_1 = n_1
theorem e23b : ct23b.VC (base.with sp6) Tryd.f23.results.toList Tryd.f23.ntmps (Tryd.f23.ntmps - ct23b.ps.length) (bodyOf Tryd.f23) noAnn = P23b := by kernel_rfl
noncomputable def sp23 : SpecT := addS sp6 23 (altF ct23a (mkF ct23b))
def P15a : Prop :=
  ∀ (b : Bool) (n : Int) (l : List (List CD)) (n_1 : Int),
    l.length ≤ (9223372036854775807 : Nat) →
      n ≠ (0 : Int) →
        bif b then
          True ∧
            bif b then (0 : Int) = (0 : Int) ∧ l = l ∧ n_1 = n_1
            else
              Miss (2 : Nat)
                { n := (0 : Nat), ov := [], tm := [SV.int Go.IntKind.i64 (0 : Int)],
                  hp :=
                    [Blk.cells (50 : Go.TypeId)
                        [SV.rd [CSh.int Go.IntKind.i64, CSh.int Go.IntKind.i64, CSh.int Go.IntKind.i64, CSh.str] l,
                          SV.int Go.IntKind.i64 n_1, SV.nilp]],
                  G := [] }
        else
          True ∧
            bif decide (n = (0 : Int)) then
              bif b then (0 : Int) = (0 : Int) ∧ l = l ∧ n_1 = n_1
              else
                Miss (2 : Nat)
                  { n := (0 : Nat), ov := [], tm := [SV.int Go.IntKind.i64 (0 : Int)],
                    hp :=
                      [Blk.cells (50 : Go.TypeId)
                          [SV.rd [CSh.int Go.IntKind.i64, CSh.int Go.IntKind.i64, CSh.int Go.IntKind.i64, CSh.str] l,
                            SV.int Go.IntKind.i64 n_1, SV.nilp]],
                    G := [] }
            else
              bif b then
                Miss (2 : Nat)
                  { n := (0 : Nat), ov := [], tm := [SV.int Go.IntKind.i64 n],
                    hp :=
                      [Blk.cells (50 : Go.TypeId)
                          [SV.rd [CSh.int Go.IntKind.i64, CSh.int Go.IntKind.i64, CSh.int Go.IntKind.i64, CSh.str] l,
                            SV.int Go.IntKind.i64 n_1, SV.ptr (1 : Nat) (0 : Nat)],
                        Blk.cells (59 : Go.TypeId) [SV.int Go.IntKind.i64 n]],
                    G := [] }
              else n = n ∧ l = l ∧ n_1 = n_1 ∧ n = n
theorem e15a : ct15a.VC (base.with sp23) Tryd.f15.results.toList Tryd.f15.ntmps (Tryd.f15.ntmps - ct15a.ps.length) (bodyOf Tryd.f15) noAnn = P15a := by kernel_rfl
def P15b : Prop :=
  ∀ (b : Bool) (n : Int) (l : List (List CD)) (n n_1 : Int),
    l.length ≤ (9223372036854775807 : Nat) → True → bif b then True ∧ n_1 = n_1 ∧ l = l ∧ n = n ∧ n_1 = n_1 else True ∧ n_1 = n_1 ∧ l = l ∧ n = n ∧ n_1 = n_1
theorem e15b : ct15b.VC (base.with sp23) Tryd.f15.results.toList Tryd.f15.ntmps (Tryd.f15.ntmps - ct15b.ps.length) (bodyOf Tryd.f15) noAnn = P15b := by kernel_rfl
noncomputable def sp15 : SpecT := addS sp23 15 (altF ct15a (mkF ct15b))
def P10a : Prop :=
  ∀ (n n_1 n_2 : Int) (l : List (List CD)) (n_3 : Int),
    l.length ≤ (9223372036854775807 : Nat) →
      pre10 l n_3 →
        (decide (n_3 < (↑l.length : Int)) = true → (0 : Int) ≤ n_3 ∧ n_3 < (↑l.length : Int)) ∧
          (decide (n_3 < (↑l.length : Int)) = true → n_3.toNat < l.length) ∧
            (decide (n_3 < (↑l.length : Int)) = true → True) ∧
              (10 : Int) ≠ (0 : Int) ∧
                bif
                    decide (n_3 < (↑l.length : Int)) &&
                      sameB ((l.getD n_3.toNat []).getD (0 : Nat) (CD.int (0 : Int))).toInt
                        ((l.getD n_3.toNat []).getD (1 : Nat) (CD.int (0 : Int))).toInt ((l.getD n_3.toNat []).getD (2 : Nat) (CD.int (0 : Int))).toInt n n_1 n_2 then
                  ((-9223372036854775808 : Int) ≤ n_3 + (1 : Int) ∧ n_3 + (1 : Int) ≤ (9223372036854775807 : Int)) ∧
                    bif hit l n_3 n n_1 n_2 then (0 : Int) = (0 : Int) ∧ l = l ∧ n_3 + (1 : Int) = n_3 + (1 : Int)
                    else
                      Miss (2 : Nat)
                        { n := (0 : Nat), ov := [], tm := [SV.int Go.IntKind.i64 (0 : Int)],
                          hp :=
                            [Blk.cells (50 : Go.TypeId)
                                [SV.rd [CSh.int Go.IntKind.i64, CSh.int Go.IntKind.i64, CSh.int Go.IntKind.i64, CSh.str] l,
                                  SV.int Go.IntKind.i64 (n_3 + (1 : Int)), SV.nilp],
                              Blk.cells (51 : Nat) [SV.int Go.IntKind.i64 n, SV.int Go.IntKind.i64 n_1, SV.int Go.IntKind.i64 n_2, SV.str []]],
                          G := [] }
                else
                  bif hit l n_3 n n_1 n_2 then
                    Miss (2 : Nat)
                      { n := (0 : Nat), ov := [], tm := [SV.int Go.IntKind.i64 (10 : Int)],
                        hp :=
                          [Blk.cells (50 : Go.TypeId)
                              [SV.rd [CSh.int Go.IntKind.i64, CSh.int Go.IntKind.i64, CSh.int Go.IntKind.i64, CSh.str] l,
                                SV.int Go.IntKind.i64 n_3, SV.ptr (2 : Nat) (0 : Nat)],
                            Blk.cells (51 : Nat) [SV.int Go.IntKind.i64 n, SV.int Go.IntKind.i64 n_1, SV.int Go.IntKind.i64 n_2, SV.str []],
                            Blk.cells (59 : Go.TypeId) [SV.int Go.IntKind.i64 (10 : Int)]],
                        G := [] }
                  else (10 : Int) = (10 : Int) ∧ l = l ∧ n_3 = n_3 ∧ (10 : Int) = (10 : Int)
theorem e10a : ct10a.VC (base.with sp15) Tryd.f10.results.toList Tryd.f10.ntmps (Tryd.f10.ntmps - ct10a.ps.length) (bodyOf Tryd.f10) noAnn = P10a := by kernel_rfl
def P10b : Prop :=
  ∀ (n n n : Int) (l : List (List CD)) (n n_1 : Int),
    l.length ≤ (9223372036854775807 : Nat) →
      pre10 l n ∧ n_1 ≠ (0 : Int) →
        (decide (n < (↑l.length : Int)) = true → (0 : Int) ≤ n ∧ n < (↑l.length : Int)) ∧
          (decide (n < (↑l.length : Int)) = true → n.toNat < l.length) ∧
            (decide (n < (↑l.length : Int)) = true → True) ∧
              True ∧
                bif decide (n_1 = (0 : Int)) then
                  ((-9223372036854775808 : Int) ≤ n + (1 : Int) ∧ n + (1 : Int) ≤ (9223372036854775807 : Int)) ∧ n_1 = n_1 ∧ l = l ∧ n + (1 : Int) = n ∧ n_1 = n_1
                else n_1 = n_1 ∧ l = l ∧ n = n ∧ n_1 = n_1
theorem e10b : ct10b.VC (base.with sp15) Tryd.f10.results.toList Tryd.f10.ntmps (Tryd.f10.ntmps - ct10b.ps.length) (bodyOf Tryd.f10) noAnn = P10b := by kernel_rfl
noncomputable def sp10 : SpecT := addS sp15 10 (altF ct10a (mkF ct10b))
def P11a : Prop :=
  ∀ (l : List (List CD)) (n : Int),
    l.length ≤ (9223372036854775807 : Nat) →
      True →
        (12 : Int) ≠ (0 : Int) ∧
          bif decide (n = (↑l.length : Int)) then
            bif decide (n = (↑l.length : Int)) then (0 : Int) = (0 : Int) ∧ l = l ∧ n = n
            else
              Miss (2 : Nat)
                { n := (0 : Nat), ov := [], tm := [SV.int Go.IntKind.i64 (0 : Int)],
                  hp :=
                    [Blk.cells (50 : Go.TypeId)
                        [SV.rd [CSh.int Go.IntKind.i64, CSh.int Go.IntKind.i64, CSh.int Go.IntKind.i64, CSh.str] l, SV.int Go.IntKind.i64 n,
                          SV.nilp]],
                  G := [] }
          else
            bif decide (n = (↑l.length : Int)) then
              Miss (2 : Nat)
                { n := (0 : Nat), ov := [], tm := [SV.int Go.IntKind.i64 (12 : Int)],
                  hp :=
                    [Blk.cells (50 : Go.TypeId)
                        [SV.rd [CSh.int Go.IntKind.i64, CSh.int Go.IntKind.i64, CSh.int Go.IntKind.i64, CSh.str] l, SV.int Go.IntKind.i64 n,
                          SV.ptr (1 : Nat) (0 : Nat)],
                      Blk.cells (59 : Go.TypeId) [SV.int Go.IntKind.i64 (12 : Int)]],
                  G := [] }
            else (12 : Int) = (12 : Int) ∧ l = l ∧ n = n ∧ (12 : Int) = (12 : Int)
theorem e11a : ct11a.VC (base.with sp10) Tryd.f11.results.toList Tryd.f11.ntmps (Tryd.f11.ntmps - ct11a.ps.length) (bodyOf Tryd.f11) noAnn = P11a := by kernel_rfl
def P11b : Prop :=
  ∀ (l : List (List CD)) (n n_1 : Int), l.length ≤ (9223372036854775807 : Nat) → True → True ∧ n_1 = n_1 ∧ l = l ∧ n = n ∧ n_1 = n_1
theorem e11b : ct11b.VC (base.with sp10) Tryd.f11.results.toList Tryd.f11.ntmps (Tryd.f11.ntmps - ct11b.ps.length) (bodyOf Tryd.f11) noAnn = P11b := by kernel_rfl
noncomputable def sp11 : SpecT := addS sp10 11 (altF ct11a (mkF ct11b))
def P4 : Prop :=
  True →
    pre6 [] ∧
      ((decide ((0 : Int) = (0 : Int)) && decide ((-1 : Int) = (-1 : Int)) && !false) = true → True) ∧
        ((decide ((0 : Int) = (0 : Int)) && decide ((-1 : Int) = (-1 : Int)) && !false) = true →
            ((true && decide ((0 : Int) = (0 : Int))) = true → pre10 [] (0 : Int)) ∧
              ((true && decide ((0 : Int) = (0 : Int))) = true →
                  ((true && decide ((10 : Int) = (10 : Int))) = true → True) ∧
                    ((true && decide ((10 : Int) = (10 : Int))) = true → (true && decide ((10 : Int) = (10 : Int))) = true) ∧
                      ((true && decide ((10 : Int) = (10 : Int))) = false → ((!true) = true → False) ∧ false = true)) ∧
                ((true && decide ((0 : Int) = (0 : Int))) = false →
                  ((!true) = true → False) ∧
                    (false = true → True) ∧ (false = true → (true && decide ((0 : Int) = (10 : Int))) = true) ∧ (false = false → ((!true) = true → False) ∧ false = true))) ∧
          ((decide ((0 : Int) = (0 : Int)) && decide ((-1 : Int) = (-1 : Int)) && !false) = false →
            ((!true) = true → False) ∧
              (false = true → pre10 [] (0 : Int)) ∧
                (false = true →
                    ((true && decide ((10 : Int) = (10 : Int))) = true → True) ∧
                      ((true && decide ((10 : Int) = (10 : Int))) = true → (true && decide ((10 : Int) = (10 : Int))) = true) ∧
                        ((true && decide ((10 : Int) = (10 : Int))) = false → ((!true) = true → False) ∧ false = true)) ∧
                  (false = false →
                    ((!true) = true → False) ∧
                      (false = true → True) ∧ (false = true → (true && decide ((0 : Int) = (10 : Int))) = true) ∧ (false = false → ((!true) = true → False) ∧ false = true)))
theorem e4 : ct4.VC (base.with sp11) Tryd.f4.results.toList Tryd.f4.ntmps (Tryd.f4.ntmps - ct4.ps.length) (bodyOf Tryd.f4) noAnn = P4 := by kernel_rfl
noncomputable def sp4 : SpecT := addS sp11 4 (mkF ct4)
def P8 : Prop :=
  ∀ (l : List (List CD)) (n : Int), l.length ≤ (9223372036854775807 : Nat) → True → n = n ∧ l = l ∧ n = n
theorem e8 : ct8.VC (base.with sp4) Tryd.f8.results.toList Tryd.f8.ntmps (Tryd.f8.ntmps - ct8.ps.length) (bodyOf Tryd.f8) noAnn = P8 := by kernel_rfl
noncomputable def sp8 : SpecT := addS sp4 8 (mkF ct8)
def P9 : Prop :=
  ∀ (l : List (List CD)) (n : Int), l.length ≤ (9223372036854775807 : Nat) → True → l = l ∧ n = n
theorem e9 : ct9.VC (base.with sp8) Tryd.f9.results.toList Tryd.f9.ntmps (Tryd.f9.ntmps - ct9.ps.length) (bodyOf Tryd.f9) noAnn = P9 := by kernel_rfl
noncomputable def sp9 : SpecT := addS sp8 9 (mkF ct9)
def P7 : Prop :=
  ∀ (l : List (List CD)) (n : Int),
    l.length ≤ (9223372036854775807 : Nat) →
      (0 : Int) ≤ n ∧ n ≤ (↑l.length : Int) →
        bif !true || decide (n = (↑l.length : Int)) then
          [] = lab l n ∧ ((13 : Int) = if n = (↑l.length : Int) then (13 : Int) else (0 : Int)) ∧ l = l ∧ n = n
        else
          ((0 : Int) ≤ n ∧ n < (↑l.length : Int)) ∧
            n.toNat < l.length ∧
              n.toNat < l.length ∧
                ((l.getD n.toNat []).getD (3 : Nat) (CD.int (0 : Int))).toStr = lab l n ∧
                  ((0 : Int) = if n = (↑l.length : Int) then (13 : Int) else (0 : Int)) ∧ l = l ∧ n = n
theorem e7 : ct7.VC (base.with sp9) Tryd.f7.results.toList Tryd.f7.ntmps (Tryd.f7.ntmps - ct7.ps.length) (bodyOf Tryd.f7) noAnn = P7 := by kernel_rfl
noncomputable def sp7 : SpecT := addS sp9 7 (mkF ct7)
def P12 : Prop :=
  ∀ (l : List (List CD)) (n : Int), l.length ≤ (9223372036854775807 : Nat) → True → True ∧ (0 : Int) = (0 : Int) ∧ l = l ∧ n = n
theorem e12 : ct12.VC (base.with sp7) Tryd.f12.results.toList Tryd.f12.ntmps (Tryd.f12.ntmps - ct12.ps.length) (bodyOf Tryd.f12) noAnn = P12 := by kernel_rfl
noncomputable def sp12 : SpecT := addS sp7 12 (mkF ct12)
def P3 : Prop :=
  ∀ (l : List (List CD)),
    l.length ≤ (9223372036854775807 : Nat) →
      True →
        True ∧
          (((bw false !true) = true → l.length ≤ (9223372036854775807 : Nat)) →
            bif !true || decide ((40 : Int) < (↑l.length : Int)) then True ∧ true = true
            else
              preL l ∧
                (bif decide ((ser (itsOf l)).snd.snd ≠ (0 : Int)) then true = true
                  else
                    (R3 l l ∧
                        rowsOfBytes (ser (itsOf l)).fst =
                          rowsOfBytes (ser (itsOf l)).fst) ∧
                      True) ∧
                  ∀ (l_1 l_2 : List (List CD)),
                    l_1.length ≤ (9223372036854775807 : Nat) →
                      l_2.length ≤ (9223372036854775807 : Nat) →
                        R3 l l_1 ∧ l_2 = rowsOfBytes (ser (itsOf l)).fst →
                          pre6 l_2 ∧
                            (l_1.length ≤ (9223372036854775807 : Nat) →
                              (R3L l l_1 l_1 (rowsIt (prs (bytesOfRows l_2)).fst)
                                    (↑l_1.length : Int) (0 : Int) (0 : Int) ∧
                                  True) ∧
                                ∀ (l_3 l_4 : List (List CD)) (n n_1 : Int) (l_5 : List (List CD)) (n_2 : Int),
                                  l_3.length ≤ (9223372036854775807 : Nat) →
                                    l_4.length ≤ (9223372036854775807 : Nat) →
                                      l_5.length ≤ (9223372036854775807 : Nat) →
                                        R3L l l_3 l_4 l_5 n n_1 n_2 →
                                          bif decide (n_1 < n) then
                                            ((0 : Int) ≤ n_1 ∧ n_1 < (↑l_4.length : Int)) ∧
                                              n_1.toNat < l_4.length ∧
                                                ((0 : Int) ≤ n_2 ∧ n_2 ≤ (↑l_5.length : Int)) ∧
                                                  ((!(decide ((if n_2 = (↑l_5.length : Int) then (13 : Int) else (0 : Int)) ≠ (0 : Int)) ||
                                                            decide
                                                              (lab l_5 n_2 ≠
                                                                ((l_4.getD n_1.toNat []).getD (3 : Nat) (CD.int (0 : Int))).toStr))) =
                                                        true →
                                                      True) ∧
                                                    ((!(decide ((if n_2 = (↑l_5.length : Int) then (13 : Int) else (0 : Int)) ≠ (0 : Int)) ||
                                                              decide
                                                                (lab l_5 n_2 ≠
                                                                  ((l_4.getD n_1.toNat []).getD (3 : Nat) (CD.int (0 : Int))).toStr))) =
                                                          true →
                                                        ((!(false || decide (n_2 ≠ n_1))) = true → True) ∧
                                                          ((!(false || decide (n_2 ≠ n_1))) = true →
                                                              ((!(false || false)) = true → pre10 l_5 n_2) ∧
                                                                bif
                                                                    hit l_5 n_2
                                                                      ((l_4.getD n_1.toNat []).getD (0 : Nat) (CD.int (0 : Int))).toInt
                                                                      ((l_4.getD n_1.toNat []).getD (1 : Nat) (CD.int (0 : Int))).toInt
                                                                      ((l_4.getD n_1.toNat []).getD (2 : Nat) (CD.int (0 : Int))).toInt then
                                                                  ((!(false || false)) = true →
                                                                      ((-9223372036854775808 : Int) ≤ n_1 + (1 : Int) ∧ n_1 + (1 : Int) ≤ (9223372036854775807 : Int)) ∧
                                                                        R3L l l_3 l_4 l_5 n (n_1 + (1 : Int)) (n_2 + (1 : Int)) ∧
                                                                          (n - (n_1 + (1 : Int))).toNat < (n - n_1).toNat) ∧
                                                                    ((!(false || false)) = false → ((!!false) = true → False) ∧ false = true)
                                                                else
                                                                  ((!(false || false)) = true → false = true) ∧
                                                                    ((!(false || false)) = false → ((!!false) = true → False) ∧ false = true)) ∧
                                                            ((!(false || decide (n_2 ≠ n_1))) = false →
                                                              ((!!false) = true → False) ∧
                                                                ((!true) = true → pre10 l_5 n_2) ∧
                                                                  bif
                                                                      hit l_5 n_2
                                                                        ((l_4.getD n_1.toNat []).getD (0 : Nat) (CD.int (0 : Int))).toInt
                                                                        ((l_4.getD n_1.toNat []).getD (1 : Nat) (CD.int (0 : Int))).toInt
                                                                        ((l_4.getD n_1.toNat []).getD (2 : Nat) (CD.int (0 : Int))).toInt then
                                                                    ((!true) = true →
                                                                        ((-9223372036854775808 : Int) ≤ n_1 + (1 : Int) ∧ n_1 + (1 : Int) ≤ (9223372036854775807 : Int)) ∧
                                                                          R3L l l_3 l_4 l_5 n (n_1 + (1 : Int)) (n_2 + (1 : Int)) ∧
                                                                            (n - (n_1 + (1 : Int))).toNat < (n - n_1).toNat) ∧
                                                                      ((!true) = false → ((!!false) = true → False) ∧ false = true)
                                                                  else ((!true) = true → false = true) ∧ ((!true) = false → ((!!false) = true → False) ∧ false = true))) ∧
                                                      ((!(decide ((if n_2 = (↑l_5.length : Int) then (13 : Int) else (0 : Int)) ≠ (0 : Int)) ||
                                                              decide
                                                                (lab l_5 n_2 ≠
                                                                  ((l_4.getD n_1.toNat []).getD (3 : Nat) (CD.int (0 : Int))).toStr))) =
                                                          false →
                                                        ((!!false) = true → False) ∧
                                                          ((!true) = true → True) ∧
                                                            ((!true) = true →
                                                                ((!(false || false)) = true → pre10 l_5 n_2) ∧
                                                                  bif
                                                                      hit l_5 n_2
                                                                        ((l_4.getD n_1.toNat []).getD (0 : Nat) (CD.int (0 : Int))).toInt
                                                                        ((l_4.getD n_1.toNat []).getD (1 : Nat) (CD.int (0 : Int))).toInt
                                                                        ((l_4.getD n_1.toNat []).getD (2 : Nat) (CD.int (0 : Int))).toInt then
                                                                    ((!(false || false)) = true →
                                                                        ((-9223372036854775808 : Int) ≤ n_1 + (1 : Int) ∧ n_1 + (1 : Int) ≤ (9223372036854775807 : Int)) ∧
                                                                          R3L l l_3 l_4 l_5 n (n_1 + (1 : Int)) (n_2 + (1 : Int)) ∧
                                                                            (n - (n_1 + (1 : Int))).toNat < (n - n_1).toNat) ∧
                                                                      ((!(false || false)) = false → ((!!false) = true → False) ∧ false = true)
                                                                  else
                                                                    ((!(false || false)) = true → false = true) ∧
                                                                      ((!(false || false)) = false → ((!!false) = true → False) ∧ false = true)) ∧
                                                              ((!true) = false →
                                                                ((!!false) = true → False) ∧
                                                                  ((!true) = true → pre10 l_5 n_2) ∧
                                                                    bif
                                                                        hit l_5 n_2
                                                                          ((l_4.getD n_1.toNat []).getD (0 : Nat) (CD.int (0 : Int))).toInt
                                                                          ((l_4.getD n_1.toNat []).getD (1 : Nat) (CD.int (0 : Int))).toInt
                                                                          ((l_4.getD n_1.toNat []).getD (2 : Nat) (CD.int (0 : Int))).toInt then
                                                                      ((!true) = true →
                                                                          ((-9223372036854775808 : Int) ≤ n_1 + (1 : Int) ∧ n_1 + (1 : Int) ≤ (9223372036854775807 : Int)) ∧
                                                                            R3L l l_3 l_4 l_5 n (n_1 + (1 : Int)) (n_2 + (1 : Int)) ∧
                                                                              (n - (n_1 + (1 : Int))).toNat < (n - n_1).toNat) ∧
                                                                        ((!true) = false → ((!!false) = true → False) ∧ false = true)
                                                                    else ((!true) = true → false = true) ∧ ((!true) = false → ((!!false) = true → False) ∧ false = true)))
                                          else
                                            ((0 : Int) ≤ n_2 ∧ n_2 ≤ (↑l_5.length : Int)) ∧
                                              ((decide (lab l_5 n_2 = []) &&
                                                      decide ((if n_2 = (↑l_5.length : Int) then (13 : Int) else (0 : Int)) = (13 : Int))) =
                                                    true →
                                                  True) ∧
                                                ((decide (lab l_5 n_2 = []) &&
                                                        decide ((if n_2 = (↑l_5.length : Int) then (13 : Int) else (0 : Int)) = (13 : Int))) =
                                                      true →
                                                    (bw true true = true → l_3.length ≤ (9223372036854775807 : Nat)) →
                                                      ((true && decide (n_2 = (↑l_3.length : Int))) = true → True) ∧
                                                        bif decide (n_2 = (↑l_5.length : Int)) then
                                                          ((true && decide (n_2 = (↑l_3.length : Int))) = true →
                                                              ((true && decide ((0 : Int) = (0 : Int))) = true → True) ∧
                                                                ((true && decide ((0 : Int) = (0 : Int))) = true → (true && decide ((0 : Int) = (0 : Int))) = true) ∧
                                                                  ((true && decide ((0 : Int) = (0 : Int))) = false → ((!true) = true → False) ∧ false = true)) ∧
                                                            ((true && decide (n_2 = (↑l_3.length : Int))) = false →
                                                              ((!true) = true → False) ∧
                                                                (false = true → True) ∧
                                                                  (false = true → (true && decide ((0 : Int) = (0 : Int))) = true) ∧
                                                                    (false = false → ((!true) = true → False) ∧ false = true))
                                                        else
                                                          ((true && decide (n_2 = (↑l_3.length : Int))) = true →
                                                              ((true && decide ((12 : Int) = (0 : Int))) = true → False) ∧
                                                                ((true && decide ((12 : Int) = (0 : Int))) = true → False) ∧ false = true) ∧
                                                            ((true && decide (n_2 = (↑l_3.length : Int))) = false →
                                                              ((!true) = true → False) ∧
                                                                (false = true → True) ∧
                                                                  (false = true → (true && decide ((0 : Int) = (0 : Int))) = true) ∧
                                                                    (false = false → ((!true) = true → False) ∧ false = true))) ∧
                                                  ((decide (lab l_5 n_2 = []) &&
                                                        decide ((if n_2 = (↑l_5.length : Int) then (13 : Int) else (0 : Int)) = (13 : Int))) =
                                                      false →
                                                    ((bw true !true) = true → l_3.length ≤ (9223372036854775807 : Nat)) →
                                                      ((!true) = true → False) ∧
                                                        (false = true → True) ∧
                                                          bif decide (n_2 = (↑l_5.length : Int)) then
                                                            (false = true →
                                                                ((true && decide ((0 : Int) = (0 : Int))) = true → True) ∧
                                                                  ((true && decide ((0 : Int) = (0 : Int))) = true → (true && decide ((0 : Int) = (0 : Int))) = true) ∧
                                                                    ((true && decide ((0 : Int) = (0 : Int))) = false → ((!true) = true → False) ∧ false = true)) ∧
                                                              (false = false →
                                                                ((!true) = true → False) ∧
                                                                  (false = true → True) ∧
                                                                    (false = true → (true && decide ((0 : Int) = (0 : Int))) = true) ∧
                                                                      (false = false → ((!true) = true → False) ∧ false = true))
                                                          else
                                                            (false = true →
                                                                ((true && decide ((12 : Int) = (0 : Int))) = true → False) ∧
                                                                  ((true && decide ((12 : Int) = (0 : Int))) = true → False) ∧ false = true) ∧
                                                              (false = false →
                                                                ((!true) = true → False) ∧
                                                                  (false = true → True) ∧
                                                                    (false = true → (true && decide ((0 : Int) = (0 : Int))) = true) ∧
                                                                      (false = false → ((!true) = true → False) ∧ false = true)))))
theorem e3 : ct3.VC (base.with sp12) Tryd.f3.results.toList Tryd.f3.ntmps (Tryd.f3.ntmps - ct3.ps.length) (bodyOf Tryd.f3) ann3 = P3 := by kernel_rfl
noncomputable def sp3 : SpecT := addS sp12 3 (mkF ct3)
end Go.Proofs.YtfikklbaceidfaaDoor
