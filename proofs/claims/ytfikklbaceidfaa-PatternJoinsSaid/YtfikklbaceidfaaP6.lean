/-
  Conditions of contracts, as the kernel reckons them (printed by a program of ours, checked by the kernel).
-/
import Derived.Test.YtfikklbaceidfaaS6
namespace Go.Proofs.Ytfikklbaceidfaa
open Go Go.Avc Go.Proofs
set_option linter.unusedVariables false
set_option maxRecDepth 100000
def P31 : Prop :=
  ∀ (l : List (List CD)),
    l.length ≤ (9223372036854775807 : Nat) →
      pre31 l →
        pre20 l ∧
          bif decide ((prs (bytesOfRows l)).snd.snd ≠ (0 : Int)) then
            Miss (2 : Nat)
              { n := (0 : Nat), ov := [],
                tm :=
                  [SV.tup
                      [SV.nilp, SV.int Go.IntKind.i64 (prs (bytesOfRows l)).snd.fst,
                        SV.int Go.IntKind.i64 (prs (bytesOfRows l)).snd.snd]],
                hp :=
                  [Blk.own (26 : Go.TypeId) [CSh.int Go.IntKind.i64, CSh.int Go.IntKind.i64, CSh.int Go.IntKind.i64, CSh.str]
                      (rowsIt (prs (bytesOfRows l)).fst)],
                G := [] }
          else
            (-1 : Int) = (-1 : Int) ∧
              (0 : Int) = (0 : Int) ∧
                rowsIt (prs (bytesOfRows l)).fst =
                    rowsIt (prs (bytesOfRows l)).fst ∧
                  (0 : Int) = (0 : Int)
theorem e31 : ct31.VC (base.with sp8) Try.f31.results.toList Try.f31.ntmps (Try.f31.ntmps - ct31.ps.length) (bodyOf Try.f31) noAnn = P31 := by kernel_rfl
noncomputable def sp31 : SpecT := addS sp8 31 (mkF ct31)
def P55a : Prop :=
  ∀ (n : Int) (l : List (List CD)) (n_1 : Int),
    l.length ≤ (9223372036854775807 : Nat) →
      True →
        bif true && decide (n ≠ (0 : Int)) then
          bif decide (n = (0 : Int)) then
            Miss (2 : Nat)
              { n := (0 : Nat), ov := [], tm := [SV.int Go.IntKind.i64 n],
                hp :=
                  [Blk.cells (89 : Go.TypeId)
                      [SV.rd [CSh.int Go.IntKind.i64, CSh.int Go.IntKind.i64, CSh.int Go.IntKind.i64, CSh.str] l, SV.int Go.IntKind.i64 n_1,
                        SV.ptr (1 : Nat) (0 : Nat)],
                    Blk.cells (98 : Nat) [SV.int Go.IntKind.i64 n]],
                G := [] }
          else n = n ∧ l = l ∧ n_1 = n_1 ∧ n = n
        else
          bif decide (n = (0 : Int)) then (0 : Int) = (0 : Int) ∧ l = l ∧ n_1 = n_1
          else
            Miss (2 : Nat)
              { n := (0 : Nat), ov := [], tm := [SV.int Go.IntKind.i64 (0 : Int)],
                hp :=
                  [Blk.cells (89 : Go.TypeId)
                      [SV.rd [CSh.int Go.IntKind.i64, CSh.int Go.IntKind.i64, CSh.int Go.IntKind.i64, CSh.str] l, SV.int Go.IntKind.i64 n_1,
                        SV.nilp]],
                G := [] }
theorem e55a : ct55a.VC (base.with sp31) Try.f55.results.toList Try.f55.ntmps (Try.f55.ntmps - ct55a.ps.length) (bodyOf Try.f55) noAnn = P55a := by kernel_rfl
def P55b : Prop :=
  ∀ (n : Int) (l : List (List CD)) (n n_1 : Int), l.length ≤ (9223372036854775807 : Nat) → True → n_1 = n_1 ∧ l = l ∧ n = n ∧ n_1 = n_1
theorem e55b : ct55b.VC (base.with sp31) Try.f55.results.toList Try.f55.ntmps (Try.f55.ntmps - ct55b.ps.length) (bodyOf Try.f55) noAnn = P55b := by kernel_rfl
noncomputable def sp55 : SpecT := addS sp31 55 (altF ct55a (mkF ct55b))
def P50a : Prop :=
  ∀ (b : Bool) (n : Int) (l : List (List CD)) (n_1 : Int),
    l.length ≤ (9223372036854775807 : Nat) →
      n ≠ (0 : Int) →
        bif b then
          True ∧
            bif b then (0 : Int) = (0 : Int) ∧ l = l ∧ n_1 = n_1
            else
              Miss (2 : Nat)
                { n := (0 : Nat), ov := [], tm := [SV.int Go.IntKind.i64 (0 : Int)],
                  hp :=
                    [Blk.cells (89 : Go.TypeId)
                        [SV.rd [CSh.int Go.IntKind.i64, CSh.int Go.IntKind.i64, CSh.int Go.IntKind.i64, CSh.str] l,
                          SV.int Go.IntKind.i64 n_1, SV.nilp]],
                  G := [] }
        else
          True ∧
            bif decide (n = (0 : Int)) then
              bif b then (0 : Int) = (0 : Int) ∧ l = l ∧ n_1 = n_1
              else
                Miss (2 : Nat)
                  { n := (0 : Nat), ov := [], tm := [SV.int Go.IntKind.i64 (0 : Int)],
                    hp :=
                      [Blk.cells (89 : Go.TypeId)
                          [SV.rd [CSh.int Go.IntKind.i64, CSh.int Go.IntKind.i64, CSh.int Go.IntKind.i64, CSh.str] l,
                            SV.int Go.IntKind.i64 n_1, SV.nilp]],
                    G := [] }
            else
              bif b then
                Miss (2 : Nat)
                  { n := (0 : Nat), ov := [], tm := [SV.int Go.IntKind.i64 n],
                    hp :=
                      [Blk.cells (89 : Go.TypeId)
                          [SV.rd [CSh.int Go.IntKind.i64, CSh.int Go.IntKind.i64, CSh.int Go.IntKind.i64, CSh.str] l,
                            SV.int Go.IntKind.i64 n_1, SV.ptr (1 : Nat) (0 : Nat)],
                        Blk.cells (98 : Go.TypeId) [SV.int Go.IntKind.i64 n]],
                    G := [] }
              else n = n ∧ l = l ∧ n_1 = n_1 ∧ n = n
theorem e50a : ct50a.VC (base.with sp55) Try.f50.results.toList Try.f50.ntmps (Try.f50.ntmps - ct50a.ps.length) (bodyOf Try.f50) noAnn = P50a := by kernel_rfl
def P50b : Prop :=
  ∀ (b : Bool) (n : Int) (l : List (List CD)) (n n_1 : Int),
    l.length ≤ (9223372036854775807 : Nat) → True → bif b then True ∧ n_1 = n_1 ∧ l = l ∧ n = n ∧ n_1 = n_1 else True ∧ n_1 = n_1 ∧ l = l ∧ n = n ∧ n_1 = n_1
theorem e50b : ct50b.VC (base.with sp55) Try.f50.results.toList Try.f50.ntmps (Try.f50.ntmps - ct50b.ps.length) (bodyOf Try.f50) noAnn = P50b := by kernel_rfl
noncomputable def sp50 : SpecT := addS sp55 50 (altF ct50a (mkF ct50b))
def P33a : Prop :=
  ∀ (n n_1 n_2 : Int) (l : List (List CD)) (n_3 : Int),
    l.length ≤ (9223372036854775807 : Nat) →
      pre33 l n_3 →
        (decide (n_3 < (↑l.length : Int)) = true → (0 : Int) ≤ n_3 ∧ n_3 < (↑l.length : Int)) ∧
          (decide (n_3 < (↑l.length : Int)) = true → n_3.toNat < l.length) ∧
            (decide (n_3 < (↑l.length : Int)) = true → True) ∧
              (10 : Int) ≠ (0 : Int) ∧
                bif
                    decide (n_3 < (↑l.length : Int)) &&
                      sameB ((l.getD n_3.toNat []).getD (0 : Nat) (CD.int (0 : Int))).toInt
                        ((l.getD n_3.toNat []).getD (1 : Nat) (CD.int (0 : Int))).toInt ((l.getD n_3.toNat []).getD (2 : Nat) (CD.int (0 : Int))).toInt n n_1 n_2 then
                  ((-9223372036854775808 : Int) ≤ n_3 + (1 : Int) ∧ n_3 + (1 : Int) ≤ (9223372036854775807 : Int)) ∧
                    bif hit l n_3 n n_1 n_2 then (0 : Int) = (0 : Int) ∧ l = l ∧ n_3 + (1 : Int) = n_3 + (1 : Int)
                    else
                      Miss (2 : Nat)
                        { n := (0 : Nat), ov := [], tm := [SV.int Go.IntKind.i64 (0 : Int)],
                          hp :=
                            [Blk.cells (89 : Go.TypeId)
                                [SV.rd [CSh.int Go.IntKind.i64, CSh.int Go.IntKind.i64, CSh.int Go.IntKind.i64, CSh.str] l,
                                  SV.int Go.IntKind.i64 (n_3 + (1 : Int)), SV.nilp],
                              Blk.cells (26 : Nat) [SV.int Go.IntKind.i64 n, SV.int Go.IntKind.i64 n_1, SV.int Go.IntKind.i64 n_2, SV.str []]],
                          G := [] }
                else
                  bif hit l n_3 n n_1 n_2 then
                    Miss (2 : Nat)
                      { n := (0 : Nat), ov := [], tm := [SV.int Go.IntKind.i64 (10 : Int)],
                        hp :=
                          [Blk.cells (89 : Go.TypeId)
                              [SV.rd [CSh.int Go.IntKind.i64, CSh.int Go.IntKind.i64, CSh.int Go.IntKind.i64, CSh.str] l,
                                SV.int Go.IntKind.i64 n_3, SV.ptr (2 : Nat) (0 : Nat)],
                            Blk.cells (26 : Nat) [SV.int Go.IntKind.i64 n, SV.int Go.IntKind.i64 n_1, SV.int Go.IntKind.i64 n_2, SV.str []],
                            Blk.cells (98 : Go.TypeId) [SV.int Go.IntKind.i64 (10 : Int)]],
                        G := [] }
                  else (10 : Int) = (10 : Int) ∧ l = l ∧ n_3 = n_3 ∧ (10 : Int) = (10 : Int)
theorem e33a : ct33a.VC (base.with sp50) Try.f33.results.toList Try.f33.ntmps (Try.f33.ntmps - ct33a.ps.length) (bodyOf Try.f33) noAnn = P33a := by kernel_rfl
def P33b : Prop :=
  ∀ (n n n : Int) (l : List (List CD)) (n n_1 : Int),
    l.length ≤ (9223372036854775807 : Nat) →
      pre33 l n ∧ n_1 ≠ (0 : Int) →
        (decide (n < (↑l.length : Int)) = true → (0 : Int) ≤ n ∧ n < (↑l.length : Int)) ∧
          (decide (n < (↑l.length : Int)) = true → n.toNat < l.length) ∧
            (decide (n < (↑l.length : Int)) = true → True) ∧
              True ∧
                bif decide (n_1 = (0 : Int)) then
                  ((-9223372036854775808 : Int) ≤ n + (1 : Int) ∧ n + (1 : Int) ≤ (9223372036854775807 : Int)) ∧ n_1 = n_1 ∧ l = l ∧ n + (1 : Int) = n ∧ n_1 = n_1
                else n_1 = n_1 ∧ l = l ∧ n = n ∧ n_1 = n_1
theorem e33b : ct33b.VC (base.with sp50) Try.f33.results.toList Try.f33.ntmps (Try.f33.ntmps - ct33b.ps.length) (bodyOf Try.f33) noAnn = P33b := by kernel_rfl
noncomputable def sp33 : SpecT := addS sp50 33 (altF ct33a (mkF ct33b))
def P34a : Prop :=
  ∀ (l : List (List CD)) (n : Int),
    l.length ≤ (9223372036854775807 : Nat) →
      True →
        (12 : Int) ≠ (0 : Int) ∧
          bif decide (n = (↑l.length : Int)) then
            bif decide (n = (↑l.length : Int)) then (0 : Int) = (0 : Int) ∧ l = l ∧ n = n
            else
              Miss (2 : Nat)
                { n := (0 : Nat), ov := [], tm := [SV.int Go.IntKind.i64 (0 : Int)],
                  hp :=
                    [Blk.cells (89 : Go.TypeId)
                        [SV.rd [CSh.int Go.IntKind.i64, CSh.int Go.IntKind.i64, CSh.int Go.IntKind.i64, CSh.str] l, SV.int Go.IntKind.i64 n,
                          SV.nilp]],
                  G := [] }
          else
            bif decide (n = (↑l.length : Int)) then
              Miss (2 : Nat)
                { n := (0 : Nat), ov := [], tm := [SV.int Go.IntKind.i64 (12 : Int)],
                  hp :=
                    [Blk.cells (89 : Go.TypeId)
                        [SV.rd [CSh.int Go.IntKind.i64, CSh.int Go.IntKind.i64, CSh.int Go.IntKind.i64, CSh.str] l, SV.int Go.IntKind.i64 n,
                          SV.ptr (1 : Nat) (0 : Nat)],
                      Blk.cells (98 : Go.TypeId) [SV.int Go.IntKind.i64 (12 : Int)]],
                  G := [] }
            else (12 : Int) = (12 : Int) ∧ l = l ∧ n = n ∧ (12 : Int) = (12 : Int)
theorem e34a : ct34a.VC (base.with sp33) Try.f34.results.toList Try.f34.ntmps (Try.f34.ntmps - ct34a.ps.length) (bodyOf Try.f34) noAnn = P34a := by kernel_rfl
def P34b : Prop :=
  ∀ (l : List (List CD)) (n n_1 : Int), l.length ≤ (9223372036854775807 : Nat) → True → True ∧ n_1 = n_1 ∧ l = l ∧ n = n ∧ n_1 = n_1
theorem e34b : ct34b.VC (base.with sp33) Try.f34.results.toList Try.f34.ntmps (Try.f34.ntmps - ct34b.ps.length) (bodyOf Try.f34) noAnn = P34b := by kernel_rfl
noncomputable def sp34 : SpecT := addS sp33 34 (altF ct34a (mkF ct34b))
def P29 : Prop :=
  True →
    pre31 [] ∧
      ((decide ((0 : Int) = (0 : Int)) && decide ((-1 : Int) = (-1 : Int)) && !false) = true → True) ∧
        ((decide ((0 : Int) = (0 : Int)) && decide ((-1 : Int) = (-1 : Int)) && !false) = true →
            ((true && decide ((0 : Int) = (0 : Int))) = true → pre33 [] (0 : Int)) ∧
              ((true && decide ((0 : Int) = (0 : Int))) = true →
                  ((true && decide ((10 : Int) = (10 : Int))) = true → True) ∧
                    ((true && decide ((10 : Int) = (10 : Int))) = true → (true && decide ((10 : Int) = (10 : Int))) = true) ∧
                      ((true && decide ((10 : Int) = (10 : Int))) = false → ((!true) = true → False) ∧ false = true)) ∧
                ((true && decide ((0 : Int) = (0 : Int))) = false →
                  ((!true) = true → False) ∧
                    (false = true → True) ∧ (false = true → (true && decide ((0 : Int) = (10 : Int))) = true) ∧ (false = false → ((!true) = true → False) ∧ false = true))) ∧
          ((decide ((0 : Int) = (0 : Int)) && decide ((-1 : Int) = (-1 : Int)) && !false) = false →
            ((!true) = true → False) ∧
              (false = true → pre33 [] (0 : Int)) ∧
                (false = true →
                    ((true && decide ((10 : Int) = (10 : Int))) = true → True) ∧
                      ((true && decide ((10 : Int) = (10 : Int))) = true → (true && decide ((10 : Int) = (10 : Int))) = true) ∧
                        ((true && decide ((10 : Int) = (10 : Int))) = false → ((!true) = true → False) ∧ false = true)) ∧
                  (false = false →
                    ((!true) = true → False) ∧
                      (false = true → True) ∧ (false = true → (true && decide ((0 : Int) = (10 : Int))) = true) ∧ (false = false → ((!true) = true → False) ∧ false = true)))
theorem e29 : ct29.VC (base.with sp34) Try.f29.results.toList Try.f29.ntmps (Try.f29.ntmps - ct29.ps.length) (bodyOf Try.f29) noAnn = P29 := by kernel_rfl
noncomputable def sp29 : SpecT := addS sp34 29 (mkF ct29)
def P9 : Prop :=
  ∀ (l l_1 : List (List CD)),
    l.length ≤ (9223372036854775807 : Nat) →
      l_1.length ≤ (9223372036854775807 : Nat) →
        True →
          True ∧
            (((bw false !true) = true → l.length ≤ (9223372036854775807 : Nat)) →
              (bw false (!true || decide ((40 : Int) < (↑l.length : Int))) = true → l_1.length ≤ (9223372036854775807 : Nat)) →
                bif !true || decide ((40 : Int) < (↑l.length : Int)) || decide ((40 : Int) < (↑l_1.length : Int)) then True ∧ true = true
                else
                  preL l ∧
                    (bif decide ((ser (itsOf l)).snd.snd ≠ (0 : Int)) then true = true
                      else R9 l l_1 l l_1 (rowsOfBytes (ser (itsOf l)).fst) ∧ True) ∧
                      ∀ (l_2 l_3 l_4 : List (List CD)),
                        l_2.length ≤ (9223372036854775807 : Nat) →
                          l_3.length ≤ (9223372036854775807 : Nat) →
                            l_4.length ≤ (9223372036854775807 : Nat) →
                              R9 l l_1 l_2 l_3 l_4 →
                                pre31 l_4 ∧
                                  (l_3.length ≤ (9223372036854775807 : Nat) →
                                    (R9A l l_1 l_2 l_3 l_3 (↑l_3.length : Int) (0 : Int)
                                          (rowsIt (prs (bytesOfRows l_4)).fst) (0 : Int) ∧
                                        True) ∧
                                      (∀ (l_5 l_6 l_7 : List (List CD)) (n n_1 : Int) (l_8 : List (List CD)) (n_2 : Int),
                                          l_5.length ≤ (9223372036854775807 : Nat) →
                                            l_6.length ≤ (9223372036854775807 : Nat) →
                                              l_7.length ≤ (9223372036854775807 : Nat) →
                                                l_8.length ≤ (9223372036854775807 : Nat) →
                                                  R9A l l_1 l_5 l_6 l_7 n n_1 l_8 n_2 →
                                                    bif decide (n_1 < n) then
                                                      ((0 : Int) ≤ n_1 ∧ n_1 < (↑l_7.length : Int)) ∧
                                                        n_1.toNat < l_7.length ∧
                                                          ((-9223372036854775808 : Int) ≤ n_1 + (1 : Int) ∧ n_1 + (1 : Int) ≤ (9223372036854775807 : Int)) ∧
                                                            ((0 : Int) ≤ (0 : Int) ∧ (0 : Int) ≤ n_1 + (1 : Int) ∧ n_1 + (1 : Int) ≤ (↑l_6.length : Int)) ∧
                                                              True ∧
                                                                pre33 l_8 n_2 ∧
                                                                  bif
                                                                      hit l_8 n_2 ((l_7.getD n_1.toNat []).getD (0 : Nat) (CD.int (0 : Int))).toInt
                                                                        ((l_7.getD n_1.toNat []).getD (1 : Nat) (CD.int (0 : Int))).toInt
                                                                        ((l_7.getD n_1.toNat []).getD (2 : Nat) (CD.int (0 : Int))).toInt then
                                                                    bif
                                                                        decide ((0 : Int) = (0 : Int)) !=
                                                                          prefIt (itsOf l_5)
                                                                            (itsOf (List.drop (0 : Nat) (List.take (n_1 + (1 : Int)).toNat l_6))) then
                                                                      false = true
                                                                    else
                                                                      ((-9223372036854775808 : Int) ≤ n_1 + (1 : Int) ∧ n_1 + (1 : Int) ≤ (9223372036854775807 : Int)) ∧
                                                                        R9A l l_1 l_5 l_6 l_7 n (n_1 + (1 : Int)) l_8 (n_2 + (1 : Int)) ∧
                                                                          (n - (n_1 + (1 : Int))).toNat < (n - n_1).toNat
                                                                  else
                                                                    bif
                                                                        decide ((10 : Int) = (0 : Int)) !=
                                                                          prefIt (itsOf l_5)
                                                                            (itsOf (List.drop (0 : Nat) (List.take (n_1 + (1 : Int)).toNat l_6))) then
                                                                      false = true
                                                                    else
                                                                      ((-9223372036854775808 : Int) ≤ n_1 + (1 : Int) ∧ n_1 + (1 : Int) ≤ (9223372036854775807 : Int)) ∧
                                                                        R9B l l_1 l_5 l_6 l_7 n (n_1 + (1 : Int)) l_8 n_2 (10 : Int) ∧
                                                                          (n - (n_1 + (1 : Int))).toNat < (n - n_1).toNat
                                                    else
                                                      l_6.length ≤ (9223372036854775807 : Nat) →
                                                        l_5.length ≤ (9223372036854775807 : Nat) →
                                                          (decide ((↑l_6.length : Int) = (↑l_5.length : Int)) = true → True) ∧
                                                            True ∧
                                                              bif decide (n_2 = (↑l_8.length : Int)) then
                                                                (decide ((0 : Int) = (0 : Int)) ==
                                                                    (decide ((↑l_6.length : Int) = (↑l_5.length : Int)) &&
                                                                      prefIt (itsOf l_5)
                                                                        (itsOf l_6))) =
                                                                  true
                                                              else
                                                                (decide ((12 : Int) = (0 : Int)) ==
                                                                    (decide ((↑l_6.length : Int) = (↑l_5.length : Int)) &&
                                                                      prefIt (itsOf l_5)
                                                                        (itsOf l_6))) =
                                                                  true) ∧
                                        ∀ (l_5 l_6 l_7 : List (List CD)) (n n_1 : Int) (l_8 : List (List CD)) (n_2 n_3 : Int),
                                          l_5.length ≤ (9223372036854775807 : Nat) →
                                            l_6.length ≤ (9223372036854775807 : Nat) →
                                              l_7.length ≤ (9223372036854775807 : Nat) →
                                                l_8.length ≤ (9223372036854775807 : Nat) →
                                                  R9B l l_1 l_5 l_6 l_7 n n_1 l_8 n_2 n_3 →
                                                    bif decide (n_1 < n) then
                                                      ((0 : Int) ≤ n_1 ∧ n_1 < (↑l_7.length : Int)) ∧
                                                        n_1.toNat < l_7.length ∧
                                                          ((-9223372036854775808 : Int) ≤ n_1 + (1 : Int) ∧ n_1 + (1 : Int) ≤ (9223372036854775807 : Int)) ∧
                                                            ((0 : Int) ≤ (0 : Int) ∧ (0 : Int) ≤ n_1 + (1 : Int) ∧ n_1 + (1 : Int) ≤ (↑l_6.length : Int)) ∧
                                                              True ∧
                                                                (pre33 l_8 n_2 ∧ n_3 ≠ (0 : Int)) ∧
                                                                  bif
                                                                      decide (n_3 = (0 : Int)) !=
                                                                        prefIt (itsOf l_5)
                                                                          (itsOf (List.drop (0 : Nat) (List.take (n_1 + (1 : Int)).toNat l_6))) then
                                                                    false = true
                                                                  else
                                                                    ((-9223372036854775808 : Int) ≤ n_1 + (1 : Int) ∧ n_1 + (1 : Int) ≤ (9223372036854775807 : Int)) ∧
                                                                      R9B l l_1 l_5 l_6 l_7 n (n_1 + (1 : Int)) l_8 n_2 n_3 ∧
                                                                        (n - (n_1 + (1 : Int))).toNat < (n - n_1).toNat
                                                    else
                                                      l_6.length ≤ (9223372036854775807 : Nat) →
                                                        l_5.length ≤ (9223372036854775807 : Nat) →
                                                          (decide ((↑l_6.length : Int) = (↑l_5.length : Int)) = true → True) ∧
                                                            True ∧
                                                              (decide (n_3 = (0 : Int)) ==
                                                                  (decide ((↑l_6.length : Int) = (↑l_5.length : Int)) &&
                                                                    prefIt (itsOf l_5)
                                                                      (itsOf l_6))) =
                                                                true))
theorem e9 : ct9.VC (base.with sp29) Try.f9.results.toList Try.f9.ntmps (Try.f9.ntmps - ct9.ps.length) (bodyOf Try.f9) ann9 = P9 := by kernel_rfl
noncomputable def sp9 : SpecT := addS sp29 9 (mkF ct9)
def P51 : Prop :=
  ∀ (l l_1 : List (List CD)),
    l.length ≤ (9223372036854775807 : Nat) →
      l_1.length ≤ (9223372036854775807 : Nat) →
        True →
          l.length ≤ (9223372036854775807 : Nat) →
            l_1.length ≤ (9223372036854775807 : Nat) →
              bif decide ((↑l.length : Int) ≠ (↑l_1.length : Int)) then
                false = eqvIt (itsOf l) (itsOf l_1)
              else
                l.length ≤ (9223372036854775807 : Nat) →
                  (R51 l l_1 l l_1 (↑l.length : Int) (0 : Int) ∧ True) ∧
                    ∀ (l_2 l_3 : List (List CD)) (n n_1 : Int),
                      l_2.length ≤ (9223372036854775807 : Nat) →
                        l_3.length ≤ (9223372036854775807 : Nat) →
                          R51 l l_1 l_3 l_2 n n_1 →
                            bif decide (n_1 < n) then
                              ((0 : Int) ≤ n_1 ∧ n_1 < (↑l_3.length : Int)) ∧
                                n_1.toNat < l_3.length ∧
                                  ((0 : Int) ≤ n_1 ∧ n_1 < (↑l_2.length : Int)) ∧
                                    n_1.toNat < l_2.length ∧
                                      True ∧
                                        bif
                                            !sameB ((l_3.getD n_1.toNat []).getD (0 : Nat) (CD.int (0 : Int))).toInt
                                                ((l_3.getD n_1.toNat []).getD (1 : Nat) (CD.int (0 : Int))).toInt
                                                ((l_3.getD n_1.toNat []).getD (2 : Nat) (CD.int (0 : Int))).toInt
                                                ((l_2.getD n_1.toNat []).getD (0 : Nat) (CD.int (0 : Int))).toInt
                                                ((l_2.getD n_1.toNat []).getD (1 : Nat) (CD.int (0 : Int))).toInt
                                                ((l_2.getD n_1.toNat []).getD (2 : Nat) (CD.int (0 : Int))).toInt then
                                          false = eqvIt (itsOf l) (itsOf l_1)
                                        else
                                          ((-9223372036854775808 : Int) ≤ n_1 + (1 : Int) ∧ n_1 + (1 : Int) ≤ (9223372036854775807 : Int)) ∧
                                            R51 l l_1 l_3 l_2 n (n_1 + (1 : Int)) ∧ (n - (n_1 + (1 : Int))).toNat < (n - n_1).toNat
                            else true = eqvIt (itsOf l) (itsOf l_1)
theorem e51 : ct51.VC (base.with sp9) Try.f51.results.toList Try.f51.ntmps (Try.f51.ntmps - ct51.ps.length) (bodyOf Try.f51) ann51 = P51 := by kernel_rfl
noncomputable def sp51 : SpecT := addS sp9 51 (mkF ct51)
def P36 : Prop :=
  ∀ (l l_1 : List (List CD)),
    l.length ≤ (9223372036854775807 : Nat) →
      l_1.length ≤ (9223372036854775807 : Nat) →
        True →
          l_1.length ≤ (9223372036854775807 : Nat) →
            l.length ≤ (9223372036854775807 : Nat) →
              (bw true (decide ((↑l_1.length : Int) ≤ (↑l.length : Int))) = true → l_1.length ≤ (9223372036854775807 : Nat)) →
                (decide ((↑l_1.length : Int) ≤ (↑l.length : Int)) = true → (0 : Int) ≤ (0 : Int) ∧ (0 : Int) ≤ (↑l_1.length : Int) ∧ (↑l_1.length : Int) ≤ (↑l.length : Int)) ∧
                  (decide ((↑l_1.length : Int) ≤ (↑l.length : Int)) = true → True) ∧
                    (decide ((↑l_1.length : Int) ≤ (↑l.length : Int)) &&
                        eqvIt (itsOf (List.drop (0 : Nat) (List.take (↑l_1.length : Int).toNat l)))
                          (itsOf l_1)) =
                      prefIt (itsOf l) (itsOf l_1)
theorem e36 : ct36.VC (base.with sp51) Try.f36.results.toList Try.f36.ntmps (Try.f36.ntmps - ct36.ps.length) (bodyOf Try.f36) noAnn = P36 := by kernel_rfl
noncomputable def sp36 : SpecT := addS sp51 36 (mkF ct36)
def P53 : Prop :=
  ∀ (n n n : Int) (l l_1 : List UInt8), l.length ≤ (9223372036854775807 : Nat) → l_1.length ≤ (9223372036854775807 : Nat) → True → decide (l = l_1) = decide (l = l_1) ∧ l_1 = l_1
theorem e53 : ct53.VC (base.with sp36) Try.f53.results.toList Try.f53.ntmps (Try.f53.ntmps - ct53.ps.length) (bodyOf Try.f53) noAnn = P53 := by kernel_rfl
noncomputable def sp53 : SpecT := addS sp36 53 (mkF ct53)
def P52 : Prop :=
  ∀ (l : List (List CD)) (l_1 : List UInt8),
    l.length ≤ (9223372036854775807 : Nat) →
      l_1.length ≤ (9223372036854775807 : Nat) →
        True →
          l.length ≤ (9223372036854775807 : Nat) →
            (R52 l l_1 l (↑l.length : Int) (0 : Int) l_1 ∧ True) ∧
              ∀ (l_2 : List (List CD)) (n n_1 : Int) (l_3 : List UInt8),
                l_2.length ≤ (9223372036854775807 : Nat) →
                  l_3.length ≤ (9223372036854775807 : Nat) →
                    R52 l l_1 l_2 n n_1 l_3 →
                      bif decide (n_1 < n) then
                        ((0 : Int) ≤ n_1 ∧ n_1 < (↑l_2.length : Int)) ∧
                          n_1.toNat < l_2.length ∧
                            True ∧
                              bif decide (((l_2.getD n_1.toNat []).getD (3 : Nat) (CD.int (0 : Int))).toStr = l_3) then
                                n_1 = idxL (itsOf l) l_1 ∧ l_3 = l_1
                              else
                                ((-9223372036854775808 : Int) ≤ n_1 + (1 : Int) ∧ n_1 + (1 : Int) ≤ (9223372036854775807 : Int)) ∧
                                  R52 l l_1 l_2 n (n_1 + (1 : Int)) l_3 ∧ (n - (n_1 + (1 : Int))).toNat < (n - n_1).toNat
                      else (-1 : Int) = idxL (itsOf l) l_1 ∧ l_3 = l_1
theorem e52 : ct52.VC (base.with sp53) Try.f52.results.toList Try.f52.ntmps (Try.f52.ntmps - ct52.ps.length) (bodyOf Try.f52) ann52 = P52 := by kernel_rfl
noncomputable def sp52 : SpecT := addS sp53 52 (mkF ct52)
def P38 : Prop :=
  ∀ (l : List (List CD)) (l_1 : List UInt8),
    l.length ≤ (9223372036854775807 : Nat) →
      l_1.length ≤ (9223372036854775807 : Nat) →
        True →
          True ∧
            bif decide (idxL (itsOf l) l_1 < (0 : Int)) then
              (-1 : Int) = (fnd (itsOf l) l_1).fst ∧
                (13 : Int) = (fnd (itsOf l) l_1).snd
            else
              idxL (itsOf l) l_1 = (fnd (itsOf l) l_1).fst ∧
                (0 : Int) = (fnd (itsOf l) l_1).snd
theorem e38 : ct38.VC (base.with sp52) Try.f38.results.toList Try.f38.ntmps (Try.f38.ntmps - ct38.ps.length) (bodyOf Try.f38) noAnn = P38 := by kernel_rfl
noncomputable def sp38 : SpecT := addS sp52 38 (mkF ct38)
def P39 : Prop :=
  ∀ (l : List (List CD)) (l_1 : List UInt8),
    l.length ≤ (9223372036854775807 : Nat) →
      l_1.length ≤ (9223372036854775807 : Nat) →
        True →
          (R52 l l_1 l (↑l.length : Int) (0 : Int) l_1 ∧ True) ∧
            ∀ (l_2 : List (List CD)) (l_3 : List UInt8) (n : Int),
              l_2.length ≤ (9223372036854775807 : Nat) →
                l_3.length ≤ (9223372036854775807 : Nat) →
                  R52 l l_1 l_2 (↑l.length : Int) n l_3 →
                    l_2.length ≤ (9223372036854775807 : Nat) →
                      bif decide (n < (↑l_2.length : Int)) then
                        ((0 : Int) ≤ n ∧ n < (↑l_2.length : Int)) ∧
                          n.toNat < l_2.length ∧
                            n.toNat < l_2.length ∧
                              bif decide (((l_2.getD n.toNat []).getD (3 : Nat) (CD.int (0 : Int))).toStr = l_3) then
                                n = (fnd (itsOf l) l_1).fst ∧
                                  (0 : Int) = (fnd (itsOf l) l_1).snd
                              else
                                ((-9223372036854775808 : Int) ≤ n + (1 : Int) ∧ n + (1 : Int) ≤ (9223372036854775807 : Int)) ∧
                                  R52 l l_1 l_2 (↑l.length : Int) (n + (1 : Int)) l_3 ∧
                                    ((↑l_2.length : Int) - (n + (1 : Int))).toNat < ((↑l_2.length : Int) - n).toNat
                      else
                        (-1 : Int) = (fnd (itsOf l) l_1).fst ∧
                          (13 : Int) = (fnd (itsOf l) l_1).snd
theorem e39 : ct39.VC (base.with sp38) Try.f39.results.toList Try.f39.ntmps (Try.f39.ntmps - ct39.ps.length) (bodyOf Try.f39) ann39 = P39 := by kernel_rfl
noncomputable def sp39 : SpecT := addS sp38 39 (mkF ct39)
def P40 : Prop :=
  ∀ (l : List (List CD)) (n : Int),
    l.length ≤ (9223372036854775807 : Nat) →
      preL l →
        (R40 l n l n (0 : Int) (0 : Int) ∧ True) ∧
          ∀ (l_1 : List (List CD)) (n_1 n_2 n_3 : Int),
            l_1.length ≤ (9223372036854775807 : Nat) →
              R40 l n l_1 n_1 n_2 n_3 →
                l_1.length ≤ (9223372036854775807 : Nat) →
                  bif decide (n_3 < (↑l_1.length : Int)) then
                    ((0 : Int) ≤ n_3 ∧ n_3 < (↑l_1.length : Int)) ∧
                      n_3.toNat < l_1.length ∧
                        n_3.toNat < l_1.length ∧
                          (decide (((l_1.getD n_3.toNat []).getD (0 : Nat) (CD.int (0 : Int))).toInt = n_1) = true → (0 : Int) ≤ n_3 ∧ n_3 < (↑l_1.length : Int)) ∧
                            (decide (((l_1.getD n_3.toNat []).getD (0 : Nat) (CD.int (0 : Int))).toInt = n_1) = true → n_3.toNat < l_1.length) ∧
                              (decide (((l_1.getD n_3.toNat []).getD (0 : Nat) (CD.int (0 : Int))).toInt = n_1) = true → n_3.toNat < l_1.length) ∧
                                ((decide (((l_1.getD n_3.toNat []).getD (0 : Nat) (CD.int (0 : Int))).toInt = n_1) &&
                                        decide ((0 : Int) < ((l_1.getD n_3.toNat []).getD (2 : Nat) (CD.int (0 : Int))).toInt)) =
                                      true →
                                    (0 : Int) ≤ n_3 ∧ n_3 < (↑l_1.length : Int)) ∧
                                  ((decide (((l_1.getD n_3.toNat []).getD (0 : Nat) (CD.int (0 : Int))).toInt = n_1) &&
                                          decide ((0 : Int) < ((l_1.getD n_3.toNat []).getD (2 : Nat) (CD.int (0 : Int))).toInt)) =
                                        true →
                                      n_3.toNat < l_1.length) ∧
                                    ((decide (((l_1.getD n_3.toNat []).getD (0 : Nat) (CD.int (0 : Int))).toInt = n_1) &&
                                            decide ((0 : Int) < ((l_1.getD n_3.toNat []).getD (2 : Nat) (CD.int (0 : Int))).toInt)) =
                                          true →
                                        n_3.toNat < l_1.length) ∧
                                      bif
                                          decide (((l_1.getD n_3.toNat []).getD (0 : Nat) (CD.int (0 : Int))).toInt = n_1) &&
                                              decide ((0 : Int) < ((l_1.getD n_3.toNat []).getD (2 : Nat) (CD.int (0 : Int))).toInt) &&
                                            decide (((l_1.getD n_3.toNat []).getD (2 : Nat) (CD.int (0 : Int))).toInt ≤ (1048576 : Int)) then
                                        ((0 : Int) ≤ n_3 ∧ n_3 < (↑l_1.length : Int)) ∧
                                          n_3.toNat < l_1.length ∧
                                            n_3.toNat < l_1.length ∧
                                              ((-9223372036854775808 : Int) ≤ n_2 + ((l_1.getD n_3.toNat []).getD (2 : Nat) (CD.int (0 : Int))).toInt ∧
                                                  n_2 + ((l_1.getD n_3.toNat []).getD (2 : Nat) (CD.int (0 : Int))).toInt ≤ (9223372036854775807 : Int)) ∧
                                                ((-9223372036854775808 : Int) ≤ n_3 + (1 : Int) ∧ n_3 + (1 : Int) ≤ (9223372036854775807 : Int)) ∧
                                                  R40 l n l_1 n_1 (n_2 + ((l_1.getD n_3.toNat []).getD (2 : Nat) (CD.int (0 : Int))).toInt)
                                                      (n_3 + (1 : Int)) ∧
                                                    ((↑l_1.length : Int) - (n_3 + (1 : Int))).toNat < ((↑l_1.length : Int) - n_3).toNat
                                      else
                                        ((-9223372036854775808 : Int) ≤ n_3 + (1 : Int) ∧ n_3 + (1 : Int) ≤ (9223372036854775807 : Int)) ∧
                                          R40 l n l_1 n_1 n_2 (n_3 + (1 : Int)) ∧
                                            ((↑l_1.length : Int) - (n_3 + (1 : Int))).toNat < ((↑l_1.length : Int) - n_3).toNat
                  else n_2 = tot (itsOf l) n
theorem e40 : ct40.VC (base.with sp39) Try.f40.results.toList Try.f40.ntmps (Try.f40.ntmps - ct40.ps.length) (bodyOf Try.f40) ann40 = P40 := by kernel_rfl
noncomputable def sp40 : SpecT := addS sp39 40 (mkF ct40)
def P10 : Prop :=
  ∀ (l l_1 : List (List CD)),
    l.length ≤ (9223372036854775807 : Nat) →
      l_1.length ≤ (9223372036854775807 : Nat) →
        True →
          True ∧
            (((bw false !true) = true → l.length ≤ (9223372036854775807 : Nat)) →
              (bw false (!true || decide ((40 : Int) < (↑l.length : Int))) = true → l_1.length ≤ (9223372036854775807 : Nat)) →
                bif !true || decide ((40 : Int) < (↑l.length : Int)) || decide ((40 : Int) < (↑l_1.length : Int)) then True ∧ true = true
                else
                  preL l ∧
                    preL l_1 ∧
                      True ∧
                        True ∧
                          ((!prefIt (itsOf (rowsIt (itsOf l)))
                                      (itsOf (rowsIt (itsOf l_1))) !=
                                    prefIt (itsOf l) (itsOf l_1)) =
                                true →
                              True) ∧
                            ((!prefIt (itsOf (rowsIt (itsOf l)))
                                        (itsOf (rowsIt (itsOf l_1))) !=
                                      prefIt (itsOf l) (itsOf l_1)) =
                                  true →
                                True) ∧
                              bif
                                  prefIt (itsOf (rowsIt (itsOf l)))
                                        (itsOf (rowsIt (itsOf l_1))) !=
                                      prefIt (itsOf l) (itsOf l_1) ||
                                    prefIt (itsOf (rowsIt (itsOf l_1)))
                                        (itsOf (rowsIt (itsOf l))) !=
                                      prefIt (itsOf l_1) (itsOf l) then
                                false = true
                              else
                                preL (rowsIt (itsOf l)) ∧
                                  preL (rowsIt (itsOf l_1)) ∧
                                    ((!(decide
                                                ((ser
                                                        (itsOf (rowsIt (itsOf l)))).snd.snd ≠
                                                  (0 : Int)) ||
                                              decide
                                                ((ser
                                                        (itsOf (rowsIt (itsOf l_1)))).snd.snd ≠
                                                  (0 : Int)))) =
                                          true →
                                        True) ∧
                                      (decide
                                              ((ser
                                                      (itsOf (rowsIt (itsOf l)))).snd.snd ≠
                                                (0 : Int)) ||
                                            decide
                                              ((ser
                                                      (itsOf (rowsIt (itsOf l_1)))).snd.snd ≠
                                                (0 : Int)) ||
                                          decide
                                              (bytesOfRows
                                                  (rowsOfBytes
                                                    (ser
                                                        (itsOf (rowsIt (itsOf l)))).fst) =
                                                bytesOfRows
                                                  (rowsOfBytes
                                                    (ser
                                                        (itsOf (rowsIt (itsOf l_1)))).fst)) ==
                                            decide (itsOf l = itsOf l_1)) =
                                        true)
theorem e10 : ct10.VC (base.with sp40) Try.f10.results.toList Try.f10.ntmps (Try.f10.ntmps - ct10.ps.length) (bodyOf Try.f10) noAnn = P10 := by kernel_rfl
noncomputable def sp10 : SpecT := addS sp40 10 (mkF ct10)
end Go.Proofs.Ytfikklbaceidfaa
