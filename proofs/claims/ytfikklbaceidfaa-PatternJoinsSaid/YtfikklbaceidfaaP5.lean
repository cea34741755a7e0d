/-
  Conditions of contracts, as the kernel reckons them (printed by a program of ours, checked by the kernel).
-/
import Derived.Test.YtfikklbaceidfaaS5
namespace Go.Proofs.Ytfikklbaceidfaa
open Go Go.Avc Go.Proofs
set_option linter.unusedVariables false
set_option maxRecDepth 100000
def P24 : Prop :=
  ∀ (l : List (List CD)),
    l.length ≤ (9223372036854775807 : Nat) →
      pre20 l →
        (R24 l l (0 : Int) [] ∧ True) ∧
          ∀ (l_1 : List (List CD)) (n : Int) (l_2 : List (List CD)),
            l_1.length ≤ (9223372036854775807 : Nat) →
              l_2.length ≤ (9223372036854775807 : Nat) →
                R24 l l_1 n l_2 →
                  l_1.length ≤ (9223372036854775807 : Nat) →
                    bif decide ((0 : Int) < (↑l_1.length : Int)) then
                      bif decide (n = (1024 : Int)) then
                        n = (prs (bytesOfRows l)).snd.fst ∧
                          (9 : Int) = (prs (bytesOfRows l)).snd.snd ∧
                            [] = rowsIt (prs (bytesOfRows l)).fst
                      else
                        pre20 l_1 ∧
                          bif decide (decE (bytesOfRows l_1) ≠ (0 : Int)) then
                            n = (prs (bytesOfRows l)).snd.fst ∧
                              decE (bytesOfRows l_1) = (prs (bytesOfRows l)).snd.snd ∧
                                [] = rowsIt (prs (bytesOfRows l)).fst
                          else
                            ((l_2.length +
                                      [[CD.int (decI (bytesOfRows l_1)).k,
                                            CD.int (decI (bytesOfRows l_1)).t,
                                            CD.int (decI (bytesOfRows l_1)).c,
                                            CD.str (decI (bytesOfRows l_1)).l]].length) *
                                    (40 : Nat) ≤
                                  (140737488355328 : Nat) ∧
                                l_2.length +
                                    [[CD.int (decI (bytesOfRows l_1)).k,
                                          CD.int (decI (bytesOfRows l_1)).t,
                                          CD.int (decI (bytesOfRows l_1)).c,
                                          CD.str (decI (bytesOfRows l_1)).l]].length ≤
                                  (9223372036854775807 : Nat)) ∧
                              ((-9223372036854775808 : Int) ≤ n + (1 : Int) ∧ n + (1 : Int) ≤ (9223372036854775807 : Int)) ∧
                                R24 l (rowsOfBytes (decR (bytesOfRows l_1))) (n + (1 : Int))
                                    (l_2 ++
                                      [[CD.int (decI (bytesOfRows l_1)).k,
                                          CD.int (decI (bytesOfRows l_1)).t,
                                          CD.int (decI (bytesOfRows l_1)).c,
                                          CD.str (decI (bytesOfRows l_1)).l]]) ∧
                                  ((1025 : Int) - (n + (1 : Int))).toNat < ((1025 : Int) - n).toNat
                    else
                      (-1 : Int) = (prs (bytesOfRows l)).snd.fst ∧
                        (0 : Int) = (prs (bytesOfRows l)).snd.snd ∧
                          l_2 = rowsIt (prs (bytesOfRows l)).fst
theorem e24 : ct24.VC (base.with sp6) Try.f24.results.toList Try.f24.ntmps (Try.f24.ntmps - ct24.ps.length) (bodyOf Try.f24) ann24 = P24 := by kernel_rfl
noncomputable def sp24 : SpecT := addS sp6 24 (mkF ct24)
def P25 : Prop :=
  ∀ (l : List (List CD)),
    l.length ≤ (9223372036854775807 : Nat) →
      pre20 l →
        (R25 l l [] ∧ True) ∧
          ∀ (l_1 l_2 : List (List CD)),
            l_1.length ≤ (9223372036854775807 : Nat) →
              l_2.length ≤ (9223372036854775807 : Nat) →
                R25 l l_1 l_2 →
                  l_1.length ≤ (9223372036854775807 : Nat) →
                    bif decide ((0 : Int) < (↑l_1.length : Int)) then
                      l_2.length ≤ (9223372036854775807 : Nat) →
                        bif decide ((↑l_2.length : Int) = (1024 : Int)) then
                          l_2.length ≤ (9223372036854775807 : Nat) →
                            (↑l_2.length : Int) = (prs (bytesOfRows l)).snd.fst ∧
                              (9 : Int) = (prs (bytesOfRows l)).snd.snd ∧
                                [] = rowsIt (prs (bytesOfRows l)).fst
                        else
                          pre20 l_1 ∧
                            bif decide (decE (bytesOfRows l_1) ≠ (0 : Int)) then
                              l_2.length ≤ (9223372036854775807 : Nat) →
                                (↑l_2.length : Int) = (prs (bytesOfRows l)).snd.fst ∧
                                  decE (bytesOfRows l_1) = (prs (bytesOfRows l)).snd.snd ∧
                                    [] = rowsIt (prs (bytesOfRows l)).fst
                            else
                              ((l_2.length +
                                        [[CD.int (decI (bytesOfRows l_1)).k,
                                              CD.int (decI (bytesOfRows l_1)).t,
                                              CD.int (decI (bytesOfRows l_1)).c,
                                              CD.str (decI (bytesOfRows l_1)).l]].length) *
                                      (40 : Nat) ≤
                                    (140737488355328 : Nat) ∧
                                  l_2.length +
                                      [[CD.int (decI (bytesOfRows l_1)).k,
                                            CD.int (decI (bytesOfRows l_1)).t,
                                            CD.int (decI (bytesOfRows l_1)).c,
                                            CD.str (decI (bytesOfRows l_1)).l]].length ≤
                                    (9223372036854775807 : Nat)) ∧
                                R25 l (rowsOfBytes (decR (bytesOfRows l_1)))
                                    (l_2 ++
                                      [[CD.int (decI (bytesOfRows l_1)).k,
                                          CD.int (decI (bytesOfRows l_1)).t,
                                          CD.int (decI (bytesOfRows l_1)).c,
                                          CD.str (decI (bytesOfRows l_1)).l]]) ∧
                                  Nat.sub (1025 : Nat)
                                      (l_2 ++
                                          [[CD.int (decI (bytesOfRows l_1)).k,
                                              CD.int (decI (bytesOfRows l_1)).t,
                                              CD.int (decI (bytesOfRows l_1)).c,
                                              CD.str (decI (bytesOfRows l_1)).l]]).length <
                                    Nat.sub (1025 : Nat) l_2.length
                    else
                      (-1 : Int) = (prs (bytesOfRows l)).snd.fst ∧
                        (0 : Int) = (prs (bytesOfRows l)).snd.snd ∧
                          l_2 = rowsIt (prs (bytesOfRows l)).fst
theorem e25 : ct25.VC (base.with sp24) Try.f25.results.toList Try.f25.ntmps (Try.f25.ntmps - ct25.ps.length) (bodyOf Try.f25) ann25 = P25 := by kernel_rfl
noncomputable def sp25 : SpecT := addS sp24 25 (mkF ct25)
def P26 : Prop :=
  ∀ (l l_1 : List (List CD)),
    l.length ≤ (9223372036854775807 : Nat) →
      l_1.length ≤ (9223372036854775807 : Nat) →
        True →
          l.length ≤ (9223372036854775807 : Nat) →
            l_1.length ≤ (9223372036854775807 : Nat) →
              bif decide ((↑l.length : Int) ≠ (↑l_1.length : Int)) then false = decide (itsOf l = itsOf l_1)
              else
                (R26 l l_1 l l_1 (0 : Int) ∧ True) ∧
                  ∀ (l_2 l_3 : List (List CD)) (n : Int),
                    l_2.length ≤ (9223372036854775807 : Nat) →
                      l_3.length ≤ (9223372036854775807 : Nat) →
                        R26 l l_1 l_2 l_3 n →
                          l_2.length ≤ (9223372036854775807 : Nat) →
                            bif decide (n < (↑l_2.length : Int)) then
                              ((0 : Int) ≤ n ∧ n < (↑l_2.length : Int)) ∧
                                n.toNat < l_2.length ∧
                                  ((0 : Int) ≤ n ∧ n < (↑l_3.length : Int)) ∧
                                    n.toNat < l_3.length ∧
                                      bif
                                          !(decide
                                                (((l_2.getD n.toNat []).getD (0 : Nat) (CD.int (0 : Int))).toInt =
                                                  ((l_3.getD n.toNat []).getD (0 : Nat) (CD.int (0 : Int))).toInt) &&
                                              (decide
                                                  (((l_2.getD n.toNat []).getD (1 : Nat) (CD.int (0 : Int))).toInt =
                                                    ((l_3.getD n.toNat []).getD (1 : Nat) (CD.int (0 : Int))).toInt) &&
                                                (decide
                                                    (((l_2.getD n.toNat []).getD (2 : Nat) (CD.int (0 : Int))).toInt =
                                                      ((l_3.getD n.toNat []).getD (2 : Nat) (CD.int (0 : Int))).toInt) &&
                                                  (decide
                                                      (((l_2.getD n.toNat []).getD (3 : Nat) (CD.int (0 : Int))).toStr =
                                                        ((l_3.getD n.toNat []).getD (3 : Nat) (CD.int (0 : Int))).toStr) &&
                                                    true)))) then
                                        false = decide (itsOf l = itsOf l_1)
                                      else
                                        ((-9223372036854775808 : Int) ≤ n + (1 : Int) ∧ n + (1 : Int) ≤ (9223372036854775807 : Int)) ∧
                                          R26 l l_1 l_2 l_3 (n + (1 : Int)) ∧
                                            ((↑l_2.length : Int) - (n + (1 : Int))).toNat < ((↑l_2.length : Int) - n).toNat
                            else true = decide (itsOf l = itsOf l_1)
theorem e26 : ct26.VC (base.with sp25) Try.f26.results.toList Try.f26.ntmps (Try.f26.ntmps - ct26.ps.length) (bodyOf Try.f26) ann26 = P26 := by kernel_rfl
noncomputable def sp26 : SpecT := addS sp25 26 (mkF ct26)
def P27 : Prop :=
  ∀ (l : List (List CD)),
    l.length ≤ (9223372036854775807 : Nat) →
      preL l →
        l.length ≤ (9223372036854775807 : Nat) →
          (R27 l [] l (↑l.length : Int) (0 : Int) ∧ True) ∧
            ∀ (l_1 : List (List CD)) (n n_1 : Int) (l_2 : List (List CD)),
              l_1.length ≤ (9223372036854775807 : Nat) →
                l_2.length ≤ (9223372036854775807 : Nat) →
                  R27 l l_2 l_1 n n_1 →
                    bif decide (n_1 < n) then
                      ((0 : Int) ≤ n_1 ∧ n_1 < (↑l_1.length : Int)) ∧
                        n_1.toNat < l_1.length ∧
                          True ∧
                            ((l_2.length +
                                      [[CD.int ((l_1.getD n_1.toNat []).getD (0 : Nat) (CD.int (0 : Int))).toInt,
                                            CD.int ((l_1.getD n_1.toNat []).getD (1 : Nat) (CD.int (0 : Int))).toInt,
                                            CD.int ((l_1.getD n_1.toNat []).getD (2 : Nat) (CD.int (0 : Int))).toInt,
                                            CD.str ((l_1.getD n_1.toNat []).getD (3 : Nat) (CD.int (0 : Int))).toStr]].length) *
                                    (40 : Nat) ≤
                                  (140737488355328 : Nat) ∧
                                l_2.length +
                                    [[CD.int ((l_1.getD n_1.toNat []).getD (0 : Nat) (CD.int (0 : Int))).toInt,
                                          CD.int ((l_1.getD n_1.toNat []).getD (1 : Nat) (CD.int (0 : Int))).toInt,
                                          CD.int ((l_1.getD n_1.toNat []).getD (2 : Nat) (CD.int (0 : Int))).toInt,
                                          CD.str ((l_1.getD n_1.toNat []).getD (3 : Nat) (CD.int (0 : Int))).toStr]].length ≤
                                  (9223372036854775807 : Nat)) ∧
                              ((-9223372036854775808 : Int) ≤ n_1 + (1 : Int) ∧ n_1 + (1 : Int) ≤ (9223372036854775807 : Int)) ∧
                                R27 l
                                    (l_2 ++
                                      [[CD.int ((l_1.getD n_1.toNat []).getD (0 : Nat) (CD.int (0 : Int))).toInt,
                                          CD.int ((l_1.getD n_1.toNat []).getD (1 : Nat) (CD.int (0 : Int))).toInt,
                                          CD.int ((l_1.getD n_1.toNat []).getD (2 : Nat) (CD.int (0 : Int))).toInt,
                                          CD.str ((l_1.getD n_1.toNat []).getD (3 : Nat) (CD.int (0 : Int))).toStr]])
                                    l_1 n (n_1 + (1 : Int)) ∧
                                  (n - (n_1 + (1 : Int))).toNat < (n - n_1).toNat
                    else l_2 = rowsIt (itsOf l)
theorem e27 : ct27.VC (base.with sp26) Try.f27.results.toList Try.f27.ntmps (Try.f27.ntmps - ct27.ps.length) (bodyOf Try.f27) ann27 = P27 := by kernel_rfl
noncomputable def sp27 : SpecT := addS sp26 27 (mkF ct27)
def P28 : Prop :=
  ∀ (l : List (List CD)),
    l.length ≤ (9223372036854775807 : Nat) →
      preL l →
        l.length ≤ (9223372036854775807 : Nat) →
          (R28 l [] l (↑l.length : Int) (0 : Int) ∧ True) ∧
            ∀ (l_1 : List (List CD)) (n n_1 : Int) (l_2 : List (List CD)),
              l_1.length ≤ (9223372036854775807 : Nat) →
                l_2.length ≤ (9223372036854775807 : Nat) →
                  R28 l l_2 l_1 n n_1 →
                    bif decide (n_1 < n) then
                      ((0 : Int) ≤ n_1 ∧ n_1 < (↑l_1.length : Int)) ∧
                        n_1.toNat < l_1.length ∧
                          bif decide (n_1 = (1024 : Int)) then
                            n_1 = (ser (itsOf l)).snd.fst ∧
                              (9 : Int) = (ser (itsOf l)).snd.snd ∧
                                [] = rowsOfBytes (ser (itsOf l)).fst
                          else
                            True ∧
                              bif
                                  decide
                                    (chk ((l_1.getD n_1.toNat []).getD (0 : Nat) (CD.int (0 : Int))).toInt
                                        ((l_1.getD n_1.toNat []).getD (1 : Nat) (CD.int (0 : Int))).toInt
                                        ((l_1.getD n_1.toNat []).getD (2 : Nat) (CD.int (0 : Int))).toInt
                                        ((l_1.getD n_1.toNat []).getD (3 : Nat) (CD.int (0 : Int))).toStr ≠
                                      (0 : Int)) then
                                n_1 = (ser (itsOf l)).snd.fst ∧
                                  chk ((l_1.getD n_1.toNat []).getD (0 : Nat) (CD.int (0 : Int))).toInt
                                        ((l_1.getD n_1.toNat []).getD (1 : Nat) (CD.int (0 : Int))).toInt
                                        ((l_1.getD n_1.toNat []).getD (2 : Nat) (CD.int (0 : Int))).toInt
                                        ((l_1.getD n_1.toNat []).getD (3 : Nat) (CD.int (0 : Int))).toStr =
                                      (ser (itsOf l)).snd.snd ∧
                                    [] = rowsOfBytes (ser (itsOf l)).fst
                              else
                                ((l_2.length +
                                          (encR ((l_1.getD n_1.toNat []).getD (0 : Nat) (CD.int (0 : Int))).toInt
                                              ((l_1.getD n_1.toNat []).getD (1 : Nat) (CD.int (0 : Int))).toInt
                                              ((l_1.getD n_1.toNat []).getD (2 : Nat) (CD.int (0 : Int))).toInt
                                              ((l_1.getD n_1.toNat []).getD (3 : Nat) (CD.int (0 : Int))).toStr).length) *
                                        (1 : Nat) ≤
                                      (140737488355328 : Nat) ∧
                                    l_2.length +
                                        (encR ((l_1.getD n_1.toNat []).getD (0 : Nat) (CD.int (0 : Int))).toInt
                                            ((l_1.getD n_1.toNat []).getD (1 : Nat) (CD.int (0 : Int))).toInt
                                            ((l_1.getD n_1.toNat []).getD (2 : Nat) (CD.int (0 : Int))).toInt
                                            ((l_1.getD n_1.toNat []).getD (3 : Nat) (CD.int (0 : Int))).toStr).length ≤
                                      (9223372036854775807 : Nat)) ∧
                                  ((-9223372036854775808 : Int) ≤ n_1 + (1 : Int) ∧ n_1 + (1 : Int) ≤ (9223372036854775807 : Int)) ∧
                                    R28 l
                                        (l_2 ++
                                          encR ((l_1.getD n_1.toNat []).getD (0 : Nat) (CD.int (0 : Int))).toInt
                                            ((l_1.getD n_1.toNat []).getD (1 : Nat) (CD.int (0 : Int))).toInt
                                            ((l_1.getD n_1.toNat []).getD (2 : Nat) (CD.int (0 : Int))).toInt
                                            ((l_1.getD n_1.toNat []).getD (3 : Nat) (CD.int (0 : Int))).toStr)
                                        l_1 n (n_1 + (1 : Int)) ∧
                                      (n - (n_1 + (1 : Int))).toNat < (n - n_1).toNat
                    else
                      (-1 : Int) = (ser (itsOf l)).snd.fst ∧
                        (0 : Int) = (ser (itsOf l)).snd.snd ∧
                          l_2 = rowsOfBytes (ser (itsOf l)).fst
theorem e28 : ct28.VC (base.with sp27) Try.f28.results.toList Try.f28.ntmps (Try.f28.ntmps - ct28.ps.length) (bodyOf Try.f28) ann28 = P28 := by kernel_rfl
noncomputable def sp28 : SpecT := addS sp27 28 (mkF ct28)
def P30 : Prop :=
  ∀ (l : List (List CD)),
    l.length ≤ (9223372036854775807 : Nat) →
      preL l →
        (R28 l [] l (↑l.length : Int) (0 : Int) ∧ True) ∧
          ∀ (l_1 : List (List CD)) (n : Int) (l_2 : List (List CD)),
            l_1.length ≤ (9223372036854775807 : Nat) →
              l_2.length ≤ (9223372036854775807 : Nat) →
                R28 l l_2 l_1 (↑l.length : Int) n →
                  l_1.length ≤ (9223372036854775807 : Nat) →
                    bif decide (n < (↑l_1.length : Int)) then
                      bif decide (n = (1024 : Int)) then
                        n = (ser (itsOf l)).snd.fst ∧
                          (9 : Int) = (ser (itsOf l)).snd.snd ∧
                            [] = rowsOfBytes (ser (itsOf l)).fst
                      else
                        ((0 : Int) ≤ n ∧ n < (↑l_1.length : Int)) ∧
                          n.toNat < l_1.length ∧
                            True ∧
                              bif
                                  decide
                                    (chk ((l_1.getD n.toNat []).getD (0 : Nat) (CD.int (0 : Int))).toInt
                                        ((l_1.getD n.toNat []).getD (1 : Nat) (CD.int (0 : Int))).toInt ((l_1.getD n.toNat []).getD (2 : Nat) (CD.int (0 : Int))).toInt
                                        ((l_1.getD n.toNat []).getD (3 : Nat) (CD.int (0 : Int))).toStr ≠
                                      (0 : Int)) then
                                n = (ser (itsOf l)).snd.fst ∧
                                  chk ((l_1.getD n.toNat []).getD (0 : Nat) (CD.int (0 : Int))).toInt
                                        ((l_1.getD n.toNat []).getD (1 : Nat) (CD.int (0 : Int))).toInt ((l_1.getD n.toNat []).getD (2 : Nat) (CD.int (0 : Int))).toInt
                                        ((l_1.getD n.toNat []).getD (3 : Nat) (CD.int (0 : Int))).toStr =
                                      (ser (itsOf l)).snd.snd ∧
                                    [] = rowsOfBytes (ser (itsOf l)).fst
                              else
                                ((l_2.length +
                                          (encR ((l_1.getD n.toNat []).getD (0 : Nat) (CD.int (0 : Int))).toInt
                                              ((l_1.getD n.toNat []).getD (1 : Nat) (CD.int (0 : Int))).toInt
                                              ((l_1.getD n.toNat []).getD (2 : Nat) (CD.int (0 : Int))).toInt
                                              ((l_1.getD n.toNat []).getD (3 : Nat) (CD.int (0 : Int))).toStr).length) *
                                        (1 : Nat) ≤
                                      (140737488355328 : Nat) ∧
                                    l_2.length +
                                        (encR ((l_1.getD n.toNat []).getD (0 : Nat) (CD.int (0 : Int))).toInt
                                            ((l_1.getD n.toNat []).getD (1 : Nat) (CD.int (0 : Int))).toInt
                                            ((l_1.getD n.toNat []).getD (2 : Nat) (CD.int (0 : Int))).toInt
                                            ((l_1.getD n.toNat []).getD (3 : Nat) (CD.int (0 : Int))).toStr).length ≤
                                      (9223372036854775807 : Nat)) ∧
                                  ((-9223372036854775808 : Int) ≤ n + (1 : Int) ∧ n + (1 : Int) ≤ (9223372036854775807 : Int)) ∧
                                    R28 l
                                        (l_2 ++
                                          encR ((l_1.getD n.toNat []).getD (0 : Nat) (CD.int (0 : Int))).toInt
                                            ((l_1.getD n.toNat []).getD (1 : Nat) (CD.int (0 : Int))).toInt
                                            ((l_1.getD n.toNat []).getD (2 : Nat) (CD.int (0 : Int))).toInt
                                            ((l_1.getD n.toNat []).getD (3 : Nat) (CD.int (0 : Int))).toStr)
                                        l_1 (↑l.length : Int) (n + (1 : Int)) ∧
                                      ((↑l_1.length : Int) - (n + (1 : Int))).toNat < ((↑l_1.length : Int) - n).toNat
                    else
                      (-1 : Int) = (ser (itsOf l)).snd.fst ∧
                        (0 : Int) = (ser (itsOf l)).snd.snd ∧
                          l_2 = rowsOfBytes (ser (itsOf l)).fst
theorem e30 : ct30.VC (base.with sp28) Try.f30.results.toList Try.f30.ntmps (Try.f30.ntmps - ct30.ps.length) (bodyOf Try.f30) ann30 = P30 := by kernel_rfl
noncomputable def sp30 : SpecT := addS sp28 30 (mkF ct30)
def P35 : Prop :=
  ∀ (l : List (List CD)),
    l.length ≤ (9223372036854775807 : Nat) →
      preL l →
        l.length ≤ (9223372036854775807 : Nat) →
          (R27 l [] l (↑l.length : Int) (0 : Int) ∧ True) ∧
            ∀ (l_1 : List (List CD)) (n n_1 : Int) (l_2 : List (List CD)),
              l_1.length ≤ (9223372036854775807 : Nat) →
                l_2.length ≤ (9223372036854775807 : Nat) →
                  R27 l l_2 l_1 n n_1 →
                    bif decide (n_1 < n) then
                      ((0 : Int) ≤ n_1 ∧ n_1 < (↑l_1.length : Int)) ∧
                        n_1.toNat < l_1.length ∧
                          True ∧
                            ((l_2.length +
                                      [[CD.int ((l_1.getD n_1.toNat []).getD (0 : Nat) (CD.int (0 : Int))).toInt,
                                            CD.int ((l_1.getD n_1.toNat []).getD (1 : Nat) (CD.int (0 : Int))).toInt,
                                            CD.int ((l_1.getD n_1.toNat []).getD (2 : Nat) (CD.int (0 : Int))).toInt,
                                            CD.str ((l_1.getD n_1.toNat []).getD (3 : Nat) (CD.int (0 : Int))).toStr]].length) *
                                    (40 : Nat) ≤
                                  (140737488355328 : Nat) ∧
                                l_2.length +
                                    [[CD.int ((l_1.getD n_1.toNat []).getD (0 : Nat) (CD.int (0 : Int))).toInt,
                                          CD.int ((l_1.getD n_1.toNat []).getD (1 : Nat) (CD.int (0 : Int))).toInt,
                                          CD.int ((l_1.getD n_1.toNat []).getD (2 : Nat) (CD.int (0 : Int))).toInt,
                                          CD.str ((l_1.getD n_1.toNat []).getD (3 : Nat) (CD.int (0 : Int))).toStr]].length ≤
                                  (9223372036854775807 : Nat)) ∧
                              ((-9223372036854775808 : Int) ≤ n_1 + (1 : Int) ∧ n_1 + (1 : Int) ≤ (9223372036854775807 : Int)) ∧
                                R27 l
                                    (l_2 ++
                                      [[CD.int ((l_1.getD n_1.toNat []).getD (0 : Nat) (CD.int (0 : Int))).toInt,
                                          CD.int ((l_1.getD n_1.toNat []).getD (1 : Nat) (CD.int (0 : Int))).toInt,
                                          CD.int ((l_1.getD n_1.toNat []).getD (2 : Nat) (CD.int (0 : Int))).toInt,
                                          CD.str ((l_1.getD n_1.toNat []).getD (3 : Nat) (CD.int (0 : Int))).toStr]])
                                    l_1 n (n_1 + (1 : Int)) ∧
                                  (n - (n_1 + (1 : Int))).toNat < (n - n_1).toNat
                    else l_2 = rowsIt (itsOf l)
theorem e35 : ct35.VC (base.with sp30) Try.f35.results.toList Try.f35.ntmps (Try.f35.ntmps - ct35.ps.length) (bodyOf Try.f35) ann35 = P35 := by kernel_rfl
noncomputable def sp35 : SpecT := addS sp30 35 (mkF ct35)
def P49 : Prop :=
  ∀ (n n_1 n_2 : Int) (l : List UInt8) (n_3 n_4 n_5 : Int) (l_1 : List UInt8),
    l.length ≤ (9223372036854775807 : Nat) →
      l_1.length ≤ (9223372036854775807 : Nat) → True → (decide (n = n_3) && decide (n_1 = n_4) && decide (n_2 = n_5)) = sameB n n_1 n_2 n_3 n_4 n_5
theorem e49 : ct49.VC (base.with sp35) Try.f49.results.toList Try.f49.ntmps (Try.f49.ntmps - ct49.ps.length) (bodyOf Try.f49) noAnn = P49 := by kernel_rfl
noncomputable def sp49 : SpecT := addS sp35 49 (mkF ct49)
def P32 : Prop :=
  ∀ (l l_1 : List (List CD)),
    l.length ≤ (9223372036854775807 : Nat) →
      l_1.length ≤ (9223372036854775807 : Nat) →
        True →
          (R32 l l_1 l l_1 (0 : Int) ∧ True) ∧
            ∀ (l_2 l_3 : List (List CD)) (n : Int),
              l_2.length ≤ (9223372036854775807 : Nat) →
                l_3.length ≤ (9223372036854775807 : Nat) →
                  R32 l l_1 l_2 l_3 n →
                    l_3.length ≤ (9223372036854775807 : Nat) →
                      bif decide (n < (↑l_3.length : Int)) then
                        ((!decide ((↑l_2.length : Int) ≤ n)) = true → (0 : Int) ≤ n ∧ n < (↑l_2.length : Int)) ∧
                          ((!decide ((↑l_2.length : Int) ≤ n)) = true → n.toNat < l_2.length) ∧
                            ((!decide ((↑l_2.length : Int) ≤ n)) = true → (0 : Int) ≤ n ∧ n < (↑l_3.length : Int)) ∧
                              ((!decide ((↑l_2.length : Int) ≤ n)) = true → n.toNat < l_3.length) ∧
                                ((!decide ((↑l_2.length : Int) ≤ n)) = true → True) ∧
                                  bif
                                      decide ((↑l_2.length : Int) ≤ n) ||
                                        !sameB ((l_2.getD n.toNat []).getD (0 : Nat) (CD.int (0 : Int))).toInt
                                            ((l_2.getD n.toNat []).getD (1 : Nat) (CD.int (0 : Int))).toInt
                                            ((l_2.getD n.toNat []).getD (2 : Nat) (CD.int (0 : Int))).toInt
                                            ((l_3.getD n.toNat []).getD (0 : Nat) (CD.int (0 : Int))).toInt
                                            ((l_3.getD n.toNat []).getD (1 : Nat) (CD.int (0 : Int))).toInt
                                            ((l_3.getD n.toNat []).getD (2 : Nat) (CD.int (0 : Int))).toInt then
                                    false = prefIt (itsOf l) (itsOf l_1)
                                  else
                                    ((-9223372036854775808 : Int) ≤ n + (1 : Int) ∧ n + (1 : Int) ≤ (9223372036854775807 : Int)) ∧
                                      R32 l l_1 l_2 l_3 (n + (1 : Int)) ∧ ((↑l_3.length : Int) - (n + (1 : Int))).toNat < ((↑l_3.length : Int) - n).toNat
                      else true = prefIt (itsOf l) (itsOf l_1)
theorem e32 : ct32.VC (base.with sp49) Try.f32.results.toList Try.f32.ntmps (Try.f32.ntmps - ct32.ps.length) (bodyOf Try.f32) ann32 = P32 := by kernel_rfl
noncomputable def sp32 : SpecT := addS sp49 32 (mkF ct32)
def P23 : Prop :=
  True →
    pre20 [] ∧
      pre20
          [[CD.int (3 : Int)], [CD.int (0 : Int)], [CD.int (1 : Int)], [CD.int (0 : Int)], [CD.int (0 : Int)], [CD.int (0 : Int)],
            [CD.int (0 : Int)], [CD.int (0 : Int)]] ∧
        ((0 : Nat) ≤ (9223372036854775807 : Nat) →
          (bw true
                  (decide ((↑(rowsIt (prs (bytesOfRows [])).fst).length : Int) = (0 : Int)) &&
                      decide ((prs (bytesOfRows [])).snd.fst = (-1 : Int)) &&
                    decide ((prs (bytesOfRows [])).snd.snd = (0 : Int))) =
                true →
              (rowsIt
                    (prs
                        (bytesOfRows
                          [[CD.int (3 : Int)], [CD.int (0 : Int)], [CD.int (1 : Int)], [CD.int (0 : Int)], [CD.int (0 : Int)],
                            [CD.int (0 : Int)], [CD.int (0 : Int)], [CD.int (0 : Int)]])).fst).length ≤
                (9223372036854775807 : Nat)) →
            (decide ((↑(0 : Nat) : Int) = (0 : Int)) && decide ((prs (bytesOfRows [])).snd.fst = (-1 : Int)) &&
                      decide ((prs (bytesOfRows [])).snd.snd = (0 : Int)) &&
                    decide ((↑(1 : Nat) : Int) = (1 : Int)) &&
                  decide
                    ((prs
                            (bytesOfRows
                              [[CD.int (3 : Int)], [CD.int (0 : Int)], [CD.int (1 : Int)], [CD.int (0 : Int)], [CD.int (0 : Int)],
                                [CD.int (0 : Int)], [CD.int (0 : Int)], [CD.int (0 : Int)]])).snd.fst =
                      (-1 : Int)) &&
                decide
                  ((prs
                          (bytesOfRows
                            [[CD.int (3 : Int)], [CD.int (0 : Int)], [CD.int (1 : Int)], [CD.int (0 : Int)], [CD.int (0 : Int)],
                              [CD.int (0 : Int)], [CD.int (0 : Int)], [CD.int (0 : Int)]])).snd.snd =
                    (0 : Int))) =
              true)
theorem e23 : ct23.VC (base.with sp32) Try.f23.results.toList Try.f23.ntmps (Try.f23.ntmps - ct23.ps.length) (bodyOf Try.f23) noAnn = P23 := by kernel_rfl
noncomputable def sp23 : SpecT := addS sp32 23 (mkF ct23)
def P7 : Prop :=
  ∀ (l : List (List CD)),
    l.length ≤ (9223372036854775807 : Nat) →
      isB l →
        True ∧
          (((bw false !true) = true → l.length ≤ (9223372036854775807 : Nat)) →
            bif !true || decide ((10000 : Int) < (↑l.length : Int)) then True ∧ true = true
            else
              pre20 l ∧
                pre20 l ∧
                  ((!(decide ((prs (bytesOfRows l)).snd.snd ≠ (prs (bytesOfRows l)).snd.snd) ||
                            decide ((prs (bytesOfRows l)).snd.fst ≠ (prs (bytesOfRows l)).snd.fst))) =
                        true →
                      preL (rowsIt (prs (bytesOfRows l)).fst)) ∧
                    ((!(decide ((prs (bytesOfRows l)).snd.snd ≠ (prs (bytesOfRows l)).snd.snd) ||
                              decide ((prs (bytesOfRows l)).snd.fst ≠ (prs (bytesOfRows l)).snd.fst))) =
                          true →
                        ((!false) = true → True) ∧
                          bif
                              false ||
                                !decide
                                    (itsOf
                                        (rowsIt
                                          (itsOf (rowsIt (prs (bytesOfRows l)).fst))) =
                                      itsOf (rowsIt (prs (bytesOfRows l)).fst)) then
                            false = true
                          else
                            bif decide ((prs (bytesOfRows l)).snd.snd ≠ (0 : Int)) then true = true
                            else
                              preL (rowsIt (prs (bytesOfRows l)).fst) ∧
                                (decide
                                        ((ser
                                                (itsOf
                                                  (rowsIt (prs (bytesOfRows l)).fst))).snd.snd =
                                          (0 : Int)) &&
                                      decide
                                        ((ser
                                                (itsOf
                                                  (rowsIt (prs (bytesOfRows l)).fst))).snd.fst =
                                          (-1 : Int)) &&
                                    decide
                                      (bytesOfRows
                                          (rowsOfBytes
                                            (ser
                                                (itsOf
                                                  (rowsIt (prs (bytesOfRows l)).fst))).fst) =
                                        bytesOfRows l)) =
                                  true) ∧
                      ((!(decide ((prs (bytesOfRows l)).snd.snd ≠ (prs (bytesOfRows l)).snd.snd) ||
                              decide ((prs (bytesOfRows l)).snd.fst ≠ (prs (bytesOfRows l)).snd.fst))) =
                          false →
                        ((!!false) = true → False) ∧ ((!!false) = true → False) ∧ false = true))
theorem e7 : ct7.VC (base.with sp23) Try.f7.results.toList Try.f7.ntmps (Try.f7.ntmps - ct7.ps.length) (bodyOf Try.f7) noAnn = P7 := by kernel_rfl
noncomputable def sp7 : SpecT := addS sp23 7 (mkF ct7)
def P8 : Prop :=
  ∀ (n n_1 n_2 : Int) (l : List UInt8) (n_3 : Int),
    l.length ≤ (9223372036854775807 : Nat) →
      (0 : Int) ≤ n_3 ∧ n_3 ≤ (65535 : Int) →
        True ∧
          ((!!true) = true → True) ∧
            ((bw false (!true || decide (chk n n_1 n_2 l ≠ (0 : Int))) = true → l.length ≤ (9223372036854775807 : Nat)) →
              bif !true || decide (chk n n_1 n_2 l ≠ (0 : Int)) || decide ((20 : Int) < (↑l.length : Int)) then True ∧ true = true
              else
                ((0 : Int) ≤ Go.IntKind.i64.wrap n_3 ∧ (0 : Int) < (1100 : Int)) ∧
                  True ∧
                    (R8 n n_1 n_2 l n_3 (Go.IntKind.i64.wrap n_3 % (1100 : Int)) (Go.IntKind.i64.wrap n_3 % (1100 : Int)) (0 : Int)
                          (encR n n_1 n_2 l) [] [] n n_1 n_2 l ∧
                        True) ∧
                      ∀ (n_4 : Int) (l_1 : List (List CD)) (n_5 n_6 n_7 n_8 n_9 : Int) (l_2 : List UInt8) (l_3 l_4 : List (List CD)),
                        l_1.length ≤ (9223372036854775807 : Nat) →
                          l_2.length ≤ (9223372036854775807 : Nat) →
                            l_3.length ≤ (9223372036854775807 : Nat) →
                              l_4.length ≤ (9223372036854775807 : Nat) →
                                R8 n n_1 n_2 l n_3 n_4 n_5 n_6 l_1 l_3 l_4 n_7 n_8 n_9 l_2 →
                                  bif decide (n_6 < n_5) then
                                    ((l_3.length + l_1.length) * (1 : Nat) ≤ (140737488355328 : Nat) ∧ l_3.length + l_1.length ≤ (9223372036854775807 : Nat)) ∧
                                      True ∧
                                        ((l_4.length + [[CD.int n_7, CD.int n_8, CD.int n_9, CD.str l_2]].length) * (40 : Nat) ≤ (140737488355328 : Nat) ∧
                                            l_4.length + [[CD.int n_7, CD.int n_8, CD.int n_9, CD.str l_2]].length ≤ (9223372036854775807 : Nat)) ∧
                                          ((-9223372036854775808 : Int) ≤ n_6 + (1 : Int) ∧ n_6 + (1 : Int) ≤ (9223372036854775807 : Int)) ∧
                                            R8 n n_1 n_2 l n_3 n_4 n_5 (n_6 + (1 : Int)) l_1 (l_3 ++ l_1)
                                                (l_4 ++ [[CD.int n_7, CD.int n_8, CD.int n_9, CD.str l_2]]) n_7 n_8 n_9 l_2 ∧
                                              (n_5 - (n_6 + (1 : Int))).toNat < (n_5 - n_6).toNat
                                  else
                                    pre20 l_3 ∧
                                      preL l_4 ∧
                                        bif decide ((1024 : Int) < n_4) then
                                          (bw true
                                                  (decide ((prs (bytesOfRows l_3)).snd.snd = (9 : Int)) &&
                                                        decide ((prs (bytesOfRows l_3)).snd.fst = (1024 : Int)) &&
                                                      decide ((ser (itsOf l_4)).snd.snd = (9 : Int)) &&
                                                    decide ((ser (itsOf l_4)).snd.fst = (1024 : Int))) =
                                                true →
                                              (rowsIt (prs (bytesOfRows l_3)).fst).length ≤
                                                (9223372036854775807 : Nat)) →
                                            (bw true
                                                    (decide ((prs (bytesOfRows l_3)).snd.snd = (9 : Int)) &&
                                                            decide ((prs (bytesOfRows l_3)).snd.fst = (1024 : Int)) &&
                                                          decide ((ser (itsOf l_4)).snd.snd = (9 : Int)) &&
                                                        decide ((ser (itsOf l_4)).snd.fst = (1024 : Int)) &&
                                                      decide
                                                        ((↑(rowsIt (prs (bytesOfRows l_3)).fst).length : Int) =
                                                          (0 : Int))) =
                                                  true →
                                                (rowsOfBytes (ser (itsOf l_4)).fst).length ≤
                                                  (9223372036854775807 : Nat)) →
                                              (decide ((prs (bytesOfRows l_3)).snd.snd = (9 : Int)) &&
                                                          decide ((prs (bytesOfRows l_3)).snd.fst = (1024 : Int)) &&
                                                        decide ((ser (itsOf l_4)).snd.snd = (9 : Int)) &&
                                                      decide ((ser (itsOf l_4)).snd.fst = (1024 : Int)) &&
                                                    decide
                                                      ((↑(rowsIt (prs (bytesOfRows l_3)).fst).length : Int) =
                                                        (0 : Int)) &&
                                                  decide
                                                    ((↑(rowsOfBytes (ser (itsOf l_4)).fst).length : Int) = (0 : Int))) =
                                                true
                                        else
                                          (bw true
                                                  (decide ((prs (bytesOfRows l_3)).snd.snd = (0 : Int)) &&
                                                    decide ((prs (bytesOfRows l_3)).snd.fst = (-1 : Int))) =
                                                true →
                                              (rowsIt (prs (bytesOfRows l_3)).fst).length ≤
                                                (9223372036854775807 : Nat)) →
                                            (decide ((prs (bytesOfRows l_3)).snd.snd = (0 : Int)) &&
                                                      decide ((prs (bytesOfRows l_3)).snd.fst = (-1 : Int)) &&
                                                    decide
                                                      ((↑(rowsIt (prs (bytesOfRows l_3)).fst).length : Int) = n_4) &&
                                                  decide ((ser (itsOf l_4)).snd.snd = (0 : Int)) &&
                                                decide
                                                  (bytesOfRows (rowsOfBytes (ser (itsOf l_4)).fst) =
                                                    bytesOfRows l_3)) =
                                              true)
theorem e8 : ct8.VC (base.with sp7) Try.f8.results.toList Try.f8.ntmps (Try.f8.ntmps - ct8.ps.length) (bodyOf Try.f8) ann8 = P8 := by kernel_rfl
noncomputable def sp8 : SpecT := addS sp7 8 (mkF ct8)
end Go.Proofs.Ytfikklbaceidfaa
