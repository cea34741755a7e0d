/-
  Conditions of contracts, as the kernel reckons them (printed by a program of ours, checked by the kernel).
-/
import Derived.Test.YtfikklbaceidfaaS3
namespace Go.Proofs.Ytfikklbaceidfaa
open Go Go.Avc Go.Proofs
set_option linter.unusedVariables false
set_option maxRecDepth 100000
def P18 : Prop :=
  ∀ (n n_1 n_2 : Int) (l : List UInt8) (n_3 n_4 n_5 : Int) (l_1 : List UInt8),
    l.length ≤ (9223372036854775807 : Nat) →
      l_1.length ≤ (9223372036854775807 : Nat) →
        True → (decide (n = n_3) && (decide (n_1 = n_4) && (decide (n_2 = n_5) && (decide (([] : List UInt8) = []) && true)))) = sameB n n_1 n_2 n_3 n_4 n_5
theorem e18 : ct18.VC (base.with sp13) Try.f18.results.toList Try.f18.ntmps (Try.f18.ntmps - ct18.ps.length) (bodyOf Try.f18) noAnn = P18 := by kernel_rfl
noncomputable def sp18 : SpecT := addS sp13 18 (mkF ct18)
def P44 : Prop :=
  ∀ (n n_1 : Int),
    pre44 n n_1 →
      (R44 n n_1 n n_1 (0 : Int) [] ∧ True) ∧
        ∀ (n_2 n_3 n_4 : Int) (l : List (List CD)),
          l.length ≤ (9223372036854775807 : Nat) →
            R44 n n_1 n_2 n_3 n_4 l →
              bif decide (n_4 < n_3) then
                ((0 : Int) ≤ n_2 ∧ (0 : Int) < (256 : Int)) ∧
                  ((l.length + [[CD.int (Go.IntKind.u8.wrap (n_2 % (256 : Int)))]].length) * (1 : Nat) ≤ (140737488355328 : Nat) ∧
                      l.length + [[CD.int (Go.IntKind.u8.wrap (n_2 % (256 : Int)))]].length ≤ (9223372036854775807 : Nat)) ∧
                    ((0 : Int) ≤ n_2 ∧ (0 : Int) < (256 : Int) ∧ n_2 ≤ Go.IntKind.i64.max) ∧
                      ((-9223372036854775808 : Int) ≤ n_4 + (1 : Int) ∧ n_4 + (1 : Int) ≤ (9223372036854775807 : Int)) ∧
                        R44 n n_1 (n_2 / (256 : Int)) n_3 (n_4 + (1 : Int)) (l ++ [[CD.int (Go.IntKind.u8.wrap (n_2 % (256 : Int)))]]) ∧
                          (n_3 - (n_4 + (1 : Int))).toNat < (n_3 - n_4).toNat
              else l = rowsOfBytes (numB n n_1.toNat)
theorem e44 : ct44.VC (base.with sp18) Try.f44.results.toList Try.f44.ntmps (Try.f44.ntmps - ct44.ps.length) (bodyOf Try.f44) ann44 = P44 := by kernel_rfl
noncomputable def sp44 : SpecT := addS sp18 44 (mkF ct44)
def P19 : Prop :=
  ∀ (n n_1 n_2 : Int) (l : List UInt8),
    l.length ≤ (9223372036854775807 : Nat) →
      True →
        True ∧
          bif decide (chk n n_1 n_2 l ≠ (0 : Int)) then
            chk n n_1 n_2 l = chk n n_1 n_2 l ∧ [] = encR n n_1 n_2 l
          else
            pre44 n (1 : Int) ∧
              pre44 n_1 (1 : Int) ∧
                (((rowsOfBytes (numB n (1 : Nat))).length + (rowsOfBytes (numB n_1 (1 : Nat))).length) *
                        (1 : Nat) ≤
                      (140737488355328 : Nat) ∧
                    (rowsOfBytes (numB n (1 : Nat))).length + (rowsOfBytes (numB n_1 (1 : Nat))).length ≤
                      (9223372036854775807 : Nat)) ∧
                  pre44 n_2 (4 : Int) ∧
                    (((rowsOfBytes (numB n (1 : Nat)) ++ rowsOfBytes (numB n_1 (1 : Nat))).length +
                              (rowsOfBytes (numB n_2 (4 : Nat))).length) *
                            (1 : Nat) ≤
                          (140737488355328 : Nat) ∧
                        (rowsOfBytes (numB n (1 : Nat)) ++ rowsOfBytes (numB n_1 (1 : Nat))).length +
                            (rowsOfBytes (numB n_2 (4 : Nat))).length ≤
                          (9223372036854775807 : Nat)) ∧
                      pre44 (↑l.length : Int) (2 : Int) ∧
                        (((rowsOfBytes (numB n (1 : Nat)) ++ rowsOfBytes (numB n_1 (1 : Nat)) ++
                                      rowsOfBytes (numB n_2 (4 : Nat))).length +
                                  (rowsOfBytes (numB (↑l.length : Int) (2 : Nat))).length) *
                                (1 : Nat) ≤
                              (140737488355328 : Nat) ∧
                            (rowsOfBytes (numB n (1 : Nat)) ++ rowsOfBytes (numB n_1 (1 : Nat)) ++
                                    rowsOfBytes (numB n_2 (4 : Nat))).length +
                                (rowsOfBytes (numB (↑l.length : Int) (2 : Nat))).length ≤
                              (9223372036854775807 : Nat)) ∧
                          (((rowsOfBytes (numB n (1 : Nat)) ++ rowsOfBytes (numB n_1 (1 : Nat)) ++
                                          rowsOfBytes (numB n_2 (4 : Nat)) ++
                                        rowsOfBytes (numB (↑l.length : Int) (2 : Nat))).length +
                                    (rowsOfBytes l).length) *
                                  (1 : Nat) ≤
                                (140737488355328 : Nat) ∧
                              (rowsOfBytes (numB n (1 : Nat)) ++ rowsOfBytes (numB n_1 (1 : Nat)) ++
                                        rowsOfBytes (numB n_2 (4 : Nat)) ++
                                      rowsOfBytes (numB (↑l.length : Int) (2 : Nat))).length +
                                  (rowsOfBytes l).length ≤
                                (9223372036854775807 : Nat)) ∧
                            (0 : Int) = chk n n_1 n_2 l ∧
                              rowsOfBytes (numB n (1 : Nat)) ++ rowsOfBytes (numB n_1 (1 : Nat)) ++
                                      rowsOfBytes (numB n_2 (4 : Nat)) ++
                                    rowsOfBytes (numB (↑l.length : Int) (2 : Nat)) ++
                                  rowsOfBytes l =
                                encR n n_1 n_2 l
theorem e19 : ct19.VC (base.with sp44) Try.f19.results.toList Try.f19.ntmps (Try.f19.ntmps - ct19.ps.length) (bodyOf Try.f19) noAnn = P19 := by kernel_rfl
noncomputable def sp19 : SpecT := addS sp44 19 (mkF ct19)
def P48 : Prop :=
  ∀ (l : List (List CD)),
    l.length ≤ (9223372036854775807 : Nat) →
      pre48 l →
        l.length ≤ (9223372036854775807 : Nat) →
          ((-9223372036854775808 : Int) ≤ (↑l.length : Int) - (1 : Int) ∧ (↑l.length : Int) - (1 : Int) ≤ (9223372036854775807 : Int)) ∧
            (R48 l l (0 : Int) ((↑l.length : Int) - (1 : Int)) ∧ True) ∧
              ∀ (l_1 : List (List CD)) (n n_1 : Int),
                l_1.length ≤ (9223372036854775807 : Nat) →
                  R48 l l_1 n n_1 →
                    bif decide ((0 : Int) ≤ n_1) then
                      ((-9223372036854775808 : Int) ≤ n * (256 : Int) ∧ n * (256 : Int) ≤ (9223372036854775807 : Int)) ∧
                        ((0 : Int) ≤ n_1 ∧ n_1 < (↑l_1.length : Int)) ∧
                          n_1.toNat < l_1.length ∧
                            ((-9223372036854775808 : Int) ≤ n * (256 : Int) + Go.IntKind.i64.wrap ((l_1.getD n_1.toNat []).getD (0 : Nat) (CD.int (0 : Int))).toInt ∧
                                n * (256 : Int) + Go.IntKind.i64.wrap ((l_1.getD n_1.toNat []).getD (0 : Nat) (CD.int (0 : Int))).toInt ≤ (9223372036854775807 : Int)) ∧
                              ((-9223372036854775808 : Int) ≤ n_1 - (1 : Int) ∧ n_1 - (1 : Int) ≤ (9223372036854775807 : Int)) ∧
                                R48 l l_1 (n * (256 : Int) + Go.IntKind.i64.wrap ((l_1.getD n_1.toNat []).getD (0 : Nat) (CD.int (0 : Int))).toInt)
                                    (n_1 - (1 : Int)) ∧
                                  (n_1 - (1 : Int) + (1 : Int)).toNat < (n_1 + (1 : Int)).toNat
                    else n = (↑(leN (bytesOfRows l)) : Int)
theorem e48 : ct48.VC (base.with sp19) Try.f48.results.toList Try.f48.ntmps (Try.f48.ntmps - ct48.ps.length) (bodyOf Try.f48) ann48 = P48 := by kernel_rfl
noncomputable def sp48 : SpecT := addS sp19 48 (mkF ct48)
def P47 : Prop :=
  ∀ (l : List (List CD)),
    l.length ≤ (9223372036854775807 : Nat) →
      pre47 l →
        ∀ (β : Bool),
          (β = true → l = []) →
            bif β then [] = l else (((0 : Nat) + l.length) * (1 : Nat) ≤ (140737488355328 : Nat) ∧ (0 : Nat) + l.length ≤ (9223372036854775807 : Nat)) ∧ [] ++ l = l
theorem e47 : ct47.VC (base.with sp48) Try.f47.results.toList Try.f47.ntmps (Try.f47.ntmps - ct47.ps.length) (bodyOf Try.f47) noAnn = P47 := by kernel_rfl
noncomputable def sp47 : SpecT := addS sp48 47 (mkF ct47)
def P46 : Prop :=
  ∀ (n : Int) (l : List (List CD)) (b : Bool),
    l.length ≤ (9223372036854775807 : Nat) →
      pre46 n →
        l.length ≤ (9223372036854775807 : Nat) →
          bif decide ((↑l.length : Int) < n) then
            ((0 : Int) ≤ (0 : Int) ∧ (0 : Int) ≤ (0 : Int) ∧ (0 : Int) ≤ (0 : Int) ∧ (0 : Int) ≤ (↑l.length : Int)) ∧
              ((0 : Int) ≤ (0 : Int) ∧ (0 : Int) ≤ (↑l.length : Int) ∧ (↑l.length : Int) ≤ (↑l.length : Int)) ∧
                List.drop (0 : Nat) (List.take (0 : Nat) l) = tkR l n ∧
                  List.drop (0 : Nat) (List.take (↑l.length : Int).toNat l) = tkD l n ∧ true = tkS l n b
          else
            ((0 : Int) ≤ (0 : Int) ∧ (0 : Int) ≤ n ∧ n ≤ n ∧ n ≤ (↑l.length : Int)) ∧
              ((0 : Int) ≤ n ∧ n ≤ (↑l.length : Int) ∧ (↑l.length : Int) ≤ (↑l.length : Int)) ∧
                List.drop (0 : Nat) (List.take n.toNat l) = tkR l n ∧
                  List.drop n.toNat (List.take (↑l.length : Int).toNat l) = tkD l n ∧ b = tkS l n b
theorem e46 : ct46.VC (base.with sp47) Try.f46.results.toList Try.f46.ntmps (Try.f46.ntmps - ct46.ps.length) (bodyOf Try.f46) noAnn = P46 := by kernel_rfl
noncomputable def sp46 : SpecT := addS sp47 46 (mkF ct46)
def P45 : Prop :=
  ∀ (n : Int) (l : List (List CD)) (b : Bool),
    l.length ≤ (9223372036854775807 : Nat) →
      pre45 n l →
        pre46 n ∧
          ((tkR l n).length ≤ (9223372036854775807 : Nat) →
            (R45 n l b (0 : Int) (tkR l n) (↑(tkR l n).length : Int) (0 : Int)
                  (tkD l n) (tkS l n b) ∧
                True) ∧
              ∀ (n_1 : Int) (l_1 : List (List CD)) (n_2 n_3 : Int) (l_2 : List (List CD)) (b_1 : Bool),
                l_1.length ≤ (9223372036854775807 : Nat) →
                  R45 n l b n_1 l_1 n_2 n_3 l_2 b_1 →
                    bif decide (n_3 < n_2) then
                      ((0 : Int) ≤ n_3 ∧ n_3 < (↑l_1.length : Int)) ∧
                        n_3.toNat < l_1.length ∧
                          ((-9223372036854775808 : Int) ≤ (8 : Int) * n_3 ∧ (8 : Int) * n_3 ≤ (9223372036854775807 : Int)) ∧
                            (0 : Int) ≤ (8 : Int) * n_3 ∧
                              ((-9223372036854775808 : Int) ≤ n_3 + (1 : Int) ∧ n_3 + (1 : Int) ≤ (9223372036854775807 : Int)) ∧
                                R45 n l b
                                    (bOr Go.IntKind.i64 n_1
                                      (bShl Go.IntKind.i64 (Go.IntKind.i64.wrap ((l_1.getD n_3.toNat []).getD (0 : Nat) (CD.int (0 : Int))).toInt) ((8 : Int) * n_3)))
                                    l_1 n_2 (n_3 + (1 : Int)) l_2 b_1 ∧
                                  (n_2 - (n_3 + (1 : Int))).toNat < (n_2 - n_3).toNat
                    else
                      n_1 = (↑(leN (bytesOfRows (tkR l n))) : Int) ∧
                        l_2 = tkD l n ∧ b_1 = tkS l n b)
theorem e45 : ct45.VC (base.with sp46) Try.f45.results.toList Try.f45.ntmps (Try.f45.ntmps - ct45.ps.length) (bodyOf Try.f45) ann45 = P45 := by kernel_rfl
noncomputable def sp45 : SpecT := addS sp46 45 (mkF ct45)
def P20 : Prop :=
  ∀ (l : List (List CD)),
    l.length ≤ (9223372036854775807 : Nat) →
      pre20 l →
        pre45 (1 : Int) l ∧
          pre45 (1 : Int) (tkD l (1 : Int)) ∧
            pre45 (4 : Int) (tkD (tkD l (1 : Int)) (1 : Int)) ∧
              pre45 (2 : Int)
                  (tkD (tkD (tkD l (1 : Int)) (1 : Int)) (4 : Int)) ∧
                pre46
                    (↑(leN
                          (bytesOfRows
                            (tkR
                              (tkD (tkD (tkD l (1 : Int)) (1 : Int)) (4 : Int)) (2 : Int)))) :
                      Int) ∧
                  bif
                      tkS
                        (tkD
                          (tkD (tkD (tkD l (1 : Int)) (1 : Int)) (4 : Int)) (2 : Int))
                        (↑(leN
                              (bytesOfRows
                                (tkR
                                  (tkD (tkD (tkD l (1 : Int)) (1 : Int)) (4 : Int)) (2 : Int)))) :
                          Int)
                        (tkS
                          (tkD (tkD (tkD l (1 : Int)) (1 : Int)) (4 : Int)) (2 : Int)
                          (tkS (tkD (tkD l (1 : Int)) (1 : Int)) (4 : Int)
                            (tkS (tkD l (1 : Int)) (1 : Int) (tkS l (1 : Int) false)))) then
                    (0 : Int) = (decI (bytesOfRows l)).k ∧
                      (0 : Int) = (decI (bytesOfRows l)).t ∧
                        (0 : Int) = (decI (bytesOfRows l)).c ∧
                          [] = (decI (bytesOfRows l)).l ∧
                            (2 : Int) = decE (bytesOfRows l) ∧ [] = rowsOfBytes (decR (bytesOfRows l))
                  else
                    True ∧
                      bif
                          decide
                            (chk (↑(leN (bytesOfRows (tkR l (1 : Int)))) : Int)
                                (↑(leN (bytesOfRows (tkR (tkD l (1 : Int)) (1 : Int)))) : Int)
                                (↑(leN
                                      (bytesOfRows
                                        (tkR (tkD (tkD l (1 : Int)) (1 : Int)) (4 : Int)))) :
                                  Int)
                                (bytesOfRows
                                  (tkR
                                    (tkD
                                      (tkD (tkD (tkD l (1 : Int)) (1 : Int)) (4 : Int)) (2 : Int))
                                    (↑(leN
                                          (bytesOfRows
                                            (tkR
                                              (tkD (tkD (tkD l (1 : Int)) (1 : Int)) (4 : Int))
                                              (2 : Int)))) :
                                      Int))) ≠
                              (0 : Int)) then
                        (0 : Int) = (decI (bytesOfRows l)).k ∧
                          (0 : Int) = (decI (bytesOfRows l)).t ∧
                            (0 : Int) = (decI (bytesOfRows l)).c ∧
                              [] = (decI (bytesOfRows l)).l ∧
                                chk (↑(leN (bytesOfRows (tkR l (1 : Int)))) : Int)
                                      (↑(leN
                                            (bytesOfRows (tkR (tkD l (1 : Int)) (1 : Int)))) :
                                        Int)
                                      (↑(leN
                                            (bytesOfRows
                                              (tkR (tkD (tkD l (1 : Int)) (1 : Int)) (4 : Int)))) :
                                        Int)
                                      (bytesOfRows
                                        (tkR
                                          (tkD
                                            (tkD (tkD (tkD l (1 : Int)) (1 : Int)) (4 : Int))
                                            (2 : Int))
                                          (↑(leN
                                                (bytesOfRows
                                                  (tkR
                                                    (tkD (tkD (tkD l (1 : Int)) (1 : Int)) (4 : Int))
                                                    (2 : Int)))) :
                                            Int))) =
                                    decE (bytesOfRows l) ∧
                                  [] = rowsOfBytes (decR (bytesOfRows l))
                      else
                        pre47
                            (tkD
                              (tkD
                                (tkD (tkD (tkD l (1 : Int)) (1 : Int)) (4 : Int)) (2 : Int))
                              (↑(leN
                                    (bytesOfRows
                                      (tkR
                                        (tkD (tkD (tkD l (1 : Int)) (1 : Int)) (4 : Int))
                                        (2 : Int)))) :
                                Int)) ∧
                          (↑(leN (bytesOfRows (tkR l (1 : Int)))) : Int) =
                              (decI (bytesOfRows l)).k ∧
                            (↑(leN (bytesOfRows (tkR (tkD l (1 : Int)) (1 : Int)))) : Int) =
                                (decI (bytesOfRows l)).t ∧
                              (↑(leN
                                        (bytesOfRows
                                          (tkR (tkD (tkD l (1 : Int)) (1 : Int)) (4 : Int)))) :
                                    Int) =
                                  (decI (bytesOfRows l)).c ∧
                                bytesOfRows
                                      (tkR
                                        (tkD
                                          (tkD (tkD (tkD l (1 : Int)) (1 : Int)) (4 : Int))
                                          (2 : Int))
                                        (↑(leN
                                              (bytesOfRows
                                                (tkR
                                                  (tkD (tkD (tkD l (1 : Int)) (1 : Int)) (4 : Int))
                                                  (2 : Int)))) :
                                          Int)) =
                                    (decI (bytesOfRows l)).l ∧
                                  (0 : Int) = decE (bytesOfRows l) ∧
                                    tkD
                                        (tkD
                                          (tkD (tkD (tkD l (1 : Int)) (1 : Int)) (4 : Int))
                                          (2 : Int))
                                        (↑(leN
                                              (bytesOfRows
                                                (tkR
                                                  (tkD (tkD (tkD l (1 : Int)) (1 : Int)) (4 : Int))
                                                  (2 : Int)))) :
                                          Int) =
                                      rowsOfBytes (decR (bytesOfRows l))
theorem e20 : ct20.VC (base.with sp45) Try.f20.results.toList Try.f20.ntmps (Try.f20.ntmps - ct20.ps.length) (bodyOf Try.f20) noAnn = P20 := by kernel_rfl
noncomputable def sp20 : SpecT := addS sp45 20 (mkF ct20)
def P21 : Prop :=
  ∀ (n n_1 n_2 : Int) (l : List UInt8), l.length ≤ (9223372036854775807 : Nat) → True → n = n ∧ n_1 = n_1 ∧ n_2 = n_2 ∧ l = l
theorem e21 : ct21.VC (base.with sp20) Try.f21.results.toList Try.f21.ntmps (Try.f21.ntmps - ct21.ps.length) (bodyOf Try.f21) noAnn = P21 := by kernel_rfl
noncomputable def sp21 : SpecT := addS sp20 21 (mkF ct21)
def P22 : Prop :=
  ∀ (l : List (List CD)),
    l.length ≤ (9223372036854775807 : Nat) →
      pre20 l →
        l.length ≤ (9223372036854775807 : Nat) →
          (bw false (decide ((↑l.length : Int) < (8 : Int))) = true → l.length ≤ (9223372036854775807 : Nat)) →
            ((!decide ((↑l.length : Int) < (8 : Int))) = true → (0 : Int) ≤ (6 : Int) ∧ (6 : Int) ≤ (8 : Int) ∧ (8 : Int) ≤ (↑l.length : Int)) ∧
              ((!decide ((↑l.length : Int) < (8 : Int))) = true → pre48 (List.drop (6 : Nat) (List.take (8 : Nat) l))) ∧
                ((!decide ((↑l.length : Int) < (8 : Int))) = true →
                    (-9223372036854775808 : Int) ≤ (8 : Int) + (↑(leN (bytesOfRows (List.drop (6 : Nat) (List.take (8 : Nat) l)))) : Int) ∧
                      (8 : Int) + (↑(leN (bytesOfRows (List.drop (6 : Nat) (List.take (8 : Nat) l)))) : Int) ≤ (9223372036854775807 : Int)) ∧
                  bif
                      decide ((↑l.length : Int) < (8 : Int)) ||
                        decide ((↑l.length : Int) < (8 : Int) + (↑(leN (bytesOfRows (List.drop (6 : Nat) (List.take (8 : Nat) l)))) : Int)) then
                    (0 : Int) = (decI (bytesOfRows l)).k ∧
                      (0 : Int) = (decI (bytesOfRows l)).t ∧
                        (0 : Int) = (decI (bytesOfRows l)).c ∧
                          [] = (decI (bytesOfRows l)).l ∧
                            [] = rowsOfBytes (decR (bytesOfRows l)) ∧ (2 : Int) = decE (bytesOfRows l)
                  else
                    ((0 : Int) ≤ (6 : Int) ∧ (6 : Int) ≤ (8 : Int) ∧ (8 : Int) ≤ (↑l.length : Int)) ∧
                      pre48 (List.drop (6 : Nat) (List.take (8 : Nat) l)) ∧
                        ((-9223372036854775808 : Int) ≤ (8 : Int) + (↑(leN (bytesOfRows (List.drop (6 : Nat) (List.take (8 : Nat) l)))) : Int) ∧
                            (8 : Int) + (↑(leN (bytesOfRows (List.drop (6 : Nat) (List.take (8 : Nat) l)))) : Int) ≤ (9223372036854775807 : Int)) ∧
                          ((0 : Int) ≤ (0 : Int) ∧ (0 : Int) < (↑l.length : Int)) ∧
                            (0 : Nat) < l.length ∧
                              ((0 : Int) ≤ (1 : Int) ∧ (1 : Int) < (↑l.length : Int)) ∧
                                (1 : Nat) < l.length ∧
                                  ((0 : Int) ≤ (2 : Int) ∧ (2 : Int) ≤ (6 : Int) ∧ (6 : Int) ≤ (↑l.length : Int)) ∧
                                    pre48 (List.drop (2 : Nat) (List.take (6 : Nat) l)) ∧
                                      ((0 : Int) ≤ (8 : Int) ∧
                                          (8 : Int) ≤ (8 : Int) + (↑(leN (bytesOfRows (List.drop (6 : Nat) (List.take (8 : Nat) l)))) : Int) ∧
                                            (8 : Int) + (↑(leN (bytesOfRows (List.drop (6 : Nat) (List.take (8 : Nat) l)))) : Int) ≤
                                              (↑l.length : Int)) ∧
                                        True ∧
                                          bif
                                              decide
                                                (chk (Go.IntKind.i64.wrap ((l.getD (0 : Nat) []).getD (0 : Nat) (CD.int (0 : Int))).toInt)
                                                    (Go.IntKind.i64.wrap ((l.getD (1 : Nat) []).getD (0 : Nat) (CD.int (0 : Int))).toInt)
                                                    (↑(leN (bytesOfRows (List.drop (2 : Nat) (List.take (6 : Nat) l)))) : Int)
                                                    (bytesOfRows
                                                      (List.drop (8 : Nat)
                                                        (List.take
                                                          ((8 : Int) +
                                                              (↑(leN (bytesOfRows (List.drop (6 : Nat) (List.take (8 : Nat) l)))) : Int)).toNat
                                                          l))) ≠
                                                  (0 : Int)) then
                                            (0 : Int) = (decI (bytesOfRows l)).k ∧
                                              (0 : Int) = (decI (bytesOfRows l)).t ∧
                                                (0 : Int) = (decI (bytesOfRows l)).c ∧
                                                  [] = (decI (bytesOfRows l)).l ∧
                                                    [] = rowsOfBytes (decR (bytesOfRows l)) ∧
                                                      chk (Go.IntKind.i64.wrap ((l.getD (0 : Nat) []).getD (0 : Nat) (CD.int (0 : Int))).toInt)
                                                          (Go.IntKind.i64.wrap ((l.getD (1 : Nat) []).getD (0 : Nat) (CD.int (0 : Int))).toInt)
                                                          (↑(leN (bytesOfRows (List.drop (2 : Nat) (List.take (6 : Nat) l)))) : Int)
                                                          (bytesOfRows
                                                            (List.drop (8 : Nat)
                                                              (List.take
                                                                ((8 : Int) +
                                                                    (↑(leN (bytesOfRows (List.drop (6 : Nat) (List.take (8 : Nat) l)))) :
                                                                      Int)).toNat
                                                                l))) =
                                                        decE (bytesOfRows l)
                                          else
                                            ((0 : Int) ≤ (8 : Int) + (↑(leN (bytesOfRows (List.drop (6 : Nat) (List.take (8 : Nat) l)))) : Int) ∧
                                                (8 : Int) + (↑(leN (bytesOfRows (List.drop (6 : Nat) (List.take (8 : Nat) l)))) : Int) ≤
                                                    (↑l.length : Int) ∧
                                                  (↑l.length : Int) ≤ (↑l.length : Int)) ∧
                                              Go.IntKind.i64.wrap ((l.getD (0 : Nat) []).getD (0 : Nat) (CD.int (0 : Int))).toInt =
                                                  (decI (bytesOfRows l)).k ∧
                                                Go.IntKind.i64.wrap ((l.getD (1 : Nat) []).getD (0 : Nat) (CD.int (0 : Int))).toInt =
                                                    (decI (bytesOfRows l)).t ∧
                                                  (↑(leN (bytesOfRows (List.drop (2 : Nat) (List.take (6 : Nat) l)))) : Int) =
                                                      (decI (bytesOfRows l)).c ∧
                                                    bytesOfRows
                                                          (List.drop (8 : Nat)
                                                            (List.take
                                                              ((8 : Int) +
                                                                  (↑(leN (bytesOfRows (List.drop (6 : Nat) (List.take (8 : Nat) l)))) : Int)).toNat
                                                              l)) =
                                                        (decI (bytesOfRows l)).l ∧
                                                      List.drop
                                                            ((8 : Int) +
                                                                (↑(leN (bytesOfRows (List.drop (6 : Nat) (List.take (8 : Nat) l)))) : Int)).toNat
                                                            (List.take (↑l.length : Int).toNat l) =
                                                          rowsOfBytes (decR (bytesOfRows l)) ∧
                                                        (0 : Int) = decE (bytesOfRows l)
theorem e22 : ct22.VC (base.with sp21) Try.f22.results.toList Try.f22.ntmps (Try.f22.ntmps - ct22.ps.length) (bodyOf Try.f22) noAnn = P22 := by kernel_rfl
noncomputable def sp22 : SpecT := addS sp21 22 (mkF ct22)
end Go.Proofs.Ytfikklbaceidfaa
