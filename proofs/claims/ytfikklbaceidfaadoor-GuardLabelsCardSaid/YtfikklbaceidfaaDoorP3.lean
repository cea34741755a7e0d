/-
  Conditions of contracts, as the kernel reckons them (printed by a program of ours, checked by the kernel).
-/
import Derived.Test.YtfikklbaceidfaaDoorS3
namespace Go.Proofs.YtfikklbaceidfaaDoor
open Go Go.Avc Go.Proofs
set_option linter.unusedVariables false
set_option maxRecDepth 100000
def P16 : Prop :=
  ∀ (n n_1 n_2 : Int) (l : List UInt8) (n_3 n_4 n_5 : Int) (l_1 : List UInt8),
    l.length ≤ (9223372036854775807 : Nat) →
      l_1.length ≤ (9223372036854775807 : Nat) →
        True → (decide (n = n_3) && (decide (n_1 = n_4) && (decide (n_2 = n_5) && (decide (([] : List UInt8) = []) && true)))) = sameB n n_1 n_2 n_3 n_4 n_5
theorem e16 : ct16.VC (base.with sp31) Tryd.f16.results.toList Tryd.f16.ntmps (Tryd.f16.ntmps - ct16.ps.length) (bodyOf Tryd.f16) noAnn = P16 := by kernel_rfl
noncomputable def sp16 : SpecT := addS sp31 16 (mkF ct16)
def P21 : Prop :=
  ∀ (n n_1 : Int),
    pre21 n n_1 →
      (R21 n n_1 n n_1 (0 : Int) [] ∧ True) ∧
        ∀ (n_2 n_3 n_4 : Int) (l : List (List CD)),
          l.length ≤ (9223372036854775807 : Nat) →
            R21 n n_1 n_2 n_3 n_4 l →
              bif decide (n_4 < n_3) then
                ((0 : Int) ≤ n_2 ∧ (0 : Int) < (256 : Int)) ∧
                  ((l.length + (1 : Nat)) * (1 : Nat) ≤ (140737488355328 : Nat) ∧ l.length + (1 : Nat) ≤ (9223372036854775807 : Nat)) ∧
                    ((0 : Int) ≤ n_2 ∧ (0 : Int) < (256 : Int) ∧ n_2 ≤ Go.IntKind.i64.max) ∧
                      ((-9223372036854775808 : Int) ≤ n_4 + (1 : Int) ∧ n_4 + (1 : Int) ≤ (9223372036854775807 : Int)) ∧
                        R21 n n_1 (n_2 / (256 : Int)) n_3 (n_4 + (1 : Int)) (l ++ [[CD.int (Go.IntKind.u8.wrap (n_2 % (256 : Int)))]]) ∧
                          (n_3 - (n_4 + (1 : Int))).toNat < (n_3 - n_4).toNat
              else l = rowsOfBytes (numB n n_1.toNat)
theorem e21 : ct21.VC (base.with sp16) Tryd.f21.results.toList Tryd.f21.ntmps (Tryd.f21.ntmps - ct21.ps.length) (bodyOf Tryd.f21) ann21 = P21 := by kernel_rfl
noncomputable def sp21 : SpecT := addS sp16 21 (mkF ct21)
def P13 : Prop :=
  ∀ (n n_1 n_2 : Int) (l : List UInt8),
    l.length ≤ (9223372036854775807 : Nat) →
      True →
        True ∧
          bif decide (chk n n_1 n_2 l ≠ (0 : Int)) then
            chk n n_1 n_2 l = chk n n_1 n_2 l ∧ [] = encR n n_1 n_2 l
          else
            pre21 n (1 : Int) ∧
              pre21 n_1 (1 : Int) ∧
                ((2 : Nat) ≤ (140737488355328 : Nat) ∧ (2 : Nat) ≤ (9223372036854775807 : Nat)) ∧
                  pre21 n_2 (4 : Int) ∧
                    ((6 : Nat) ≤ (140737488355328 : Nat) ∧ (6 : Nat) ≤ (9223372036854775807 : Nat)) ∧
                      pre21 (↑l.length : Int) (2 : Int) ∧
                        ((8 : Nat) ≤ (140737488355328 : Nat) ∧ (8 : Nat) ≤ (9223372036854775807 : Nat)) ∧
                          (((8 : Nat) + (rowsOfBytes l).length) * (1 : Nat) ≤ (140737488355328 : Nat) ∧
                              (8 : Nat) + (rowsOfBytes l).length ≤ (9223372036854775807 : Nat)) ∧
                            (0 : Int) = chk n n_1 n_2 l ∧
                              rowsOfBytes (numB n (1 : Nat)) ++ rowsOfBytes (numB n_1 (1 : Nat)) ++
                                      rowsOfBytes (numB n_2 (4 : Nat)) ++
                                    rowsOfBytes (numB (↑l.length : Int) (2 : Nat)) ++
                                  rowsOfBytes l =
                                encR n n_1 n_2 l
theorem e13 : ct13.VC (base.with sp21) Tryd.f13.results.toList Tryd.f13.ntmps (Tryd.f13.ntmps - ct13.ps.length) (bodyOf Tryd.f13) noAnn = P13 := by kernel_rfl
noncomputable def sp13 : SpecT := addS sp21 13 (mkF ct13)
def P32 : Prop :=
  ∀ (l : List (List CD)),
    l.length ≤ (9223372036854775807 : Nat) →
      pre32 l →
        ∀ (β : Bool),
          (β = true → l = []) →
            bif β then [] = l else (((0 : Nat) + l.length) * (1 : Nat) ≤ (140737488355328 : Nat) ∧ (0 : Nat) + l.length ≤ (9223372036854775807 : Nat)) ∧ [] ++ l = l
theorem e32 : ct32.VC (base.with sp13) Tryd.f32.results.toList Tryd.f32.ntmps (Tryd.f32.ntmps - ct32.ps.length) (bodyOf Tryd.f32) noAnn = P32 := by kernel_rfl
noncomputable def sp32 : SpecT := addS sp13 32 (mkF ct32)
def P30 : Prop :=
  ∀ (n : Int) (l : List (List CD)) (b : Bool),
    l.length ≤ (9223372036854775807 : Nat) →
      pre30 n →
        l.length ≤ (9223372036854775807 : Nat) →
          bif decide ((↑l.length : Int) < n) then
            ((0 : Int) ≤ (0 : Int) ∧ (0 : Int) ≤ (0 : Int) ∧ (0 : Int) ≤ (0 : Int) ∧ (0 : Int) ≤ (↑l.length : Int)) ∧
              ((0 : Int) ≤ (0 : Int) ∧ (0 : Int) ≤ (↑l.length : Int) ∧ (↑l.length : Int) ≤ (↑l.length : Int)) ∧
                List.drop (0 : Nat) (List.take (0 : Nat) l) = tkR l n ∧
                  List.drop (0 : Nat) (List.take (↑l.length : Int).toNat l) = tkD l n ∧ true = tkS l n b
          else
            ((0 : Int) ≤ (0 : Int) ∧ (0 : Int) ≤ n ∧ n ≤ n ∧ n ≤ (↑l.length : Int)) ∧
              ((0 : Int) ≤ n ∧ n ≤ (↑l.length : Int) ∧ (↑l.length : Int) ≤ (↑l.length : Int)) ∧
                List.drop (0 : Nat) (List.take n.toNat l) = tkR l n ∧
                  List.drop n.toNat (List.take (↑l.length : Int).toNat l) = tkD l n ∧ b = tkS l n b
theorem e30 : ct30.VC (base.with sp32) Tryd.f30.results.toList Tryd.f30.ntmps (Tryd.f30.ntmps - ct30.ps.length) (bodyOf Tryd.f30) noAnn = P30 := by kernel_rfl
noncomputable def sp30 : SpecT := addS sp32 30 (mkF ct30)
def P29 : Prop :=
  ∀ (n : Int) (l : List (List CD)) (b : Bool),
    l.length ≤ (9223372036854775807 : Nat) →
      pre29 n l →
        pre30 n ∧
          ((tkR l n).length ≤ (9223372036854775807 : Nat) →
            (R29 n l b (0 : Int) (tkR l n) (↑(tkR l n).length : Int) (0 : Int)
                  (tkD l n) (tkS l n b) ∧
                True) ∧
              ∀ (n_1 : Int) (l_1 : List (List CD)) (n_2 n_3 : Int) (l_2 : List (List CD)) (b_1 : Bool),
                l_1.length ≤ (9223372036854775807 : Nat) →
                  R29 n l b n_1 l_1 n_2 n_3 l_2 b_1 →
                    bif decide (n_3 < n_2) then
                      ((0 : Int) ≤ n_3 ∧ n_3 < (↑l_1.length : Int)) ∧
                        n_3.toNat < l_1.length ∧
                          ((-9223372036854775808 : Int) ≤ (8 : Int) * n_3 ∧ (8 : Int) * n_3 ≤ (9223372036854775807 : Int)) ∧
                            (0 : Int) ≤ (8 : Int) * n_3 ∧
                              ((-9223372036854775808 : Int) ≤ n_3 + (1 : Int) ∧ n_3 + (1 : Int) ≤ (9223372036854775807 : Int)) ∧
                                R29 n l b
                                    (bOr Go.IntKind.i64 n_1
                                      (bShl Go.IntKind.i64 (Go.IntKind.i64.wrap ((l_1.getD n_3.toNat []).getD (0 : Nat) (CD.int (0 : Int))).toInt) ((8 : Int) * n_3)))
                                    l_1 n_2 (n_3 + (1 : Int)) l_2 b_1 ∧
                                  (n_2 - (n_3 + (1 : Int))).toNat < (n_2 - n_3).toNat
                    else
                      n_1 = (↑(leN (bytesOfRows (tkR l n))) : Int) ∧
                        l_2 = tkD l n ∧ b_1 = tkS l n b)
theorem e29 : ct29.VC (base.with sp30) Tryd.f29.results.toList Tryd.f29.ntmps (Tryd.f29.ntmps - ct29.ps.length) (bodyOf Tryd.f29) ann29 = P29 := by kernel_rfl
noncomputable def sp29 : SpecT := addS sp30 29 (mkF ct29)
def P22 : Prop :=
  ∀ (l : List (List CD)),
    l.length ≤ (9223372036854775807 : Nat) →
      pre22 l →
        pre29 (1 : Int) l ∧
          pre29 (1 : Int) (tkD l (1 : Int)) ∧
            pre29 (4 : Int) (tkD (tkD l (1 : Int)) (1 : Int)) ∧
              pre29 (2 : Int)
                  (tkD (tkD (tkD l (1 : Int)) (1 : Int)) (4 : Int)) ∧
                pre30
                    (↑(leN
                          (bytesOfRows
                            (tkR
                              (tkD (tkD (tkD l (1 : Int)) (1 : Int)) (4 : Int))
                              (2 : Int)))) :
                      Int) ∧
                  bif
                      tkS
                        (tkD
                          (tkD (tkD (tkD l (1 : Int)) (1 : Int)) (4 : Int)) (2 : Int))
                        (↑(leN
                              (bytesOfRows
                                (tkR
                                  (tkD (tkD (tkD l (1 : Int)) (1 : Int)) (4 : Int))
                                  (2 : Int)))) :
                          Int)
                        (tkS
                          (tkD (tkD (tkD l (1 : Int)) (1 : Int)) (4 : Int)) (2 : Int)
                          (tkS (tkD (tkD l (1 : Int)) (1 : Int)) (4 : Int)
                            (tkS (tkD l (1 : Int)) (1 : Int)
                              (tkS l (1 : Int) false)))) then
                    (0 : Int) = (decI (bytesOfRows l)).k ∧
                      (0 : Int) = (decI (bytesOfRows l)).t ∧
                        (0 : Int) = (decI (bytesOfRows l)).c ∧
                          [] = (decI (bytesOfRows l)).l ∧
                            (2 : Int) = decE (bytesOfRows l) ∧
                              [] = rowsOfBytes (decR (bytesOfRows l))
                  else
                    True ∧
                      bif
                          decide
                            (chk (↑(leN (bytesOfRows (tkR l (1 : Int)))) : Int)
                                (↑(leN
                                      (bytesOfRows (tkR (tkD l (1 : Int)) (1 : Int)))) :
                                  Int)
                                (↑(leN
                                      (bytesOfRows
                                        (tkR (tkD (tkD l (1 : Int)) (1 : Int))
                                          (4 : Int)))) :
                                  Int)
                                (bytesOfRows
                                  (tkR
                                    (tkD
                                      (tkD (tkD (tkD l (1 : Int)) (1 : Int)) (4 : Int))
                                      (2 : Int))
                                    (↑(leN
                                          (bytesOfRows
                                            (tkR
                                              (tkD (tkD (tkD l (1 : Int)) (1 : Int))
                                                (4 : Int))
                                              (2 : Int)))) :
                                      Int))) ≠
                              (0 : Int)) then
                        (0 : Int) = (decI (bytesOfRows l)).k ∧
                          (0 : Int) = (decI (bytesOfRows l)).t ∧
                            (0 : Int) = (decI (bytesOfRows l)).c ∧
                              [] = (decI (bytesOfRows l)).l ∧
                                chk (↑(leN (bytesOfRows (tkR l (1 : Int)))) : Int)
                                      (↑(leN
                                            (bytesOfRows (tkR (tkD l (1 : Int)) (1 : Int)))) :
                                        Int)
                                      (↑(leN
                                            (bytesOfRows
                                              (tkR (tkD (tkD l (1 : Int)) (1 : Int))
                                                (4 : Int)))) :
                                        Int)
                                      (bytesOfRows
                                        (tkR
                                          (tkD
                                            (tkD (tkD (tkD l (1 : Int)) (1 : Int))
                                              (4 : Int))
                                            (2 : Int))
                                          (↑(leN
                                                (bytesOfRows
                                                  (tkR
                                                    (tkD
                                                      (tkD (tkD l (1 : Int)) (1 : Int)) (4 : Int))
                                                    (2 : Int)))) :
                                            Int))) =
                                    decE (bytesOfRows l) ∧
                                  [] = rowsOfBytes (decR (bytesOfRows l))
                      else
                        pre32
                            (tkD
                              (tkD
                                (tkD (tkD (tkD l (1 : Int)) (1 : Int)) (4 : Int))
                                (2 : Int))
                              (↑(leN
                                    (bytesOfRows
                                      (tkR
                                        (tkD (tkD (tkD l (1 : Int)) (1 : Int)) (4 : Int))
                                        (2 : Int)))) :
                                Int)) ∧
                          (↑(leN (bytesOfRows (tkR l (1 : Int)))) : Int) =
                              (decI (bytesOfRows l)).k ∧
                            (↑(leN
                                      (bytesOfRows (tkR (tkD l (1 : Int)) (1 : Int)))) :
                                  Int) =
                                (decI (bytesOfRows l)).t ∧
                              (↑(leN
                                        (bytesOfRows
                                          (tkR (tkD (tkD l (1 : Int)) (1 : Int))
                                            (4 : Int)))) :
                                    Int) =
                                  (decI (bytesOfRows l)).c ∧
                                bytesOfRows
                                      (tkR
                                        (tkD
                                          (tkD (tkD (tkD l (1 : Int)) (1 : Int))
                                            (4 : Int))
                                          (2 : Int))
                                        (↑(leN
                                              (bytesOfRows
                                                (tkR
                                                  (tkD (tkD (tkD l (1 : Int)) (1 : Int))
                                                    (4 : Int))
                                                  (2 : Int)))) :
                                          Int)) =
                                    (decI (bytesOfRows l)).l ∧
                                  (0 : Int) = decE (bytesOfRows l) ∧
                                    tkD
                                        (tkD
                                          (tkD (tkD (tkD l (1 : Int)) (1 : Int))
                                            (4 : Int))
                                          (2 : Int))
                                        (↑(leN
                                              (bytesOfRows
                                                (tkR
                                                  (tkD (tkD (tkD l (1 : Int)) (1 : Int))
                                                    (4 : Int))
                                                  (2 : Int)))) :
                                          Int) =
                                      rowsOfBytes (decR (bytesOfRows l))
theorem e22 : ct22.VC (base.with sp29) Tryd.f22.results.toList Tryd.f22.ntmps (Tryd.f22.ntmps - ct22.ps.length) (bodyOf Tryd.f22) noAnn = P22 := by kernel_rfl
noncomputable def sp22 : SpecT := addS sp29 22 (mkF ct22)
end Go.Proofs.YtfikklbaceidfaaDoor
