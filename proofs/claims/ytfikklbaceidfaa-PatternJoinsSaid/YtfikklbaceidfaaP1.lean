/-
  Conditions of contracts, as the kernel reckons them (printed by a program of ours, checked by the kernel).
-/
import Derived.Test.YtfikklbaceidfaaS1
namespace Go.Proofs.Ytfikklbaceidfaa
open Go Go.Avc Go.Proofs
set_option linter.unusedVariables false
set_option maxRecDepth 100000
def P14 : Prop :=
  ∀ (n n_1 n_2 : Int) (l : List UInt8),
    l.length ≤ (9223372036854775807 : Nat) →
      True →
        bif decide (n < (1 : Int)) || decide ((3 : Int) < n) then (5 : Int) = chk n n_1 n_2 l
        else
          bif
              decide (n = (1 : Int)) && (decide (n_1 < (1 : Int)) || decide ((4 : Int) < n_1)) || decide (n = (2 : Int)) && decide (n_1 ≠ (1 : Int)) && decide (n_1 ≠ (3 : Int)) ||
                decide (n = (3 : Int)) && decide (n_1 ≠ (0 : Int)) then
            (6 : Int) = chk n n_1 n_2 l
          else
            bif decide (n_2 < (1 : Int)) || decide ((1048576 : Int) < n_2) || decide (n = (3 : Int)) && decide (n_2 ≠ (1 : Int)) then
              (7 : Int) = chk n n_1 n_2 l
            else
              l.length ≤ (9223372036854775807 : Nat) →
                bif decide ((255 : Int) < (↑l.length : Int)) then (8 : Int) = chk n n_1 n_2 l else (0 : Int) = chk n n_1 n_2 l
theorem e14 : ct14.VC (base.with spec0) Try.f14.results.toList Try.f14.ntmps (Try.f14.ntmps - ct14.ps.length) (bodyOf Try.f14) noAnn = P14 := by kernel_rfl
noncomputable def sp14 : SpecT := addS spec0 14 (mkF ct14)
def P15 : Prop :=
  ∀ (n n_1 n_2 : Int) (l : List UInt8), l.length ≤ (9223372036854775807 : Nat) → True → n = n ∧ n_1 = n_1 ∧ n_2 = n_2 ∧ l = l
theorem e15 : ct15.VC (base.with sp14) Try.f15.results.toList Try.f15.ntmps (Try.f15.ntmps - ct15.ps.length) (bodyOf Try.f15) noAnn = P15 := by kernel_rfl
noncomputable def sp15 : SpecT := addS sp14 15 (mkF ct15)
def P54 : Prop :=
  ∀ (l : List (List CD)) (n : Int),
    l.length ≤ (9223372036854775807 : Nat) →
      True →
        l.length ≤ (9223372036854775807 : Nat) →
          (R54 l n l n (↑l.length : Int) (0 : Int) ∧ True) ∧
            ∀ (l_1 : List (List CD)) (n_1 n_2 n_3 : Int),
              l_1.length ≤ (9223372036854775807 : Nat) →
                R54 l n l_1 n_1 n_2 n_3 →
                  bif decide (n_3 < n_2) then
                    ((0 : Int) ≤ n_3 ∧ n_3 < (↑l_1.length : Int)) ∧
                      n_3.toNat < l_1.length ∧
                        bif decide (n_1 = ((l_1.getD n_3.toNat []).getD (0 : Nat) (CD.int (0 : Int))).toInt) then
                          n_3 = idxI (intsOf l) n
                        else
                          ((-9223372036854775808 : Int) ≤ n_3 + (1 : Int) ∧ n_3 + (1 : Int) ≤ (9223372036854775807 : Int)) ∧
                            R54 l n l_1 n_1 n_2 (n_3 + (1 : Int)) ∧ (n_2 - (n_3 + (1 : Int))).toNat < (n_2 - n_3).toNat
                  else (-1 : Int) = idxI (intsOf l) n
theorem e54 : ct54.VC (base.with sp15) Try.f54.results.toList Try.f54.ntmps (Try.f54.ntmps - ct54.ps.length) (bodyOf Try.f54) ann54 = P54 := by kernel_rfl
noncomputable def sp54 : SpecT := addS sp15 54 (mkF ct54)
def P42 : Prop :=
  ∀ (l : List (List CD)) (n : Int),
    l.length ≤ (9223372036854775807 : Nat) →
      True → True ∧ decide ((0 : Int) ≤ idxI (intsOf l) n) = decide (n ∈ intsOf l)
theorem e42 : ct42.VC (base.with sp54) Try.f42.results.toList Try.f42.ntmps (Try.f42.ntmps - ct42.ps.length) (bodyOf Try.f42) noAnn = P42 := by kernel_rfl
noncomputable def sp42 : SpecT := addS sp54 42 (mkF ct42)
def P41 : Prop :=
  ∀ (n : Int),
    True →
      bif decide (n = (1 : Int)) then
        (1048576 : Int) = mostOf n ∧
          [[CD.int (1 : Int)], [CD.int (2 : Int)], [CD.int (3 : Int)], [CD.int (4 : Int)]] =
            rowsI (typesOf n)
      else
        bif decide (n = (2 : Int)) then
          (1048576 : Int) = mostOf n ∧
            [[CD.int (1 : Int)], [CD.int (3 : Int)]] = rowsI (typesOf n)
        else
          bif decide (n = (3 : Int)) then
            (1 : Int) = mostOf n ∧ [[CD.int (0 : Int)]] = rowsI (typesOf n)
          else (0 : Int) = mostOf n ∧ [] = rowsI (typesOf n)
theorem e41 : ct41.VC (base.with sp42) Try.f41.results.toList Try.f41.ntmps (Try.f41.ntmps - ct41.ps.length) (bodyOf Try.f41) noAnn = P41 := by kernel_rfl
noncomputable def sp41 : SpecT := addS sp42 41 (mkF ct41)
def P16 : Prop :=
  ∀ (n n_1 n_2 : Int) (l : List UInt8),
    l.length ≤ (9223372036854775807 : Nat) →
      True →
        True ∧
          ((rowsI (typesOf n)).length ≤ (9223372036854775807 : Nat) →
            bif decide ((↑(rowsI (typesOf n)).length : Int) = (0 : Int)) then
              (5 : Int) = chk n n_1 n_2 l
            else
              True ∧
                bif !decide (n_1 ∈ intsOf (rowsI (typesOf n))) then
                  (6 : Int) = chk n n_1 n_2 l
                else
                  bif decide (n_2 < (1 : Int)) || decide (mostOf n < n_2) then (7 : Int) = chk n n_1 n_2 l
                  else
                    l.length ≤ (9223372036854775807 : Nat) →
                      bif decide ((255 : Int) < (↑l.length : Int)) then (8 : Int) = chk n n_1 n_2 l
                      else (0 : Int) = chk n n_1 n_2 l)
theorem e16 : ct16.VC (base.with sp41) Try.f16.results.toList Try.f16.ntmps (Try.f16.ntmps - ct16.ps.length) (bodyOf Try.f16) noAnn = P16 := by kernel_rfl
noncomputable def sp16 : SpecT := addS sp41 16 (mkF ct16)
def P43 : Prop :=
  ∀ (n n_1 : Int) (l : List (List CD)),
    l.length ≤ (9223372036854775807 : Nat) →
      pre43 n n_1 l →
        (R43 n n_1 l n n_1 (0 : Int) l ∧ True) ∧
          ∀ (n_2 n_3 n_4 : Int) (l_1 : List (List CD)),
            l_1.length ≤ (9223372036854775807 : Nat) →
              R43 n n_1 l n_2 n_3 n_4 l_1 →
                bif decide (n_4 < n_3) then
                  ((-9223372036854775808 : Int) ≤ (8 : Int) * n_4 ∧ (8 : Int) * n_4 ≤ (9223372036854775807 : Int)) ∧
                    (0 : Int) ≤ (8 : Int) * n_4 ∧
                      ((l_1.length + [[CD.int (Go.IntKind.u8.wrap (bShr Go.IntKind.i64 n_2 ((8 : Int) * n_4)))]].length) * (1 : Nat) ≤ (140737488355328 : Nat) ∧
                          l_1.length + [[CD.int (Go.IntKind.u8.wrap (bShr Go.IntKind.i64 n_2 ((8 : Int) * n_4)))]].length ≤ (9223372036854775807 : Nat)) ∧
                        ((-9223372036854775808 : Int) ≤ n_4 + (1 : Int) ∧ n_4 + (1 : Int) ≤ (9223372036854775807 : Int)) ∧
                          R43 n n_1 l n_2 n_3 (n_4 + (1 : Int))
                              (l_1 ++ [[CD.int (Go.IntKind.u8.wrap (bShr Go.IntKind.i64 n_2 ((8 : Int) * n_4)))]]) ∧
                            (n_3 - (n_4 + (1 : Int))).toNat < (n_3 - n_4).toNat
                else l_1 = l ++ rowsOfBytes (numB n n_1.toNat)
theorem e43 : ct43.VC (base.with sp16) Try.f43.results.toList Try.f43.ntmps (Try.f43.ntmps - ct43.ps.length) (bodyOf Try.f43) ann43 = P43 := by kernel_rfl
noncomputable def sp43 : SpecT := addS sp16 43 (mkF ct43)
def P17 : Prop :=
  ∀ (n n_1 n_2 : Int) (l : List UInt8),
    l.length ≤ (9223372036854775807 : Nat) →
      True →
        True ∧
          bif decide (chk n n_1 n_2 l ≠ (0 : Int)) then
            chk n n_1 n_2 l = chk n n_1 n_2 l ∧ [] = encR n n_1 n_2 l
          else
            pre43 n_2 (4 : Int) [[CD.int (Go.IntKind.u8.wrap n)], [CD.int (Go.IntKind.u8.wrap n_1)]] ∧
              pre43 (↑l.length : Int) (2 : Int)
                  ([[CD.int (Go.IntKind.u8.wrap n)], [CD.int (Go.IntKind.u8.wrap n_1)]] ++ rowsOfBytes (numB n_2 (4 : Nat))) ∧
                ((([[CD.int (Go.IntKind.u8.wrap n)], [CD.int (Go.IntKind.u8.wrap n_1)]] ++ rowsOfBytes (numB n_2 (4 : Nat)) ++
                              rowsOfBytes (numB (↑l.length : Int) (2 : Nat))).length +
                          (rowsOfBytes l).length) *
                        (1 : Nat) ≤
                      (140737488355328 : Nat) ∧
                    ([[CD.int (Go.IntKind.u8.wrap n)], [CD.int (Go.IntKind.u8.wrap n_1)]] ++ rowsOfBytes (numB n_2 (4 : Nat)) ++
                            rowsOfBytes (numB (↑l.length : Int) (2 : Nat))).length +
                        (rowsOfBytes l).length ≤
                      (9223372036854775807 : Nat)) ∧
                  (0 : Int) = chk n n_1 n_2 l ∧
                    [[CD.int (Go.IntKind.u8.wrap n)], [CD.int (Go.IntKind.u8.wrap n_1)]] ++ rowsOfBytes (numB n_2 (4 : Nat)) ++
                          rowsOfBytes (numB (↑l.length : Int) (2 : Nat)) ++
                        rowsOfBytes l =
                      encR n n_1 n_2 l
theorem e17 : ct17.VC (base.with sp43) Try.f17.results.toList Try.f17.ntmps (Try.f17.ntmps - ct17.ps.length) (bodyOf Try.f17) noAnn = P17 := by kernel_rfl
noncomputable def sp17 : SpecT := addS sp43 17 (mkF ct17)
def P13 : Prop :=
  True →
    True ∧
      (decide (chk (1 : Int) (1 : Int) (5 : Int) [(97 : UInt8)] = (0 : Int)) = true →
          (true &&
              decide
                (bytesOfRows
                    [[CD.int (↑(1 : Nat) : Int)], [CD.int (↑(1 : Nat) : Int)], [CD.int (↑(5 : Nat) : Int)], [CD.int (↑(0 : Nat) : Int)],
                      [CD.int (↑(0 : Nat) : Int)], [CD.int (↑(0 : Nat) : Int)], [CD.int (↑(1 : Nat) : Int)], [CD.int (↑(0 : Nat) : Int)],
                      [CD.int (↑(97 : Nat) : Int)]] =
                  bytesOfRows
                    [[CD.int (1 : Int)], [CD.int (1 : Int)], [CD.int (5 : Int)], [CD.int (0 : Int)], [CD.int (0 : Int)], [CD.int (0 : Int)],
                      [CD.int (1 : Int)], [CD.int (0 : Int)], [CD.int (97 : Int)]])) =
            true) ∧
        (decide (chk (1 : Int) (1 : Int) (5 : Int) [(97 : UInt8)] = (0 : Int)) = false →
          ((!true) = true → False) ∧ ((!true) = true → False) ∧ false = true)
theorem e13 : ct13.VC (base.with sp17) Try.f13.results.toList Try.f13.ntmps (Try.f13.ntmps - ct13.ps.length) (bodyOf Try.f13) noAnn = P13 := by kernel_rfl
noncomputable def sp13 : SpecT := addS sp17 13 (mkF ct13)
end Go.Proofs.Ytfikklbaceidfaa
