/-
  The seat's own context: zero values, the program, the table of constants, no contract yet.
-/
import Derived.Test.YtganbceicojfmaaDoorProg
import Derived.Test.YtganbceicojfmaaDoorAvcT0
import Derived.KernelRfl
namespace Go.Proofs.YtganbceicojfmaaDoor
open Go.Avc Go.Proofs
abbrev z64 (n : Nat) : SV := .arrI n .u64 (List.replicate n 0)
def zt : List (TypeId × List SV) := [(3, [.int .i64 0]), (4, [.bool false]), (5, [.int .u8 0]), (22, [.int .u64 0]), (23, [z64 25]), (24, [z64 25]), (27, [.arrB 64 (List.replicate 64 false)]), (28, [.arrB 320 (List.replicate 320 false)]), (30, [.arrB 1600 (List.replicate 1600 false)]),
  (42, [.nils]), (46, [.arrI 200 .u8 (List.replicate 200 0)]), (51, [.arrI 32 .u8 (List.replicate 32 0)]), (56, [z64 25, .int .i64 0]), (69, [z64 5])]
set_option maxRecDepth 100000 in
theorem zt_ok : ztab Tryd.prog zt = true := by kernel_rfl
/-- The constants of the rounds, as the program's text lays them. -/
def rcL : List Int := [1, 32898, 9223372036854808714, 9223372039002292224, 32907, 2147483649, 9223372039002292353, 9223372036854808585, 138, 136, 2147516425, 2147483658, 2147516555, 9223372036854775947, 9223372036854808713, 9223372036854808579,
  9223372036854808578, 9223372036854775936, 32778, 9223372039002259466, 9223372039002292353, 9223372036854808704, 2147483649, 9223372039002292232]
def rcRows : List (List CD) := rcL.map fun n => [.int n]
def gl : Nat → Option SV := fun g => bif Nat.beq g 0 then some (.eptr [.int .u64] rcRows 0 0) else none
noncomputable def base : Ctx := ⟨Tryd.prog, zlook zt, gl, spec0⟩
theorem base_ok : (base.with spec0).Ok := ⟨ztab_ok zt_ok, fun f => spec0_ok f, by kernel_rfl, fun g sv h => by
  have h' : gl g = some sv := h
  unfold gl at h'
  cases hb : Nat.beq g 0 with
  | true => rw [hb] at h'; cases h'; exact ⟨_, _, _, _, rfl⟩
  | false => rw [hb] at h'; cases h'⟩
noncomputable def bodyOf (fn : Func) : Code := match fn.body with | some c => c | none => .skip
def noAnn : List Dat → Ann := fun _ => { cut := [], loop := [] }
end Go.Proofs.YtganbceicojfmaaDoor

/-
  Keccak on 25 words: what the program's functions compute; contracts.
-/
namespace Go.Proofs.YtganbceicojfmaaDoor
open Go.Avc
set_option linter.unusedVariables false
abbrev i64 : Pat := .int .i64
abbrev u64 : Pat := .int .u64
abbrev noRes : Res := .ret .skip [] []
abbrev a25 : Pat := .arrI 25 .u64
abbrev st : Pat := .agg [a25]
def la (n : Nat) (slots : List (Nat × Pat)) (bs : List BPat) (R : List Dat → Prop) (m : List Dat → Nat) : LA := ⟨n, pl n 0 slots, bs, R, m⟩

/-! ### Words -/
def xr (a b : Int) : Int := bXor .u64 a b
def rotW (x s : Int) : Int := bOr .u64 (bShl .u64 x s) (bShr .u64 x (64 - s))
def cols (s : List Int) : Nat → List Int
  | 0 => List.replicate 5 0
  | i + 1 => (cols s i).set (i % 5) (xr ((cols s i).getD (i % 5) 0) (s.getD i 0))
def thN (c s : List Int) : Nat → List Int
  | 0 => s
  | i + 1 => (thN c s i).set i (xr ((thN c s i).getD i 0) (xr (c.getD ((i % 5 + 4) % 5) 0) (rotW (c.getD ((i % 5 + 1) % 5) 0) 1)))
def theta (s : List Int) : List Int := thN (cols s 25) s 25
def xyN : Nat → Nat × Nat
  | 0 => (1, 0)
  | i + 1 => ((xyN i).2, (2 * (xyN i).1 + 3 * (xyN i).2) % 5)
def rpN (s : List Int) : Nat → List Int
  | 0 => (List.replicate 25 0).set 0 (s.getD 0 0)
  | i + 1 => (rpN s i).set ((xyN i).2 + 5 * ((2 * (xyN i).1 + 3 * (xyN i).2) % 5)) (rotW (s.getD ((xyN i).1 + 5 * (xyN i).2) 0) (((i + 1) * (i + 2) / 2 : Nat) % 64 : Nat))
def rhoPi (s : List Int) : List Int := rpN s 24
def chN (s : List Int) : Nat → List Int
  | 0 => s
  | i + 1 => (chN s i).set i (xr ((chN s i).getD i 0) (bAndNot .u64 (s.getD (i - i % 5 + (i + 2) % 5) 0) (s.getD (i - i % 5 + (i + 1) % 5) 0)))
def chi (s : List Int) : List Int := chN s 25
def rcOf (r : Int) : Int := if r < 0 ∨ 24 ≤ r then 0 else rcL.getD r.toNat 0
def round (s : List Int) (r : Int) : List Int := (chi (rhoPi (theta s))).set 0 (xr ((chi (rhoPi (theta s))).getD 0 0) (rcOf r))
def permN (s : List Int) : Nat → List Int
  | 0 => s
  | i + 1 => round (permN s i) i
/-- (Behind a choice, so that nobody reckons it out.) -/
noncomputable def perm : List Int → List Int := Classical.choose (⟨fun s => permN s 24, rfl⟩ : ∃ f : List Int → List Int, f = fun s => permN s 24)
theorem perm_eq (s : List Int) : perm s = permN s 24 := congrFun (Classical.choose_spec (⟨fun s => permN s 24, rfl⟩ : ∃ f : List Int → List Int, f = fun s => permN s 24)) s

/-! ### Contracts -/
def ct43 : Ct := { ps := [u64, i64], bs := [], pre := fun | [.i _, .i k] => 0 ≤ k ∧ k ≤ 1000 | _ => False, res := fun | [.i x, .i k] => .ret u64 [] [.i (rotW x (k % 64))] | _ => noRes }
def ct20 : Ct := { ps := [i64], bs := [], pre := fun _ => True, res := fun | [.i r] => .ret u64 [] [.i (rcOf r)] | _ => noRes }
abbrev q24 : BPat := .cells 24 [a25]
def ct35 : Ct := { ps := [st], bs := [], pre := fun _ => True, res := fun | [.li s] => .ret st [] [.li (theta s)] | _ => noRes }
def ann35 : List Dat → Ann
  | [.li s] => { cut := [], loop := [
    (3, [la 45 [(1, .ptr 0 0), (2, .ptr 1 0), (3, .ptr 2 0), (8, st), (9, i64)] [q24, q24, .cells 69 [.arrI 5 .u64]] (fun | [.li s', .i i, .li s'', .li z, .li c] => s' = s ∧ s'' = s ∧ 0 ≤ i ∧ i ≤ 25 ∧ c = cols s i.toNat | _ => False) (fun | [_, .i i, _, _, _] => (25 - i).toNat | _ => 0)]),
    (8, [la 45 [(1, .ptr 0 0), (2, .ptr 1 0), (3, .ptr 2 0), (21, i64)] [q24, q24, .cells 69 [.arrI 5 .u64]] (fun | [.i i, .li t, .li z, .li c] => 0 ≤ i ∧ i ≤ 25 ∧ c = cols s 25 ∧ t = thN c s i.toNat | _ => False) (fun | [.i i, _, _, _] => (25 - i).toNat | _ => 0)])] }
  | _ => { cut := [], loop := [] }
def ct36 : Ct := { ps := [st], bs := [], pre := fun _ => True, res := fun | [.li s] => .ret st [] [.li (rhoPi s)] | _ => noRes }
def ann36 : List Dat → Ann
  | [.li s] => { cut := [], loop := [
    (4, [la 42 [(1, .ptr 0 0), (2, .ptr 1 0), (3, .ptr 2 0), (4, i64), (5, i64), (11, i64)] [q24, q24, q24] (fun | [.i x, .i y, .i i, .li s', .li z, .li t] => s' = s ∧ 0 ≤ i ∧ i ≤ 24 ∧ x = (xyN i.toNat).1 ∧ y = (xyN i.toNat).2 ∧ t = rpN s i.toNat | _ => False) (fun | [_, _, .i i, _, _, _] => (24 - i).toNat | _ => 0)])] }
  | _ => { cut := [], loop := [] }
def ct37 : Ct := { ps := [st], bs := [], pre := fun _ => True, res := fun | [.li s] => .ret st [] [.li (chi s)] | _ => noRes }
def ann37 : List Dat → Ann
  | [.li s] => { cut := [], loop := [
    (3, [la 36 [(1, .ptr 0 0), (2, .ptr 1 0), (3, .ptr 2 0), (7, i64)] [q24, q24, q24] (fun | [.i i, .li s', .li z, .li t] => s' = s ∧ 0 ≤ i ∧ i ≤ 25 ∧ t = chN s i.toNat | _ => False) (fun | [.i i, _, _, _] => (25 - i).toNat | _ => 0)])] }
  | _ => { cut := [], loop := [] }
def ct16 : Ct := { ps := [st, i64], bs := [], pre := fun _ => True, res := fun | [.li s, .i r] => .ret st [] [.li (round s r)] | _ => noRes }
noncomputable def ct17 : Ct := { ps := [st], bs := [], pre := fun _ => True, res := fun | [.li s] => .ret st [] [.li (perm s)] | _ => noRes }
def ann17 : List Dat → Ann
  | [.li s] => { cut := [], loop := [
    (2, [la 12 [(1, .ptr 0 0), (2, .ptr 1 0), (4, i64)] [q24, q24] (fun | [.i i, .li t, .li z] => 0 ≤ i ∧ i ≤ 24 ∧ t = permN s i.toNat | _ => False) (fun | [.i i, _, _] => (24 - i).toNat | _ => 0)])] }
  | _ => { cut := [], loop := [] }
def ct12 : Ct := { ps := [], bs := [], pre := fun _ => True, res := fun _ => .ret .bool [] [.b true] }
end Go.Proofs.YtganbceicojfmaaDoor

/-
  Conditions of contracts, as the kernel reckons them (printed by a program of ours, checked by the kernel).
-/
namespace Go.Proofs.YtganbceicojfmaaDoor
open Go Go.Avc Go.Proofs
set_option linter.unusedVariables false
set_option maxRecDepth 100000
def P43 : Prop :=
  ∀ (n n_1 : Int),
    (0 : Int) ≤ n_1 ∧ n_1 ≤ (1000 : Int) →
      (0 : Int) ≤ bAnd Go.IntKind.u64 (Go.IntKind.u64.wrap n_1) (63 : Int) ∧
        (0 : Int) ≤ Go.IntKind.u64.wrap ((64 : Int) - bAnd Go.IntKind.u64 (Go.IntKind.u64.wrap n_1) (63 : Int)) ∧
          bOr Go.IntKind.u64 (bShl Go.IntKind.u64 n (bAnd Go.IntKind.u64 (Go.IntKind.u64.wrap n_1) (63 : Int)))
              (bShr Go.IntKind.u64 n (Go.IntKind.u64.wrap ((64 : Int) - bAnd Go.IntKind.u64 (Go.IntKind.u64.wrap n_1) (63 : Int)))) =
            rotW n (n_1 % (64 : Int))
theorem e43 : ct43.VC (base.with spec0) Tryd.f43.results.toList Tryd.f43.ntmps (Tryd.f43.ntmps - ct43.ps.length) (bodyOf Tryd.f43) noAnn = P43 := by kernel_rfl
noncomputable def sp43 : SpecT := addS spec0 43 (mkF ct43)
def P20 : Prop :=
  ∀ (n : Int),
    True →
      bif decide (n < (0 : Int)) || decide ((24 : Int) ≤ n) then (0 : Int) = rcOf n
      else
        ((0 : Int) ≤ n ∧ n < (↑(24 : Nat) : Int) ∧ (0 : Nat) + n.toNat < (24 : Nat)) ∧
          (0 : Nat) + n.toNat < (24 : Nat) ∧
            (([[CD.int (1 : Int)], [CD.int (32898 : Int)], [CD.int (9223372036854808714 : Int)], [CD.int (9223372039002292224 : Int)],
                          [CD.int (32907 : Int)], [CD.int (2147483649 : Int)], [CD.int (9223372039002292353 : Int)], [CD.int (9223372036854808585 : Int)],
                          [CD.int (138 : Int)], [CD.int (136 : Int)], [CD.int (2147516425 : Int)], [CD.int (2147483658 : Int)],
                          [CD.int (2147516555 : Int)], [CD.int (9223372036854775947 : Int)], [CD.int (9223372036854808713 : Int)],
                          [CD.int (9223372036854808579 : Int)], [CD.int (9223372036854808578 : Int)], [CD.int (9223372036854775936 : Int)],
                          [CD.int (32778 : Int)], [CD.int (9223372039002259466 : Int)], [CD.int (9223372039002292353 : Int)],
                          [CD.int (9223372036854808704 : Int)], [CD.int (2147483649 : Int)], [CD.int (9223372039002292232 : Int)]].getD
                      ((0 : Nat) + n.toNat) []).getD
                  (0 : Nat) (CD.int (0 : Int))).toInt =
              rcOf n
theorem e20 : ct20.VC (base.with sp43) Tryd.f20.results.toList Tryd.f20.ntmps (Tryd.f20.ntmps - ct20.ps.length) (bodyOf Tryd.f20) noAnn = P20 := by kernel_rfl
noncomputable def sp20 : SpecT := addS sp43 20 (mkF ct20)
def P35 : Prop :=
  ∀ (l : List Int),
    l.length = (25 : Nat) →
      True →
        ((l = l ∧
              l = l ∧ (0 : Int) ≤ (0 : Int) ∧ (0 : Int) ≤ (25 : Int) ∧ [(0 : Int), (0 : Int), (0 : Int), (0 : Int), (0 : Int)] = cols l (0 : Nat)) ∧
            True) ∧
          ∀ (l_1 : List Int) (n : Int) (l_2 l_3 l_4 : List Int),
            l_1.length = (25 : Nat) →
              l_2.length = (25 : Nat) →
                l_3.length = (25 : Nat) →
                  l_4.length = (5 : Nat) →
                    l_1 = l ∧ l_2 = l ∧ (0 : Int) ≤ n ∧ n ≤ (25 : Int) ∧ l_4 = cols l n.toNat →
                      bif decide (n < (25 : Int)) then
                        ((0 : Int) ≤ n ∧ n < (↑(25 : Nat) : Int) ∧ n.toNat * (1 : Nat) < (25 : Nat)) ∧
                          ((0 : Int) ≤ n ∧ (0 : Int) < (5 : Int)) ∧
                            ((0 : Int) ≤ n % (5 : Int) ∧ n % (5 : Int) < (↑(5 : Nat) : Int)) ∧
                              (n % (5 : Int)).toNat * (1 : Nat) < (5 : Nat) ∧
                                ((0 : Int) ≤ n % (5 : Int) ∧ n % (5 : Int) < (↑(5 : Nat) : Int)) ∧
                                  (n % (5 : Int)).toNat * (1 : Nat) < (5 : Nat) ∧
                                    ((-9223372036854775808 : Int) ≤ n + (1 : Int) ∧ n + (1 : Int) ≤ (9223372036854775807 : Int)) ∧
                                      (l_1 = l ∧
                                          l_2 = l ∧
                                            (0 : Int) ≤ n + (1 : Int) ∧
                                              n + (1 : Int) ≤ (25 : Int) ∧
                                                l_4.set ((n % (5 : Int)).toNat * (1 : Nat))
                                                    (bXor Go.IntKind.u64 (l_4.getD ((n % (5 : Int)).toNat * (1 : Nat)) (0 : Int)) (l_1.getD (n.toNat * (1 : Nat)) (0 : Int))) =
                                                  cols l (n + (1 : Int)).toNat) ∧
                                        ((25 : Int) - (n + (1 : Int))).toNat < ((25 : Int) - n).toNat
                      else
                        (((0 : Int) ≤ (0 : Int) ∧
                              (0 : Int) ≤ (25 : Int) ∧ l_4 = cols l (25 : Nat) ∧ l_2 = thN l_4 l (0 : Nat)) ∧
                            True) ∧
                          ∀ (n : Int) (l_5 l_6 l_7 : List Int),
                            l_5.length = (25 : Nat) →
                              l_6.length = (25 : Nat) →
                                l_7.length = (5 : Nat) →
                                  (0 : Int) ≤ n ∧ n ≤ (25 : Int) ∧ l_7 = cols l (25 : Nat) ∧ l_5 = thN l_7 l n.toNat →
                                    bif decide (n < (25 : Int)) then
                                      ((0 : Int) ≤ n ∧ (0 : Int) < (5 : Int)) ∧
                                        ((0 : Int) ≤ n ∧ n < (↑(25 : Nat) : Int)) ∧
                                          n.toNat * (1 : Nat) < (25 : Nat) ∧
                                            ((-9223372036854775808 : Int) ≤ n % (5 : Int) + (4 : Int) ∧ n % (5 : Int) + (4 : Int) ≤ (9223372036854775807 : Int)) ∧
                                              ((0 : Int) ≤ n % (5 : Int) + (4 : Int) ∧ (0 : Int) < (5 : Int)) ∧
                                                ((0 : Int) ≤ (n % (5 : Int) + (4 : Int)) % (5 : Int) ∧ (n % (5 : Int) + (4 : Int)) % (5 : Int) < (↑(5 : Nat) : Int)) ∧
                                                  ((n % (5 : Int) + (4 : Int)) % (5 : Int)).toNat * (1 : Nat) < (5 : Nat) ∧
                                                    ((-9223372036854775808 : Int) ≤ n % (5 : Int) + (1 : Int) ∧ n % (5 : Int) + (1 : Int) ≤ (9223372036854775807 : Int)) ∧
                                                      ((0 : Int) ≤ n % (5 : Int) + (1 : Int) ∧ (0 : Int) < (5 : Int)) ∧
                                                        ((0 : Int) ≤ (n % (5 : Int) + (1 : Int)) % (5 : Int) ∧ (n % (5 : Int) + (1 : Int)) % (5 : Int) < (↑(5 : Nat) : Int)) ∧
                                                          ((n % (5 : Int) + (1 : Int)) % (5 : Int)).toNat * (1 : Nat) < (5 : Nat) ∧
                                                            ((0 : Int) ≤ (1 : Int) ∧ (1 : Int) ≤ (1000 : Int)) ∧
                                                              ((0 : Int) ≤ n ∧ n < (↑(25 : Nat) : Int)) ∧
                                                                n.toNat * (1 : Nat) < (25 : Nat) ∧
                                                                  ((-9223372036854775808 : Int) ≤ n + (1 : Int) ∧ n + (1 : Int) ≤ (9223372036854775807 : Int)) ∧
                                                                    ((0 : Int) ≤ n + (1 : Int) ∧
                                                                        n + (1 : Int) ≤ (25 : Int) ∧
                                                                          l_7 = cols l (25 : Nat) ∧
                                                                            l_5.set (n.toNat * (1 : Nat))
                                                                                (bXor Go.IntKind.u64 (l_5.getD (n.toNat * (1 : Nat)) (0 : Int))
                                                                                  (bXor Go.IntKind.u64
                                                                                    (l_7.getD (((n % (5 : Int) + (4 : Int)) % (5 : Int)).toNat * (1 : Nat)) (0 : Int))
                                                                                    (rotW
                                                                                      (l_7.getD (((n % (5 : Int) + (1 : Int)) % (5 : Int)).toNat * (1 : Nat)) (0 : Int))
                                                                                      ((1 : Int) % (64 : Int))))) =
                                                                              thN l_7 l (n + (1 : Int)).toNat) ∧
                                                                      ((25 : Int) - (n + (1 : Int))).toNat < ((25 : Int) - n).toNat
                                    else l_5 = theta l
theorem e35 : ct35.VC (base.with sp20) Tryd.f35.results.toList Tryd.f35.ntmps (Tryd.f35.ntmps - ct35.ps.length) (bodyOf Tryd.f35) ann35 = P35 := by kernel_rfl
noncomputable def sp35 : SpecT := addS sp20 35 (mkF ct35)
def P36 : Prop :=
  ∀ (l : List Int),
    l.length = (25 : Nat) →
      True →
        ((0 : Int) ≤ (0 : Int) ∧ (0 : Int) < (↑(25 : Nat) : Int)) ∧
          (0 : Nat) < (25 : Nat) ∧
            ((l = l ∧
                  (0 : Int) ≤ (0 : Int) ∧
                    (0 : Int) ≤ (24 : Int) ∧
                      (1 : Int) = (↑(1 : Nat) : Int) ∧
                        (0 : Int) = (↑(0 : Nat) : Int) ∧
                          [(0 : Int), (0 : Int), (0 : Int), (0 : Int), (0 : Int), (0 : Int), (0 : Int), (0 : Int), (0 : Int), (0 : Int), (0 : Int), (0 : Int), (0 : Int), (0 : Int),
                                  (0 : Int), (0 : Int), (0 : Int), (0 : Int), (0 : Int), (0 : Int), (0 : Int), (0 : Int), (0 : Int), (0 : Int), (0 : Int)].set
                              (0 : Nat) (l.getD (0 : Nat) (0 : Int)) =
                            rpN l (0 : Nat)) ∧
                True) ∧
              ∀ (n n_1 n_2 : Int) (l_1 l_2 l_3 : List Int),
                l_1.length = (25 : Nat) →
                  l_2.length = (25 : Nat) →
                    l_3.length = (25 : Nat) →
                      l_1 = l ∧
                          (0 : Int) ≤ n_2 ∧
                            n_2 ≤ (24 : Int) ∧
                              n = (↑(xyN n_2.toNat).fst : Int) ∧
                                n_1 = (↑(xyN n_2.toNat).snd : Int) ∧ l_3 = rpN l n_2.toNat →
                        bif decide (n_2 < (24 : Int)) then
                          ((-9223372036854775808 : Int) ≤ (2 : Int) * n ∧ (2 : Int) * n ≤ (9223372036854775807 : Int)) ∧
                            ((-9223372036854775808 : Int) ≤ (3 : Int) * n_1 ∧ (3 : Int) * n_1 ≤ (9223372036854775807 : Int)) ∧
                              ((-9223372036854775808 : Int) ≤ (2 : Int) * n + (3 : Int) * n_1 ∧ (2 : Int) * n + (3 : Int) * n_1 ≤ (9223372036854775807 : Int)) ∧
                                ((0 : Int) ≤ (2 : Int) * n + (3 : Int) * n_1 ∧ (0 : Int) < (5 : Int)) ∧
                                  ((-9223372036854775808 : Int) ≤ (5 : Int) * (((2 : Int) * n + (3 : Int) * n_1) % (5 : Int)) ∧
                                      (5 : Int) * (((2 : Int) * n + (3 : Int) * n_1) % (5 : Int)) ≤ (9223372036854775807 : Int)) ∧
                                    ((-9223372036854775808 : Int) ≤ n_1 + (5 : Int) * (((2 : Int) * n + (3 : Int) * n_1) % (5 : Int)) ∧
                                        n_1 + (5 : Int) * (((2 : Int) * n + (3 : Int) * n_1) % (5 : Int)) ≤ (9223372036854775807 : Int)) ∧
                                      ((-9223372036854775808 : Int) ≤ (5 : Int) * n_1 ∧ (5 : Int) * n_1 ≤ (9223372036854775807 : Int)) ∧
                                        ((-9223372036854775808 : Int) ≤ n + (5 : Int) * n_1 ∧ n + (5 : Int) * n_1 ≤ (9223372036854775807 : Int)) ∧
                                          ((0 : Int) ≤ n + (5 : Int) * n_1 ∧ n + (5 : Int) * n_1 < (↑(25 : Nat) : Int)) ∧
                                            (n + (5 : Int) * n_1).toNat * (1 : Nat) < (25 : Nat) ∧
                                              ((-9223372036854775808 : Int) ≤ n_2 + (1 : Int) ∧ n_2 + (1 : Int) ≤ (9223372036854775807 : Int)) ∧
                                                ((-9223372036854775808 : Int) ≤ n_2 + (2 : Int) ∧ n_2 + (2 : Int) ≤ (9223372036854775807 : Int)) ∧
                                                  ((-9223372036854775808 : Int) ≤ (n_2 + (1 : Int)) * (n_2 + (2 : Int)) ∧
                                                      (n_2 + (1 : Int)) * (n_2 + (2 : Int)) ≤ (9223372036854775807 : Int)) ∧
                                                    ((0 : Int) ≤ (n_2 + (1 : Int)) * (n_2 + (2 : Int)) ∧
                                                        (0 : Int) < (2 : Int) ∧ (n_2 + (1 : Int)) * (n_2 + (2 : Int)) ≤ Go.IntKind.i64.max) ∧
                                                      ((0 : Int) ≤ (n_2 + (1 : Int)) * (n_2 + (2 : Int)) / (2 : Int) ∧
                                                          (n_2 + (1 : Int)) * (n_2 + (2 : Int)) / (2 : Int) ≤ (1000 : Int)) ∧
                                                        ((0 : Int) ≤ n_1 + (5 : Int) * (((2 : Int) * n + (3 : Int) * n_1) % (5 : Int)) ∧
                                                            n_1 + (5 : Int) * (((2 : Int) * n + (3 : Int) * n_1) % (5 : Int)) < (↑(25 : Nat) : Int)) ∧
                                                          (n_1 + (5 : Int) * (((2 : Int) * n + (3 : Int) * n_1) % (5 : Int))).toNat * (1 : Nat) < (25 : Nat) ∧
                                                            ((-9223372036854775808 : Int) ≤ n_2 + (1 : Int) ∧ n_2 + (1 : Int) ≤ (9223372036854775807 : Int)) ∧
                                                              (l_1 = l ∧
                                                                  (0 : Int) ≤ n_2 + (1 : Int) ∧
                                                                    n_2 + (1 : Int) ≤ (24 : Int) ∧
                                                                      n_1 = (↑(xyN (n_2 + (1 : Int)).toNat).fst : Int) ∧
                                                                        ((2 : Int) * n + (3 : Int) * n_1) % (5 : Int) =
                                                                            (↑(xyN (n_2 + (1 : Int)).toNat).snd : Int) ∧
                                                                          l_3.set ((n_1 + (5 : Int) * (((2 : Int) * n + (3 : Int) * n_1) % (5 : Int))).toNat * (1 : Nat))
                                                                              (rotW (l_1.getD ((n + (5 : Int) * n_1).toNat * (1 : Nat)) (0 : Int))
                                                                                ((n_2 + (1 : Int)) * (n_2 + (2 : Int)) / (2 : Int) % (64 : Int))) =
                                                                            rpN l (n_2 + (1 : Int)).toNat) ∧
                                                                ((24 : Int) - (n_2 + (1 : Int))).toNat < ((24 : Int) - n_2).toNat
                        else l_3 = rhoPi l
theorem e36 : ct36.VC (base.with sp35) Tryd.f36.results.toList Tryd.f36.ntmps (Tryd.f36.ntmps - ct36.ps.length) (bodyOf Tryd.f36) ann36 = P36 := by kernel_rfl
noncomputable def sp36 : SpecT := addS sp35 36 (mkF ct36)
def P37 : Prop :=
  ∀ (l : List Int),
    l.length = (25 : Nat) →
      True →
        ((l = l ∧ (0 : Int) ≤ (0 : Int) ∧ (0 : Int) ≤ (25 : Int) ∧ l = chN l (0 : Nat)) ∧ True) ∧
          ∀ (n : Int) (l_1 l_2 l_3 : List Int),
            l_1.length = (25 : Nat) →
              l_2.length = (25 : Nat) →
                l_3.length = (25 : Nat) →
                  l_1 = l ∧ (0 : Int) ≤ n ∧ n ≤ (25 : Int) ∧ l_3 = chN l n.toNat →
                    bif decide (n < (25 : Int)) then
                      ((0 : Int) ≤ n ∧ (0 : Int) < (5 : Int)) ∧
                        ((-9223372036854775808 : Int) ≤ n - n % (5 : Int) ∧ n - n % (5 : Int) ≤ (9223372036854775807 : Int)) ∧
                          ((0 : Int) ≤ n ∧ n < (↑(25 : Nat) : Int)) ∧
                            n.toNat * (1 : Nat) < (25 : Nat) ∧
                              ((-9223372036854775808 : Int) ≤ n + (2 : Int) ∧ n + (2 : Int) ≤ (9223372036854775807 : Int)) ∧
                                ((0 : Int) ≤ n + (2 : Int) ∧ (0 : Int) < (5 : Int)) ∧
                                  ((-9223372036854775808 : Int) ≤ n - n % (5 : Int) + (n + (2 : Int)) % (5 : Int) ∧
                                      n - n % (5 : Int) + (n + (2 : Int)) % (5 : Int) ≤ (9223372036854775807 : Int)) ∧
                                    ((0 : Int) ≤ n - n % (5 : Int) + (n + (2 : Int)) % (5 : Int) ∧ n - n % (5 : Int) + (n + (2 : Int)) % (5 : Int) < (↑(25 : Nat) : Int)) ∧
                                      (n - n % (5 : Int) + (n + (2 : Int)) % (5 : Int)).toNat * (1 : Nat) < (25 : Nat) ∧
                                        ((-9223372036854775808 : Int) ≤ n + (1 : Int) ∧ n + (1 : Int) ≤ (9223372036854775807 : Int)) ∧
                                          ((0 : Int) ≤ n + (1 : Int) ∧ (0 : Int) < (5 : Int)) ∧
                                            ((-9223372036854775808 : Int) ≤ n - n % (5 : Int) + (n + (1 : Int)) % (5 : Int) ∧
                                                n - n % (5 : Int) + (n + (1 : Int)) % (5 : Int) ≤ (9223372036854775807 : Int)) ∧
                                              ((0 : Int) ≤ n - n % (5 : Int) + (n + (1 : Int)) % (5 : Int) ∧ n - n % (5 : Int) + (n + (1 : Int)) % (5 : Int) < (↑(25 : Nat) : Int)) ∧
                                                (n - n % (5 : Int) + (n + (1 : Int)) % (5 : Int)).toNat * (1 : Nat) < (25 : Nat) ∧
                                                  ((0 : Int) ≤ n ∧ n < (↑(25 : Nat) : Int)) ∧
                                                    n.toNat * (1 : Nat) < (25 : Nat) ∧
                                                      ((-9223372036854775808 : Int) ≤ n + (1 : Int) ∧ n + (1 : Int) ≤ (9223372036854775807 : Int)) ∧
                                                        (l_1 = l ∧
                                                            (0 : Int) ≤ n + (1 : Int) ∧
                                                              n + (1 : Int) ≤ (25 : Int) ∧
                                                                l_3.set (n.toNat * (1 : Nat))
                                                                    (bXor Go.IntKind.u64 (l_3.getD (n.toNat * (1 : Nat)) (0 : Int))
                                                                      (bAndNot Go.IntKind.u64
                                                                        (l_1.getD ((n - n % (5 : Int) + (n + (2 : Int)) % (5 : Int)).toNat * (1 : Nat)) (0 : Int))
                                                                        (l_1.getD ((n - n % (5 : Int) + (n + (1 : Int)) % (5 : Int)).toNat * (1 : Nat)) (0 : Int)))) =
                                                                  chN l (n + (1 : Int)).toNat) ∧
                                                          ((25 : Int) - (n + (1 : Int))).toNat < ((25 : Int) - n).toNat
                    else l_3 = chi l
theorem e37 : ct37.VC (base.with sp36) Tryd.f37.results.toList Tryd.f37.ntmps (Tryd.f37.ntmps - ct37.ps.length) (bodyOf Tryd.f37) ann37 = P37 := by kernel_rfl
noncomputable def sp37 : SpecT := addS sp36 37 (mkF ct37)
def P16 : Prop :=
  ∀ (l : List Int) (n : Int),
    l.length = (25 : Nat) →
      True →
        True ∧
          True ∧
            True ∧
              ((0 : Int) ≤ (0 : Int) ∧ (0 : Int) < (↑(25 : Nat) : Int)) ∧
                (0 : Nat) < (25 : Nat) ∧
                  True ∧
                    ((0 : Int) ≤ (0 : Int) ∧ (0 : Int) < (↑(25 : Nat) : Int)) ∧
                      (0 : Nat) < (25 : Nat) ∧
                        (chi (rhoPi (theta l))).set (0 : Nat)
                            (bXor Go.IntKind.u64
                              ((chi (rhoPi (theta l))).getD (0 : Nat) (0 : Int))
                              (rcOf n)) =
                          round l n
theorem e16 : ct16.VC (base.with sp37) Tryd.f16.results.toList Tryd.f16.ntmps (Tryd.f16.ntmps - ct16.ps.length) (bodyOf Tryd.f16) noAnn = P16 := by kernel_rfl
noncomputable def sp16 : SpecT := addS sp37 16 (mkF ct16)
def P17 : Prop :=
  ∀ (l : List Int),
    l.length = (25 : Nat) →
      True →
        (((0 : Int) ≤ (0 : Int) ∧ (0 : Int) ≤ (24 : Int) ∧ l = permN l (0 : Nat)) ∧ True) ∧
          ∀ (n : Int) (l_1 l_2 : List Int),
            l_1.length = (25 : Nat) →
              l_2.length = (25 : Nat) →
                (0 : Int) ≤ n ∧ n ≤ (24 : Int) ∧ l_1 = permN l n.toNat →
                  bif decide (n < (24 : Int)) then
                    True ∧
                      ((-9223372036854775808 : Int) ≤ n + (1 : Int) ∧ n + (1 : Int) ≤ (9223372036854775807 : Int)) ∧
                        ((0 : Int) ≤ n + (1 : Int) ∧
                            n + (1 : Int) ≤ (24 : Int) ∧ round l_1 n = permN l (n + (1 : Int)).toNat) ∧
                          ((24 : Int) - (n + (1 : Int))).toNat < ((24 : Int) - n).toNat
                  else l_1 = perm l
theorem e17 : ct17.VC (base.with sp16) Tryd.f17.results.toList Tryd.f17.ntmps (Tryd.f17.ntmps - ct17.ps.length) (bodyOf Tryd.f17) ann17 = P17 := by kernel_rfl
noncomputable def sp17 : SpecT := addS sp16 17 (mkF ct17)
def P12 : Prop :=
  True →
    True ∧
      ((0 : Int) ≤ (0 : Int) ∧ (0 : Int) < (↑(25 : Nat) : Int) ∧ (0 : Nat) < (25 : Nat)) ∧
        decide
            ((perm
                    [(0 : Int), (0 : Int), (0 : Int), (0 : Int), (0 : Int), (0 : Int), (0 : Int), (0 : Int), (0 : Int), (0 : Int), (0 : Int), (0 : Int), (0 : Int), (0 : Int),
                      (0 : Int), (0 : Int), (0 : Int), (0 : Int), (0 : Int), (0 : Int), (0 : Int), (0 : Int), (0 : Int), (0 : Int), (0 : Int)]).getD
                (0 : Nat) (0 : Int) =
              (17376452488221285863 : Int)) =
          true
theorem e12 : ct12.VC (base.with sp17) Tryd.f12.results.toList Tryd.f12.ntmps (Tryd.f12.ntmps - ct12.ps.length) (bodyOf Tryd.f12) noAnn = P12 := by kernel_rfl
noncomputable def sp12 : SpecT := addS sp17 12 (mkF ct12)
end Go.Proofs.YtganbceicojfmaaDoor

/-
  The words' functions, element by element.
-/
namespace Go.Proofs.YtganbceicojfmaaDoor
open Go Go.Avc Go.Proofs
set_option linter.unusedVariables false
theorem set_get (l : List Int) (i j : Nat) (x : Int) (hj : j < l.length) : (l.set i x).getD j 0 = if i = j then x else l.getD j 0 := by
  rw [List.getD_eq_getElem?_getD, List.getD_eq_getElem?_getD, List.getElem?_set]
  by_cases h : i = j
  · subst h; simp [hj]
  · simp [h]
theorem th_len (c s : List Int) : ∀ n, (thN c s n).length = s.length
  | 0 => rfl
  | n + 1 => by rw [thN, List.length_set, th_len c s n]
theorem th_get (c s : List Int) : ∀ n j, j < s.length → (thN c s n).getD j 0 = if j < n then xr (s.getD j 0) (xr (c.getD ((j % 5 + 4) % 5) 0) (rotW (c.getD ((j % 5 + 1) % 5) 0) 1)) else s.getD j 0
  | 0, j, h => by rw [if_neg (by omega)]; rfl
  | n + 1, j, h => by
    rw [thN, set_get _ _ _ _ (by rw [th_len]; exact h)]
    by_cases e : n = j
    · subst e
      rw [if_pos rfl, if_pos (by omega), th_get c s n n h, if_neg (by omega)]
    · rw [if_neg e, th_get c s n j h]
      by_cases e2 : j < n
      · rw [if_pos e2, if_pos (by omega)]
      · rw [if_neg e2, if_neg (by omega)]
theorem ch_len (s : List Int) : ∀ n, (chN s n).length = s.length
  | 0 => rfl
  | n + 1 => by rw [chN, List.length_set, ch_len s n]
theorem ch_get (s : List Int) : ∀ n j, j < s.length → (chN s n).getD j 0 = if j < n then xr (s.getD j 0) (bAndNot .u64 (s.getD (j - j % 5 + (j + 2) % 5) 0) (s.getD (j - j % 5 + (j + 1) % 5) 0)) else s.getD j 0
  | 0, j, h => by rw [if_neg (by omega)]; rfl
  | n + 1, j, h => by
    rw [chN, set_get _ _ _ _ (by rw [ch_len]; exact h)]
    by_cases e : n = j
    · subst e
      rw [if_pos rfl, if_pos (by omega), ch_get s n n h, if_neg (by omega)]
    · rw [if_neg e, ch_get s n j h]
      by_cases e2 : j < n
      · rw [if_pos e2, if_pos (by omega)]
      · rw [if_neg e2, if_neg (by omega)]
theorem cols_len (s : List Int) : ∀ n, (cols s n).length = 5
  | 0 => rfl
  | n + 1 => by rw [cols, List.length_set, cols_len s n]
/-- One step of the sums of columns. -/
theorem cols_get (s : List Int) (n x : Nat) (h : x < 5) : (cols s (n + 1)).getD x 0 = if n % 5 = x then xr ((cols s n).getD x 0) (s.getD n 0) else (cols s n).getD x 0 := by
  rw [cols, set_get _ _ _ _ (by rw [cols_len]; exact h)]
  by_cases e : n % 5 = x
  · rw [if_pos e, if_pos e, e]
  · rw [if_neg e, if_neg e]
theorem cols_at (s : List Int) (x : Nat) (h : x < 5) : (cols s 25).getD x 0 = xr (xr (xr (xr (xr 0 (s.getD x 0)) (s.getD (x + 5) 0)) (s.getD (x + 10) 0)) (s.getD (x + 15) 0)) (s.getD (x + 20) 0) := by
  match x, h with
  | 0, _ => simp [cols]
  | 1, _ => simp [cols]
  | 2, _ => simp [cols]
  | 3, _ => simp [cols]
  | 4, _ => simp [cols]
/-- Moving and turning, written out. -/
theorem rp_eq (s : List Int) : rhoPi s = [s.getD 0 0, rotW (s.getD 6 0) 44, rotW (s.getD 12 0) 43, rotW (s.getD 18 0) 21, rotW (s.getD 24 0) 14, rotW (s.getD 3 0) 28, rotW (s.getD 9 0) 20, rotW (s.getD 10 0) 3, rotW (s.getD 16 0) 45, rotW (s.getD 22 0) 61, rotW (s.getD 1 0) 1, rotW (s.getD 7 0) 6, rotW (s.getD 13 0) 25, rotW (s.getD 19 0) 8, rotW (s.getD 20 0) 18, rotW (s.getD 4 0) 27, rotW (s.getD 5 0) 36, rotW (s.getD 11 0) 10, rotW (s.getD 17 0) 15, rotW (s.getD 23 0) 56, rotW (s.getD 2 0) 62, rotW (s.getD 8 0) 55, rotW (s.getD 14 0) 39, rotW (s.getD 15 0) 41, rotW (s.getD 21 0) 2] := by kernel_rfl
theorem list_ext {l : List Int} {n : Nat} {f : Nat → Int} (hl : l.length = n) (h : ∀ j, j < n → l.getD j 0 = f j) : l = (List.range n).map f := by
  apply List.ext_getElem
  · simp [hl]
  · intro i h1 h2
    have := h i (by omega)
    rw [List.getD_eq_getElem?_getD, List.getElem?_eq_getElem h1] at this
    simpa using this
def cAt (s : List Int) (x : Nat) : Int := xr (xr (xr (xr (xr 0 (s.getD x 0)) (s.getD (x + 5) 0)) (s.getD (x + 10) 0)) (s.getD (x + 15) 0)) (s.getD (x + 20) 0)
theorem theta_eq {s : List Int} (hs : s.length = 25) : theta s = (List.range 25).map fun j => xr (s.getD j 0) (xr (cAt s ((j % 5 + 4) % 5)) (rotW (cAt s ((j % 5 + 1) % 5)) 1)) := by
  refine list_ext (by unfold theta; rw [th_len, hs]) fun j hj => ?_
  unfold theta
  rw [th_get _ _ _ _ (by omega), if_pos hj, cols_at _ _ (by omega), cols_at _ _ (by omega)]
  rfl
theorem chi_eq {s : List Int} (hs : s.length = 25) : chi s = (List.range 25).map fun j => xr (s.getD j 0) (bAndNot .u64 (s.getD (j - j % 5 + (j + 2) % 5) 0) (s.getD (j - j % 5 + (j + 1) % 5) 0)) := by
  refine list_ext (by unfold chi; rw [ch_len, hs]) fun j hj => ?_
  unfold chi
  rw [ch_get _ _ _ (by omega), if_pos hj]
end Go.Proofs.YtganbceicojfmaaDoor

/-
  The permutation of the zero state, step by step (printed by a program of ours, checked by the kernel).
-/
namespace Go.Proofs.YtganbceicojfmaaDoor
open Go Go.Avc Go.Proofs
set_option linter.unusedVariables false
set_option maxRecDepth 100000
def z0 : List Int := [0, 0, 0, 0, 0, 0, 0, 0, 0, 0, 0, 0, 0, 0, 0, 0, 0, 0, 0, 0, 0, 0, 0, 0, 0]
def t0 : List Int := [0, 0, 0, 0, 0, 0, 0, 0, 0, 0, 0, 0, 0, 0, 0, 0, 0, 0, 0, 0, 0, 0, 0, 0, 0]
def r0 : List Int := [0, 0, 0, 0, 0, 0, 0, 0, 0, 0, 0, 0, 0, 0, 0, 0, 0, 0, 0, 0, 0, 0, 0, 0, 0]
def h0 : List Int := [0, 0, 0, 0, 0, 0, 0, 0, 0, 0, 0, 0, 0, 0, 0, 0, 0, 0, 0, 0, 0, 0, 0, 0, 0]
def z1 : List Int := [1, 0, 0, 0, 0, 0, 0, 0, 0, 0, 0, 0, 0, 0, 0, 0, 0, 0, 0, 0, 0, 0, 0, 0, 0]
theorem st0 : round z0 0 = z1 := by
  have a : theta z0 = t0 := (theta_eq rfl).trans (by decide +kernel)
  have b : rhoPi t0 = r0 := (rp_eq _).trans (by decide +kernel)
  have c : chi r0 = h0 := (chi_eq rfl).trans (by decide +kernel)
  unfold round
  rw [a, b, c]
  decide +kernel
theorem pz1 : permN z0 1 = z1 := by
  rw [permN]
  exact st0
def t1 : List Int := [1, 1, 0, 0, 2, 0, 1, 0, 0, 2, 0, 1, 0, 0, 2, 0, 1, 0, 0, 2, 0, 1, 0, 0, 2]
def r1 : List Int := [1, 17592186044416, 0, 0, 32768, 0, 2097152, 0, 35184372088832, 0, 2, 0, 0, 512, 0, 268435456, 0, 1024, 0, 0, 0, 0, 1099511627776, 0, 4]
def h1 : List Int := [1, 17592186044416, 32768, 1, 17592186077184, 0, 35184374185984, 0, 35184372088832, 2097152, 2, 512, 0, 514, 0, 268436480, 0, 1024, 268435456, 0, 1099511627776, 0, 1099511627780, 0, 4]
def z2 : List Int := [32899, 17592186044416, 32768, 1, 17592186077184, 0, 35184374185984, 0, 35184372088832, 2097152, 2, 512, 0, 514, 0, 268436480, 0, 1024, 268435456, 0, 1099511627776, 0, 1099511627780, 0, 4]
theorem st1 : round z1 1 = z2 := by
  have a : theta z1 = t1 := (theta_eq rfl).trans (by decide +kernel)
  have b : rhoPi t1 = r1 := (rp_eq _).trans (by decide +kernel)
  have c : chi r1 = h1 := (chi_eq rfl).trans (by decide +kernel)
  unfold round
  rw [a, b, c]
  decide +kernel
theorem pz2 : permN z0 2 = z2 := by
  rw [permN, pz1]
  exact st1
def t2 : List Int := [123145308603527, 20890989464713, 123145841313286, 36283888010253, 54976386796289, 123145308636164, 38483177606281, 123145841280518, 1099515921420, 37384202816257, 123145308636166, 3298803420809, 123145841280518, 36283888010766, 37384200719105, 123145577070596, 3298803420297, 123145841279494, 36284156445708, 37384200719105, 124244820263940, 3298803420297, 124245352908290, 36283888010252, 37384200719109]
def r2 : List Int := [123145308603527, 1785835581963501826, 13563575498965249, 2306414963591217156, 612502744581881856, 1152566553477648, 2306689704840396802, 985162469089328, 3571671163859894784, 4611701549096501440, 41781978929426, 7881333841953152, 144088032608322, 9570355384090880, 14123290089560735745, 108099963287765392, 434668007663796224, 3377974702908416, 4035242927046459392, 864691270189072772, 9223402823315104129, 432345566375059650, 37577459147800600, 13907124445427793952, 13195213681188]
def h2 : List Int := [13598759843792006, 4092250545529553158, 626057523912327425, 2306538108895626371, 1173341635645358336, 1293304092434976, 1266393375296193026, 4612686711565066480, 3572814934320349200, 6918386853474468034, 181437471070544, 17451689225912448, 14123431978033217603, 9612137362626578, 14131171423402623105, 109225863298950544, 4469910934709993472, 291608492588557700, 4143342752895270928, 722898250671538564, 9260980282462904729, 14339470011802853602, 37581858268459548, 4683770000893804961, 432358761588732518]
def z3 : List Int := [9236970796698600460, 4092250545529553158, 626057523912327425, 2306538108895626371, 1173341635645358336, 1293304092434976, 1266393375296193026, 4612686711565066480, 3572814934320349200, 6918386853474468034, 181437471070544, 17451689225912448, 14123431978033217603, 9612137362626578, 14131171423402623105, 109225863298950544, 4469910934709993472, 291608492588557700, 4143342752895270928, 722898250671538564, 9260980282462904729, 14339470011802853602, 37581858268459548, 4683770000893804961, 432358761588732518]
theorem st2 : round z2 2 = z3 := by
  have a : theta z2 = t2 := (theta_eq rfl).trans (by decide +kernel)
  have b : rhoPi t2 = r2 := (rp_eq _).trans (by decide +kernel)
  have c : chi r2 = h2 := (chi_eq rfl).trans (by decide +kernel)
  unfold round
  rw [a, b, c]
  decide +kernel
theorem pz3 : permN z0 3 = z3 := by
  rw [permN, pz2]
  exact st2
def t3 : List Int := [11002391792513282144, 2993237004991256102, 771525488566589447, 15602544201000376298, 8869308616478239450, 1766696701294925388, 59574917067101474, 4757692883508312566, 14488105533308228473, 818983337367071512, 1765600234312756540, 1260591433894877088, 14269009827034995013, 17917291052681481083, 12628815440764660571, 1802571603951079932, 3407207670434289440, 434938459049753730, 13908588103634146169, 7014023339289684574, 10954326091834381813, 15438494564400166850, 180340626296777498, 13368160855657370312, 7880909233613986236]
def r3 : List Int := [11002391792513282144, 17100765976266351764, 15333118665795482279, 7354249318573285543, 12055111638398737239, 10326566473149478388, 14995099613621433817, 14124801874502052320, 1937680238409047815, 4634228596714485091, 5986474009982512204, 9344439365179178384, 10423786495116660226, 6255799708332744289, 6209063466286080022, 10341383320689488105, 12149978152093422753, 18020287222395076677, 11177001238556377860, 14463738185927998802, 14027939427423811073, 13611153557269158569, 6878595147513748948, 7756315877029094799, 6413746036472012555]
def h3 : List Int := [9815691297928503875, 14940587067404002452, 6163873250186209783, 9133172271835791495, 13983250434949586883, 10037245043040796116, 14625807227073111006, 9517639169617348992, 10802803781493464979, 1170967630360556906, 4833658608200494670, 14411270558251773425, 10413092914151648788, 6324505867985343017, 15456637871614865798, 15961727220218474669, 12219779720573097889, 13453918774002596887, 11249665490274026413, 16763947842887530834, 9348458261315236693, 11269932799224724130, 5725669273397430228, 16793563075160212879, 7296601056617420707]
def z4 : List Int := [592319258926211651, 14940587067404002452, 6163873250186209783, 9133172271835791495, 13983250434949586883, 10037245043040796116, 14625807227073111006, 9517639169617348992, 10802803781493464979, 1170967630360556906, 4833658608200494670, 14411270558251773425, 10413092914151648788, 6324505867985343017, 15456637871614865798, 15961727220218474669, 12219779720573097889, 13453918774002596887, 11249665490274026413, 16763947842887530834, 9348458261315236693, 11269932799224724130, 5725669273397430228, 16793563075160212879, 7296601056617420707]
theorem st3 : round z3 3 = z4 := by
  have a : theta z3 = t3 := (theta_eq rfl).trans (by decide +kernel)
  have b : rhoPi t3 = r3 := (rp_eq _).trans (by decide +kernel)
  have c : chi r3 = h3 := (chi_eq rfl).trans (by decide +kernel)
  unfold round
  rw [a, b, c]
  decide +kernel
theorem pz4 : permN z0 4 = z4 := by
  rw [permN, pz3]
  exact st3
def t4 : List Int := [7950146402834946284, 4230254926296989172, 3542963138553477232, 15578728979308453530, 3692577840025170079, 17088831947771725691, 4546960623244065470, 16191613041199749127, 3703661421399228814, 16244707121399978550, 2700002356970673377, 3610862713679017105, 17592156316280602515, 17386252091241532468, 2860302071182581466, 13542250845251750402, 6662550492597849793, 16002613236797795728, 4220892741652635056, 1843474637492475406, 16704038417943120378, 7603653547728446402, 3158415309871830611, 5729687141662940050, 10696730624967391487]
def r4 : List Int := [7950146402834946284, 7758545409999997250, 7348924206323053320, 17490476115184538227, 11165859225001780508, 8717906654483655735, 12749889409108547340, 3153274782055835401, 13967962136468255276, 7312330941375060682, 8460509852593978344, 3245566509049053688, 5927775153451864256, 10760905355334913561, 12232304255405104962, 15699952392904242527, 1476186439329489371, 8174604065403192520, 6483504122456207114, 10542790319934599515, 885740784638369308, 14346694927261329632, 10623829978001361443, 17119314095950711204, 11967870117204233993]
def h4 : List Int := [7638250137956231908, 17990125325728205105, 7906499215270811140, 10861036725959346835, 11195520138696188958, 8358174899797462070, 8135952663530915624, 1143978644753002443, 15662404937588594201, 16535557756827863490, 2821756897662528488, 12114361851460063201, 8845673958919045506, 13942698502943567537, 11656387723772272466, 13322614738909770079, 2086432298574777049, 17543636310180418713, 1178364895537752846, 10832164025006223835, 2030143342952750111, 12360607886846421348, 10479039689777663018, 16563260862735374768, 7279885679800479721]
def z5 : List Int := [7638250137956199023, 17990125325728205105, 7906499215270811140, 10861036725959346835, 11195520138696188958, 8358174899797462070, 8135952663530915624, 1143978644753002443, 15662404937588594201, 16535557756827863490, 2821756897662528488, 12114361851460063201, 8845673958919045506, 13942698502943567537, 11656387723772272466, 13322614738909770079, 2086432298574777049, 17543636310180418713, 1178364895537752846, 10832164025006223835, 2030143342952750111, 12360607886846421348, 10479039689777663018, 16563260862735374768, 7279885679800479721]
theorem st4 : round z4 4 = z5 := by
  have a : theta z4 = t4 := (theta_eq rfl).trans (by decide +kernel)
  have b : rhoPi t4 = r4 := (rp_eq _).trans (by decide +kernel)
  have c : chi r4 = h4 := (chi_eq rfl).trans (by decide +kernel)
  unfold round
  rw [a, b, c]
  decide +kernel
theorem pz5 : permN z0 5 = z5 := by
  rw [permN, pz4]
  exact st4
def t5 : List Int := [7707668417495466584, 10858826701459679292, 983661093843105099, 13068870674978910997, 15308768998026863992, 8289319690604782593, 2302248870419719717, 8070194538873769092, 18067273707909197727, 12274504017949657252, 2873089218463876063, 14340962160436063980, 1935712424115561165, 16328285960803850039, 17216725452957883956, 13264446818206095720, 8354161839352687572, 10621926564747425750, 3728337662175941256, 15672040438562451645, 2079294151084946472, 14164451479696525417, 17398015293444730725, 14284105231730778166, 3038398129727958671]
def r5 : List Int := [7707668417495466584, 10836313809932674462, 13769308182960770325, 16948336921590265782, 11799446594504608394, 3556211142841196362, 14263040656611648892, 4537969674001456889, 13076921139811174359, 13703966957749061100, 3270909329209806969, 18430360497763328283, 2596725606855291763, 9098888277014920665, 10092052042376835948, 6548017442422234466, 4783456222564664688, 1536969613726429980, 6122490891827104180, 3946907364109556896, 14080973328742939986, 14987238406830806871, 9047479276811340393, 8661215313050744010, 1317573697657446823]
def h5 : List Int := [4891766361259313753, 15439122233753343804, 13823342620960621853, 11746433691194652646, 4017314498112237324, 815207819430446539, 4967747420293129338, 3818588911347179217, 12982395987346120149, 8831006501622048216, 3273200702990303769, 11925911941096385939, 11818410238024184151, 6855937196075990472, 6813782227838587502, 5749709705375199086, 198532287281302992, 3986921420170929948, 2084732521627207926, 3955984847012879536, 17540298648724239738, 14973796877054370773, 9207394463793105740, 13336242423054526618, 2223831538796077986]
def z6 : List Int := [4891766363406797400, 15439122233753343804, 13823342620960621853, 11746433691194652646, 4017314498112237324, 815207819430446539, 4967747420293129338, 3818588911347179217, 12982395987346120149, 8831006501622048216, 3273200702990303769, 11925911941096385939, 11818410238024184151, 6855937196075990472, 6813782227838587502, 5749709705375199086, 198532287281302992, 3986921420170929948, 2084732521627207926, 3955984847012879536, 17540298648724239738, 14973796877054370773, 9207394463793105740, 13336242423054526618, 2223831538796077986]
theorem st5 : round z5 5 = z6 := by
  have a : theta z5 = t5 := (theta_eq rfl).trans (by decide +kernel)
  have b : rhoPi t5 = r5 := (rp_eq _).trans (by decide +kernel)
  have c : chi r5 = h5 := (chi_eq rfl).trans (by decide +kernel)
  unfold round
  rw [a, b, c]
  decide +kernel
theorem pz6 : permN z0 6 = z6 := by
  rw [permN, pz5]
  exact st5
def t6 : List Int := [10117253007355120721, 13856990398991617332, 11388160371157654242, 12919831126671933053, 7552447613430020006, 14183115771197211586, 5980735723140005490, 1523031655754776878, 11846013603570127950, 2702714794752310642, 16350319706491405328, 12938407697068554139, 9646659979141000872, 5722646104273187923, 108257379997436612, 9245798864910788967, 1499268314462541784, 1623790326324361443, 910210837657780589, 7631782864529933338, 4390753618153599859, 15691298022149143005, 6781157844975686835, 12203658857119883521, 4743225362584943368]
def r6 : List Int := [10117253007355120721, 18151517711186214675, 7599054914887688301, 18295356372895765558, 15318302127080738932, 5905639576809293663, 10129834126759581727, 1675349135964381319, 4249993532981564753, 7765173758263042710, 9267236724273683049, 5240305599757962117, 11509217028298692056, 16828285580160014953, 6673254076098868156, 13256892773053136248, 7436635045668375136, 4167236874741378766, 7951504418328906564, 119728136448552481, 12070412129644189368, 2833382912798662410, 9792340720152854971, 8021701487880710559, 7424959867467917175]
def h6 : List Int := [10121826975701503037, 8026835929569667841, 7594412717710188589, 17691297879001667639, 12039682773981733750, 4806751406901749727, 11830785691895369039, 6215100860000502273, 3084694277248389144, 16700214332683074198, 1701067029580549681, 2935021215067160996, 10064659787097191500, 7604822824502759976, 1494105689337672248, 12626178481354463734, 2395136601172298592, 4068135589652482799, 15567196270789777948, 4732526861918809121, 2821496240805205513, 5710775155925759758, 9794593245826189275, 17281148776925903127, 7447477925633355381]
def z7 : List Int := [898454936699210940, 8026835929569667841, 7594412717710188589, 17691297879001667639, 12039682773981733750, 4806751406901749727, 11830785691895369039, 6215100860000502273, 3084694277248389144, 16700214332683074198, 1701067029580549681, 2935021215067160996, 10064659787097191500, 7604822824502759976, 1494105689337672248, 12626178481354463734, 2395136601172298592, 4068135589652482799, 15567196270789777948, 4732526861918809121, 2821496240805205513, 5710775155925759758, 9794593245826189275, 17281148776925903127, 7447477925633355381]
theorem st6 : round z6 6 = z7 := by
  have a : theta z6 = t6 := (theta_eq rfl).trans (by decide +kernel)
  have b : rhoPi t6 = r6 := (rp_eq _).trans (by decide +kernel)
  have c : chi r6 = h6 := (chi_eq rfl).trans (by decide +kernel)
  unfold round
  rw [a, b, c]
  decide +kernel
theorem pz7 : permN z0 7 = z7 := by
  rw [permN, pz6]
  exact st6
def t7 : List Int := [7346383601368617529, 12106099250642614020, 16635079916360452528, 1995006467245052027, 9548412861276163873, 3112389869667563866, 7155069137923461450, 15708294231229164444, 14187670772568922196, 14147030382620907201, 9087995235672576180, 17284753393237826977, 293774034173386193, 9773497763315489380, 3975390310140059247, 14320706405225695091, 16598493147291588453, 13243820892584747890, 3900813235884806736, 7078001936424435830, 5666543277297928332, 9810021001464900363, 599552166505246278, 142227597972189531, 4957773722917356066]
def r7 : List Int := [7346383601368617529, 11318854508955012180, 1940638163107015609, 2238150245651760207, 7150519734806024499, 18287984523309939452, 10582452458814719301, 17363729664251954595, 4822436881980613986, 13910002076095319496, 5765454427575676425, 9206650818350737206, 15994249529806243040, 4187576501119514210, 7807604452771314318, 4821411784250627639, 9291934982217326986, 9159907988074825663, 13868674199817116645, 6557796634006021041, 4158769979090113132, 3054129244070646988, 13172808576453195351, 5120284421202457552, 2346595858440498222]
def h7 : List Int := [7429128448412266896, 10958849981877258258, 8853714237097736841, 2003963211515332167, 18104358148906917239, 11379445100294208094, 10437317241808364805, 8212908831415405867, 9091928497337800534, 14059751231478270153, 15001885449949867721, 6759228644865529140, 11075707692260412524, 3034373526708073059, 4872532784904879032, 4459999803740524546, 41374170015054282, 7214229506690688943, 13879932992727109603, 15786098323946766905, 12482833305138999423, 7737943208738395468, 10835449165856946809, 6784889229701620112, 2508743159882295470]
def z8 : List Int := [16652500485267009945, 10958849981877258258, 8853714237097736841, 2003963211515332167, 18104358148906917239, 11379445100294208094, 10437317241808364805, 8212908831415405867, 9091928497337800534, 14059751231478270153, 15001885449949867721, 6759228644865529140, 11075707692260412524, 3034373526708073059, 4872532784904879032, 4459999803740524546, 41374170015054282, 7214229506690688943, 13879932992727109603, 15786098323946766905, 12482833305138999423, 7737943208738395468, 10835449165856946809, 6784889229701620112, 2508743159882295470]
theorem st7 : round z7 7 = z8 := by
  have a : theta z7 = t7 := (theta_eq rfl).trans (by decide +kernel)
  have b : rhoPi t7 = r7 := (rp_eq _).trans (by decide +kernel)
  have c : chi r7 = h7 := (chi_eq rfl).trans (by decide +kernel)
  unfold round
  rw [a, b, c]
  decide +kernel
theorem pz8 : permN z0 8 = z8 := by
  rw [permN, pz7]
  exact st7
def t8 : List Int := [1766575032906914882, 7181808969627091281, 16626398696673522735, 9216422745683044732, 6795126682678057616, 7094958665198327685, 7739297908344581190, 17120573242413040525, 1875127506978486381, 7380554433032736558, 3435354823606485778, 11993882309357706359, 420720154335707850, 5635283932722142552, 16639688636580068447, 14013135399143456217, 18099319687897608329, 17905313990545369353, 11869135391823978712, 9106778374041945566, 5955549359110626724, 10438777223283399695, 737847263049413855, 4179352042250899115, 9773482972895244105]
def r8 : List Int := [1766575032906914882, 15475607153437775580, 4041505877156823720, 8654957425198405364, 11006468116771398120, 9296637546555405562, 17470207998032242383, 9036094515142334609, 16001640657108833323, 16233131972377034395, 14363617939254182562, 7358787165571048315, 14012032400425249049, 7045510467334561406, 8240004435650103961, 13395516000669165853, 8330947197128783115, 14650675765439487641, 4186833784664292414, 12338174174400719630, 17991657729450544395, 3930801233479139868, 4232873422478529466, 14662510395400441134, 4861620745714495550]
def h8 : List Int := [3501041463853948002, 10866310098799002248, 13309280585677824928, 8654994258840324854, 6845067337239913332, 10088136376365509866, 8098513356096791269, 6638350475764314625, 16001711104195941451, 10607400498603605150, 5131225480281754274, 5160469520704435485, 15018657285952792984, 16484085553422753372, 5931322006392875968, 3577803676181472141, 4870467447592949037, 5364253307864407449, 3089172411618606127, 16799288664504418060, 17410098619877022889, 17855808120993975832, 4231817637990851498, 8355222551094640687, 5005734266266153514]
def z9 : List Int := [3501041463853948136, 10866310098799002248, 13309280585677824928, 8654994258840324854, 6845067337239913332, 10088136376365509866, 8098513356096791269, 6638350475764314625, 16001711104195941451, 10607400498603605150, 5131225480281754274, 5160469520704435485, 15018657285952792984, 16484085553422753372, 5931322006392875968, 3577803676181472141, 4870467447592949037, 5364253307864407449, 3089172411618606127, 16799288664504418060, 17410098619877022889, 17855808120993975832, 4231817637990851498, 8355222551094640687, 5005734266266153514]
theorem st8 : round z8 8 = z9 := by
  have a : theta z8 = t8 := (theta_eq rfl).trans (by decide +kernel)
  have b : rhoPi t8 = r8 := (rp_eq _).trans (by decide +kernel)
  have c : chi r8 = h8 := (chi_eq rfl).trans (by decide +kernel)
  unfold round
  rw [a, b, c]
  decide +kernel
theorem pz9 : permN z0 9 = z9 := by
  rw [permN, pz8]
  exact st8
def t9 : List Int := [2993508875795970414, 2680415530213968664, 11104327251195040807, 6607296516544134884, 3615737317371024541, 10744854558990125420, 14095684307458222965, 9119303770139116934, 18283520710040428633, 18439481913447533431, 6784919938428645156, 17610191094210821261, 17492706470879534623, 14370527062770952782, 4504572039899077673, 2935167884969870859, 17323444073463159997, 7556979796279241246, 681050353541990461, 9651264165462821093, 16753459524813748527, 4914216843056383880, 1735013234229023789, 5791300249383646269, 3000749047630595523]
def r9 : List Int := [2993508875795970414, 9707328925442711745, 11308819684383446759, 8504380256635924082, 3699439943721994857, 14710058128619806034, 3578343536065511011, 17385871360010058018, 14093942522587069859, 11746091700347097733, 5360831060427937328, 11786375003907383711, 8311168075849194684, 17306664555111835013, 18064604005245362688, 8581662574805871983, 18265639980113478830, 10366720457649043409, 16468263074865820783, 4418135502912758964, 16611139868080923913, 3242272936074590864, 12370847900668408759, 9731177433995888583, 1210123298515983905]
def h9 : List Int := [3588163770990522184, 16479335626328639697, 11358907911893817070, 9119139129432285044, 13070366473402436328, 892731343442222162, 3690821324981009122, 15080028204771130150, 10354797854562857201, 10559463638913953956, 1883451539796691472, 2574107618984411294, 8774546256790412988, 17323304761403437493, 6567054393697289103, 8473902787459112510, 11348671707764966528, 10848509050259388225, 11998475766630087972, 13057299392584623156, 7315709613345793070, 2954040636079341264, 13505517057123953559, 6991998196266149583, 1779899004829303985]
def z10 : List Int := [3588163770990522304, 16479335626328639697, 11358907911893817070, 9119139129432285044, 13070366473402436328, 892731343442222162, 3690821324981009122, 15080028204771130150, 10354797854562857201, 10559463638913953956, 1883451539796691472, 2574107618984411294, 8774546256790412988, 17323304761403437493, 6567054393697289103, 8473902787459112510, 11348671707764966528, 10848509050259388225, 11998475766630087972, 13057299392584623156, 7315709613345793070, 2954040636079341264, 13505517057123953559, 6991998196266149583, 1779899004829303985]
theorem st9 : round z9 9 = z10 := by
  have a : theta z9 = t9 := (theta_eq rfl).trans (by decide +kernel)
  have b : rhoPi t9 = r9 := (rp_eq _).trans (by decide +kernel)
  have c : chi r9 = h9 := (chi_eq rfl).trans (by decide +kernel)
  unfold round
  rw [a, b, c]
  decide +kernel
theorem pz10 : permN z0 10 = z10 := by
  rw [permN, pz9]
  exact st9
def t10 : List Int := [7197201569598498684, 16331975489201181703, 5884989639599592868, 14183063859420512859, 2060179756179671063, 6794156319372121326, 3831691564033697332, 2111723908263524460, 3885001325367258590, 4287074622903890523, 5190805887729730220, 2714993689881107528, 13099897236081860086, 5346142414838246554, 17498352283340456304, 2860760969572570754, 11198795961044326486, 6522612991549781003, 2079198434606424075, 2071839453797131979, 4011775310256106642, 3380608011367670278, 8603107019167377629, 15803549483372936160, 12774186747331708494]
def r10 : List Int := [7197201569598498684, 7954275389796438577, 4535043110349638198, 9131620488779635545, 13964152047848893521, 17723648214752380374, 18049719715566434283, 4632958954418738530, 795680750425012292, 12604603423464391963, 14217206904692811791, 6023121612898704135, 7423667598389437088, 13882066108198341404, 13947289595281989298, 10764819447255710164, 14585275617505907406, 13141927381821366422, 9005669104358894914, 16202633679665283195, 1471247409899898217, 17229352868278384630, 10637705151480158337, 6461825779422323653, 13522432045470681112]
def h10 : List Int := [8317352593475268474, 3347101423491892088, 13812284588227636790, 6672945709382097013, 14828349229463845968, 17723229868831098326, 17401130588186959855, 16478565068789518457, 6492452647977334912, 11881899180789479218, 16234817029224417455, 15219752985751753243, 7353976000907867650, 14188031598247865105, 15212311666827251122, 11629652489896499652, 9435989968869629838, 3918343313233240239, 7628695717460153542, 12309003921403265649, 345338872853187944, 12040357248728011954, 3576113714317971609, 6768822272106030756, 5816751084285246094]
def z11 : List Int := [8317352591327817587, 3347101423491892088, 13812284588227636790, 6672945709382097013, 14828349229463845968, 17723229868831098326, 17401130588186959855, 16478565068789518457, 6492452647977334912, 11881899180789479218, 16234817029224417455, 15219752985751753243, 7353976000907867650, 14188031598247865105, 15212311666827251122, 11629652489896499652, 9435989968869629838, 3918343313233240239, 7628695717460153542, 12309003921403265649, 345338872853187944, 12040357248728011954, 3576113714317971609, 6768822272106030756, 5816751084285246094]
theorem st10 : round z10 10 = z11 := by
  have a : theta z10 = t10 := (theta_eq rfl).trans (by decide +kernel)
  have b : rhoPi t10 = r10 := (rp_eq _).trans (by decide +kernel)
  have c : chi r10 = h10 := (chi_eq rfl).trans (by decide +kernel)
  unfold round
  rw [a, b, c]
  decide +kernel
theorem pz11 : permN z0 11 = z11 := by
  rw [permN, pz10]
  exact st10
def t11 : List Int := [6957420134928833084, 11066492214442558760, 8852204050930817163, 16637100758157483088, 13793235464671963291, 16579187790514024601, 5087487686719609279, 2439210018473797316, 16167950641569709221, 15440441540610139129, 17486699792170221024, 7264363066025137227, 11779408076668666047, 9124233109185818420, 11655165481671874937, 12863485118602620043, 3824684090218928606, 17516345521627928082, 15251255887108870371, 15596482580270503610, 1669277717681272871, 1220667000908567266, 17642472689962264100, 16687637366048154241, 2457500670040092229]
def r11 : List Int := [6957420134928833084, 9915787739183287009, 11530900716695184081, 979311582586238187, 12895409102629456006, 16205567488210906543, 8963064902019015799, 10766389821394906887, 14644517014563803122, 11428681123100058820, 3686240355175565905, 8535488592646615304, 6292023315401621395, 8202820627985775320, 15921851375321636009, 11130854582525844308, 7011833720681379656, 4669917904791219603, 5168199231248890251, 9360615714353829346, 16048109068014868002, 5976329536725870558, 13343247401284771966, 12274867982077730711, 4882668003634269064]
def h11 : List Int := [4650443607606377004, 9514407034135748299, 1325603491995511509, 5593257647634540243, 4316689694591141959, 7056436588513633967, 3922974518795920519, 9361284003398536963, 12348570714043139801, 9410505497913992340, 3614675582850630850, 6265106893083717952, 15812212848177019826, 5971330993120196744, 10998285978683370913, 11166777828240479175, 7385351289822635840, 13873470266315090419, 6746683412968993695, 16204117485081817578, 8627448812002334210, 5809981248579074143, 17919282347891220598, 3921880343594863541, 4864618403575458388]
def z12 : List Int := [4650443609753860646, 9514407034135748299, 1325603491995511509, 5593257647634540243, 4316689694591141959, 7056436588513633967, 3922974518795920519, 9361284003398536963, 12348570714043139801, 9410505497913992340, 3614675582850630850, 6265106893083717952, 15812212848177019826, 5971330993120196744, 10998285978683370913, 11166777828240479175, 7385351289822635840, 13873470266315090419, 6746683412968993695, 16204117485081817578, 8627448812002334210, 5809981248579074143, 17919282347891220598, 3921880343594863541, 4864618403575458388]
theorem st11 : round z11 11 = z12 := by
  have a : theta z11 = t11 := (theta_eq rfl).trans (by decide +kernel)
  have b : rhoPi t11 = r11 := (rp_eq _).trans (by decide +kernel)
  have c : chi r11 = h11 := (chi_eq rfl).trans (by decide +kernel)
  unfold round
  rw [a, b, c]
  decide +kernel
theorem pz12 : permN z0 12 = z12 := by
  rw [permN, pz11]
  exact st11
def t12 : List Int := [7394609033836005581, 11219313024127315079, 9193940225342668695, 4052194480709190827, 1741574218339128306, 5186497360674493508, 3011715744352917195, 17013443280774126145, 16068167238885270689, 11625041925452791585, 1458801398374905385, 5280706472882012940, 13151163442757168880, 2845459940870691568, 13505561073665717780, 13614101484036088108, 8774418173773468940, 12500414791987641521, 2883006944519344615, 14063668589523348063, 5885508266723534057, 5700365398375549459, 10762484824404555060, 4885884700528814541, 6939552538565128673]
def r12 : List Int := [7394609033836005581, 13073020204592149545, 2843888698159516005, 17388857663670255695, 10345065579101575187, 10554049708140250262, 2350907798714979655, 11670411186999243080, 18059873454095262415, 10568682639905345190, 3991881974545078543, 502469620680527995, 8866575247479863861, 3184064544614539203, 1898235054633862838, 3589554306296142468, 13263457438572625388, 2547414634282627365, 3639747130443749053, 14790892264886667561, 16133543111617830885, 5832019459191646642, 1736993478894821080, 3297296257139234456, 4354717519792646221]
def h12 : List Int := [7245703136117211529, 7308377745558090787, 3024039199793975669, 10475161913693405315, 2229594443943537715, 1378705438878885022, 8836084697270343616, 11673226748516941160, 18083512963210699487, 12838525556441833447, 5648153304207930123, 200746312536593849, 7587304358451870209, 653040454587139786, 1931695478642165446, 3646385758086716037, 12146637998669364084, 17157368884712978469, 149421579872863289, 4990703509122231361, 15561585888115575213, 8444020517878950322, 591672357007603357, 17168445266072961336, 4351942371301754975]
def z13 : List Int := [7245703133969760514, 7308377745558090787, 3024039199793975669, 10475161913693405315, 2229594443943537715, 1378705438878885022, 8836084697270343616, 11673226748516941160, 18083512963210699487, 12838525556441833447, 5648153304207930123, 200746312536593849, 7587304358451870209, 653040454587139786, 1931695478642165446, 3646385758086716037, 12146637998669364084, 17157368884712978469, 149421579872863289, 4990703509122231361, 15561585888115575213, 8444020517878950322, 591672357007603357, 17168445266072961336, 4351942371301754975]
theorem st12 : round z12 12 = z13 := by
  have a : theta z12 = t12 := (theta_eq rfl).trans (by decide +kernel)
  have b : rhoPi t12 = r12 := (rp_eq _).trans (by decide +kernel)
  have c : chi r12 = h12 := (chi_eq rfl).trans (by decide +kernel)
  unfold round
  rw [a, b, c]
  decide +kernel
theorem pz13 : permN z0 13 = z13 := by
  rw [permN, pz12]
  exact st12
def t13 : List Int := [3082765219863320887, 13192005211973746900, 17625315304530982598, 600712521138698814, 2980830652112258779, 6730598257792416939, 12168704449690231607, 8976123358067301083, 7204883792897775714, 9620971946979259663, 11122382359046974, 15039429811420701006, 12980988616200904114, 10383462688312015991, 3270131437826665518, 8998005933734838960, 8858157058212679555, 3707871360507748246, 11176723415721967236, 8281450784085345961, 11074384282977718680, 12056373568986471749, 15373094073415733550, 8596239851403639685, 849528301921149623]
def r13 : List Int := [3082765219863320887, 446835538323019592, 6552057552386061872, 6294445408111518582, 9826667099113505522, 12621794956877849229, 17307292854916765768, 88979058872375792, 6480802312496164460, 15756694814459130405, 7937266350237942185, 2622828631311169247, 11107768360503358192, 17122576322959681906, 8598132796690687680, 8851255756147322957, 11045019493485918024, 15791569421031783234, 9272271666787588538, 9617239068963960955, 13629700862987521457, 3544894146516472332, 4572867857866267584, 4505113628016210510, 11332006128526783766]
def h13 : List Int := [8215880196654479623, 225517064072369678, 15197560361869801136, 8492230603760171635, 10118468664873174202, 12554236390675866429, 12173151878110805572, 9455058762890676721, 9002967087103684324, 9992720627576564325, 17592825898690150793, 4755568919312351197, 9828710851794728048, 16554068888394836059, 8580092000238620822, 4104430996807219279, 11083037563608643568, 16029629053423442691, 18027075810091538878, 321245942758965115, 12925451596010538097, 3580536083181318658, 13705588460631989968, 2207116526748302063, 11336349477551892250]
def z14 : List Int := [17439252233509255564, 225517064072369678, 15197560361869801136, 8492230603760171635, 10118468664873174202, 12554236390675866429, 12173151878110805572, 9455058762890676721, 9002967087103684324, 9992720627576564325, 17592825898690150793, 4755568919312351197, 9828710851794728048, 16554068888394836059, 8580092000238620822, 4104430996807219279, 11083037563608643568, 16029629053423442691, 18027075810091538878, 321245942758965115, 12925451596010538097, 3580536083181318658, 13705588460631989968, 2207116526748302063, 11336349477551892250]
theorem st13 : round z13 13 = z14 := by
  have a : theta z13 = t13 := (theta_eq rfl).trans (by decide +kernel)
  have b : rhoPi t13 = r13 := (rp_eq _).trans (by decide +kernel)
  have c : chi r13 = h13 := (chi_eq rfl).trans (by decide +kernel)
  unfold round
  rw [a, b, c]
  decide +kernel
theorem pz14 : permN z0 14 = z14 := by
  rw [permN, pz13]
  exact st13
def t14 : List Int := [11416403086869789550, 6006846705543212237, 9267668695364475887, 2146936903170259136, 14081801789221901611, 14002261784410333663, 17911397295100658823, 15078850807370638510, 1504751881638489175, 14244287272278866932, 10974665830137217899, 1261717559727768862, 15713995073928239407, 10208210043232201448, 4040297920644448519, 6097385310222662317, 14534085914785107251, 10088456243072906844, 10537311455302884109, 5437483855567728362, 16072203724809602707, 7047349788132493505, 17024102627825349519, 8552412421997295708, 15155268552837936779]
def r14 : List Int := [11416403086869789550, 16161307489760907093, 15621156216923364221, 11389778775529113473, 10744737566191449236, 15044907375743776571, 18221542977196284637, 14010350346259536732, 14530434522442649272, 18268913892974026353, 12013693411086424474, 5815759838824180660, 16561666940840138161, 8490061497122089547, 13873545300612709423, 17519073646643733728, 18222160011086294653, 726696001566701638, 12880372137846523392, 6662706512512797048, 16151975229123282683, 3137444309168690390, 7025760124887287477, 249205037300401349, 9742655078820422405]
def h14 : List Int := [9722768356173146950, 16598296433848699861, 15691981808115297129, 10697062245742628075, 17662185775433183365, 15198026603042879035, 17681084710937697917, 17755093159386811165, 14547892052690005938, 15104501572478572213, 286948984759750043, 4662839012690330110, 7340557698684567957, 6044892770335615963, 10415756869583199755, 17381047550606275810, 5486050556617844861, 5053899052200358206, 1279029575438066304, 5815463311262729061, 11540426632486290650, 3026182386453255318, 16537225085018891701, 7167013066012819519, 10141258868901884673]
def z15 : List Int := [499396319318338511, 16598296433848699861, 15691981808115297129, 10697062245742628075, 17662185775433183365, 15198026603042879035, 17681084710937697917, 17755093159386811165, 14547892052690005938, 15104501572478572213, 286948984759750043, 4662839012690330110, 7340557698684567957, 6044892770335615963, 10415756869583199755, 17381047550606275810, 5486050556617844861, 5053899052200358206, 1279029575438066304, 5815463311262729061, 11540426632486290650, 3026182386453255318, 16537225085018891701, 7167013066012819519, 10141258868901884673]
theorem st14 : round z14 14 = z15 := by
  have a : theta z14 = t14 := (theta_eq rfl).trans (by decide +kernel)
  have b : rhoPi t14 = r14 := (rp_eq _).trans (by decide +kernel)
  have c : chi r14 = h14 := (chi_eq rfl).trans (by decide +kernel)
  unfold round
  rw [a, b, c]
  decide +kernel
theorem pz15 : permN z0 15 = z15 := by
  rw [permN, pz14]
  exact st14
def t15 : List Int := [158986994180125418, 12901079198559633751, 1598219178336081838, 12513248342605703487, 9512817142412155415, 15434081346126262046, 11533434260315919615, 4147215640791545818, 17307362781022489190, 11566678222174551079, 513851324335101118, 1577547292289190780, 12264986076756622674, 7653763717222829583, 16254849056214922393, 17721384376494157255, 1833937488367919871, 9928207257680416249, 2888041981232875348, 2426399759418665463, 11888719591252532735, 8984119815181196820, 3056566560388815218, 6530848479437022699, 18276765751131167123]
def r15 : List Int := [158986994180125418, 3841563889101022695, 9649689329670214977, 6641817282500952716, 533518005890776937, 2086330546343542737, 9869215682690418769, 4110810594680808944, 2621063296715700942, 4993756838475989806, 7355414323409715887, 7167383978725209742, 1823867809907896131, 12415783978763155233, 15990764222615032820, 5896840085946507910, 7307919347233452896, 10541692891400368215, 716935730227365092, 16959045725785865829, 9622926831438796267, 3708740738866009285, 11842862767195917344, 3376450588849104290, 17489735187015235665]
def h15 : List Int := [9409374791938941674, 7875549592229816171, 9703448628059580448, 6646444096150176270, 3615341345388919404, 3313702318915902065, 10134537690255397471, 8650438741776573648, 4390978572871648799, 14217650920017756974, 9087041697269418990, 14373159467704673966, 5255045852942200727, 10258247457295693610, 15892810380627109876, 14111119864122843793, 7843847541910009792, 8089379539919030870, 1834752850737808486, 14947608865877749509, 110835202157518283, 4177540581383386439, 8393105401651434609, 3159292081379106824, 13891385438665554005]
def z16 : List Int := [186002755084198633, 7875549592229816171, 9703448628059580448, 6646444096150176270, 3615341345388919404, 3313702318915902065, 10134537690255397471, 8650438741776573648, 4390978572871648799, 14217650920017756974, 9087041697269418990, 14373159467704673966, 5255045852942200727, 10258247457295693610, 15892810380627109876, 14111119864122843793, 7843847541910009792, 8089379539919030870, 1834752850737808486, 14947608865877749509, 110835202157518283, 4177540581383386439, 8393105401651434609, 3159292081379106824, 13891385438665554005]
theorem st15 : round z15 15 = z16 := by
  have a : theta z15 = t15 := (theta_eq rfl).trans (by decide +kernel)
  have b : rhoPi t15 = r15 := (rp_eq _).trans (by decide +kernel)
  have c : chi r15 = h15 := (chi_eq rfl).trans (by decide +kernel)
  unfold round
  rw [a, b, c]
  decide +kernel
theorem pz16 : permN z0 16 = z16 := by
  rw [permN, pz15]
  exact st15
def t16 : List Int := [13958070838161787189, 11134798915763016134, 5571037502816098198, 12026848882264386690, 14434091295649854816, 17212042335459226029, 8892443688443716850, 12967365526385531750, 14282314482913372307, 4554065477552180258, 13635351263267708978, 3511376540752760835, 9445300034293190689, 8396828810976418214, 2806567841365453048, 68982521980176717, 11175581293599310189, 13527372779328533984, 16405842795035028202, 3822684530644049929, 14026483008998209047, 14858722314442474474, 13800035237479918535, 15060905279634034308, 4230121632683112281]
def r16 : List Int := [13958070838161787189, 11695610422171712045, 4503894402310255592, 7148583550879298984, 1895344953326194349, 7361910705851629365, 12017316710758740788, 16849089737593913749, 10965617905307171183, 17865905469180847480, 3822853757816480653, 18254654445453760940, 11631680404262031118, 929803938270546229, 5759186449008102048, 8603603355589312908, 36902766724470009, 16981227431174081730, 8137885870585830877, 9570434074255057998, 10616131412558800357, 5324128307262143476, 5743351847888308859, 12507228448175323644, 4094657036641243051]
def h16 : List Int := [15939663435383392501, 16391965146650181165, 2794497005640006125, 11710730763712689336, 4037405288066120869, 3403361017319292852, 13180373384165051230, 10233231434755573125, 10963788867206603626, 8589604176294192504, 3829608956599346575, 17426361824248781213, 16313352582187060622, 4388287183312660536, 9780889371646087808, 11263013982753163662, 1208546673079813604, 8050592666418949312, 272947985853373533, 9534150378871926847, 10754727055769708014, 16852918939728349808, 6914530605635947640, 3357021228669245880, 8102025041947792827]
def z17 : List Int := [6716291398528649463, 16391965146650181165, 2794497005640006125, 11710730763712689336, 4037405288066120869, 3403361017319292852, 13180373384165051230, 10233231434755573125, 10963788867206603626, 8589604176294192504, 3829608956599346575, 17426361824248781213, 16313352582187060622, 4388287183312660536, 9780889371646087808, 11263013982753163662, 1208546673079813604, 8050592666418949312, 272947985853373533, 9534150378871926847, 10754727055769708014, 16852918939728349808, 6914530605635947640, 3357021228669245880, 8102025041947792827]
theorem st16 : round z16 16 = z17 := by
  have a : theta z16 = t16 := (theta_eq rfl).trans (by decide +kernel)
  have b : rhoPi t16 = r16 := (rp_eq _).trans (by decide +kernel)
  have c : chi r16 = h16 := (chi_eq rfl).trans (by decide +kernel)
  unfold round
  rw [a, b, c]
  decide +kernel
theorem pz17 : permN z0 17 = z17 := by
  rw [permN, pz16]
  exact st16
def t17 : List Int := [15806550166954713306, 6383859853099852349, 3287121434651045513, 11617410157751793748, 10328473918554897394, 12200814341159622553, 939532719982237518, 9607728842610676449, 11212477129828691846, 13863704201258148399, 12919890402436697506, 5347228534077703565, 16803655896957983466, 4565480797508347092, 3525493833346635223, 1884590808887681443, 12332664538782046708, 7273116446969183140, 32721289871937713, 3675422974694799208, 1380737662538370499, 5909404105016088160, 6098831899182848796, 3254697821535507796, 14348906159773127404]
def r17 : List Int := [15806550166954713306, 6734254529438580438, 11589828139599008208, 18077287388096237191, 7172046368393605576, 14550276647972738383, 6361810914969912924, 11125402850945821973, 2539631500062740741, 9985726024252631907, 12767719706199704698, 6152091494668089441, 3555790134261495729, 124333762681464883, 8528338203483851941, 8312184621441396962, 8428901882434420738, 15325773077541172520, 11993046032495817335, 6065551562551319701, 5433466377090149282, 14073130206790144183, 4209435841787394869, 7981300155105326621, 5190872346354801025]
def h17 : List Int := [8925908684968174042, 539526793548296401, 11661866098113585304, 7100884252528479893, 7469495395882332108, 5460818120427043918, 8742384449443698268, 1361554367008491383, 7085858075342652681, 11138928806790670707, 10459659801701106666, 6179385343127973987, 5123603521173107509, 9266642088453662825, 3610247510912169124, 17535552123380205002, 6248378395162313301, 9561200739418372520, 9600864127987880469, 5804043717017853077, 8306236823340613794, 9785417608908625087, 4206999055586865845, 7900798310843028543, 14412064137475721620]
def z18 : List Int := [18149280721822949722, 539526793548296401, 11661866098113585304, 7100884252528479893, 7469495395882332108, 5460818120427043918, 8742384449443698268, 1361554367008491383, 7085858075342652681, 11138928806790670707, 10459659801701106666, 6179385343127973987, 5123603521173107509, 9266642088453662825, 3610247510912169124, 17535552123380205002, 6248378395162313301, 9561200739418372520, 9600864127987880469, 5804043717017853077, 8306236823340613794, 9785417608908625087, 4206999055586865845, 7900798310843028543, 14412064137475721620]
theorem st17 : round z17 17 = z18 := by
  have a : theta z17 = t17 := (theta_eq rfl).trans (by decide +kernel)
  have b : rhoPi t17 = r17 := (rp_eq _).trans (by decide +kernel)
  have c : chi r17 = h17 := (chi_eq rfl).trans (by decide +kernel)
  unfold round
  rw [a, b, c]
  decide +kernel
theorem pz18 : permN z0 18 = z18 := by
  rw [permN, pz17]
  exact st17
def t18 : List Int := [6439397414382716489, 3722618122783249609, 10014402422881692450, 9738262823130259302, 5563619698816351550, 16810493033783106397, 5586325979243000388, 4163647019954195661, 9797629963456976122, 12684498735388212097, 3722869753410233593, 6995281601576359035, 7797906740596521103, 7293459800757942682, 1767421119972992598, 5897653667115262681, 7089544033618175565, 12654338656810332690, 6958965105349379046, 8795833387710729831, 15116271800712914865, 12905457048693829799, 1247298934762584335, 9803048715697276364, 16329180502785792870]
def r18 : List Int := [6439397414382716489, 802842329858578053, 703823101503663239, 13588650938881282662, 4164056632803309735, 1360410302687106087, 5066491631886860422, 11336213953572317129, 11874211336631587305, 16296813431341180705, 7445236245566499218, 8218992245134799694, 1711237511324004134, 1230570261381539706, 2626732169024194335, 2029579622901460885, 2099158868913153427, 5831659414885625220, 11455817517680383950, 14738042342782991429, 11726972642575198920, 9026335250763368906, 4734174964969771644, 6829060826102073017, 14728340047356215966]
def h18 : List Int := [6457439440067964491, 13777849160320812261, 616247764888011782, 18194773996632560686, 4317179055567775779, 10083899805088772974, 7405719902982344870, 16100953298539987401, 12973085787754562031, 11972577103329552289, 7125480735910323634, 8219049419739706134, 3736733898207096611, 5913531013532143610, 3781114905091265875, 6693617783122012049, 10606185885997594585, 1219971372489852293, 10293467154871768158, 14810438646472817735, 11677429713754339580, 7135791663349222731, 13948538720430871162, 8962078475333775097, 10458764881410098076]
def z19 : List Int := [6457439440067997249, 13777849160320812261, 616247764888011782, 18194773996632560686, 4317179055567775779, 10083899805088772974, 7405719902982344870, 16100953298539987401, 12973085787754562031, 11972577103329552289, 7125480735910323634, 8219049419739706134, 3736733898207096611, 5913531013532143610, 3781114905091265875, 6693617783122012049, 10606185885997594585, 1219971372489852293, 10293467154871768158, 14810438646472817735, 11677429713754339580, 7135791663349222731, 13948538720430871162, 8962078475333775097, 10458764881410098076]
theorem st18 : round z18 18 = z19 := by
  have a : theta z18 = t18 := (theta_eq rfl).trans (by decide +kernel)
  have b : rhoPi t18 = r18 := (rp_eq _).trans (by decide +kernel)
  have c : chi r18 = h18 := (chi_eq rfl).trans (by decide +kernel)
  unfold round
  rw [a, b, c]
  decide +kernel
theorem pz19 : permN z0 19 = z19 := by
  rw [permN, pz18]
  exact st18
def t19 : List Int := [1950691950048751813, 11233097851607800115, 9474168344460925176, 2588937045237981992, 5710233284503144287, 14519152720817253866, 4760688710017797488, 6090072095801089335, 7738515395560716009, 15199722273899366621, 2336695243058314038, 6257988960709537472, 13271492738959029213, 10195031535566518524, 4660757670550436399, 2192075320012486933, 13251709917602687503, 11175803996645890427, 5887523977739789144, 13357217910771749691, 16177424088148223608, 5174731212085825693, 5360816182516452996, 11759638502726146559, 16569761925873020128]
def r19 : List Int := [1950691950048751813, 3231055797808171373, 11646007101465208134, 18133876718971795093, 16693604793800210812, 7634769266675211272, 3316414954820415236, 246817870756960689, 6143462932945482791, 9893474059669332432, 4019451629506048615, 2382988583369133525, 6124528196094982158, 6800131521300872121, 431338070560965127, 6366788304644994711, 13787452142105544596, 7160502189351960923, 3982010810518850956, 18420622567572897689, 2368542086115231294, 8409823993300559067, 12321030132980200492, 9039333842890114916, 2252180774633751157]
def h19 : List Int := [11104423393663816903, 8572342599578983420, 11933814230067883054, 16408968794787853844, 14082361430812143700, 7538106832265153721, 8793108538781928194, 10043264159957555297, 3887159526106900527, 10326454849488601812, 7145899200533365357, 3103641480972357220, 6151549654018979848, 7808537864706395097, 426832309038534551, 1752534105689487068, 12346090185973467920, 12393401280729133898, 3970681348523150730, 6388263871030754969, 12292229775085606426, 2429580131723667355, 12176686534785315901, 6767971518393992046, 5431456042628866740]
def z20 : List Int := [1881051358956524749, 8572342599578983420, 11933814230067883054, 16408968794787853844, 14082361430812143700, 7538106832265153721, 8793108538781928194, 10043264159957555297, 3887159526106900527, 10326454849488601812, 7145899200533365357, 3103641480972357220, 6151549654018979848, 7808537864706395097, 426832309038534551, 1752534105689487068, 12346090185973467920, 12393401280729133898, 3970681348523150730, 6388263871030754969, 12292229775085606426, 2429580131723667355, 12176686534785315901, 6767971518393992046, 5431456042628866740]
theorem st19 : round z19 19 = z20 := by
  have a : theta z19 = t19 := (theta_eq rfl).trans (by decide +kernel)
  have b : rhoPi t19 = r19 := (rp_eq _).trans (by decide +kernel)
  have c : chi r19 = h19 := (chi_eq rfl).trans (by decide +kernel)
  unfold round
  rw [a, b, c]
  decide +kernel
theorem pz20 : permN z0 20 = z20 := by
  rw [permN, pz19]
  exact st19
def t20 : List Int := [1879786025837646292, 2656100920390022979, 12203445249580967986, 3390807576260034384, 6151670964959960813, 7534589698929936800, 2894737293450995645, 9774750277057879165, 17962388680882692459, 1837282568766827629, 7144912596433323892, 8735031508067394267, 6456057182532893716, 11595555700849312413, 10654901556456661294, 1756053295945069509, 17977619877348206511, 12049381702544013142, 18135008399411102926, 14886108839723274272, 12293213494712488707, 8330766344304298788, 11833898511410671649, 10473795572026821162, 15947757846183480333]
def r20 : List Int := [1879786025837646292, 10267031234576364515, 15843842489437809203, 13963889999953753487, 8381491848052701012, 7479049568750987544, 7796001240605890549, 1819068550337936291, 17074834142438419722, 3785080323140027908, 5312201840780045958, 16841463299289063265, 17488816580711274336, 10814583784990580942, 1308913073101122153, 3642337838817278209, 5806435172446623380, 16448132585588747748, 29475282979869596, 3067332213546203082, 12274233349250017804, 13113536108276269392, 12506662509004472762, 16962678463456761438, 14876321303507643537]
def h20 : List Int := [5446671788738582980, 10264481673677809263, 17289506751991670883, 14686210873594737935, 17309737919434675575, 8558224471215489306, 9867857203901322237, 665584300878412199, 12663381835802215442, 4375065056720982241, 6610362230856625798, 17129996464193748975, 17482660416114875713, 16106443241972327496, 12838202336223410952, 10866956683475865697, 5817714534208750732, 14903195188729727398, 1181230696816515997, 7674637775517888862, 11697750878443596454, 17842043107102873364, 12213993094098217275, 14655586352935638098, 15842378043616538049]
def z21 : List Int := [14670043827740809541, 10264481673677809263, 17289506751991670883, 14686210873594737935, 17309737919434675575, 8558224471215489306, 9867857203901322237, 665584300878412199, 12663381835802215442, 4375065056720982241, 6610362230856625798, 17129996464193748975, 17482660416114875713, 16106443241972327496, 12838202336223410952, 10866956683475865697, 5817714534208750732, 14903195188729727398, 1181230696816515997, 7674637775517888862, 11697750878443596454, 17842043107102873364, 12213993094098217275, 14655586352935638098, 15842378043616538049]
theorem st20 : round z20 20 = z21 := by
  have a : theta z20 = t20 := (theta_eq rfl).trans (by decide +kernel)
  have b : rhoPi t20 = r20 := (rp_eq _).trans (by decide +kernel)
  have c : chi r20 = h20 := (chi_eq rfl).trans (by decide +kernel)
  unfold round
  rw [a, b, c]
  decide +kernel
theorem pz21 : permN z0 21 = z21 := by
  rw [permN, pz20]
  exact st20
def t21 : List Int := [11264165280180062350, 13404098605076460097, 7065153750788441266, 2824064155689983252, 3758183010445088720, 2378118678426554577, 13584972775351109587, 9565782273933104502, 4846910271348239369, 17917693271302967878, 898631859499630413, 15694998648616233921, 9178967348128952720, 3709670123599498323, 8517785073923144111, 13910214079859786154, 7262762006050328738, 4840828908203287927, 18201969244354016134, 12582774789165691897, 17695469721088441197, 14118086331358004026, 2628992978754045418, 2854696923758984265, 2289055119922802534]
def r21 : List Int := [11264165280180062350, 8970391764989654242, 1552761085897039345, 5971150569457292108, 1648382963678283761, 3561513674687582582, 17407088455106660998, 7189054875997043304, 12255504707345322586, 4940310140771643581, 8361453136443368579, 3467511099303484833, 11906969963847939786, 11456877200955144622, 13822581488513177163, 5355878087766654460, 6152212937194628457, 4564527982004078439, 729374176904454551, 5271355524627172860, 10989660474551886124, 333725794794402742, 2890422259470578338, 6630237093622973223, 1132113104303361259]
def h21 : List Int := [11372392352914768287, 4480083049744348910, 1273588417966463296, 15766972460458433346, 8560527992384500625, 3686627936143892766, 8755611411202149012, 2832524706795739853, 11201653529761616664, 9520020058357152317, 17377655190274623177, 3088928373660210309, 9529232775671115915, 16066398500001929518, 13818642385023979371, 6938803179744280570, 6153620101357422073, 9113291186175413007, 598736750830588311, 6631432716220780029, 12726974436539949356, 5810384416721007283, 3145999531509890666, 14700409590898811427, 835051425122426489]
def z22 : List Int := [2149020316059959583, 4480083049744348910, 1273588417966463296, 15766972460458433346, 8560527992384500625, 3686627936143892766, 8755611411202149012, 2832524706795739853, 11201653529761616664, 9520020058357152317, 17377655190274623177, 3088928373660210309, 9529232775671115915, 16066398500001929518, 13818642385023979371, 6938803179744280570, 6153620101357422073, 9113291186175413007, 598736750830588311, 6631432716220780029, 12726974436539949356, 5810384416721007283, 3145999531509890666, 14700409590898811427, 835051425122426489]
theorem st21 : round z21 21 = z22 := by
  have a : theta z21 = t21 := (theta_eq rfl).trans (by decide +kernel)
  have b : rhoPi t21 = r21 := (rp_eq _).trans (by decide +kernel)
  have c : chi r21 = h21 := (chi_eq rfl).trans (by decide +kernel)
  unfold round
  rw [a, b, c]
  decide +kernel
theorem pz22 : permN z0 22 = z22 := by
  rw [permN, pz21]
  exact st21
def t22 : List Int := [15438174408263215926, 18388266464130843191, 14923695569397924725, 633434405769492391, 3729064922363339117, 17925518183263324983, 13303179273594633805, 18012157501359407352, 5292191766322774013, 13911814814561413313, 4234621769033379040, 16988245051657789532, 6523900972960017086, 933002247969748427, 18070966289195163031, 12368617380238464467, 10698936164605309216, 11587697977918394682, 15729599263960857970, 1804468987366858497, 8895445523912510213, 10502091926724085354, 17663111149526754399, 2163900959143464646, 5664372506837945477]
def r22 : List Int := [15438174408263215926, 2874663847488196255, 15804805460955690328, 7359291082957080920, 17956461273854071718, 14305239440007407251, 2151224403656708363, 15430230078557480705, 2748342079204111292, 18348789958186701963, 18329788854552134767, 9079947517009870398, 3736230033704478049, 775458923176984857, 16306318822948072907, 5822786030811349606, 249021239807687943, 683271389469307823, 16354071266256048231, 14275856357631385486, 8342609910776869085, 18348993994696258879, 14172489366554545223, 12406193591906464639, 5114879559477238186]
def h22 : List Int := [1021834981062007414, 271587765569717919, 4776059245685303294, 6929972956618907976, 15632760037079799599, 335373011243745427, 4458191160998101431, 1054086133152375554, 2747216341432570284, 16716089959809353091, 18427037088977732910, 8502882582543089190, 15262916258997799331, 1649067881221390653, 16305756012321036251, 6396788823285448910, 16280709970257755463, 968684198036765735, 17453107891981340679, 14208300252181521039, 8344225276973693085, 15466940913106191879, 9691424745450112199, 11326521537916162858, 14617465633943149704]
def z23 : List Int := [1021834983209491063, 271587765569717919, 4776059245685303294, 6929972956618907976, 15632760037079799599, 335373011243745427, 4458191160998101431, 1054086133152375554, 2747216341432570284, 16716089959809353091, 18427037088977732910, 8502882582543089190, 15262916258997799331, 1649067881221390653, 16305756012321036251, 6396788823285448910, 16280709970257755463, 968684198036765735, 17453107891981340679, 14208300252181521039, 8344225276973693085, 15466940913106191879, 9691424745450112199, 11326521537916162858, 14617465633943149704]
theorem st22 : round z22 22 = z23 := by
  have a : theta z22 = t22 := (theta_eq rfl).trans (by decide +kernel)
  have b : rhoPi t22 = r22 := (rp_eq _).trans (by decide +kernel)
  have c : chi r22 = h22 := (chi_eq rfl).trans (by decide +kernel)
  unfold round
  rw [a, b, c]
  decide +kernel
theorem pz23 : permN z0 23 = z23 := by
  rw [permN, pz22]
  exact st22
def t23 : List Int := [2451556317121766811, 17694041090502216312, 4819411027970555992, 15096062030605083158, 6590186826494667496, 2921885087312347007, 14670385627157548368, 1010734444265702564, 10913307621080666866, 7240890096010213444, 15245274495957334722, 9244005013305094849, 15237578764643397125, 12083548405794210403, 7047600009900583452, 8425691128119099170, 1709591357669208480, 997390614272154497, 4856618625377915737, 5091796162674122568, 6910562889631172465, 2372446946440399584, 9716761569789993825, 3205483853403836532, 5286135114828702031]
def r23 : List Int := [2451556317121766811, 10148031326119265163, 15523959161854966780, 11317799070881836229, 574295287109243479, 17552680735194218438, 17499551448965728204, 11281731525401368086, 7940975303747765790, 3520438205437443180, 16941338107294881009, 9346772211876309251, 9359381645734404806, 12227732484906764358, 96380827558313885, 352797372253448288, 18174267442326007832, 2681423811417146881, 13311893930342647531, 8371202329701999312, 1204852756992638998, 8740283932536703433, 10733500890105081666, 7349387413126570285, 9489787785761598336]
def h23 : List Int := [8153080453513960943, 9571781953733019530, 15391093639620504046, 13624874521033984333, 10027350355371872343, 18417369716475457492, 10448040663659726788, 10113917136857017974, 12479658147685402012, 3500241080921619556, 16959053435453822517, 12224711289652453635, 9342009439668884831, 4879704952849025062, 140226327413610143, 424854978622500449, 7259519967065370866, 7004910057750291985, 13293599522548616907, 10105770293752443592, 10668034807192757780, 1747952066141424100, 1654286879329379778, 8500057116360352059, 16929593379567477321]
def z24 : List Int := [17376452488221285863, 9571781953733019530, 15391093639620504046, 13624874521033984333, 10027350355371872343, 18417369716475457492, 10448040663659726788, 10113917136857017974, 12479658147685402012, 3500241080921619556, 16959053435453822517, 12224711289652453635, 9342009439668884831, 4879704952849025062, 140226327413610143, 424854978622500449, 7259519967065370866, 7004910057750291985, 13293599522548616907, 10105770293752443592, 10668034807192757780, 1747952066141424100, 1654286879329379778, 8500057116360352059, 16929593379567477321]
theorem st23 : round z23 23 = z24 := by
  have a : theta z23 = t23 := (theta_eq rfl).trans (by decide +kernel)
  have b : rhoPi t23 = r23 := (rp_eq _).trans (by decide +kernel)
  have c : chi r23 = h23 := (chi_eq rfl).trans (by decide +kernel)
  unfold round
  rw [a, b, c]
  decide +kernel
theorem pz24 : permN z0 24 = z24 := by
  rw [permN, pz23]
  exact st23
theorem perm_zero : perm z0 = z24 := (perm_eq _).trans pz24
end Go.Proofs.YtganbceicojfmaaDoor

/-
  The conditions of the functions on words are met.
-/
namespace Go.Proofs.YtganbceicojfmaaDoor
open Go Go.Avc Go.Proofs
set_option linter.unusedVariables false
set_option linter.unusedSimpArgs false
set_option maxRecDepth 100000
theorem condI {b : Bool} {X Y : Prop} (h : b = true → X) (k : b = false → Y) : bif b then X else Y := by
  cases b with
  | true => exact h rfl
  | false => exact k rfl
theorem c0 : (base.with spec0).Ok := base_ok
theorem wrap_u64 {n : Int} (h0 : 0 ≤ n) (h : n ≤ 18446744073709551615) : IntKind.u64.wrap n = n := by
  unfold IntKind.wrap
  simp [IntKind.signed, IntKind.bits]
  omega
theorem and63 {k : Nat} (h : k ≤ 1000) : bAnd .u64 (k : Int) 63 = ((k % 64 : Nat) : Int) := by
  unfold bAnd
  rw [BitVec.ofInt_natCast, show (63 : Int) = ((63 : Nat) : Int) from rfl, BitVec.ofInt_natCast, BitVec.toNat_and, BitVec.toNat_ofNat, BitVec.toNat_ofNat, show 2 ^ IntKind.bits .u64 = 18446744073709551616 from by decide, Nat.mod_eq_of_lt (by omega), Nat.mod_eq_of_lt (by omega)]
  have := Nat.and_two_pow_sub_one_eq_mod k 6
  rw [show (2 : Nat) ^ 6 - 1 = 63 from by decide, show (2 : Nat) ^ 6 = 64 from by decide] at this
  rw [this]
  exact wrap_u64 (by omega) (by omega)
theorem vc43 : P43 := by
  rintro x k ⟨h0, h1⟩
  obtain ⟨i, rfl⟩ : ∃ i : Nat, k = i := ⟨k.toNat, by omega⟩
  rw [wrap_u64 (by omega) (by omega), and63 (by omega), wrap_u64 (by omega) (by omega)]
  exact ⟨by omega, by omega, rfl⟩
theorem ok43 : SpecOk (base.with spec0) 43 (mkF ct43) := spec_ct (fn := Tryd.f43) (c := bodyOf Tryd.f43) (k := Tryd.f43.ntmps - ct43.ps.length) (ct := ct43) c0 Tryd.func43 (by kernel_rfl) noAnn (by kernel_rfl) (fun vs w _ => Tryd.call43 vs w) (e43.mpr vc43)
theorem c43 : (base.with sp43).Ok := addS_ok c0 ok43
theorem vc20 : P20 := by
  intro n _
  refine condI (fun h => ?_) fun h => ?_
  · simp only [Bool.or_eq_true, decide_eq_true_eq] at h
    unfold rcOf
    rw [if_pos h]
  · simp only [Bool.or_eq_false_iff, decide_eq_false_iff_not] at h
    refine ⟨⟨by omega, by omega, by omega⟩, by omega, ?_⟩
    unfold rcOf
    rw [if_neg (by omega), Nat.zero_add]
    obtain ⟨i, rfl⟩ : ∃ i : Nat, n = i := ⟨n.toNat, by omega⟩
    rw [Int.toNat_natCast]
    have hi : i < 24 := by omega
    clear h
    revert i
    decide
theorem ok20 : SpecOk (base.with sp43) 20 (mkF ct20) := spec_ct (fn := Tryd.f20) (c := bodyOf Tryd.f20) (k := Tryd.f20.ntmps - ct20.ps.length) (ct := ct20) c43 Tryd.func20 (by kernel_rfl) noAnn (by kernel_rfl) (fun vs w _ => Tryd.call20 vs w) (e20.mpr vc20)
theorem c20 : (base.with sp20).Ok := addS_ok c43 ok20
theorem vc35 : P35 := by
  intro s hs _
  refine ⟨⟨⟨rfl, rfl, by omega, by omega, rfl⟩, trivial⟩, ?_⟩
  rintro s' n s'' z c _ _ _ _ ⟨rfl, rfl, h0, h1, rfl⟩
  obtain ⟨i, rfl⟩ : ∃ i : Nat, n = i := ⟨n.toNat, by omega⟩
  refine condI (fun h => ?_) fun h => ?_
  · simp only [decide_eq_true_eq] at h
    simp only [Nat.mul_one, Int.toNat_natCast]
    have e : ((i : Int) % 5).toNat = i % 5 := by omega
    rw [e]
    refine ⟨⟨by omega, by omega, by omega⟩, ⟨by omega, by omega⟩, ⟨by omega, by omega⟩, by omega, ⟨by omega, by omega⟩, by omega, ⟨by omega, by omega⟩, ⟨by trivial, by trivial, by omega, by omega, ?_⟩, by omega⟩
    rw [show ((i : Int) + 1).toNat = i + 1 from by omega]
    rfl
  · simp only [decide_eq_false_iff_not] at h
    have hi : i = 25 := by omega
    subst hi
    rw [show ((25 : Nat) : Int).toNat = 25 from rfl]
    have z0 : ∀ c : List Int, thN c s'' 0 = s'' := fun c => by rw [thN]
    refine ⟨⟨⟨by omega, by omega, Eq.refl (cols s'' 25), (z0 _).symm⟩, trivial⟩, ?_⟩
    have fin : ∀ c t, c = cols s'' 25 → t = thN c s'' 25 → t = theta s'' := fun c t h1 h2 => by rw [h2, h1]; rfl
    generalize cols s'' 25 = cc at *
    rintro n t z c _ _ _ ⟨h0, h1, ec, et⟩
    subst ec et
    obtain ⟨i, rfl⟩ : ∃ i : Nat, n = i := ⟨n.toNat, by omega⟩
    refine condI (fun h => ?_) fun h => ?_
    · simp only [decide_eq_true_eq] at h
      simp only [Nat.mul_one, Int.toNat_natCast]
      have e1 : (((i : Int) % 5 + 4) % 5).toNat = (i % 5 + 4) % 5 := by omega
      have e2 : (((i : Int) % 5 + 1) % 5).toNat = (i % 5 + 1) % 5 := by omega
      rw [e1, e2]
      refine ⟨⟨by omega, by omega⟩, ⟨by omega, by omega⟩, by omega, ⟨by omega, by omega⟩, ⟨by omega, by omega⟩, ⟨by omega, by omega⟩, by omega, ⟨by omega, by omega⟩, ⟨by omega, by omega⟩, ⟨by omega, by omega⟩, by omega, ⟨by omega, by omega⟩, ⟨by omega, by omega⟩, by omega, ⟨by omega, by omega⟩, ⟨by omega, by omega, by trivial, ?_⟩, by omega⟩
      rw [show ((i : Int) + 1).toNat = i + 1 from by omega]
      rfl
    · simp only [decide_eq_false_iff_not] at h
      have hi : i = 25 := by omega
      subst hi
      exact fin _ _ rfl rfl
theorem ok35 : SpecOk (base.with sp20) 35 (mkF ct35) := spec_ct (fn := Tryd.f35) (c := bodyOf Tryd.f35) (k := Tryd.f35.ntmps - ct35.ps.length) (ct := ct35) c20 Tryd.func35 (by kernel_rfl) ann35 (by kernel_rfl) (fun vs w _ => Tryd.call35 vs w) (e35.mpr vc35)
theorem c35 : (base.with sp35).Ok := addS_ok c20 ok35
theorem xy_lt (i : Nat) : (xyN i).1 < 5 ∧ (xyN i).2 < 5 := by
  induction i with
  | zero => decide
  | succ i ih => simp only [xyN]; omega
theorem vc36 : P36 := by
  intro s hs _
  refine ⟨⟨by omega, by omega⟩, by omega, ⟨⟨rfl, by omega, by omega, rfl, rfl, rfl⟩, trivial⟩, ?_⟩
  rintro x y n s' z t _ _ _ ⟨rfl, h0, h1, rfl, rfl, rfl⟩
  obtain ⟨i, rfl⟩ : ∃ i : Nat, n = i := ⟨n.toNat, by omega⟩
  rw [Int.toNat_natCast]
  obtain ⟨hx, hy⟩ := xy_lt i
  refine condI (fun h => ?_) fun h => ?_
  · simp only [decide_eq_true_eq] at h
    have hm : (i + 1) * (i + 2) ≤ 24 * 25 := Nat.mul_le_mul (by omega) (by omega)
    have em : ((i : Int) + 1) * ((i : Int) + 2) = (((i + 1) * (i + 2) : Nat) : Int) := by simp
    rw [em]
    generalize hM : (i + 1) * (i + 2) = M at *
    have emax : IntKind.max .i64 = 9223372036854775807 := by decide
    rw [emax]
    simp only [Nat.mul_one]
    have e1 : (((xyN i).1 : Int) + 5 * ((xyN i).2 : Int)).toNat = (xyN i).1 + 5 * (xyN i).2 := by omega
    have e2 : (((xyN i).2 : Int) + 5 * ((2 * ((xyN i).1 : Int) + 3 * ((xyN i).2 : Int)) % 5)).toNat = (xyN i).2 + 5 * ((2 * (xyN i).1 + 3 * (xyN i).2) % 5) := by
      have e0 : (2 * ((xyN i).1 : Int) + 3 * ((xyN i).2 : Int)) = ((2 * (xyN i).1 + 3 * (xyN i).2 : Nat) : Int) := by omega
      rw [e0]
      generalize 2 * (xyN i).1 + 3 * (xyN i).2 = m at *
      omega
    rw [e1, e2]
    refine ⟨by omega, by omega, by omega, by omega, by omega, by omega, by omega, by omega, by omega, by omega, by omega, by omega, by omega, by omega, by omega, by omega, by omega, by omega, ⟨by trivial, by omega, by omega, ?_, ?_, ?_⟩, by omega⟩
    · rw [show ((i : Int) + 1).toNat = i + 1 from by omega]; rfl
    · rw [show ((i : Int) + 1).toNat = i + 1 from by omega]
      show _ = (((2 * (xyN i).1 + 3 * (xyN i).2) % 5 : Nat) : Int)
      have e0 : (2 * ((xyN i).1 : Int) + 3 * ((xyN i).2 : Int)) = ((2 * (xyN i).1 + 3 * (xyN i).2 : Nat) : Int) := by omega
      rw [e0]
      generalize 2 * (xyN i).1 + 3 * (xyN i).2 = m
      omega
    · rw [show ((i : Int) + 1).toNat = i + 1 from by omega, show (M : Int) / 2 % 64 = ((M / 2 % 64 : Nat) : Int) from by omega, ← hM]
      rfl
  · simp only [decide_eq_false_iff_not] at h
    have hi : i = 24 := by omega
    subst hi
    rfl
theorem ok36 : SpecOk (base.with sp35) 36 (mkF ct36) := spec_ct (fn := Tryd.f36) (c := bodyOf Tryd.f36) (k := Tryd.f36.ntmps - ct36.ps.length) (ct := ct36) c35 Tryd.func36 (by kernel_rfl) ann36 (by kernel_rfl) (fun vs w _ => Tryd.call36 vs w) (e36.mpr vc36)
theorem c36 : (base.with sp36).Ok := addS_ok c35 ok36
theorem vc37 : P37 := by
  intro s hs _
  refine ⟨⟨⟨rfl, by omega, by omega, rfl⟩, trivial⟩, ?_⟩
  rintro n s' z t _ _ _ ⟨rfl, h0, h1, rfl⟩
  obtain ⟨i, rfl⟩ : ∃ i : Nat, n = i := ⟨n.toNat, by omega⟩
  refine condI (fun h => ?_) fun h => ?_
  · simp only [decide_eq_true_eq] at h
    simp only [Nat.mul_one, Int.toNat_natCast]
    have e1 : ((i : Int) - (i : Int) % 5 + ((i : Int) + 2) % 5).toNat = i - i % 5 + (i + 2) % 5 := by omega
    have e2 : ((i : Int) - (i : Int) % 5 + ((i : Int) + 1) % 5).toNat = i - i % 5 + (i + 1) % 5 := by omega
    rw [e1, e2]
    refine ⟨by omega, by omega, by omega, by omega, by omega, by omega, by omega, by omega, by omega, by omega, by omega, by omega, by omega, by omega, by omega, by omega, by omega, ⟨by trivial, by omega, by omega, ?_⟩, by omega⟩
    rw [show ((i : Int) + 1).toNat = i + 1 from by omega]
    rfl
  · simp only [decide_eq_false_iff_not] at h
    have hi : i = 25 := by omega
    subst hi
    rw [show ((25 : Nat) : Int).toNat = 25 from rfl]
    rfl
theorem ok37 : SpecOk (base.with sp36) 37 (mkF ct37) := spec_ct (fn := Tryd.f37) (c := bodyOf Tryd.f37) (k := Tryd.f37.ntmps - ct37.ps.length) (ct := ct37) c36 Tryd.func37 (by kernel_rfl) ann37 (by kernel_rfl) (fun vs w _ => Tryd.call37 vs w) (e37.mpr vc37)
theorem c37 : (base.with sp37).Ok := addS_ok c36 ok37
theorem vc16 : P16 := by
  intro s r hs _
  exact ⟨trivial, trivial, trivial, by omega, by omega, trivial, by omega, by omega, rfl⟩
theorem ok16 : SpecOk (base.with sp37) 16 (mkF ct16) := spec_ct (fn := Tryd.f16) (c := bodyOf Tryd.f16) (k := Tryd.f16.ntmps - ct16.ps.length) (ct := ct16) c37 Tryd.func16 (by kernel_rfl) noAnn (by kernel_rfl) (fun vs w _ => Tryd.call16 vs w) (e16.mpr vc16)
theorem c16 : (base.with sp16).Ok := addS_ok c37 ok16
theorem vc17 : P17 := by
  intro s hs _
  refine ⟨⟨⟨by omega, by omega, rfl⟩, trivial⟩, ?_⟩
  rintro n t z _ _ ⟨h0, h1, rfl⟩
  obtain ⟨i, rfl⟩ : ∃ i : Nat, n = i := ⟨n.toNat, by omega⟩
  refine condI (fun h => ?_) fun h => ?_
  · simp only [decide_eq_true_eq] at h
    refine ⟨trivial, by omega, ⟨by omega, by omega, ?_⟩, by omega⟩
    rw [show ((i : Int) + 1).toNat = i + 1 from by omega]
    rfl
  · simp only [decide_eq_false_iff_not] at h
    have hi : i = 24 := by omega
    subst hi
    rw [perm_eq]; rfl
theorem ok17 : SpecOk (base.with sp16) 17 (mkF ct17) := spec_ct (fn := Tryd.f17) (c := bodyOf Tryd.f17) (k := Tryd.f17.ntmps - ct17.ps.length) (ct := ct17) c16 Tryd.func17 (by kernel_rfl) ann17 (by kernel_rfl) (fun vs w _ => Tryd.call17 vs w) (e17.mpr vc17)
theorem c17 : (base.with sp17).Ok := addS_ok c16 ok17
theorem vc12 : P12 := fun _ => ⟨trivial, by omega, decide_eq_true (by
  show (perm z0).getD 0 0 = _
  rw [perm_zero]
  rfl)⟩
theorem ok12 : SpecOk (base.with sp17) 12 (mkF ct12) := spec_ct (fn := Tryd.f12) (c := bodyOf Tryd.f12) (k := Tryd.f12.ntmps - ct12.ps.length) (ct := ct12) c17 Tryd.func12 (by kernel_rfl) noAnn (by kernel_rfl) (fun vs w _ => Tryd.call12 vs w) (e12.mpr vc12)
theorem c12 : (base.with sp12).Ok := addS_ok c17 ok12
end Go.Proofs.YtganbceicojfmaaDoor

/-
  The reference's constants of the rounds: contracts.
-/
namespace Go.Proofs.YtganbceicojfmaaDoor
open Go.Avc
set_option linter.unusedVariables false
def flip1 (m r : Int) : Int := if r / m % 2 = 1 then r - m else r + m
def msL : List Int := [64, 32, 16, 1]
def flN (r : Int) : Nat → Int
  | 0 => r
  | j + 1 => flip1 (msL.getD j 0) (flN r j)
def lfs (r : Int) : Int := if 256 ≤ r * 2 then flN (r * 2 - 256) 4 else r * 2
def lfN : Nat → Int
  | 0 => 1
  | n + 1 => lfs (lfN n)
def rcB (t : Nat) : Bool := decide (lfN t % 2 = 1)
def cbN (r : Nat) : Nat → List Bool
  | 0 => List.replicate 64 false
  | j + 1 => (cbN r j).set (2 ^ j - 1) (rcB (j + 7 * r))
def cbits (r : Int) : List Bool := if r < 0 ∨ 23 < r then List.replicate 64 false else cbN r.toNat 7
def ct38 : Ct := { ps := [i64], bs := [], pre := fun | [.i t] => 0 ≤ t ∧ t ≤ 1000 | _ => False, res := fun | [.i t] => .ret .bool [] [.b (rcB t.toNat)] | _ => noRes }
def sl38 : List (Nat × Pat) := [(0, i64), (3, i64), (4, i64), (18, .rd [.int .i64]), (19, i64), (20, i64)]
def ann38 : List Dat → Ann
  | [.i t] => ⟨[], [(3, [la 39 [(0, i64), (3, i64), (4, i64)] [] (fun | [.i t', .i r, .i i] => t' = t ∧ 0 ≤ i ∧ i ≤ t ∧ r = lfN i.toNat | _ => False) (fun | [.i t', _, .i i] => (t' - i).toNat | _ => 0)])],
      [(9, [la 39 sl38 [] (fun _ => True) (fun _ => 0)], fun | [.i t0, .i r0, .i i0, .r l0, .i n0, .i _] => [la 39 sl38 []
        (fun | [.i t', .i r, .i i, .r l, .i n, .i j] => t' = t0 ∧ i = i0 ∧ l = l0 ∧ n = n0 ∧ 0 ≤ j ∧ j ≤ 4 ∧ r = flN r0 j.toNat | _ => False) (fun | [_, _, _, _, _, .i j] => (4 - j).toNat | _ => 0)] | _ => [])]⟩
  | _ => { cut := [], loop := [] }
abbrev b64 : Pat := .agg [.arrB 64]
abbrev q27 : BPat := .cells 27 [.arrB 64]
def ct19 : Ct := { ps := [i64], bs := [], pre := fun _ => True, res := fun | [.i r] => .ret b64 [] [.lb (cbits r)] | _ => noRes }
def ann19 : List Dat → Ann
  | [.i r] => ⟨[], [(6, [la 29 [(0, i64), (2, .ptr 0 0), (3, .ptr 1 0), (4, i64), (5, i64)] [q27, q27] (fun | [.i r', .i p, .i j, .lb z, .lb c] => r' = r ∧ 0 ≤ r ∧ r ≤ 23 ∧ 0 ≤ j ∧ j ≤ 7 ∧ p = 2 ^ j.toNat ∧ c = cbN r.toNat j.toNat | _ => False) (fun | [_, _, .i j, _, _] => (7 - j).toNat | _ => 0)])], []⟩
  | _ => { cut := [], loop := [] }
end Go.Proofs.YtganbceicojfmaaDoor

/-
  Conditions of contracts, as the kernel reckons them (printed by a program of ours, checked by the kernel).
-/
namespace Go.Proofs.YtganbceicojfmaaDoor
open Go Go.Avc Go.Proofs
set_option linter.unusedVariables false
set_option maxRecDepth 100000
def P38 : Prop :=
  ∀ (n : Int),
    (0 : Int) ≤ n ∧ n ≤ (1000 : Int) →
      ((n = n ∧ (0 : Int) ≤ (0 : Int) ∧ (0 : Int) ≤ n ∧ (1 : Int) = lfN (0 : Nat)) ∧ True) ∧
        ∀ (n_1 n_2 n_3 : Int),
          n_1 = n ∧ (0 : Int) ≤ n_3 ∧ n_3 ≤ n ∧ n_2 = lfN n_3.toNat →
            bif decide (n_3 < n_1) then
              ((-9223372036854775808 : Int) ≤ n_2 * (2 : Int) ∧ n_2 * (2 : Int) ≤ (9223372036854775807 : Int)) ∧
                bif decide ((256 : Int) ≤ n_2 * (2 : Int)) then
                  ((-9223372036854775808 : Int) ≤ n_2 * (2 : Int) - (256 : Int) ∧ n_2 * (2 : Int) - (256 : Int) ≤ (9223372036854775807 : Int)) ∧
                    ((4 : Nat) ≤ (9223372036854775807 : Nat) →
                      ((n_1 = n_1 ∧
                            n_3 = n_3 ∧
                              [[CD.int (64 : Int)], [CD.int (32 : Int)], [CD.int (16 : Int)], [CD.int (1 : Int)]] =
                                  [[CD.int (64 : Int)], [CD.int (32 : Int)], [CD.int (16 : Int)], [CD.int (1 : Int)]] ∧
                                (↑(4 : Nat) : Int) = (↑(4 : Nat) : Int) ∧
                                  (0 : Int) ≤ (0 : Int) ∧
                                    (0 : Int) ≤ (4 : Int) ∧ n_2 * (2 : Int) - (256 : Int) = flN (n_2 * (2 : Int) - (256 : Int)) (0 : Nat)) ∧
                          True) ∧
                        ∀ (n_4 n_5 n_6 : Int) (l : List (List CD)) (n_7 n_8 : Int),
                          l.length ≤ (9223372036854775807 : Nat) →
                            n_4 = n_1 ∧
                                n_6 = n_3 ∧
                                  l = [[CD.int (64 : Int)], [CD.int (32 : Int)], [CD.int (16 : Int)], [CD.int (1 : Int)]] ∧
                                    n_7 = (↑(4 : Nat) : Int) ∧
                                      (0 : Int) ≤ n_8 ∧ n_8 ≤ (4 : Int) ∧ n_5 = flN (n_2 * (2 : Int) - (256 : Int)) n_8.toNat →
                              bif decide (n_8 < n_7) then
                                ((0 : Int) ≤ n_8 ∧ n_8 < (↑l.length : Int)) ∧
                                  n_8.toNat < l.length ∧
                                    ((0 : Int) ≤ n_5 ∧ (0 : Int) < ((l.getD n_8.toNat []).getD (0 : Nat) (CD.int (0 : Int))).toInt ∧ n_5 ≤ Go.IntKind.i64.max) ∧
                                      ((0 : Int) ≤ n_5 / ((l.getD n_8.toNat []).getD (0 : Nat) (CD.int (0 : Int))).toInt ∧ (0 : Int) < (2 : Int)) ∧
                                        bif decide (n_5 / ((l.getD n_8.toNat []).getD (0 : Nat) (CD.int (0 : Int))).toInt % (2 : Int) = (1 : Int)) then
                                          ((-9223372036854775808 : Int) ≤ n_5 - ((l.getD n_8.toNat []).getD (0 : Nat) (CD.int (0 : Int))).toInt ∧
                                              n_5 - ((l.getD n_8.toNat []).getD (0 : Nat) (CD.int (0 : Int))).toInt ≤ (9223372036854775807 : Int)) ∧
                                            ((-9223372036854775808 : Int) ≤ n_8 + (1 : Int) ∧ n_8 + (1 : Int) ≤ (9223372036854775807 : Int)) ∧
                                              (n_4 = n_1 ∧
                                                  n_6 = n_3 ∧
                                                    l = [[CD.int (64 : Int)], [CD.int (32 : Int)], [CD.int (16 : Int)], [CD.int (1 : Int)]] ∧
                                                      n_7 = (↑(4 : Nat) : Int) ∧
                                                        (0 : Int) ≤ n_8 + (1 : Int) ∧
                                                          n_8 + (1 : Int) ≤ (4 : Int) ∧
                                                            n_5 - ((l.getD n_8.toNat []).getD (0 : Nat) (CD.int (0 : Int))).toInt =
                                                              flN (n_2 * (2 : Int) - (256 : Int)) (n_8 + (1 : Int)).toNat) ∧
                                                ((4 : Int) - (n_8 + (1 : Int))).toNat < ((4 : Int) - n_8).toNat
                                        else
                                          ((-9223372036854775808 : Int) ≤ n_5 + ((l.getD n_8.toNat []).getD (0 : Nat) (CD.int (0 : Int))).toInt ∧
                                              n_5 + ((l.getD n_8.toNat []).getD (0 : Nat) (CD.int (0 : Int))).toInt ≤ (9223372036854775807 : Int)) ∧
                                            ((-9223372036854775808 : Int) ≤ n_8 + (1 : Int) ∧ n_8 + (1 : Int) ≤ (9223372036854775807 : Int)) ∧
                                              (n_4 = n_1 ∧
                                                  n_6 = n_3 ∧
                                                    l = [[CD.int (64 : Int)], [CD.int (32 : Int)], [CD.int (16 : Int)], [CD.int (1 : Int)]] ∧
                                                      n_7 = (↑(4 : Nat) : Int) ∧
                                                        (0 : Int) ≤ n_8 + (1 : Int) ∧
                                                          n_8 + (1 : Int) ≤ (4 : Int) ∧
                                                            n_5 + ((l.getD n_8.toNat []).getD (0 : Nat) (CD.int (0 : Int))).toInt =
                                                              flN (n_2 * (2 : Int) - (256 : Int)) (n_8 + (1 : Int)).toNat) ∧
                                                ((4 : Int) - (n_8 + (1 : Int))).toNat < ((4 : Int) - n_8).toNat
                              else
                                ((-9223372036854775808 : Int) ≤ n_6 + (1 : Int) ∧ n_6 + (1 : Int) ≤ (9223372036854775807 : Int)) ∧
                                  (n_4 = n ∧ (0 : Int) ≤ n_6 + (1 : Int) ∧ n_6 + (1 : Int) ≤ n ∧ n_5 = lfN (n_6 + (1 : Int)).toNat) ∧
                                    (n_4 - (n_6 + (1 : Int))).toNat < (n_1 - n_3).toNat)
                else
                  ((-9223372036854775808 : Int) ≤ n_3 + (1 : Int) ∧ n_3 + (1 : Int) ≤ (9223372036854775807 : Int)) ∧
                    (n_1 = n ∧ (0 : Int) ≤ n_3 + (1 : Int) ∧ n_3 + (1 : Int) ≤ n ∧ n_2 * (2 : Int) = lfN (n_3 + (1 : Int)).toNat) ∧
                      (n_1 - (n_3 + (1 : Int))).toNat < (n_1 - n_3).toNat
            else ((0 : Int) ≤ n_2 ∧ (0 : Int) < (2 : Int)) ∧ decide (n_2 % (2 : Int) = (1 : Int)) = rcB n.toNat
theorem e38 : ct38.VC (base.with sp12) Tryd.f38.results.toList Tryd.f38.ntmps (Tryd.f38.ntmps - ct38.ps.length) (bodyOf Tryd.f38) ann38 = P38 := by kernel_rfl
noncomputable def sp38 : SpecT := addS sp12 38 (mkF ct38)
def P19 : Prop :=
  ∀ (n : Int),
    True →
      bif decide (n < (0 : Int)) || decide ((23 : Int) < n) then
        [false, false, false, false, false, false, false, false, false, false, false, false, false, false, false, false, false, false, false, false, false, false, false, false,
            false, false, false, false, false, false, false, false, false, false, false, false, false, false, false, false, false, false, false, false, false, false, false, false,
            false, false, false, false, false, false, false, false, false, false, false, false, false, false, false, false] =
          cbits n
      else
        ((n = n ∧
              (0 : Int) ≤ n ∧
                n ≤ (23 : Int) ∧
                  (0 : Int) ≤ (0 : Int) ∧
                    (0 : Int) ≤ (7 : Int) ∧
                      (1 : Int) = (2 : Int) ^ (0 : Nat) ∧
                        [false, false, false, false, false, false, false, false, false, false, false, false, false, false, false, false, false, false, false, false, false, false,
                            false, false, false, false, false, false, false, false, false, false, false, false, false, false, false, false, false, false, false, false, false, false,
                            false, false, false, false, false, false, false, false, false, false, false, false, false, false, false, false, false, false, false, false] =
                          cbN n.toNat (0 : Nat)) ∧
            True) ∧
          ∀ (n_1 n_2 n_3 : Int) (l l_1 : List Bool),
            l.length = (64 : Nat) →
              l_1.length = (64 : Nat) →
                n_1 = n ∧
                    (0 : Int) ≤ n ∧ n ≤ (23 : Int) ∧ (0 : Int) ≤ n_3 ∧ n_3 ≤ (7 : Int) ∧ n_2 = (2 : Int) ^ n_3.toNat ∧ l_1 = cbN n.toNat n_3.toNat →
                  bif decide (n_3 < (7 : Int)) then
                    ((-9223372036854775808 : Int) ≤ n_2 - (1 : Int) ∧ n_2 - (1 : Int) ≤ (9223372036854775807 : Int)) ∧
                      ((-9223372036854775808 : Int) ≤ (7 : Int) * n_1 ∧ (7 : Int) * n_1 ≤ (9223372036854775807 : Int)) ∧
                        ((-9223372036854775808 : Int) ≤ n_3 + (7 : Int) * n_1 ∧ n_3 + (7 : Int) * n_1 ≤ (9223372036854775807 : Int)) ∧
                          ((0 : Int) ≤ n_3 + (7 : Int) * n_1 ∧ n_3 + (7 : Int) * n_1 ≤ (1000 : Int)) ∧
                            ((0 : Int) ≤ n_2 - (1 : Int) ∧ n_2 - (1 : Int) < (↑(64 : Nat) : Int)) ∧
                              (n_2 - (1 : Int)).toNat * (1 : Nat) < (64 : Nat) ∧
                                ((-9223372036854775808 : Int) ≤ n_2 * (2 : Int) ∧ n_2 * (2 : Int) ≤ (9223372036854775807 : Int)) ∧
                                  ((-9223372036854775808 : Int) ≤ n_3 + (1 : Int) ∧ n_3 + (1 : Int) ≤ (9223372036854775807 : Int)) ∧
                                    (n_1 = n ∧
                                        (0 : Int) ≤ n ∧
                                          n ≤ (23 : Int) ∧
                                            (0 : Int) ≤ n_3 + (1 : Int) ∧
                                              n_3 + (1 : Int) ≤ (7 : Int) ∧
                                                n_2 * (2 : Int) = (2 : Int) ^ (n_3 + (1 : Int)).toNat ∧
                                                  l_1.set ((n_2 - (1 : Int)).toNat * (1 : Nat)) (rcB (n_3 + (7 : Int) * n_1).toNat) =
                                                    cbN n.toNat (n_3 + (1 : Int)).toNat) ∧
                                      ((7 : Int) - (n_3 + (1 : Int))).toNat < ((7 : Int) - n_3).toNat
                  else l_1 = cbits n
theorem e19 : ct19.VC (base.with sp38) Tryd.f19.results.toList Tryd.f19.ntmps (Tryd.f19.ntmps - ct19.ps.length) (bodyOf Tryd.f19) ann19 = P19 := by kernel_rfl
noncomputable def sp19 : SpecT := addS sp38 19 (mkF ct19)
end Go.Proofs.YtganbceicojfmaaDoor

/-
  The conditions of the reference's constants are met.
-/
namespace Go.Proofs.YtganbceicojfmaaDoor
open Go Go.Avc Go.Proofs
set_option linter.unusedVariables false
set_option linter.unusedSimpArgs false
set_option maxRecDepth 100000
theorem lfs_bd : ∀ r : Fin 256, 0 ≤ lfs (r.val : Int) ∧ lfs (r.val : Int) ≤ 255 := by decide +kernel
theorem lf_bd (n : Nat) : 0 ≤ lfN n ∧ lfN n ≤ 255 := by
  induction n with
  | zero => decide
  | succ n ih =>
    have := lfs_bd ⟨(lfN n).toNat, by omega⟩
    rw [show (((⟨(lfN n).toNat, by omega⟩ : Fin 256).val : Nat) : Int) = lfN n from by show (((lfN n).toNat : Nat) : Int) = _; omega] at this
    exact this
theorem fl_bd0 : ∀ r : Fin 128, ∀ j : Fin 5, 0 ≤ flN (2 * (r.val : Int)) j.val ∧ flN (2 * (r.val : Int)) j.val ≤ 255 := by decide +kernel
theorem fl_bd {r : Int} {j : Nat} (h0 : 256 ≤ r * 2) (h1 : r ≤ 255) (hj : j ≤ 4) : 0 ≤ flN (r * 2 - 256) j ∧ flN (r * 2 - 256) j ≤ 255 := by
  have := fl_bd0 ⟨(r - 128).toNat, by omega⟩ ⟨j, by omega⟩
  rw [show 2 * (((⟨(r - 128).toNat, by omega⟩ : Fin 128).val : Nat) : Int) = r * 2 - 256 from by show 2 * (((r - 128).toNat : Nat) : Int) = _; omega] at this
  exact this
theorem ms_get : ∀ j : Fin 4, (((([[CD.int 64], [CD.int 32], [CD.int 16], [CD.int 1]] : List (List CD)).getD j.val []).getD 0 (CD.int 0)).toInt = msL.getD j.val 0) ∧ 0 < msL.getD j.val 0 ∧ msL.getD j.val 0 ≤ 64 := by decide
theorem vc38 : P38 := by
  rintro t ⟨ht0, ht1⟩
  refine ⟨⟨⟨rfl, by omega, ht0, rfl⟩, trivial⟩, ?_⟩
  rintro t' r i ⟨e1, h0, h1, e2⟩
  subst e1 e2
  obtain ⟨b0, b1⟩ := lf_bd i.toNat
  generalize hr : lfN i.toNat = r at *
  have emax : IntKind.max .i64 = 9223372036854775807 := by decide
  refine condI (fun h => ⟨⟨by omega, by omega⟩, condI (fun h2 => ?_) fun h2 => ?_⟩) fun h => ?_
  · simp only [decide_eq_true_eq] at h h2
    refine ⟨⟨by omega, by omega⟩, fun _ => ⟨⟨⟨rfl, rfl, rfl, rfl, by omega, by omega, rfl⟩, trivial⟩, ?_⟩⟩
    rintro t2 q i2 l n j _ ⟨e1, e2, e3, e4, h3, h4, e5⟩
    subst e1 e2 e3 e4 e5
    obtain ⟨k, rfl⟩ : ∃ k : Nat, j = k := ⟨j.toNat, by omega⟩
    rw [Int.toNat_natCast]
    obtain ⟨c0, c1⟩ := fl_bd h2 b1 (show k ≤ 4 by omega)
    refine condI (fun h5 => ?_) fun h5 => ?_
    · simp only [decide_eq_true_eq] at h5
      have hk : k < 4 := by omega
      obtain ⟨m1, m2, m3⟩ := ms_get ⟨k, hk⟩
      simp only at m1 m2 m3
      rw [m1, emax, show ((k : Int) + 1).toNat = k + 1 from by omega]
      have fs : flN (r * 2 - 256) (k + 1) = flip1 (msL.getD k 0) (flN (r * 2 - 256) k) := rfl
      have hd : 0 ≤ flN (r * 2 - 256) k / msL.getD k 0 := Int.ediv_nonneg c0 (by omega)
      refine ⟨⟨by omega, by show (k : Int) < 4; omega⟩, hk, ⟨c0, m2, by omega⟩, ⟨hd, by omega⟩, condI (fun h6 => ?_) fun h6 => ?_⟩
      · refine ⟨⟨by omega, by omega⟩, ⟨by omega, by omega⟩, ⟨rfl, rfl, rfl, rfl, by omega, by omega, ?_⟩, by omega⟩
        rw [fs, flip1, if_pos (of_decide_eq_true h6)]
      · refine ⟨⟨by omega, by omega⟩, ⟨by omega, by omega⟩, ⟨rfl, rfl, rfl, rfl, by omega, by omega, ?_⟩, by omega⟩
        rw [fs, flip1, if_neg (of_decide_eq_false h6)]
    · simp only [decide_eq_false_iff_not] at h5
      have hk : k = 4 := by omega
      subst hk
      refine ⟨⟨by omega, by omega⟩, ⟨rfl, by omega, by omega, ?_⟩, by omega⟩
      rw [show (i2 + 1).toNat = i2.toNat + 1 from by omega, lfN, hr, lfs, if_pos h2]
  · simp only [decide_eq_true_eq, decide_eq_false_iff_not] at h h2
    refine ⟨⟨by omega, by omega⟩, ⟨rfl, by omega, by omega, ?_⟩, by omega⟩
    rw [show (i + 1).toNat = i.toNat + 1 from by omega, lfN, hr, lfs, if_neg h2]
  · simp only [decide_eq_false_iff_not] at h
    refine ⟨⟨b0, by omega⟩, ?_⟩
    unfold rcB
    rw [← hr, show i = t' from by omega]
theorem ok38 : SpecOk (base.with sp12) 38 (mkF ct38) := spec_ct (fn := Tryd.f38) (c := bodyOf Tryd.f38) (k := Tryd.f38.ntmps - ct38.ps.length) (ct := ct38) c12 Tryd.func38 (by kernel_rfl) ann38 (by kernel_rfl) (fun vs w _ => Tryd.call38 vs w) (e38.mpr vc38)
theorem c38 : (base.with sp38).Ok := addS_ok c12 ok38
theorem vc19 : P19 := by
  intro r _
  refine condI (fun h => ?_) fun h => ?_
  · simp only [Bool.or_eq_true, decide_eq_true_eq] at h
    unfold cbits
    rw [if_pos h]; rfl
  · simp only [Bool.or_eq_false_iff, decide_eq_false_iff_not] at h
    refine ⟨⟨⟨rfl, by omega, by omega, by omega, by omega, rfl, rfl⟩, trivial⟩, ?_⟩
    rintro r' p n z c _ _ ⟨e1, h0, h1, h2, h3, e2, e3⟩
    subst e1 e2 e3
    obtain ⟨j, rfl⟩ : ∃ j : Nat, n = j := ⟨n.toNat, by omega⟩
    rw [Int.toNat_natCast]
    refine condI (fun h5 => ?_) fun h5 => ?_
    · simp only [decide_eq_true_eq] at h5
      have hj : j < 7 := by omega
      have hp : ∀ j : Fin 7, (1 : Int) ≤ 2 ^ j.val ∧ (2 : Int) ^ j.val ≤ 64 ∧ ((2 : Int) ^ j.val - 1).toNat = 2 ^ j.val - 1 ∧ (2 : Int) ^ (j.val + 1) = 2 ^ j.val * 2 := by decide
      obtain ⟨p1, p2, p3, p4⟩ := hp ⟨j, hj⟩
      simp only at p1 p2 p3 p4
      rw [show ((j : Int) + 1).toNat = j + 1 from by omega, p3, Nat.mul_one]
      refine ⟨by omega, by omega, by omega, by omega, by omega, by omega, by omega, by omega, ⟨rfl, by omega, by omega, by omega, by omega, p4.symm, ?_⟩, by omega⟩
      rw [cbN, show ((j : Int) + 7 * r').toNat = j + 7 * r'.toNat from by omega]
    · simp only [decide_eq_false_iff_not] at h5
      have hj : j = 7 := by omega
      subst hj
      unfold cbits
      rw [if_neg (by omega)]
theorem ok19 : SpecOk (base.with sp38) 19 (mkF ct19) := spec_ct (fn := Tryd.f19) (c := bodyOf Tryd.f19) (k := Tryd.f19.ntmps - ct19.ps.length) (ct := ct19) c38 Tryd.func19 (by kernel_rfl) ann19 (by kernel_rfl) (fun vs w _ => Tryd.call19 vs w) (e19.mpr vc19)
theorem c19 : (base.with sp19).Ok := addS_ok c38 ok19
end Go.Proofs.YtganbceicojfmaaDoor

/-
  Words and their bits.
-/
namespace Go.Proofs.YtganbceicojfmaaDoor
open Go Go.Avc Go.Proofs
set_option linter.unusedVariables false
set_option maxRecDepth 100000
/-- Bit z of a word. -/
def bt (w : Int) (z : Nat) : Bool := w.toNat.testBit z
def bitsW (w : Int) : List Bool := (List.range 64).map (bt w)
/-- A word is one. -/
def isW (w : Int) : Prop := 0 ≤ w ∧ w < 18446744073709551616
theorem cbits_in : ∀ r : Fin 24, cbits (r.val : Int) = bitsW (rcOf (r.val : Int)) := by decide +kernel
theorem cbits_rc (r : Int) : cbits r = bitsW (rcOf r) := by
  by_cases h : r < 0 ∨ 23 < r
  · unfold cbits rcOf
    rw [if_pos h, if_pos (by omega)]
    decide +kernel
  · have := cbits_in ⟨r.toNat, by omega⟩
    rw [show (((⟨r.toNat, by omega⟩ : Fin 24).val : Nat) : Int) = r from by show ((r.toNat : Nat) : Int) = r; omega] at this
    exact this
theorem wrap_u64' (n : Int) : IntKind.u64.wrap n = n % 18446744073709551616 := by
  simp [IntKind.wrap, IntKind.signed, IntKind.bits]
theorem ofInt_w {a : Int} (h : isW a) : (BitVec.ofInt 64 a).toNat = a.toNat := by
  obtain ⟨n, rfl⟩ : ∃ n : Nat, a = n := ⟨a.toNat, by have := h.1; omega⟩
  have := h.2
  rw [BitVec.ofInt_natCast, BitVec.toNat_ofNat, Int.toNat_natCast]
  exact Nat.mod_eq_of_lt (by omega)
theorem xr_w {a b : Int} (ha : isW a) (hb : isW b) : xr a b = ((a.toNat ^^^ b.toNat : Nat) : Int) := by
  have h1 : (BitVec.ofInt 64 a ^^^ BitVec.ofInt 64 b).toNat = a.toNat ^^^ b.toNat := by rw [BitVec.toNat_xor, ofInt_w ha, ofInt_w hb]
  have h2 := (BitVec.ofInt 64 a ^^^ BitVec.ofInt 64 b).isLt
  show IntKind.u64.wrap ((BitVec.ofInt 64 a ^^^ BitVec.ofInt 64 b).toNat : Int) = _
  rw [wrap_u64', h1]
  rw [h1] at h2
  omega
theorem xr_isW {a b : Int} (ha : isW a) (hb : isW b) : isW (xr a b) := by
  have h1 : (BitVec.ofInt 64 a ^^^ BitVec.ofInt 64 b).toNat = a.toNat ^^^ b.toNat := by rw [BitVec.toNat_xor, ofInt_w ha, ofInt_w hb]
  have h2 := (BitVec.ofInt 64 a ^^^ BitVec.ofInt 64 b).isLt
  rw [xr_w ha hb]
  rw [h1] at h2
  exact ⟨by omega, by omega⟩
theorem xr_bt {a b : Int} (ha : isW a) (hb : isW b) (z : Nat) : bt (xr a b) z = (bt a z != bt b z) := by
  unfold bt
  rw [xr_w ha hb, Int.toNat_natCast, Nat.testBit_xor]
theorem bv_w (v : BitVec 64) : IntKind.u64.wrap (v.toNat : Int) = (v.toNat : Int) := by
  have := v.isLt
  rw [wrap_u64']
  omega
theorem bv_isW (v : BitVec 64) : isW (IntKind.u64.wrap (v.toNat : Int)) := by
  have := v.isLt
  rw [bv_w]
  exact ⟨by omega, by omega⟩
theorem bv_bt (v : BitVec 64) (z : Nat) : bt (IntKind.u64.wrap (v.toNat : Int)) z = v.getLsbD z := by
  unfold bt
  rw [bv_w, Int.toNat_natCast, BitVec.testBit_toNat]
theorem ofInt_bt {a : Int} (h : isW a) (z : Nat) : (BitVec.ofInt 64 a).getLsbD z = bt a z := by
  unfold bt
  rw [← BitVec.testBit_toNat, ofInt_w h]
theorem andNot_isW (a b : Int) : isW (bAndNot .u64 a b) := bv_isW (BitVec.ofInt 64 a &&& ~~~BitVec.ofInt 64 b)
theorem andNot_bt {a b : Int} (ha : isW a) (hb : isW b) {z : Nat} (hz : z < 64) : bt (bAndNot .u64 a b) z = (bt a z && !bt b z) := by
  show bt (IntKind.u64.wrap ((BitVec.ofInt 64 a &&& ~~~BitVec.ofInt 64 b).toNat : Int)) z = _
  rw [bv_bt, BitVec.getLsbD_and, BitVec.getLsbD_not, ofInt_bt ha, ofInt_bt hb, decide_eq_true hz, Bool.true_and]
theorem or_isW (a b : Int) : isW (bOr .u64 a b) := bv_isW (BitVec.ofInt 64 a ||| BitVec.ofInt 64 b)
theorem or_bt {a b : Int} (ha : isW a) (hb : isW b) (z : Nat) : bt (bOr .u64 a b) z = (bt a z || bt b z) := by
  show bt (IntKind.u64.wrap ((BitVec.ofInt 64 a ||| BitVec.ofInt 64 b).toNat : Int)) z = _
  rw [bv_bt, BitVec.getLsbD_or, ofInt_bt ha, ofInt_bt hb]
theorem shl_w (n s : Nat) (hs : s ≤ 64) : bShl .u64 (n : Int) (s : Int) = ((n * 2 ^ s % 18446744073709551616 : Nat) : Int) := by
  unfold bShl
  rw [wrap_u64', show min (s : Int).toNat (IntKind.bits .u64) = s from by show min (s : Int).toNat 64 = s; omega]
  have : (n : Int) * 2 ^ s = ((n * 2 ^ s : Nat) : Int) := by rw [Int.natCast_mul, Int.natCast_pow]; rfl
  rw [this]
  rfl
theorem shr_w (n s : Nat) (hs : s ≤ 64) : bShr .u64 (n : Int) (s : Int) = ((n / 2 ^ s : Nat) : Int) := by
  unfold bShr
  rw [show min (s : Int).toNat (IntKind.bits .u64) = s from by show min (s : Int).toNat 64 = s; omega]
  have : (2 : Int) ^ s = ((2 ^ s : Nat) : Int) := by rw [Int.natCast_pow]; rfl
  rw [this, Int.fdiv_eq_ediv_of_nonneg _ (Int.natCast_nonneg _), Int.natCast_ediv]
theorem rot_isW (x s : Int) : isW (rotW x s) := or_isW _ _
theorem rot_bt {x : Int} (hx : isW x) {s z : Nat} (hs : s < 64) (hz : z < 64) : bt (rotW x (s : Int)) z = bt x ((z + (64 - s)) % 64) := by
  obtain ⟨n, rfl⟩ : ∃ n : Nat, x = n := ⟨x.toNat, by have := hx.1; omega⟩
  have hn : n < 2 ^ 64 := by have := hx.2; omega
  unfold rotW
  rw [shl_w n s (by omega), show (64 : Int) - (s : Int) = ((64 - s : Nat) : Int) from by omega, shr_w n (64 - s) (by omega)]
  have w1 : isW ((n * 2 ^ s % 18446744073709551616 : Nat) : Int) := by constructor <;> omega
  have hd : n / 2 ^ (64 - s) ≤ n := Nat.div_le_self _ _
  have w2 : isW ((n / 2 ^ (64 - s) : Nat) : Int) := ⟨Int.natCast_nonneg _, Int.ofNat_lt.2 (Nat.lt_of_le_of_lt hd hn)⟩
  rw [or_bt w1 w2]
  unfold bt
  rw [Int.toNat_natCast, Int.toNat_natCast, Int.toNat_natCast, show (18446744073709551616 : Nat) = 2 ^ 64 from by decide, Nat.testBit_mod_two_pow, decide_eq_true hz, Bool.true_and, ← Nat.shiftLeft_eq, Nat.testBit_shiftLeft, ← Nat.shiftRight_eq_div_pow, Nat.testBit_shiftRight]
  by_cases h : s ≤ z
  · have e : n.testBit (64 - s + z) = false := Nat.testBit_lt_two_pow (Nat.lt_of_lt_of_le hn (Nat.pow_le_pow_right (by decide) (by omega)))
    rw [decide_eq_true (show z ≥ s from h), e, Bool.true_and, Bool.or_false, show (z + (64 - s)) % 64 = z - s from by omega]
  · rw [decide_eq_false (show ¬ z ≥ s from h), Bool.false_and, Bool.false_or, show (z + (64 - s)) % 64 = 64 - s + z from by omega]
end Go.Proofs.YtganbceicojfmaaDoor
