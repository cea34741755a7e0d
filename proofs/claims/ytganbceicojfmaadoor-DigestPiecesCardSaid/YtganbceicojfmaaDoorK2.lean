/-
  The reference's steps on bits: what they compute, loop by loop; contracts.
-/
import Derived.Test.YtganbceicojfmaaDoorK1
namespace Go.Proofs.YtganbceicojfmaaDoor
open Go.Avc
set_option linter.unusedVariables false
abbrev s30 : Pat := .agg [.arrB 1600]
abbrev q30 : BPat := .cells 30 [.arrB 1600]
abbrev q23 : BPat := .cells 23 [a25]
abbrev q28 : BPat := .cells 28 [.arrB 320]
/-- What nobody is to reckon out. -/
noncomputable def hid {α : Type} (x : α) : α := Classical.choose (⟨x, rfl⟩ : ∃ y : α, y = x)
theorem hid_eq {α : Type} (x : α) : hid x = x := Classical.choose_spec (⟨x, rfl⟩ : ∃ y : α, y = x)
/-- Places are written one behind the other. -/
def fillN (f : Nat → Nat) (g : Nat → Bool) (l : List Bool) : Nat → List Bool
  | 0 => l
  | n + 1 => (fillN f g l n).set (f n) (g n)
def fill2 (f : Nat → Nat → Nat) (g : Nat → Nat → Bool) (m : Nat) (l : List Bool) : Nat → List Bool
  | 0 => l
  | n + 1 => fillN (f n) (g n) (fill2 f g m l n) m
def fill3 (f : Nat → Nat → Nat → Nat) (g : Nat → Nat → Nat → Bool) (k m : Nat) (l : List Bool) : Nat → List Bool
  | 0 => l
  | n + 1 => fill2 (f n) (g n) m (fill3 f g k m l n) k
def zB : List Bool := List.replicate 1600 false
def at3 (x y z : Nat) : Nat := x * 320 + y * 64 + z
def gb (a : List Bool) (k : Nat) : Bool := a.getD k false
/-! chi -/
def chV (a : List Bool) (x y z : Nat) : Bool := gb a (at3 x y z) != (!gb a (at3 ((x + 1) % 5) y z) && gb a (at3 ((x + 2) % 5) y z))
def chiB (a : List Bool) : List Bool := fill3 at3 (chV a) 5 64 zB 5
/-! pi -/
def lanes (t l : List Bool) (i : Nat) : List Bool := t.take i ++ l ++ t.drop (i + 64)
def lane (a : List Bool) (i : Nat) : List Bool := (a.drop i).take 64
def piY (a : List Bool) (x : Nat) (t : List Bool) : Nat → List Bool
  | 0 => t
  | n + 1 => lanes (piY a x t n) (lane a (x * 320 + n * 64)) (n * 320 + (2 * x + 3 * n) % 5 * 64)
def piX (a : List Bool) (t : List Bool) : Nat → List Bool
  | 0 => t
  | n + 1 => piY a n (piX a t n) 5
def piB (a : List Bool) : List Bool := piX a zB 5
/-! rho -/
def rhZ (a : List Bool) (t : Nat) (l : List Bool) (n : Nat) : List Bool :=
  fillN (fun z => at3 (xyN t).1 (xyN t).2 ((z + (t + 1) * (t + 2) / 2) % 64)) (fun z => gb a (at3 (xyN t).1 (xyN t).2 z)) l n
def rhN (a : List Bool) : Nat → List Bool
  | 0 => lanes zB (lane a 0) 0
  | n + 1 => rhZ a n (rhN a n) 64
def rhoB (a : List Bool) : List Bool := rhN a 24
/-! theta -/
def cnt (a : List Bool) (x z : Nat) : Nat → Int
  | 0 => 0
  | n + 1 => if gb a (at3 x n z) = true then cnt a x z n + 1 else cnt a x z n
def parB (a : List Bool) : List Bool := fill2 (fun x z => x * 64 + z) (fun x z => decide (cnt a x z 5 % 2 = 1)) 64 (List.replicate 320 false) 5
def thV (a p : List Bool) (x y z : Nat) : Bool := gb a (at3 x y z) != (gb p ((x + 4) % 5 * 64 + z) != gb p ((x + 1) % 5 * 64 + (z + 63) % 64))
def thetaB (a : List Bool) : List Bool := fill3 at3 (thV a (parB a)) 5 64 zB 5
/-! a round -/
def addC (a c : List Bool) : Nat → List Bool
  | 0 => a
  | n + 1 => (addC a c n).set n (gb (addC a c n) n != gb c n)
def roundB (a : List Bool) (r : Int) : List Bool := addC (chiB (piB (rhoB (thetaB a)))) (cbits r) 64
def ofW (s : List Int) : List Bool := fill2 (fun i z => at3 (i % 5) (i / 5) z) (fun i z => bt (s.getD i 0) z) 64 zB 25
def wv (a : List Bool) (i : Nat) : Nat → Nat
  | 0 => 0
  | n + 1 => 2 * wv a i n + (if gb a (at3 (i % 5) (i / 5) (63 - n)) = true then 1 else 0)
def wdN (a : List Bool) : Nat → List Int
  | 0 => List.replicate 25 0
  | n + 1 => (wdN a n).set n (wv a n 64 : Nat)
noncomputable def toW (a : List Bool) : List Int := hid (wdN a 25)
def permB (a : List Bool) : Nat → List Bool
  | 0 => a
  | n + 1 => roundB (permB a n) n
noncomputable def permR (s : List Int) : List Int := hid (toW (permB (ofW s) 24))
/-- All are words. -/
def areW (s : List Int) : Prop := ∀ j, isW (s.getD j 0)

/-! ### Contracts -/
def sl3 : List (Nat × Pat) := [(1, .ptr 0 0), (2, .ptr 1 0), (3, .ptr 2 0), (4, i64)]
def anyR : List Dat → Prop := fun _ => True
def noM : List Dat → Nat := fun _ => 0
def ct31 : Ct := { ps := [s30], bs := [], pre := fun _ => True, res := fun | [.lb a] => .ret s30 [] [.lb (chiB a)] | _ => noRes }
def ann31 : List Dat → Ann
  | [.lb a] => ⟨[], [(3, [la 56 sl3 [q30, q30, q30] (fun | [.i x, .lb a', .lb _, .lb t] => a' = a ∧ 0 ≤ x ∧ x ≤ 5 ∧ t = fill3 at3 (chV a) 5 64 zB x.toNat | _ => False) (fun | [.i x, _, _, _] => (5 - x).toNat | _ => 0)])],
    [(6, [la 56 (sl3 ++ [(5, i64)]) [q30, q30, q30] anyR noM], fun | [.i x0, .i _, .lb a0, .lb _, .lb t0] => [la 56 (sl3 ++ [(5, i64)]) [q30, q30, q30]
      (fun | [.i x, .i y, .lb a', .lb _, .lb t] => x = x0 ∧ a' = a0 ∧ 0 ≤ y ∧ y ≤ 5 ∧ t = fill2 (at3 x0.toNat) (chV a0 x0.toNat) 64 t0 y.toNat | _ => False) (fun | [_, .i y, _, _, _] => (5 - y).toNat | _ => 0)] | _ => []),
     (9, [la 56 (sl3 ++ [(5, i64), (6, i64)]) [q30, q30, q30] anyR noM], fun | [.i x0, .i y0, .i _, .lb a0, .lb _, .lb t0] => [la 56 (sl3 ++ [(5, i64), (6, i64)]) [q30, q30, q30]
      (fun | [.i x, .i y, .i z, .lb a', .lb _, .lb t] => x = x0 ∧ y = y0 ∧ a' = a0 ∧ 0 ≤ z ∧ z ≤ 64 ∧ t = fillN (at3 x0.toNat y0.toNat) (chV a0 x0.toNat y0.toNat) t0 z.toNat | _ => False) (fun | [_, _, .i z, _, _, _] => (64 - z).toNat | _ => 0)] | _ => [])]⟩
  | _ => { cut := [], loop := [] }
def ct32 : Ct := { ps := [s30], bs := [], pre := fun _ => True, res := fun | [.lb a] => .ret s30 [] [.lb (piB a)] | _ => noRes }
def ann32 : List Dat → Ann
  | [.lb a] => ⟨[], [(3, [la 30 sl3 [q30, q30, q30] (fun | [.i x, .lb a', .lb _, .lb t] => a' = a ∧ 0 ≤ x ∧ x ≤ 5 ∧ t = piX a zB x.toNat | _ => False) (fun | [.i x, _, _, _] => (5 - x).toNat | _ => 0)])],
    [(6, [la 30 (sl3 ++ [(5, i64)]) [q30, q30, q30] anyR noM], fun | [.i x0, .i _, .lb a0, .lb _, .lb t0] => [la 30 (sl3 ++ [(5, i64)]) [q30, q30, q30]
      (fun | [.i x, .i y, .lb a', .lb _, .lb t] => x = x0 ∧ a' = a0 ∧ 0 ≤ y ∧ y ≤ 5 ∧ t = piY a0 x0.toNat t0 y.toNat | _ => False) (fun | [_, .i y, _, _, _] => (5 - y).toNat | _ => 0)] | _ => [])]⟩
  | _ => { cut := [], loop := [] }
def ct33 : Ct := { ps := [s30], bs := [], pre := fun _ => True, res := fun | [.lb a] => .ret s30 [] [.lb (rhoB a)] | _ => noRes }
def ann33 : List Dat → Ann
  | [.lb a] => ⟨[], [(5, [la 51 (sl3 ++ [(5, i64), (6, i64)]) [q30, q30, q30] (fun | [.i x, .i y, .i t, .lb a', .lb _, .lb l] => a' = a ∧ 0 ≤ t ∧ t ≤ 24 ∧ x = (xyN t.toNat).1 ∧ y = (xyN t.toNat).2 ∧ l = rhN a t.toNat | _ => False) (fun | [_, _, .i t, _, _, _] => (24 - t).toNat | _ => 0)])],
    [(8, [la 51 (sl3 ++ [(5, i64), (6, i64), (7, i64)]) [q30, q30, q30] anyR noM], fun | [.i x0, .i y0, .i t0, .i _, .lb a0, .lb _, .lb l0] => [la 51 (sl3 ++ [(5, i64), (6, i64), (7, i64)]) [q30, q30, q30]
      (fun | [.i x, .i y, .i t, .i z, .lb a', .lb _, .lb l] => x = x0 ∧ y = y0 ∧ t = t0 ∧ a' = a0 ∧ 0 ≤ z ∧ z ≤ 64 ∧ l = rhZ a0 t0.toNat l0 z.toNat | _ => False) (fun | [_, _, _, .i z, _, _, _] => (64 - z).toNat | _ => 0)] | _ => [])]⟩
  | _ => { cut := [], loop := [] }
def ct34 : Ct := { ps := [s30], bs := [], pre := fun _ => True, res := fun | [.lb a] => .ret s30 [] [.lb (thetaB a)] | _ => noRes }
def sl34 : List (Nat × Pat) := [(1, .ptr 0 0), (2, .ptr 1 0), (3, .ptr 2 0), (8, .ptr 3 0), (9, i64)]
def ann34 : List Dat → Ann
  | [.lb a] => ⟨[], [(3, [la 88 sl3 [q30, q30, q28] (fun | [.i x, .lb a', .lb _, .lb p] => a' = a ∧ 0 ≤ x ∧ x ≤ 5 ∧ p = fill2 (fun x z => x * 64 + z) (fun x z => decide (cnt a x z 5 % 2 = 1)) 64 (List.replicate 320 false) x.toNat | _ => False) (fun | [.i x, _, _, _] => (5 - x).toNat | _ => 0)]),
     (17, [la 88 sl34 [q30, q30, q28, q30] (fun | [.i x, .lb a', .lb _, .lb p, .lb t] => a' = a ∧ p = parB a ∧ 0 ≤ x ∧ x ≤ 5 ∧ t = fill3 at3 (thV a p) 5 64 zB x.toNat | _ => False) (fun | [.i x, _, _, _, _] => (5 - x).toNat | _ => 0)])],
    [(6, [la 88 (sl3 ++ [(5, i64)]) [q30, q30, q28] anyR noM], fun | [.i x0, .i _, .lb a0, .lb _, .lb p0] => [la 88 (sl3 ++ [(5, i64)]) [q30, q30, q28]
      (fun | [.i x, .i z, .lb a', .lb _, .lb p] => x = x0 ∧ a' = a0 ∧ 0 ≤ z ∧ z ≤ 64 ∧ p = fillN (fun z => x0.toNat * 64 + z) (fun z => decide (cnt a0 x0.toNat z 5 % 2 = 1)) p0 z.toNat | _ => False) (fun | [_, .i z, _, _, _] => (64 - z).toNat | _ => 0)] | _ => []),
     (10, [la 88 (sl3 ++ [(5, i64), (6, i64), (7, i64)]) [q30, q30, q28] anyR noM], fun | [.i x0, .i z0, .i _, .i _, .lb a0, .lb _, .lb p0] => [la 88 (sl3 ++ [(5, i64), (6, i64), (7, i64)]) [q30, q30, q28]
      (fun | [.i x, .i z, .i n, .i y, .lb a', .lb _, .lb p] => x = x0 ∧ z = z0 ∧ a' = a0 ∧ p = p0 ∧ 0 ≤ y ∧ y ≤ 5 ∧ n = cnt a0 x0.toNat z0.toNat y.toNat ∧ 0 ≤ n ∧ n ≤ y | _ => False) (fun | [_, _, _, .i y, _, _, _] => (5 - y).toNat | _ => 0)] | _ => []),
     (20, [la 88 (sl34 ++ [(10, i64)]) [q30, q30, q28, q30] anyR noM], fun | [.i x0, .i _, .lb a0, .lb _, .lb p0, .lb t0] => [la 88 (sl34 ++ [(10, i64)]) [q30, q30, q28, q30]
      (fun | [.i x, .i y, .lb a', .lb _, .lb p, .lb t] => x = x0 ∧ a' = a0 ∧ p = p0 ∧ 0 ≤ y ∧ y ≤ 5 ∧ t = fill2 (at3 x0.toNat) (thV a0 p0 x0.toNat) 64 t0 y.toNat | _ => False) (fun | [_, .i y, _, _, _, _] => (5 - y).toNat | _ => 0)] | _ => []),
     (23, [la 88 (sl34 ++ [(10, i64), (11, i64)]) [q30, q30, q28, q30] anyR noM], fun | [.i x0, .i y0, .i _, .lb a0, .lb _, .lb p0, .lb t0] => [la 88 (sl34 ++ [(10, i64), (11, i64)]) [q30, q30, q28, q30]
      (fun | [.i x, .i y, .i z, .lb a', .lb _, .lb p, .lb t] => x = x0 ∧ y = y0 ∧ a' = a0 ∧ p = p0 ∧ 0 ≤ z ∧ z ≤ 64 ∧ t = fillN (at3 x0.toNat y0.toNat) (thV a0 p0 x0.toNat y0.toNat) t0 z.toNat | _ => False) (fun | [_, _, .i z, _, _, _, _] => (64 - z).toNat | _ => 0)] | _ => [])]⟩
  | _ => { cut := [], loop := [] }
def ct14 : Ct := { ps := [s30, i64], bs := [], pre := fun _ => True, res := fun | [.lb a, .i r] => .ret s30 [] [.lb (roundB a r)] | _ => noRes }
def ann14 : List Dat → Ann
  | [.lb a, .i r] => ⟨[], [(4, [la 32 [(2, .ptr 0 0), (4, .ptr 1 0), (5, .ptr 2 0), (6, i64)] [q30, q30, q27] (fun | [.i z, .lb t, .lb _, .lb c] => c = cbits r ∧ 0 ≤ z ∧ z ≤ 64 ∧ t = addC (chiB (piB (rhoB (thetaB a)))) (cbits r) z.toNat | _ => False) (fun | [.i z, _, _, _] => (64 - z).toNat | _ => 0)])], []⟩
  | _ => { cut := [], loop := [] }
def ct15 : Ct := { ps := [st], bs := [], pre := fun | [.li s] => areW s | _ => False, res := fun | [.li s] => .ret s30 [] [.lb (ofW s)] | _ => noRes }
def ann15 : List Dat → Ann
  | [.li s] => ⟨[], [(3, [la 33 sl3 [q23, q30, q30] (fun | [.i i, .li s', .lb _, .lb t] => s' = s ∧ 0 ≤ i ∧ i ≤ 25 ∧ t = fill2 (fun i z => at3 (i % 5) (i / 5) z) (fun i z => bt (s.getD i 0) z) 64 zB i.toNat | _ => False) (fun | [.i i, _, _, _] => (25 - i).toNat | _ => 0)])],
    [(7, [la 33 (sl3 ++ [(5, u64), (6, i64)]) [q23, q30, q30] anyR noM], fun | [.i i0, .i v0, .i _, .li s0, .lb _, .lb t0] => [la 33 (sl3 ++ [(5, u64), (6, i64)]) [q23, q30, q30]
      (fun | [.i i, .i v, .i z, .li s, .lb _, .lb t] => i = i0 ∧ s = s0 ∧ 0 ≤ z ∧ z ≤ 64 ∧ v = v0 / 2 ^ z.toNat ∧ t = fillN (fun z => at3 (i0.toNat % 5) (i0.toNat / 5) z) (fun z => bt v0 z) t0 z.toNat | _ => False) (fun | [_, _, .i z, _, _, _] => (64 - z).toNat | _ => 0)] | _ => [])]⟩
  | _ => { cut := [], loop := [] }
noncomputable def ct13 : Ct := { ps := [s30], bs := [], pre := fun _ => True, res := fun | [.lb a] => .ret st [] [.li (toW a)] | _ => noRes }
def ann13 : List Dat → Ann
  | [.lb a] => ⟨[], [(3, [la 33 sl3 [q30, q23, q23] (fun | [.i i, .lb a', .li _, .li t] => a' = a ∧ 0 ≤ i ∧ i ≤ 25 ∧ t = wdN a i.toNat | _ => False) (fun | [.i i, _, _, _] => (25 - i).toNat | _ => 0)])],
    [(7, [la 33 (sl3 ++ [(5, u64), (6, i64)]) [q30, q23, q23] anyR noM], fun | [.i i0, .i _, .i _, .lb a0, .li _, .li t0] => [la 33 (sl3 ++ [(5, u64), (6, i64)]) [q30, q23, q23]
      (fun | [.i i, .i v, .i z, .lb a, .li _, .li t] => i = i0 ∧ a = a0 ∧ t = t0 ∧ -1 ≤ z ∧ z ≤ 63 ∧ v = (wv a0 i0.toNat (63 - z).toNat : Nat) | _ => False) (fun | [_, _, .i z, _, _, _] => (z + 1).toNat | _ => 0)] | _ => [])]⟩
  | _ => { cut := [], loop := [] }
noncomputable def ct18 : Ct := { ps := [st], bs := [], pre := fun | [.li s] => areW s | _ => False, res := fun | [.li s] => .ret st [] [.li (permR s)] | _ => noRes }
def ann18 : List Dat → Ann
  | [.li s] => ⟨[], [(3, [la 16 sl3 [q23, q23, q30] (fun | [.i i, .li _, .li _, .lb t] => 0 ≤ i ∧ i ≤ 24 ∧ t = permB (ofW s) i.toNat | _ => False) (fun | [.i i, _, _, _] => (24 - i).toNat | _ => 0)])], []⟩
  | _ => { cut := [], loop := [] }
end Go.Proofs.YtganbceicojfmaaDoor

/-
  Conditions of contracts, as the kernel reckons them (printed by a program of ours, checked by the kernel).
-/
namespace Go.Proofs.YtganbceicojfmaaDoor
open Go Go.Avc Go.Proofs
set_option linter.unusedVariables false
set_option maxRecDepth 100000
def P31 : Prop :=
  ∀ (l : List Bool),
    l.length = (1600 : Nat) →
      True →
        ((l = l ∧
              (0 : Int) ≤ (0 : Int) ∧
                (0 : Int) ≤ (5 : Int) ∧
                  List.replicate (1600 : Nat) false =
                    fill3 at3 (chV l) (5 : Nat) (64 : Nat)
                      (List.replicate (1600 : Nat) false) (0 : Nat)) ∧
            True) ∧
          ∀ (n : Int) (l_1 l_2 l_3 : List Bool),
            l_1.length = (1600 : Nat) →
              l_2.length = (1600 : Nat) →
                l_3.length = (1600 : Nat) →
                  l_1 = l ∧
                      (0 : Int) ≤ n ∧
                        n ≤ (5 : Int) ∧
                          l_3 =
                            fill3 at3 (chV l) (5 : Nat) (64 : Nat)
                              (List.replicate (1600 : Nat) false) n.toNat →
                    bif decide (n < (5 : Int)) then
                      ((n = n ∧
                            l_1 = l_1 ∧
                              (0 : Int) ≤ (0 : Int) ∧
                                (0 : Int) ≤ (5 : Int) ∧
                                  l_3 =
                                    fill2 (at3 n.toNat) (chV l_1 n.toNat) (64 : Nat) l_3
                                      (0 : Nat)) ∧
                          True) ∧
                        ∀ (n_1 n_2 : Int) (l_4 l_5 l_6 : List Bool),
                          l_4.length = (1600 : Nat) →
                            l_5.length = (1600 : Nat) →
                              l_6.length = (1600 : Nat) →
                                n_1 = n ∧
                                    l_4 = l_1 ∧
                                      (0 : Int) ≤ n_2 ∧
                                        n_2 ≤ (5 : Int) ∧
                                          l_6 =
                                            fill2 (at3 n.toNat) (chV l_1 n.toNat)
                                              (64 : Nat) l_3 n_2.toNat →
                                  bif decide (n_2 < (5 : Int)) then
                                    ((n_1 = n_1 ∧
                                          n_2 = n_2 ∧
                                            l_4 = l_4 ∧
                                              (0 : Int) ≤ (0 : Int) ∧
                                                (0 : Int) ≤ (64 : Int) ∧
                                                  l_6 =
                                                    fillN (at3 n_1.toNat n_2.toNat)
                                                      (chV l_4 n_1.toNat n_2.toNat) l_6 (0 : Nat)) ∧
                                        True) ∧
                                      ∀ (n_3 n_4 n_5 : Int) (l l_7 l_8 : List Bool),
                                        l.length = (1600 : Nat) →
                                          l_7.length = (1600 : Nat) →
                                            l_8.length = (1600 : Nat) →
                                              n_3 = n_1 ∧
                                                  n_4 = n_2 ∧
                                                    l = l_4 ∧
                                                      (0 : Int) ≤ n_5 ∧
                                                        n_5 ≤ (64 : Int) ∧
                                                          l_8 =
                                                            fillN (at3 n_1.toNat n_2.toNat)
                                                              (chV l_4 n_1.toNat n_2.toNat) l_6 n_5.toNat →
                                                bif decide (n_5 < (64 : Int)) then
                                                  ((0 : Int) ≤ n_3 ∧ n_3 < (↑(5 : Nat) : Int)) ∧
                                                    ((0 : Int) ≤ n_4 ∧ n_4 < (↑(5 : Nat) : Int)) ∧
                                                      ((0 : Int) ≤ n_5 ∧ n_5 < (↑(64 : Nat) : Int)) ∧
                                                        n_3.toNat * (320 : Nat) + n_4.toNat * (64 : Nat) + n_5.toNat * (1 : Nat) < (1600 : Nat) ∧
                                                          ((-9223372036854775808 : Int) ≤ n_3 + (1 : Int) ∧ n_3 + (1 : Int) ≤ (9223372036854775807 : Int)) ∧
                                                            ((0 : Int) ≤ n_3 + (1 : Int) ∧ (0 : Int) < (5 : Int)) ∧
                                                              ((0 : Int) ≤ (n_3 + (1 : Int)) % (5 : Int) ∧ (n_3 + (1 : Int)) % (5 : Int) < (↑(5 : Nat) : Int)) ∧
                                                                ((0 : Int) ≤ n_4 ∧ n_4 < (↑(5 : Nat) : Int)) ∧
                                                                  ((0 : Int) ≤ n_5 ∧ n_5 < (↑(64 : Nat) : Int)) ∧
                                                                    ((n_3 + (1 : Int)) % (5 : Int)).toNat * (320 : Nat) + n_4.toNat * (64 : Nat) + n_5.toNat * (1 : Nat) <
                                                                        (1600 : Nat) ∧
                                                                      ((!l.getD (((n_3 + (1 : Int)) % (5 : Int)).toNat * (320 : Nat) + n_4.toNat * (64 : Nat) + n_5.toNat * (1 : Nat))
                                                                                false) =
                                                                            true →
                                                                          (-9223372036854775808 : Int) ≤ n_3 + (2 : Int) ∧ n_3 + (2 : Int) ≤ (9223372036854775807 : Int)) ∧
                                                                        ((!l.getD
                                                                                  (((n_3 + (1 : Int)) % (5 : Int)).toNat * (320 : Nat) + n_4.toNat * (64 : Nat) +
                                                                                    n_5.toNat * (1 : Nat))
                                                                                  false) =
                                                                              true →
                                                                            (0 : Int) ≤ n_3 + (2 : Int) ∧ (0 : Int) < (5 : Int)) ∧
                                                                          ((!l.getD
                                                                                    (((n_3 + (1 : Int)) % (5 : Int)).toNat * (320 : Nat) + n_4.toNat * (64 : Nat) +
                                                                                      n_5.toNat * (1 : Nat))
                                                                                    false) =
                                                                                true →
                                                                              (0 : Int) ≤ (n_3 + (2 : Int)) % (5 : Int) ∧ (n_3 + (2 : Int)) % (5 : Int) < (↑(5 : Nat) : Int)) ∧
                                                                            ((!l.getD
                                                                                      (((n_3 + (1 : Int)) % (5 : Int)).toNat * (320 : Nat) + n_4.toNat * (64 : Nat) +
                                                                                        n_5.toNat * (1 : Nat))
                                                                                      false) =
                                                                                  true →
                                                                                (0 : Int) ≤ n_4 ∧ n_4 < (↑(5 : Nat) : Int)) ∧
                                                                              ((!l.getD
                                                                                        (((n_3 + (1 : Int)) % (5 : Int)).toNat * (320 : Nat) + n_4.toNat * (64 : Nat) +
                                                                                          n_5.toNat * (1 : Nat))
                                                                                        false) =
                                                                                    true →
                                                                                  (0 : Int) ≤ n_5 ∧ n_5 < (↑(64 : Nat) : Int)) ∧
                                                                                ((!l.getD
                                                                                          (((n_3 + (1 : Int)) % (5 : Int)).toNat * (320 : Nat) + n_4.toNat * (64 : Nat) +
                                                                                            n_5.toNat * (1 : Nat))
                                                                                          false) =
                                                                                      true →
                                                                                    ((n_3 + (2 : Int)) % (5 : Int)).toNat * (320 : Nat) + n_4.toNat * (64 : Nat) +
                                                                                        n_5.toNat * (1 : Nat) <
                                                                                      (1600 : Nat)) ∧
                                                                                  ((0 : Int) ≤ n_3 ∧ n_3 < (↑(5 : Nat) : Int)) ∧
                                                                                    ((0 : Int) ≤ n_4 ∧ n_4 < (↑(5 : Nat) : Int)) ∧
                                                                                      ((0 : Int) ≤ n_5 ∧ n_5 < (↑(64 : Nat) : Int)) ∧
                                                                                        n_3.toNat * (320 : Nat) + n_4.toNat * (64 : Nat) + n_5.toNat * (1 : Nat) < (1600 : Nat) ∧
                                                                                          ((-9223372036854775808 : Int) ≤ n_5 + (1 : Int) ∧
                                                                                              n_5 + (1 : Int) ≤ (9223372036854775807 : Int)) ∧
                                                                                            (n_3 = n_1 ∧
                                                                                                n_4 = n_2 ∧
                                                                                                  l = l_4 ∧
                                                                                                    (0 : Int) ≤ n_5 + (1 : Int) ∧
                                                                                                      n_5 + (1 : Int) ≤ (64 : Int) ∧
                                                                                                        l_8.set
                                                                                                            (n_3.toNat * (320 : Nat) + n_4.toNat * (64 : Nat) + n_5.toNat * (1 : Nat))
                                                                                                            (l.getD
                                                                                                                (n_3.toNat * (320 : Nat) + n_4.toNat * (64 : Nat) +
                                                                                                                  n_5.toNat * (1 : Nat))
                                                                                                                false !=
                                                                                                              (!l.getD
                                                                                                                    (((n_3 + (1 : Int)) % (5 : Int)).toNat * (320 : Nat) +
                                                                                                                        n_4.toNat * (64 : Nat) +
                                                                                                                      n_5.toNat * (1 : Nat))
                                                                                                                    false &&
                                                                                                                l.getD
                                                                                                                  (((n_3 + (2 : Int)) % (5 : Int)).toNat * (320 : Nat) +
                                                                                                                      n_4.toNat * (64 : Nat) +
                                                                                                                    n_5.toNat * (1 : Nat))
                                                                                                                  false)) =
                                                                                                          fillN
                                                                                                            (at3 n_1.toNat n_2.toNat)
                                                                                                            (chV l_4 n_1.toNat n_2.toNat) l_6
                                                                                                            (n_5 + (1 : Int)).toNat) ∧
                                                                                              ((64 : Int) - (n_5 + (1 : Int))).toNat < ((64 : Int) - n_5).toNat
                                                else
                                                  ((-9223372036854775808 : Int) ≤ n_4 + (1 : Int) ∧ n_4 + (1 : Int) ≤ (9223372036854775807 : Int)) ∧
                                                    (n_3 = n ∧
                                                        l = l_1 ∧
                                                          (0 : Int) ≤ n_4 + (1 : Int) ∧
                                                            n_4 + (1 : Int) ≤ (5 : Int) ∧
                                                              l_8 =
                                                                fill2 (at3 n.toNat)
                                                                  (chV l_1 n.toNat) (64 : Nat) l_3 (n_4 + (1 : Int)).toNat) ∧
                                                      ((5 : Int) - (n_4 + (1 : Int))).toNat < ((5 : Int) - n_2).toNat
                                  else
                                    ((-9223372036854775808 : Int) ≤ n_1 + (1 : Int) ∧ n_1 + (1 : Int) ≤ (9223372036854775807 : Int)) ∧
                                      (l_4 = l ∧
                                          (0 : Int) ≤ n_1 + (1 : Int) ∧
                                            n_1 + (1 : Int) ≤ (5 : Int) ∧
                                              l_6 =
                                                fill3 at3 (chV l) (5 : Nat) (64 : Nat)
                                                  (List.replicate (1600 : Nat) false) (n_1 + (1 : Int)).toNat) ∧
                                        ((5 : Int) - (n_1 + (1 : Int))).toNat < ((5 : Int) - n).toNat
                    else l_3 = chiB l
theorem e31 : ct31.VC (base.with sp19) Tryd.f31.results.toList Tryd.f31.ntmps (Tryd.f31.ntmps - ct31.ps.length) (bodyOf Tryd.f31) ann31 = P31 := by kernel_rfl
noncomputable def sp31 : SpecT := addS sp19 31 (mkF ct31)
def P32 : Prop :=
  ∀ (l : List Bool),
    l.length = (1600 : Nat) →
      True →
        ((l = l ∧
              (0 : Int) ≤ (0 : Int) ∧
                (0 : Int) ≤ (5 : Int) ∧ List.replicate (1600 : Nat) false = piX l (List.replicate (1600 : Nat) false) (0 : Nat)) ∧
            True) ∧
          ∀ (n : Int) (l_1 l_2 l_3 : List Bool),
            l_1.length = (1600 : Nat) →
              l_2.length = (1600 : Nat) →
                l_3.length = (1600 : Nat) →
                  l_1 = l ∧ (0 : Int) ≤ n ∧ n ≤ (5 : Int) ∧ l_3 = piX l (List.replicate (1600 : Nat) false) n.toNat →
                    bif decide (n < (5 : Int)) then
                      ((n = n ∧ l_1 = l_1 ∧ (0 : Int) ≤ (0 : Int) ∧ (0 : Int) ≤ (5 : Int) ∧ l_3 = piY l_1 n.toNat l_3 (0 : Nat)) ∧ True) ∧
                        ∀ (n_1 n_2 : Int) (l_4 l_5 l_6 : List Bool),
                          l_4.length = (1600 : Nat) →
                            l_5.length = (1600 : Nat) →
                              l_6.length = (1600 : Nat) →
                                n_1 = n ∧ l_4 = l_1 ∧ (0 : Int) ≤ n_2 ∧ n_2 ≤ (5 : Int) ∧ l_6 = piY l_1 n.toNat l_3 n_2.toNat →
                                  bif decide (n_2 < (5 : Int)) then
                                    ((-9223372036854775808 : Int) ≤ (2 : Int) * n_1 ∧ (2 : Int) * n_1 ≤ (9223372036854775807 : Int)) ∧
                                      ((-9223372036854775808 : Int) ≤ (3 : Int) * n_2 ∧ (3 : Int) * n_2 ≤ (9223372036854775807 : Int)) ∧
                                        ((-9223372036854775808 : Int) ≤ (2 : Int) * n_1 + (3 : Int) * n_2 ∧ (2 : Int) * n_1 + (3 : Int) * n_2 ≤ (9223372036854775807 : Int)) ∧
                                          ((0 : Int) ≤ (2 : Int) * n_1 + (3 : Int) * n_2 ∧ (0 : Int) < (5 : Int)) ∧
                                            ((0 : Int) ≤ n_1 ∧ n_1 < (↑(5 : Nat) : Int)) ∧
                                              ((0 : Int) ≤ n_2 ∧ n_2 < (↑(5 : Nat) : Int)) ∧
                                                n_1.toNat * (320 : Nat) + n_2.toNat * (64 : Nat) + (64 : Nat) ≤ (1600 : Nat) ∧
                                                  ((0 : Int) ≤ n_2 ∧ n_2 < (↑(5 : Nat) : Int)) ∧
                                                    ((0 : Int) ≤ ((2 : Int) * n_1 + (3 : Int) * n_2) % (5 : Int) ∧
                                                        ((2 : Int) * n_1 + (3 : Int) * n_2) % (5 : Int) < (↑(5 : Nat) : Int)) ∧
                                                      n_2.toNat * (320 : Nat) + (((2 : Int) * n_1 + (3 : Int) * n_2) % (5 : Int)).toNat * (64 : Nat) + (64 : Nat) ≤ (1600 : Nat) ∧
                                                        ((-9223372036854775808 : Int) ≤ n_2 + (1 : Int) ∧ n_2 + (1 : Int) ≤ (9223372036854775807 : Int)) ∧
                                                          (n_1 = n ∧
                                                              l_4 = l_1 ∧
                                                                (0 : Int) ≤ n_2 + (1 : Int) ∧
                                                                  n_2 + (1 : Int) ≤ (5 : Int) ∧
                                                                    List.take (n_2.toNat * (320 : Nat) + (((2 : Int) * n_1 + (3 : Int) * n_2) % (5 : Int)).toNat * (64 : Nat)) l_6 ++
                                                                          List.take (64 : Nat) (List.drop (n_1.toNat * (320 : Nat) + n_2.toNat * (64 : Nat)) l_4) ++
                                                                        List.drop
                                                                          (n_2.toNat * (320 : Nat) + (((2 : Int) * n_1 + (3 : Int) * n_2) % (5 : Int)).toNat * (64 : Nat) +
                                                                            (64 : Nat))
                                                                          l_6 =
                                                                      piY l_1 n.toNat l_3 (n_2 + (1 : Int)).toNat) ∧
                                                            ((5 : Int) - (n_2 + (1 : Int))).toNat < ((5 : Int) - n_2).toNat
                                  else
                                    ((-9223372036854775808 : Int) ≤ n_1 + (1 : Int) ∧ n_1 + (1 : Int) ≤ (9223372036854775807 : Int)) ∧
                                      (l_4 = l ∧
                                          (0 : Int) ≤ n_1 + (1 : Int) ∧
                                            n_1 + (1 : Int) ≤ (5 : Int) ∧ l_6 = piX l (List.replicate (1600 : Nat) false) (n_1 + (1 : Int)).toNat) ∧
                                        ((5 : Int) - (n_1 + (1 : Int))).toNat < ((5 : Int) - n).toNat
                    else l_3 = piB l
theorem e32 : ct32.VC (base.with sp31) Tryd.f32.results.toList Tryd.f32.ntmps (Tryd.f32.ntmps - ct32.ps.length) (bodyOf Tryd.f32) ann32 = P32 := by kernel_rfl
noncomputable def sp32 : SpecT := addS sp31 32 (mkF ct32)
def P33 : Prop :=
  ∀ (l : List Bool),
    l.length = (1600 : Nat) →
      True →
        ((0 : Int) ≤ (0 : Int) ∧ (0 : Int) < (↑(5 : Nat) : Int)) ∧
          ((0 : Int) ≤ (0 : Int) ∧ (0 : Int) < (↑(5 : Nat) : Int)) ∧
            (64 : Nat) ≤ (1600 : Nat) ∧
              ((0 : Int) ≤ (0 : Int) ∧ (0 : Int) < (↑(5 : Nat) : Int)) ∧
                ((0 : Int) ≤ (0 : Int) ∧ (0 : Int) < (↑(5 : Nat) : Int)) ∧
                  (64 : Nat) ≤ (1600 : Nat) ∧
                    ((l = l ∧
                          (0 : Int) ≤ (0 : Int) ∧
                            (0 : Int) ≤ (24 : Int) ∧
                              (1 : Int) = (↑(1 : Nat) : Int) ∧
                                (0 : Int) = (↑(0 : Nat) : Int) ∧
                                  [] ++ List.take (64 : Nat) (List.drop (0 : Nat) l) ++ List.replicate 1536 false = rhN l (0 : Nat)) ∧
                        True) ∧
                      ∀ (n n_1 n_2 : Int) (l_1 l_2 l_3 : List Bool),
                        l_1.length = (1600 : Nat) →
                          l_2.length = (1600 : Nat) →
                            l_3.length = (1600 : Nat) →
                              l_1 = l ∧
                                  (0 : Int) ≤ n_2 ∧
                                    n_2 ≤ (24 : Int) ∧
                                      n = (↑(xyN n_2.toNat).fst : Int) ∧
                                        n_1 = (↑(xyN n_2.toNat).snd : Int) ∧ l_3 = rhN l n_2.toNat →
                                bif decide (n_2 < (24 : Int)) then
                                  ((n = n ∧
                                        n_1 = n_1 ∧
                                          n_2 = n_2 ∧
                                            l_1 = l_1 ∧ (0 : Int) ≤ (0 : Int) ∧ (0 : Int) ≤ (64 : Int) ∧ l_3 = rhZ l_1 n_2.toNat l_3 (0 : Nat)) ∧
                                      True) ∧
                                    ∀ (n_3 n_4 n_5 n_6 : Int) (l_4 l_5 l_6 : List Bool),
                                      l_4.length = (1600 : Nat) →
                                        l_5.length = (1600 : Nat) →
                                          l_6.length = (1600 : Nat) →
                                            n_3 = n ∧
                                                n_4 = n_1 ∧
                                                  n_5 = n_2 ∧ l_4 = l_1 ∧ (0 : Int) ≤ n_6 ∧ n_6 ≤ (64 : Int) ∧ l_6 = rhZ l_1 n_2.toNat l_3 n_6.toNat →
                                              bif decide (n_6 < (64 : Int)) then
                                                ((-9223372036854775808 : Int) ≤ n_5 + (1 : Int) ∧ n_5 + (1 : Int) ≤ (9223372036854775807 : Int)) ∧
                                                  ((-9223372036854775808 : Int) ≤ n_5 + (2 : Int) ∧ n_5 + (2 : Int) ≤ (9223372036854775807 : Int)) ∧
                                                    ((-9223372036854775808 : Int) ≤ (n_5 + (1 : Int)) * (n_5 + (2 : Int)) ∧
                                                        (n_5 + (1 : Int)) * (n_5 + (2 : Int)) ≤ (9223372036854775807 : Int)) ∧
                                                      ((0 : Int) ≤ (n_5 + (1 : Int)) * (n_5 + (2 : Int)) ∧
                                                          (0 : Int) < (2 : Int) ∧ (n_5 + (1 : Int)) * (n_5 + (2 : Int)) ≤ Go.IntKind.i64.max) ∧
                                                        ((-9223372036854775808 : Int) ≤ n_6 + (n_5 + (1 : Int)) * (n_5 + (2 : Int)) / (2 : Int) ∧
                                                            n_6 + (n_5 + (1 : Int)) * (n_5 + (2 : Int)) / (2 : Int) ≤ (9223372036854775807 : Int)) ∧
                                                          ((0 : Int) ≤ n_6 + (n_5 + (1 : Int)) * (n_5 + (2 : Int)) / (2 : Int) ∧ (0 : Int) < (64 : Int)) ∧
                                                            ((0 : Int) ≤ n_3 ∧ n_3 < (↑(5 : Nat) : Int)) ∧
                                                              ((0 : Int) ≤ n_4 ∧ n_4 < (↑(5 : Nat) : Int)) ∧
                                                                ((0 : Int) ≤ n_6 ∧ n_6 < (↑(64 : Nat) : Int)) ∧
                                                                  n_3.toNat * (320 : Nat) + n_4.toNat * (64 : Nat) + n_6.toNat * (1 : Nat) < (1600 : Nat) ∧
                                                                    ((0 : Int) ≤ n_3 ∧ n_3 < (↑(5 : Nat) : Int)) ∧
                                                                      ((0 : Int) ≤ n_4 ∧ n_4 < (↑(5 : Nat) : Int)) ∧
                                                                        ((0 : Int) ≤ (n_6 + (n_5 + (1 : Int)) * (n_5 + (2 : Int)) / (2 : Int)) % (64 : Int) ∧
                                                                            (n_6 + (n_5 + (1 : Int)) * (n_5 + (2 : Int)) / (2 : Int)) % (64 : Int) < (↑(64 : Nat) : Int)) ∧
                                                                          n_3.toNat * (320 : Nat) + n_4.toNat * (64 : Nat) +
                                                                                ((n_6 + (n_5 + (1 : Int)) * (n_5 + (2 : Int)) / (2 : Int)) % (64 : Int)).toNat * (1 : Nat) <
                                                                              (1600 : Nat) ∧
                                                                            ((-9223372036854775808 : Int) ≤ n_6 + (1 : Int) ∧ n_6 + (1 : Int) ≤ (9223372036854775807 : Int)) ∧
                                                                              (n_3 = n ∧
                                                                                  n_4 = n_1 ∧
                                                                                    n_5 = n_2 ∧
                                                                                      l_4 = l_1 ∧
                                                                                        (0 : Int) ≤ n_6 + (1 : Int) ∧
                                                                                          n_6 + (1 : Int) ≤ (64 : Int) ∧
                                                                                            l_6.set
                                                                                                (n_3.toNat * (320 : Nat) + n_4.toNat * (64 : Nat) +
                                                                                                  ((n_6 + (n_5 + (1 : Int)) * (n_5 + (2 : Int)) / (2 : Int)) % (64 : Int)).toNat *
                                                                                                    (1 : Nat))
                                                                                                (l_4.getD (n_3.toNat * (320 : Nat) + n_4.toNat * (64 : Nat) + n_6.toNat * (1 : Nat))
                                                                                                  false) =
                                                                                              rhZ l_1 n_2.toNat l_3 (n_6 + (1 : Int)).toNat) ∧
                                                                                ((64 : Int) - (n_6 + (1 : Int))).toNat < ((64 : Int) - n_6).toNat
                                              else
                                                ((-9223372036854775808 : Int) ≤ (2 : Int) * n_3 ∧ (2 : Int) * n_3 ≤ (9223372036854775807 : Int)) ∧
                                                  ((-9223372036854775808 : Int) ≤ (3 : Int) * n_4 ∧ (3 : Int) * n_4 ≤ (9223372036854775807 : Int)) ∧
                                                    ((-9223372036854775808 : Int) ≤ (2 : Int) * n_3 + (3 : Int) * n_4 ∧
                                                        (2 : Int) * n_3 + (3 : Int) * n_4 ≤ (9223372036854775807 : Int)) ∧
                                                      ((0 : Int) ≤ (2 : Int) * n_3 + (3 : Int) * n_4 ∧ (0 : Int) < (5 : Int)) ∧
                                                        ((-9223372036854775808 : Int) ≤ n_5 + (1 : Int) ∧ n_5 + (1 : Int) ≤ (9223372036854775807 : Int)) ∧
                                                          (l_4 = l ∧
                                                              (0 : Int) ≤ n_5 + (1 : Int) ∧
                                                                n_5 + (1 : Int) ≤ (24 : Int) ∧
                                                                  n_4 = (↑(xyN (n_5 + (1 : Int)).toNat).fst : Int) ∧
                                                                    ((2 : Int) * n_3 + (3 : Int) * n_4) % (5 : Int) =
                                                                        (↑(xyN (n_5 + (1 : Int)).toNat).snd : Int) ∧
                                                                      l_6 = rhN l (n_5 + (1 : Int)).toNat) ∧
                                                            ((24 : Int) - (n_5 + (1 : Int))).toNat < ((24 : Int) - n_2).toNat
                                else l_3 = rhoB l
theorem e33 : ct33.VC (base.with sp32) Tryd.f33.results.toList Tryd.f33.ntmps (Tryd.f33.ntmps - ct33.ps.length) (bodyOf Tryd.f33) ann33 = P33 := by kernel_rfl
noncomputable def sp33 : SpecT := addS sp32 33 (mkF ct33)
def P34 : Prop :=
  ∀ (l : List Bool),
    l.length = (1600 : Nat) →
      True →
        ((l = l ∧
              (0 : Int) ≤ (0 : Int) ∧
                (0 : Int) ≤ (5 : Int) ∧
                  List.replicate (320 : Nat) false =
                    fill2 (fun x z => x * (64 : Nat) + z)
                      (fun x z => decide (cnt l x z (5 : Nat) % (2 : Int) = (1 : Int))) (64 : Nat) (List.replicate (320 : Nat) false) (0 : Nat)) ∧
            True) ∧
          ∀ (n : Int) (l_1 l_2 l_3 : List Bool),
            l_1.length = (1600 : Nat) →
              l_2.length = (1600 : Nat) →
                l_3.length = (320 : Nat) →
                  l_1 = l ∧
                      (0 : Int) ≤ n ∧
                        n ≤ (5 : Int) ∧
                          l_3 =
                            fill2 (fun x z => x * (64 : Nat) + z)
                              (fun x z => decide (cnt l x z (5 : Nat) % (2 : Int) = (1 : Int))) (64 : Nat) (List.replicate (320 : Nat) false) n.toNat →
                    bif decide (n < (5 : Int)) then
                      ((n = n ∧
                            l_1 = l_1 ∧
                              (0 : Int) ≤ (0 : Int) ∧
                                (0 : Int) ≤ (64 : Int) ∧
                                  l_3 =
                                    fillN (fun z => n.toNat * (64 : Nat) + z)
                                      (fun z => decide (cnt l_1 n.toNat z (5 : Nat) % (2 : Int) = (1 : Int))) l_3 (0 : Nat)) ∧
                          True) ∧
                        ∀ (n_1 n_2 : Int) (l_4 l_5 l_6 : List Bool),
                          l_4.length = (1600 : Nat) →
                            l_5.length = (1600 : Nat) →
                              l_6.length = (320 : Nat) →
                                n_1 = n ∧
                                    l_4 = l_1 ∧
                                      (0 : Int) ≤ n_2 ∧
                                        n_2 ≤ (64 : Int) ∧
                                          l_6 =
                                            fillN (fun z => n.toNat * (64 : Nat) + z)
                                              (fun z => decide (cnt l_1 n.toNat z (5 : Nat) % (2 : Int) = (1 : Int))) l_3 n_2.toNat →
                                  bif decide (n_2 < (64 : Int)) then
                                    ((n_1 = n_1 ∧
                                          n_2 = n_2 ∧
                                            l_4 = l_4 ∧
                                              l_6 = l_6 ∧
                                                (0 : Int) ≤ (0 : Int) ∧
                                                  (0 : Int) ≤ (5 : Int) ∧
                                                    (0 : Int) = cnt l_4 n_1.toNat n_2.toNat (0 : Nat) ∧
                                                      (0 : Int) ≤ (0 : Int) ∧ (0 : Int) ≤ (0 : Int)) ∧
                                        True) ∧
                                      ∀ (n_3 n_4 n_5 n_6 : Int) (l l_7 l_8 : List Bool),
                                        l.length = (1600 : Nat) →
                                          l_7.length = (1600 : Nat) →
                                            l_8.length = (320 : Nat) →
                                              n_3 = n_1 ∧
                                                  n_4 = n_2 ∧
                                                    l = l_4 ∧
                                                      l_8 = l_6 ∧
                                                        (0 : Int) ≤ n_6 ∧
                                                          n_6 ≤ (5 : Int) ∧ n_5 = cnt l_4 n_1.toNat n_2.toNat n_6.toNat ∧ (0 : Int) ≤ n_5 ∧ n_5 ≤ n_6 →
                                                bif decide (n_6 < (5 : Int)) then
                                                  ((0 : Int) ≤ n_3 ∧ n_3 < (↑(5 : Nat) : Int)) ∧
                                                    ((0 : Int) ≤ n_6 ∧ n_6 < (↑(5 : Nat) : Int)) ∧
                                                      ((0 : Int) ≤ n_4 ∧ n_4 < (↑(64 : Nat) : Int)) ∧
                                                        n_3.toNat * (320 : Nat) + n_6.toNat * (64 : Nat) + n_4.toNat * (1 : Nat) < (1600 : Nat) ∧
                                                          bif l.getD (n_3.toNat * (320 : Nat) + n_6.toNat * (64 : Nat) + n_4.toNat * (1 : Nat)) false then
                                                            ((-9223372036854775808 : Int) ≤ n_5 + (1 : Int) ∧ n_5 + (1 : Int) ≤ (9223372036854775807 : Int)) ∧
                                                              ((-9223372036854775808 : Int) ≤ n_6 + (1 : Int) ∧ n_6 + (1 : Int) ≤ (9223372036854775807 : Int)) ∧
                                                                (n_3 = n_1 ∧
                                                                    n_4 = n_2 ∧
                                                                      l = l_4 ∧
                                                                        l_8 = l_6 ∧
                                                                          (0 : Int) ≤ n_6 + (1 : Int) ∧
                                                                            n_6 + (1 : Int) ≤ (5 : Int) ∧
                                                                              n_5 + (1 : Int) = cnt l_4 n_1.toNat n_2.toNat (n_6 + (1 : Int)).toNat ∧
                                                                                (0 : Int) ≤ n_5 + (1 : Int) ∧ n_5 + (1 : Int) ≤ n_6 + (1 : Int)) ∧
                                                                  ((5 : Int) - (n_6 + (1 : Int))).toNat < ((5 : Int) - n_6).toNat
                                                          else
                                                            ((-9223372036854775808 : Int) ≤ n_6 + (1 : Int) ∧ n_6 + (1 : Int) ≤ (9223372036854775807 : Int)) ∧
                                                              (n_3 = n_1 ∧
                                                                  n_4 = n_2 ∧
                                                                    l = l_4 ∧
                                                                      l_8 = l_6 ∧
                                                                        (0 : Int) ≤ n_6 + (1 : Int) ∧
                                                                          n_6 + (1 : Int) ≤ (5 : Int) ∧
                                                                            n_5 = cnt l_4 n_1.toNat n_2.toNat (n_6 + (1 : Int)).toNat ∧
                                                                              (0 : Int) ≤ n_5 ∧ n_5 ≤ n_6 + (1 : Int)) ∧
                                                                ((5 : Int) - (n_6 + (1 : Int))).toNat < ((5 : Int) - n_6).toNat
                                                else
                                                  ((0 : Int) ≤ n_5 ∧ (0 : Int) < (2 : Int)) ∧
                                                    ((0 : Int) ≤ n_3 ∧ n_3 < (↑(5 : Nat) : Int)) ∧
                                                      ((0 : Int) ≤ n_4 ∧ n_4 < (↑(64 : Nat) : Int)) ∧
                                                        n_3.toNat * (64 : Nat) + n_4.toNat * (1 : Nat) < (320 : Nat) ∧
                                                          ((-9223372036854775808 : Int) ≤ n_4 + (1 : Int) ∧ n_4 + (1 : Int) ≤ (9223372036854775807 : Int)) ∧
                                                            (n_3 = n ∧
                                                                l = l_1 ∧
                                                                  (0 : Int) ≤ n_4 + (1 : Int) ∧
                                                                    n_4 + (1 : Int) ≤ (64 : Int) ∧
                                                                      l_8.set (n_3.toNat * (64 : Nat) + n_4.toNat * (1 : Nat)) (decide (n_5 % (2 : Int) = (1 : Int))) =
                                                                        fillN (fun z => n.toNat * (64 : Nat) + z)
                                                                          (fun z => decide (cnt l_1 n.toNat z (5 : Nat) % (2 : Int) = (1 : Int))) l_3
                                                                          (n_4 + (1 : Int)).toNat) ∧
                                                              ((64 : Int) - (n_4 + (1 : Int))).toNat < ((64 : Int) - n_2).toNat
                                  else
                                    ((-9223372036854775808 : Int) ≤ n_1 + (1 : Int) ∧ n_1 + (1 : Int) ≤ (9223372036854775807 : Int)) ∧
                                      (l_4 = l ∧
                                          (0 : Int) ≤ n_1 + (1 : Int) ∧
                                            n_1 + (1 : Int) ≤ (5 : Int) ∧
                                              l_6 =
                                                fill2 (fun x z => x * (64 : Nat) + z)
                                                  (fun x z => decide (cnt l x z (5 : Nat) % (2 : Int) = (1 : Int))) (64 : Nat)
                                                  (List.replicate (320 : Nat) false) (n_1 + (1 : Int)).toNat) ∧
                                        ((5 : Int) - (n_1 + (1 : Int))).toNat < ((5 : Int) - n).toNat
                    else
                      ((l_1 = l ∧
                            l_3 = parB l ∧
                              (0 : Int) ≤ (0 : Int) ∧
                                (0 : Int) ≤ (5 : Int) ∧
                                  List.replicate (1600 : Nat) false =
                                    fill3 at3 (thV l l_3) (5 : Nat) (64 : Nat)
                                      (List.replicate (1600 : Nat) false) (0 : Nat)) ∧
                          True) ∧
                        ∀ (n : Int) (l_4 l_5 l_6 l_7 : List Bool),
                          l_4.length = (1600 : Nat) →
                            l_5.length = (1600 : Nat) →
                              l_6.length = (320 : Nat) →
                                l_7.length = (1600 : Nat) →
                                  l_4 = l ∧
                                      l_6 = parB l ∧
                                        (0 : Int) ≤ n ∧
                                          n ≤ (5 : Int) ∧
                                            l_7 =
                                              fill3 at3 (thV l l_6) (5 : Nat) (64 : Nat)
                                                (List.replicate (1600 : Nat) false) n.toNat →
                                    bif decide (n < (5 : Int)) then
                                      ((n = n ∧
                                            l_4 = l_4 ∧
                                              l_6 = l_6 ∧
                                                (0 : Int) ≤ (0 : Int) ∧
                                                  (0 : Int) ≤ (5 : Int) ∧
                                                    l_7 =
                                                      fill2 (at3 n.toNat)
                                                        (thV l_4 l_6 n.toNat) (64 : Nat) l_7 (0 : Nat)) ∧
                                          True) ∧
                                        ∀ (n_1 n_2 : Int) (l_8 l_9 l_10 l_11 : List Bool),
                                          l_8.length = (1600 : Nat) →
                                            l_9.length = (1600 : Nat) →
                                              l_10.length = (320 : Nat) →
                                                l_11.length = (1600 : Nat) →
                                                  n_1 = n ∧
                                                      l_8 = l_4 ∧
                                                        l_10 = l_6 ∧
                                                          (0 : Int) ≤ n_2 ∧
                                                            n_2 ≤ (5 : Int) ∧
                                                              l_11 =
                                                                fill2 (at3 n.toNat)
                                                                  (thV l_4 l_6 n.toNat) (64 : Nat) l_7 n_2.toNat →
                                                    bif decide (n_2 < (5 : Int)) then
                                                      ((n_1 = n_1 ∧
                                                            n_2 = n_2 ∧
                                                              l_8 = l_8 ∧
                                                                l_10 = l_10 ∧
                                                                  (0 : Int) ≤ (0 : Int) ∧
                                                                    (0 : Int) ≤ (64 : Int) ∧
                                                                      l_11 =
                                                                        fillN (at3 n_1.toNat n_2.toNat)
                                                                          (thV l_8 l_10 n_1.toNat n_2.toNat) l_11 (0 : Nat)) ∧
                                                          True) ∧
                                                        ∀ (n_3 n_4 n_5 : Int) (l l_12 l_13 l_14 : List Bool),
                                                          l.length = (1600 : Nat) →
                                                            l_12.length = (1600 : Nat) →
                                                              l_13.length = (320 : Nat) →
                                                                l_14.length = (1600 : Nat) →
                                                                  n_3 = n_1 ∧
                                                                      n_4 = n_2 ∧
                                                                        l = l_8 ∧
                                                                          l_13 = l_10 ∧
                                                                            (0 : Int) ≤ n_5 ∧
                                                                              n_5 ≤ (64 : Int) ∧
                                                                                l_14 =
                                                                                  fillN (at3 n_1.toNat n_2.toNat)
                                                                                    (thV l_8 l_10 n_1.toNat n_2.toNat) l_11 n_5.toNat →
                                                                    bif decide (n_5 < (64 : Int)) then
                                                                      ((-9223372036854775808 : Int) ≤ n_3 + (4 : Int) ∧ n_3 + (4 : Int) ≤ (9223372036854775807 : Int)) ∧
                                                                        ((0 : Int) ≤ n_3 + (4 : Int) ∧ (0 : Int) < (5 : Int)) ∧
                                                                          ((0 : Int) ≤ (n_3 + (4 : Int)) % (5 : Int) ∧ (n_3 + (4 : Int)) % (5 : Int) < (↑(5 : Nat) : Int)) ∧
                                                                            ((0 : Int) ≤ n_5 ∧ n_5 < (↑(64 : Nat) : Int)) ∧
                                                                              ((n_3 + (4 : Int)) % (5 : Int)).toNat * (64 : Nat) + n_5.toNat * (1 : Nat) < (320 : Nat) ∧
                                                                                ((-9223372036854775808 : Int) ≤ n_3 + (1 : Int) ∧ n_3 + (1 : Int) ≤ (9223372036854775807 : Int)) ∧
                                                                                  ((0 : Int) ≤ n_3 + (1 : Int) ∧ (0 : Int) < (5 : Int)) ∧
                                                                                    ((-9223372036854775808 : Int) ≤ n_5 + (63 : Int) ∧
                                                                                        n_5 + (63 : Int) ≤ (9223372036854775807 : Int)) ∧
                                                                                      ((0 : Int) ≤ n_5 + (63 : Int) ∧ (0 : Int) < (64 : Int)) ∧
                                                                                        ((0 : Int) ≤ (n_3 + (1 : Int)) % (5 : Int) ∧
                                                                                            (n_3 + (1 : Int)) % (5 : Int) < (↑(5 : Nat) : Int)) ∧
                                                                                          ((0 : Int) ≤ (n_5 + (63 : Int)) % (64 : Int) ∧
                                                                                              (n_5 + (63 : Int)) % (64 : Int) < (↑(64 : Nat) : Int)) ∧
                                                                                            ((n_3 + (1 : Int)) % (5 : Int)).toNat * (64 : Nat) +
                                                                                                  ((n_5 + (63 : Int)) % (64 : Int)).toNat * (1 : Nat) <
                                                                                                (320 : Nat) ∧
                                                                                              ((0 : Int) ≤ n_3 ∧ n_3 < (↑(5 : Nat) : Int)) ∧
                                                                                                ((0 : Int) ≤ n_4 ∧ n_4 < (↑(5 : Nat) : Int)) ∧
                                                                                                  ((0 : Int) ≤ n_5 ∧ n_5 < (↑(64 : Nat) : Int)) ∧
                                                                                                    n_3.toNat * (320 : Nat) + n_4.toNat * (64 : Nat) + n_5.toNat * (1 : Nat) <
                                                                                                        (1600 : Nat) ∧
                                                                                                      ((0 : Int) ≤ n_3 ∧ n_3 < (↑(5 : Nat) : Int)) ∧
                                                                                                        ((0 : Int) ≤ n_4 ∧ n_4 < (↑(5 : Nat) : Int)) ∧
                                                                                                          ((0 : Int) ≤ n_5 ∧ n_5 < (↑(64 : Nat) : Int)) ∧
                                                                                                            n_3.toNat * (320 : Nat) + n_4.toNat * (64 : Nat) + n_5.toNat * (1 : Nat) <
                                                                                                                (1600 : Nat) ∧
                                                                                                              ((-9223372036854775808 : Int) ≤ n_5 + (1 : Int) ∧
                                                                                                                  n_5 + (1 : Int) ≤ (9223372036854775807 : Int)) ∧
                                                                                                                (n_3 = n_1 ∧
                                                                                                                    n_4 = n_2 ∧
                                                                                                                      l = l_8 ∧
                                                                                                                        l_13 = l_10 ∧
                                                                                                                          (0 : Int) ≤ n_5 + (1 : Int) ∧
                                                                                                                            n_5 + (1 : Int) ≤ (64 : Int) ∧
                                                                                                                              l_14.set
                                                                                                                                  (n_3.toNat * (320 : Nat) + n_4.toNat * (64 : Nat) +
                                                                                                                                    n_5.toNat * (1 : Nat))
                                                                                                                                  (l.getD
                                                                                                                                      (n_3.toNat * (320 : Nat) +
                                                                                                                                          n_4.toNat * (64 : Nat) +
                                                                                                                                        n_5.toNat * (1 : Nat))
                                                                                                                                      false !=
                                                                                                                                    (l_13.getD
                                                                                                                                        (((n_3 + (4 : Int)) % (5 : Int)).toNat *
                                                                                                                                            (64 : Nat) +
                                                                                                                                          n_5.toNat * (1 : Nat))
                                                                                                                                        false !=
                                                                                                                                      l_13.getD
                                                                                                                                        (((n_3 + (1 : Int)) % (5 : Int)).toNat *
                                                                                                                                            (64 : Nat) +
                                                                                                                                          ((n_5 + (63 : Int)) % (64 : Int)).toNat *
                                                                                                                                            (1 : Nat))
                                                                                                                                        false)) =
                                                                                                                                fillN
                                                                                                                                  (at3 n_1.toNat
                                                                                                                                    n_2.toNat)
                                                                                                                                  (thV l_8 l_10
                                                                                                                                    n_1.toNat n_2.toNat)
                                                                                                                                  l_11 (n_5 + (1 : Int)).toNat) ∧
                                                                                                                  ((64 : Int) - (n_5 + (1 : Int))).toNat < ((64 : Int) - n_5).toNat
                                                                    else
                                                                      ((-9223372036854775808 : Int) ≤ n_4 + (1 : Int) ∧ n_4 + (1 : Int) ≤ (9223372036854775807 : Int)) ∧
                                                                        (n_3 = n ∧
                                                                            l = l_4 ∧
                                                                              l_13 = l_6 ∧
                                                                                (0 : Int) ≤ n_4 + (1 : Int) ∧
                                                                                  n_4 + (1 : Int) ≤ (5 : Int) ∧
                                                                                    l_14 =
                                                                                      fill2 (at3 n.toNat)
                                                                                        (thV l_4 l_6 n.toNat) (64 : Nat) l_7 (n_4 + (1 : Int)).toNat) ∧
                                                                          ((5 : Int) - (n_4 + (1 : Int))).toNat < ((5 : Int) - n_2).toNat
                                                    else
                                                      ((-9223372036854775808 : Int) ≤ n_1 + (1 : Int) ∧ n_1 + (1 : Int) ≤ (9223372036854775807 : Int)) ∧
                                                        (l_8 = l ∧
                                                            l_10 = parB l ∧
                                                              (0 : Int) ≤ n_1 + (1 : Int) ∧
                                                                n_1 + (1 : Int) ≤ (5 : Int) ∧
                                                                  l_11 =
                                                                    fill3 at3
                                                                      (thV l l_10) (5 : Nat) (64 : Nat) (List.replicate (1600 : Nat) false)
                                                                      (n_1 + (1 : Int)).toNat) ∧
                                                          ((5 : Int) - (n_1 + (1 : Int))).toNat < ((5 : Int) - n).toNat
                                    else l_7 = thetaB l
theorem e34 : ct34.VC (base.with sp33) Tryd.f34.results.toList Tryd.f34.ntmps (Tryd.f34.ntmps - ct34.ps.length) (bodyOf Tryd.f34) ann34 = P34 := by kernel_rfl
noncomputable def sp34 : SpecT := addS sp33 34 (mkF ct34)
def P14 : Prop :=
  ∀ (l : List Bool) (n : Int),
    l.length = (1600 : Nat) →
      True →
        True ∧
          True ∧
            True ∧
              True ∧
                True ∧
                  ((cbits n = cbits n ∧
                        (0 : Int) ≤ (0 : Int) ∧
                          (0 : Int) ≤ (64 : Int) ∧
                            chiB (piB (rhoB (thetaB l))) =
                              addC
                                (chiB
                                  (piB (rhoB (thetaB l))))
                                (cbits n) (0 : Nat)) ∧
                      True) ∧
                    ∀ (n_1 : Int) (l_1 l_2 l_3 : List Bool),
                      l_1.length = (1600 : Nat) →
                        l_2.length = (1600 : Nat) →
                          l_3.length = (64 : Nat) →
                            l_3 = cbits n ∧
                                (0 : Int) ≤ n_1 ∧
                                  n_1 ≤ (64 : Int) ∧
                                    l_1 =
                                      addC
                                        (chiB
                                          (piB (rhoB (thetaB l))))
                                        (cbits n) n_1.toNat →
                              bif decide (n_1 < (64 : Int)) then
                                ((0 : Int) ≤ (0 : Int) ∧ (0 : Int) < (↑(5 : Nat) : Int)) ∧
                                  ((0 : Int) ≤ (0 : Int) ∧ (0 : Int) < (↑(5 : Nat) : Int)) ∧
                                    ((0 : Int) ≤ n_1 ∧ n_1 < (↑(64 : Nat) : Int)) ∧
                                      (0 : Nat) + n_1.toNat * (1 : Nat) < (1600 : Nat) ∧
                                        ((0 : Int) ≤ n_1 ∧ n_1 < (↑(64 : Nat) : Int)) ∧
                                          n_1.toNat * (1 : Nat) < (64 : Nat) ∧
                                            ((0 : Int) ≤ (0 : Int) ∧ (0 : Int) < (↑(5 : Nat) : Int)) ∧
                                              ((0 : Int) ≤ (0 : Int) ∧ (0 : Int) < (↑(5 : Nat) : Int)) ∧
                                                ((0 : Int) ≤ n_1 ∧ n_1 < (↑(64 : Nat) : Int)) ∧
                                                  (0 : Nat) + n_1.toNat * (1 : Nat) < (1600 : Nat) ∧
                                                    ((-9223372036854775808 : Int) ≤ n_1 + (1 : Int) ∧ n_1 + (1 : Int) ≤ (9223372036854775807 : Int)) ∧
                                                      (l_3 = cbits n ∧
                                                          (0 : Int) ≤ n_1 + (1 : Int) ∧
                                                            n_1 + (1 : Int) ≤ (64 : Int) ∧
                                                              l_1.set ((0 : Nat) + n_1.toNat * (1 : Nat))
                                                                  (l_1.getD ((0 : Nat) + n_1.toNat * (1 : Nat)) false != l_3.getD (n_1.toNat * (1 : Nat)) false) =
                                                                addC
                                                                  (chiB
                                                                    (piB
                                                                      (rhoB (thetaB l))))
                                                                  (cbits n) (n_1 + (1 : Int)).toNat) ∧
                                                        ((64 : Int) - (n_1 + (1 : Int))).toNat < ((64 : Int) - n_1).toNat
                              else l_1 = roundB l n
theorem e14 : ct14.VC (base.with sp34) Tryd.f14.results.toList Tryd.f14.ntmps (Tryd.f14.ntmps - ct14.ps.length) (bodyOf Tryd.f14) ann14 = P14 := by kernel_rfl
noncomputable def sp14 : SpecT := addS sp34 14 (mkF ct14)
def P15 : Prop :=
  ∀ (l : List Int),
    l.length = (25 : Nat) →
      areW l →
        ((l = l ∧
              (0 : Int) ≤ (0 : Int) ∧
                (0 : Int) ≤ (25 : Int) ∧
                  List.replicate (1600 : Nat) false =
                    fill2 (fun i z => at3 (i % (5 : Nat)) (i / (5 : Nat)) z)
                      (fun i z => bt (l.getD i (0 : Int)) z) (64 : Nat) (List.replicate (1600 : Nat) false) (0 : Nat)) ∧
            True) ∧
          ∀ (n : Int) (l_1 : List Int) (l_2 l_3 : List Bool),
            l_1.length = (25 : Nat) →
              l_2.length = (1600 : Nat) →
                l_3.length = (1600 : Nat) →
                  l_1 = l ∧
                      (0 : Int) ≤ n ∧
                        n ≤ (25 : Int) ∧
                          l_3 =
                            fill2 (fun i z => at3 (i % (5 : Nat)) (i / (5 : Nat)) z)
                              (fun i z => bt (l.getD i (0 : Int)) z) (64 : Nat) (List.replicate (1600 : Nat) false) n.toNat →
                    bif decide (n < (25 : Int)) then
                      ((0 : Int) ≤ n ∧ n < (↑(25 : Nat) : Int)) ∧
                        n.toNat * (1 : Nat) < (25 : Nat) ∧
                          ((n = n ∧
                                l_1 = l_1 ∧
                                  (0 : Int) ≤ (0 : Int) ∧
                                    (0 : Int) ≤ (64 : Int) ∧
                                      l_1.getD (n.toNat * (1 : Nat)) (0 : Int) = l_1.getD (n.toNat * (1 : Nat)) (0 : Int) / (2 : Int) ^ (0 : Nat) ∧
                                        l_3 =
                                          fillN (fun z => at3 (n.toNat % (5 : Nat)) (n.toNat / (5 : Nat)) z)
                                            (fun z => bt (l_1.getD (n.toNat * (1 : Nat)) (0 : Int)) z) l_3 (0 : Nat)) ∧
                              True) ∧
                            ∀ (n_1 n_2 n_3 : Int) (l_4 : List Int) (l_5 l_6 : List Bool),
                              l_4.length = (25 : Nat) →
                                l_5.length = (1600 : Nat) →
                                  l_6.length = (1600 : Nat) →
                                    n_1 = n ∧
                                        l_4 = l_1 ∧
                                          (0 : Int) ≤ n_3 ∧
                                            n_3 ≤ (64 : Int) ∧
                                              n_2 = l_1.getD (n.toNat * (1 : Nat)) (0 : Int) / (2 : Int) ^ n_3.toNat ∧
                                                l_6 =
                                                  fillN (fun z => at3 (n.toNat % (5 : Nat)) (n.toNat / (5 : Nat)) z)
                                                    (fun z => bt (l_1.getD (n.toNat * (1 : Nat)) (0 : Int)) z) l_3 n_3.toNat →
                                      bif decide (n_3 < (64 : Int)) then
                                        ((0 : Int) ≤ n_1 ∧ (0 : Int) < (5 : Int)) ∧
                                          ((0 : Int) ≤ n_1 ∧ (0 : Int) < (5 : Int) ∧ n_1 ≤ Go.IntKind.i64.max) ∧
                                            ((0 : Int) ≤ n_2 ∧ (0 : Int) < (2 : Int)) ∧
                                              ((0 : Int) ≤ n_1 % (5 : Int) ∧ n_1 % (5 : Int) < (↑(5 : Nat) : Int)) ∧
                                                ((0 : Int) ≤ n_1 / (5 : Int) ∧ n_1 / (5 : Int) < (↑(5 : Nat) : Int)) ∧
                                                  ((0 : Int) ≤ n_3 ∧ n_3 < (↑(64 : Nat) : Int)) ∧
                                                    (n_1 % (5 : Int)).toNat * (320 : Nat) + (n_1 / (5 : Int)).toNat * (64 : Nat) + n_3.toNat * (1 : Nat) < (1600 : Nat) ∧
                                                      ((0 : Int) ≤ n_2 ∧ (0 : Int) < (2 : Int) ∧ n_2 ≤ Go.IntKind.u64.max) ∧
                                                        ((-9223372036854775808 : Int) ≤ n_3 + (1 : Int) ∧ n_3 + (1 : Int) ≤ (9223372036854775807 : Int)) ∧
                                                          (n_1 = n ∧
                                                              l_4 = l_1 ∧
                                                                (0 : Int) ≤ n_3 + (1 : Int) ∧
                                                                  n_3 + (1 : Int) ≤ (64 : Int) ∧
                                                                    n_2 / (2 : Int) = l_1.getD (n.toNat * (1 : Nat)) (0 : Int) / (2 : Int) ^ (n_3 + (1 : Int)).toNat ∧
                                                                      l_6.set ((n_1 % (5 : Int)).toNat * (320 : Nat) + (n_1 / (5 : Int)).toNat * (64 : Nat) + n_3.toNat * (1 : Nat))
                                                                          (decide (n_2 % (2 : Int) = (1 : Int))) =
                                                                        fillN
                                                                          (fun z => at3 (n.toNat % (5 : Nat)) (n.toNat / (5 : Nat)) z)
                                                                          (fun z => bt (l_1.getD (n.toNat * (1 : Nat)) (0 : Int)) z) l_3
                                                                          (n_3 + (1 : Int)).toNat) ∧
                                                            ((64 : Int) - (n_3 + (1 : Int))).toNat < ((64 : Int) - n_3).toNat
                                      else
                                        ((-9223372036854775808 : Int) ≤ n_1 + (1 : Int) ∧ n_1 + (1 : Int) ≤ (9223372036854775807 : Int)) ∧
                                          (l_4 = l ∧
                                              (0 : Int) ≤ n_1 + (1 : Int) ∧
                                                n_1 + (1 : Int) ≤ (25 : Int) ∧
                                                  l_6 =
                                                    fill2 (fun i z => at3 (i % (5 : Nat)) (i / (5 : Nat)) z)
                                                      (fun i z => bt (l.getD i (0 : Int)) z) (64 : Nat) (List.replicate (1600 : Nat) false)
                                                      (n_1 + (1 : Int)).toNat) ∧
                                            ((25 : Int) - (n_1 + (1 : Int))).toNat < ((25 : Int) - n).toNat
                    else l_3 = ofW l
theorem e15 : ct15.VC (base.with sp14) Tryd.f15.results.toList Tryd.f15.ntmps (Tryd.f15.ntmps - ct15.ps.length) (bodyOf Tryd.f15) ann15 = P15 := by kernel_rfl
noncomputable def sp15 : SpecT := addS sp14 15 (mkF ct15)
def P13 : Prop :=
  ∀ (l : List Bool),
    l.length = (1600 : Nat) →
      True →
        ((l = l ∧
              (0 : Int) ≤ (0 : Int) ∧
                (0 : Int) ≤ (25 : Int) ∧
                  [(0 : Int), (0 : Int), (0 : Int), (0 : Int), (0 : Int), (0 : Int), (0 : Int), (0 : Int), (0 : Int), (0 : Int), (0 : Int), (0 : Int), (0 : Int), (0 : Int),
                      (0 : Int), (0 : Int), (0 : Int), (0 : Int), (0 : Int), (0 : Int), (0 : Int), (0 : Int), (0 : Int), (0 : Int), (0 : Int)] =
                    wdN l (0 : Nat)) ∧
            True) ∧
          ∀ (n : Int) (l_1 : List Bool) (l_2 l_3 : List Int),
            l_1.length = (1600 : Nat) →
              l_2.length = (25 : Nat) →
                l_3.length = (25 : Nat) →
                  l_1 = l ∧ (0 : Int) ≤ n ∧ n ≤ (25 : Int) ∧ l_3 = wdN l n.toNat →
                    bif decide (n < (25 : Int)) then
                      ((n = n ∧ l_1 = l_1 ∧ l_3 = l_3 ∧ (-1 : Int) ≤ (63 : Int) ∧ (63 : Int) ≤ (63 : Int) ∧ (0 : Int) = (↑(0 : Nat) : Int)) ∧ True) ∧
                        ∀ (n_1 n_2 n_3 : Int) (l_4 : List Bool) (l_5 l_6 : List Int),
                          l_4.length = (1600 : Nat) →
                            l_5.length = (25 : Nat) →
                              l_6.length = (25 : Nat) →
                                n_1 = n ∧
                                    l_4 = l_1 ∧
                                      l_6 = l_3 ∧ (-1 : Int) ≤ n_3 ∧ n_3 ≤ (63 : Int) ∧ n_2 = (↑(wv l_1 n.toNat ((63 : Int) - n_3).toNat) : Int) →
                                  bif decide ((0 : Int) ≤ n_3) then
                                    ((0 : Int) ≤ n_1 ∧ (0 : Int) < (5 : Int)) ∧
                                      ((0 : Int) ≤ n_1 ∧ (0 : Int) < (5 : Int) ∧ n_1 ≤ Go.IntKind.i64.max) ∧
                                        ((0 : Int) ≤ n_1 % (5 : Int) ∧ n_1 % (5 : Int) < (↑(5 : Nat) : Int)) ∧
                                          ((0 : Int) ≤ n_1 / (5 : Int) ∧ n_1 / (5 : Int) < (↑(5 : Nat) : Int)) ∧
                                            ((0 : Int) ≤ n_3 ∧ n_3 < (↑(64 : Nat) : Int)) ∧
                                              (n_1 % (5 : Int)).toNat * (320 : Nat) + (n_1 / (5 : Int)).toNat * (64 : Nat) + n_3.toNat * (1 : Nat) < (1600 : Nat) ∧
                                                bif l_4.getD ((n_1 % (5 : Int)).toNat * (320 : Nat) + (n_1 / (5 : Int)).toNat * (64 : Nat) + n_3.toNat * (1 : Nat)) false then
                                                  ((-9223372036854775808 : Int) ≤ n_3 - (1 : Int) ∧ n_3 - (1 : Int) ≤ (9223372036854775807 : Int)) ∧
                                                    (n_1 = n ∧
                                                        l_4 = l_1 ∧
                                                          l_6 = l_3 ∧
                                                            (-1 : Int) ≤ n_3 - (1 : Int) ∧
                                                              n_3 - (1 : Int) ≤ (63 : Int) ∧
                                                                Go.IntKind.u64.wrap (Go.IntKind.u64.wrap (n_2 * (2 : Int)) + (1 : Int)) =
                                                                  (↑(wv l_1 n.toNat ((63 : Int) - (n_3 - (1 : Int))).toNat) : Int)) ∧
                                                      (n_3 - (1 : Int) + (1 : Int)).toNat < (n_3 + (1 : Int)).toNat
                                                else
                                                  ((-9223372036854775808 : Int) ≤ n_3 - (1 : Int) ∧ n_3 - (1 : Int) ≤ (9223372036854775807 : Int)) ∧
                                                    (n_1 = n ∧
                                                        l_4 = l_1 ∧
                                                          l_6 = l_3 ∧
                                                            (-1 : Int) ≤ n_3 - (1 : Int) ∧
                                                              n_3 - (1 : Int) ≤ (63 : Int) ∧
                                                                Go.IntKind.u64.wrap (n_2 * (2 : Int)) =
                                                                  (↑(wv l_1 n.toNat ((63 : Int) - (n_3 - (1 : Int))).toNat) : Int)) ∧
                                                      (n_3 - (1 : Int) + (1 : Int)).toNat < (n_3 + (1 : Int)).toNat
                                  else
                                    ((0 : Int) ≤ n_1 ∧ n_1 < (↑(25 : Nat) : Int)) ∧
                                      n_1.toNat * (1 : Nat) < (25 : Nat) ∧
                                        ((-9223372036854775808 : Int) ≤ n_1 + (1 : Int) ∧ n_1 + (1 : Int) ≤ (9223372036854775807 : Int)) ∧
                                          (l_4 = l ∧
                                              (0 : Int) ≤ n_1 + (1 : Int) ∧
                                                n_1 + (1 : Int) ≤ (25 : Int) ∧ l_6.set (n_1.toNat * (1 : Nat)) n_2 = wdN l (n_1 + (1 : Int)).toNat) ∧
                                            ((25 : Int) - (n_1 + (1 : Int))).toNat < ((25 : Int) - n).toNat
                    else l_3 = toW l
theorem e13 : ct13.VC (base.with sp15) Tryd.f13.results.toList Tryd.f13.ntmps (Tryd.f13.ntmps - ct13.ps.length) (bodyOf Tryd.f13) ann13 = P13 := by kernel_rfl
noncomputable def sp13 : SpecT := addS sp15 13 (mkF ct13)
def P18 : Prop :=
  ∀ (l : List Int),
    l.length = (25 : Nat) →
      areW l →
        areW l ∧
          (((0 : Int) ≤ (0 : Int) ∧
                (0 : Int) ≤ (24 : Int) ∧ ofW l = permB (ofW l) (0 : Nat)) ∧
              True) ∧
            ∀ (n : Int) (l_1 l_2 : List Int) (l_3 : List Bool),
              l_1.length = (25 : Nat) →
                l_2.length = (25 : Nat) →
                  l_3.length = (1600 : Nat) →
                    (0 : Int) ≤ n ∧ n ≤ (24 : Int) ∧ l_3 = permB (ofW l) n.toNat →
                      bif decide (n < (24 : Int)) then
                        True ∧
                          ((-9223372036854775808 : Int) ≤ n + (1 : Int) ∧ n + (1 : Int) ≤ (9223372036854775807 : Int)) ∧
                            ((0 : Int) ≤ n + (1 : Int) ∧
                                n + (1 : Int) ≤ (24 : Int) ∧
                                  roundB l_3 n = permB (ofW l) (n + (1 : Int)).toNat) ∧
                              ((24 : Int) - (n + (1 : Int))).toNat < ((24 : Int) - n).toNat
                      else True ∧ toW l_3 = permR l
theorem e18 : ct18.VC (base.with sp13) Tryd.f18.results.toList Tryd.f18.ntmps (Tryd.f18.ntmps - ct18.ps.length) (bodyOf Tryd.f18) ann18 = P18 := by kernel_rfl
noncomputable def sp18 : SpecT := addS sp13 18 (mkF ct18)
end Go.Proofs.YtganbceicojfmaaDoor

/-
  The conditions of the reference's steps on bits are met.
-/
namespace Go.Proofs.YtganbceicojfmaaDoor
open Go Go.Avc Go.Proofs
set_option linter.unusedVariables false
set_option linter.unusedSimpArgs false
set_option maxRecDepth 100000
theorem ex_nat {n : Int} (h : 0 ≤ n) : ∃ i : Nat, n = i := ⟨n.toNat, by omega⟩
theorem suc_nat (i : Nat) : ((i : Int) + 1).toNat = i + 1 := by omega
theorem m5 (x k : Nat) : (((x : Int) + (k : Int)) % 5).toNat = (x + k) % 5 := by omega
theorem vc31 : P31 := by
  intro a ha _
  refine ⟨⟨⟨rfl, by omega, by omega, rfl⟩, trivial⟩, ?_⟩
  rintro x' a1 _ t _ _ _ ⟨rfl, h0, h1, ht⟩
  obtain ⟨x, rfl⟩ := ex_nat h0
  rw [Int.toNat_natCast] at ht
  refine condI (fun h => ?_) fun h => ?_
  · simp only [decide_eq_true_eq] at h
    refine ⟨⟨⟨rfl, rfl, by omega, by omega, rfl⟩, trivial⟩, ?_⟩
    rintro x' y' a2 _ t1 _ _ _ ⟨rfl, rfl, h2, h3, ht1⟩
    obtain ⟨y, rfl⟩ := ex_nat h2
    rw [Int.toNat_natCast, Int.toNat_natCast] at ht1
    refine condI (fun h4 => ?_) fun h4 => ?_
    · simp only [decide_eq_true_eq] at h4
      refine ⟨⟨⟨rfl, rfl, rfl, by omega, by omega, rfl⟩, trivial⟩, ?_⟩
      rintro x' y' z' a3 _ t2 _ _ _ ⟨rfl, rfl, rfl, h5, h6, ht2⟩
      obtain ⟨z, rfl⟩ := ex_nat h5
      simp only [Int.toNat_natCast] at ht2
      refine condI (fun h7 => ?_) fun h7 => ?_
      · simp only [decide_eq_true_eq] at h7
        have e1 : (((x : Int) + 1) % 5).toNat = (x + 1) % 5 := m5 x 1
        have e2 : (((x : Int) + 2) % 5).toNat = (x + 2) % 5 := m5 x 2
        simp only [Int.toNat_natCast, e1, e2, suc_nat, Nat.mul_one]
        refine ⟨by omega, by omega, by omega, by omega, by omega, by omega, by omega, by omega, by omega, by omega, fun _ => by omega, fun _ => by omega, fun _ => by omega, fun _ => by omega, fun _ => by omega, fun _ => by omega, by omega, by omega, by omega, by omega, by omega, ⟨by trivial, by trivial, by trivial, by omega, by omega, ?_⟩, by omega⟩
        rw [ht2]; rfl
      · simp only [decide_eq_false_iff_not] at h7
        have hz : z = 64 := by omega
        subst hz
        refine ⟨by omega, ⟨by trivial, by trivial, by omega, by omega, ?_⟩, by omega⟩
        rw [suc_nat, ht2, ht1]; rfl
    · simp only [decide_eq_false_iff_not] at h4
      have hy : y = 5 := by omega
      subst hy
      refine ⟨by omega, ⟨by trivial, by omega, by omega, ?_⟩, by omega⟩
      rw [suc_nat, ht1, ht]; rfl
  · simp only [decide_eq_false_iff_not] at h
    have hx : x = 5 := by omega
    subst hx
    rw [ht]; rfl
theorem ok31 : SpecOk (base.with sp19) 31 (mkF ct31) := spec_ct (fn := Tryd.f31) (c := bodyOf Tryd.f31) (k := Tryd.f31.ntmps - ct31.ps.length) (ct := ct31) c19 Tryd.func31 (by kernel_rfl) ann31 (by kernel_rfl) (fun vs w _ => Tryd.call31 vs w) (e31.mpr vc31)
theorem c31 : (base.with sp31).Ok := addS_ok c19 ok31
theorem xy5 (x y : Nat) : ((2 * (x : Int) + 3 * (y : Int)) % 5).toNat = (2 * x + 3 * y) % 5 := by
  have : 2 * (x : Int) + 3 * (y : Int) = ((2 * x + 3 * y : Nat) : Int) := by omega
  rw [this]
  generalize 2 * x + 3 * y = m
  omega
theorem vc32 : P32 := by
  intro a ha _
  refine ⟨⟨⟨rfl, by omega, by omega, rfl⟩, trivial⟩, ?_⟩
  rintro x' a1 _ t _ _ _ ⟨rfl, h0, h1, ht⟩
  obtain ⟨x, rfl⟩ := ex_nat h0
  rw [Int.toNat_natCast] at ht
  refine condI (fun h => ?_) fun h => ?_
  · simp only [decide_eq_true_eq] at h
    refine ⟨⟨⟨rfl, rfl, by omega, by omega, rfl⟩, trivial⟩, ?_⟩
    rintro x' y' a2 _ t1 _ _ _ ⟨rfl, rfl, h2, h3, ht1⟩
    obtain ⟨y, rfl⟩ := ex_nat h2
    rw [Int.toNat_natCast, Int.toNat_natCast] at ht1
    refine condI (fun h4 => ?_) fun h4 => ?_
    · simp only [decide_eq_true_eq] at h4
      have e1 := xy5 x y
      have e2 : (2 * x + 3 * y) % 5 < 5 := Nat.mod_lt _ (by decide)
      simp only [Int.toNat_natCast, e1, suc_nat, Nat.mul_one]
      refine ⟨by omega, by omega, by omega, by omega, by omega, by omega, by omega, by omega, by omega, by omega, by omega, ⟨by trivial, by trivial, by omega, by omega, ?_⟩, by omega⟩
      rw [ht1]; rfl
    · simp only [decide_eq_false_iff_not] at h4
      have hy : y = 5 := by omega
      subst hy
      refine ⟨by omega, ⟨by trivial, by omega, by omega, ?_⟩, by omega⟩
      rw [suc_nat, ht1, ht]; rfl
  · simp only [decide_eq_false_iff_not] at h
    have hx : x = 5 := by omega
    subst hx
    rw [ht]; rfl
theorem ok32 : SpecOk (base.with sp31) 32 (mkF ct32) := spec_ct (fn := Tryd.f32) (c := bodyOf Tryd.f32) (k := Tryd.f32.ntmps - ct32.ps.length) (ct := ct32) c31 Tryd.func32 (by kernel_rfl) ann32 (by kernel_rfl) (fun vs w _ => Tryd.call32 vs w) (e32.mpr vc32)
theorem c32 : (base.with sp32).Ok := addS_ok c31 ok32
theorem vc33 : P33 := by
  intro a ha _
  refine ⟨by omega, by omega, by omega, by omega, by omega, by omega, ⟨⟨rfl, by omega, by omega, rfl, rfl, rfl⟩, trivial⟩, ?_⟩
  rintro x' y' t' a1 _ l1 _ _ _ ⟨rfl, h0, h1, rfl, rfl, hl⟩
  obtain ⟨t, rfl⟩ := ex_nat h0
  rw [Int.toNat_natCast] at *
  refine condI (fun h => ?_) fun h => ?_
  · simp only [decide_eq_true_eq] at h
    refine ⟨⟨⟨rfl, rfl, rfl, rfl, by omega, by omega, rfl⟩, trivial⟩, ?_⟩
    rintro x' y' t' z' a2 _ l2 _ _ _ ⟨rfl, rfl, rfl, rfl, h2, h3, hl2⟩
    obtain ⟨z, rfl⟩ := ex_nat h2
    obtain ⟨hx, hy⟩ := xy_lt t
    simp only [Int.toNat_natCast] at hl2
    refine condI (fun h4 => ?_) fun h4 => ?_
    · simp only [decide_eq_true_eq] at h4
      have hm : (t + 1) * (t + 2) ≤ 24 * 25 := Nat.mul_le_mul (by omega) (by omega)
      have em : ((t : Int) + 1) * ((t : Int) + 2) = (((t + 1) * (t + 2) : Nat) : Int) := by simp
      have eq0 : ((z : Int) + (((t + 1) * (t + 2) : Nat) : Int) / 2) % 64 = (((z + (t + 1) * (t + 2) / 2) % 64 : Nat) : Int) := by omega
      have emax : IntKind.max .i64 = 9223372036854775807 := by decide
      rw [em, eq0, emax]
      simp only [Int.toNat_natCast, suc_nat, Nat.mul_one]
      have hlt : (z + (t + 1) * (t + 2) / 2) % 64 < 64 := Nat.mod_lt _ (by decide)
      refine ⟨by omega, by omega, by omega, by omega, by omega, by omega, by omega, by omega, by omega, by omega, by omega, by omega, by omega, by omega, by omega, ⟨by trivial, by trivial, by trivial, by trivial, by omega, by omega, ?_⟩, by omega⟩
      rw [hl2]; rfl
    · simp only [decide_eq_false_iff_not] at h4
      have hz : z = 64 := by omega
      subst hz
      have e1 := xy5 (xyN t).1 (xyN t).2
      refine ⟨by omega, by omega, by omega, by omega, by omega, ⟨by trivial, by omega, by omega, ?_, ?_, ?_⟩, by omega⟩
      · rw [suc_nat]; rfl
      · rw [suc_nat]
        show _ = (((2 * (xyN t).1 + 3 * (xyN t).2) % 5 : Nat) : Int)
        rw [← e1]
        omega
      · rw [suc_nat, hl2, hl]; rfl
  · simp only [decide_eq_false_iff_not] at h
    have ht : t = 24 := by omega
    subst ht
    rw [hl]; rfl
theorem ok33 : SpecOk (base.with sp32) 33 (mkF ct33) := spec_ct (fn := Tryd.f33) (c := bodyOf Tryd.f33) (k := Tryd.f33.ntmps - ct33.ps.length) (ct := ct33) c32 Tryd.func33 (by kernel_rfl) ann33 (by kernel_rfl) (fun vs w _ => Tryd.call33 vs w) (e33.mpr vc33)
theorem c33 : (base.with sp33).Ok := addS_ok c32 ok33
theorem vc34 : P34 := by
  intro a ha _
  refine ⟨⟨⟨rfl, by omega, by omega, rfl⟩, trivial⟩, ?_⟩
  rintro x' a1 _ p _ _ _ ⟨rfl, h0, h1, ht⟩
  obtain ⟨x, rfl⟩ := ex_nat h0
  rw [Int.toNat_natCast] at ht
  refine condI (fun h => ?_) fun h => ?_
  · simp only [decide_eq_true_eq] at h
    refine ⟨⟨⟨rfl, rfl, by omega, by omega, rfl⟩, trivial⟩, ?_⟩
    rintro x' z' a2 _ p1 _ _ _ ⟨rfl, rfl, h2, h3, ht1⟩
    obtain ⟨z, rfl⟩ := ex_nat h2
    rw [Int.toNat_natCast, Int.toNat_natCast] at ht1
    refine condI (fun h4 => ?_) fun h4 => ?_
    · simp only [decide_eq_true_eq] at h4
      refine ⟨⟨⟨rfl, rfl, rfl, rfl, by omega, by omega, rfl, by omega, by omega⟩, trivial⟩, ?_⟩
      rintro x' z' n' y' a3 _ p2 _ _ _ ⟨rfl, rfl, rfl, rfl, h5, h6, hn, h8, h9⟩
      obtain ⟨y, rfl⟩ := ex_nat h5
      simp only [Int.toNat_natCast] at hn
      refine condI (fun h7 => ?_) fun h7 => ?_
      · simp only [decide_eq_true_eq] at h7
        simp only [Int.toNat_natCast, suc_nat, Nat.mul_one]
        refine ⟨by omega, by omega, by omega, by omega, ?_⟩
        refine condI (fun hb => ?_) fun hb => ?_
        · refine ⟨by omega, by omega, ⟨by trivial, by trivial, by trivial, by trivial, by omega, by omega, ?_, by omega, by omega⟩, by omega⟩
          rw [hn, cnt]
          exact (if_pos hb).symm
        · refine ⟨by omega, ⟨by trivial, by trivial, by trivial, by trivial, by omega, by omega, ?_, by omega, by omega⟩, by omega⟩
          rw [hn, cnt]
          exact (if_neg (by unfold gb at3; rw [hb]; decide)).symm
      · simp only [decide_eq_false_iff_not] at h7
        have hy : y = 5 := by omega
        subst hy
        simp only [Int.toNat_natCast, suc_nat, Nat.mul_one]
        refine ⟨by omega, by omega, by omega, by omega, by omega, ⟨by trivial, by trivial, by omega, by omega, ?_⟩, by omega⟩
        rw [ht1, hn]; rfl
    · simp only [decide_eq_false_iff_not] at h4
      have hz : z = 64 := by omega
      subst hz
      refine ⟨by omega, ⟨by trivial, by omega, by omega, ?_⟩, by omega⟩
      rw [suc_nat, ht1, ht]; rfl
  · simp only [decide_eq_false_iff_not] at h
    have hx : x = 5 := by omega
    subst hx
    refine ⟨⟨⟨by trivial, ht, by omega, by omega, rfl⟩, trivial⟩, ?_⟩
    clear ht h h1 h0
    rintro x' a2 _ p2 t _ _ _ _ ⟨rfl, hp, h0, h1, ht⟩
    obtain ⟨x, rfl⟩ := ex_nat h0
    rw [Int.toNat_natCast] at ht
    refine condI (fun h => ?_) fun h => ?_
    · simp only [decide_eq_true_eq] at h
      refine ⟨⟨⟨rfl, rfl, rfl, by omega, by omega, rfl⟩, trivial⟩, ?_⟩
      rintro x' y' a2 _ p3 t1 _ _ _ _ ⟨rfl, rfl, rfl, h2, h3, ht1⟩
      obtain ⟨y, rfl⟩ := ex_nat h2
      rw [Int.toNat_natCast, Int.toNat_natCast] at ht1
      refine condI (fun h4 => ?_) fun h4 => ?_
      · simp only [decide_eq_true_eq] at h4
        refine ⟨⟨⟨rfl, rfl, rfl, rfl, by omega, by omega, rfl⟩, trivial⟩, ?_⟩
        rintro x' y' z' a3 _ p3 t2 _ _ _ _ ⟨rfl, rfl, rfl, rfl, h5, h6, ht2⟩
        obtain ⟨z, rfl⟩ := ex_nat h5
        simp only [Int.toNat_natCast] at ht2
        refine condI (fun h7 => ?_) fun h7 => ?_
        · simp only [decide_eq_true_eq] at h7
          have e1 : (((x : Int) + 4) % 5).toNat = (x + 4) % 5 := m5 x 4
          have e2 : (((x : Int) + 1) % 5).toNat = (x + 1) % 5 := m5 x 1
          have e3 : (((z : Int) + 63) % 64).toNat = (z + 63) % 64 := by omega
          simp only [Int.toNat_natCast, e1, e2, e3, suc_nat, Nat.mul_one]
          refine ⟨by omega, by omega, by omega, by omega, by omega, by omega, by omega, by omega, by omega, by omega, by omega, by omega, by omega, by omega, by omega, by omega, by omega, by omega, by omega, by omega, by omega, ⟨by trivial, by trivial, by trivial, by trivial, by omega, by omega, ?_⟩, by omega⟩
          rw [ht2]; rfl
        · simp only [decide_eq_false_iff_not] at h7
          have hz : z = 64 := by omega
          subst hz
          refine ⟨by omega, ⟨by trivial, by trivial, by trivial, by omega, by omega, ?_⟩, by omega⟩
          rw [suc_nat, ht2, ht1]; rfl
      · simp only [decide_eq_false_iff_not] at h4
        have hy : y = 5 := by omega
        subst hy
        refine ⟨by omega, ⟨by trivial, hp, by omega, by omega, ?_⟩, by omega⟩
        rw [suc_nat, ht1, ht]; rfl
    · simp only [decide_eq_false_iff_not] at h
      have hx : x = 5 := by omega
      subst hx
      rw [ht, hp]; rfl
theorem ok34 : SpecOk (base.with sp33) 34 (mkF ct34) := spec_ct (fn := Tryd.f34) (c := bodyOf Tryd.f34) (k := Tryd.f34.ntmps - ct34.ps.length) (ct := ct34) c33 Tryd.func34 (by kernel_rfl) ann34 (by kernel_rfl) (fun vs w _ => Tryd.call34 vs w) (e34.mpr vc34)
theorem c34 : (base.with sp34).Ok := addS_ok c33 ok34
theorem vc14 : P14 := by
  intro a r ha _
  refine ⟨trivial, trivial, trivial, trivial, trivial, ⟨⟨rfl, by omega, by omega, rfl⟩, trivial⟩, ?_⟩
  rintro z' t _ c _ _ _ ⟨hc, h0, h1, ht⟩
  obtain ⟨z, rfl⟩ := ex_nat h0
  rw [Int.toNat_natCast] at ht
  refine condI (fun h => ?_) fun h => ?_
  · simp only [decide_eq_true_eq] at h
    simp only [Int.toNat_natCast, suc_nat, Nat.mul_one, Nat.zero_add]
    refine ⟨by omega, by omega, by omega, by omega, by omega, by omega, by omega, by omega, by omega, by omega, by omega, ⟨hc, by omega, by omega, ?_⟩, by omega⟩
    rw [ht, hc]; rfl
  · simp only [decide_eq_false_iff_not] at h
    have hz : z = 64 := by omega
    subst hz
    rw [ht]; rfl
theorem ok14 : SpecOk (base.with sp34) 14 (mkF ct14) := spec_ct (fn := Tryd.f14) (c := bodyOf Tryd.f14) (k := Tryd.f14.ntmps - ct14.ps.length) (ct := ct14) c34 Tryd.func14 (by kernel_rfl) ann14 (by kernel_rfl) (fun vs w _ => Tryd.call14 vs w) (e14.mpr vc14)
theorem c14 : (base.with sp14).Ok := addS_ok c34 ok14
theorem pow_half (n : Nat) (v : Int) : v / 2 ^ n / 2 = v / 2 ^ (n + 1) := by
  rw [Int.pow_succ, Int.ediv_ediv_of_nonneg (Int.le_of_lt (Int.pow_pos (by decide)))]
theorem bit_of {v : Int} (h : 0 ≤ v) (z : Nat) : decide (v / 2 ^ z % 2 = 1) = bt v z := by
  obtain ⟨n, rfl⟩ := ex_nat h
  unfold bt
  rw [Int.toNat_natCast, Nat.testBit_eq_decide_div_mod_eq, show (2 : Int) ^ z = ((2 ^ z : Nat) : Int) from by rw [Int.natCast_pow]; rfl]
  apply decide_eq_decide.2
  rw [← Int.natCast_ediv]
  omega
theorem vc15 : P15 := by
  intro s hs hw
  refine ⟨⟨⟨rfl, by omega, by omega, rfl⟩, trivial⟩, ?_⟩
  rintro i' s1 _ t _ _ _ ⟨rfl, h0, h1, ht⟩
  obtain ⟨i, rfl⟩ := ex_nat h0
  simp only [Int.toNat_natCast] at ht
  refine condI (fun h => ?_) fun h => ?_
  · simp only [decide_eq_true_eq] at h
    have hv := hw i
    simp only [Int.toNat_natCast, Nat.mul_one]
    refine ⟨by omega, by omega, ⟨⟨by trivial, by trivial, by omega, by omega, (Int.ediv_one _).symm, rfl⟩, trivial⟩, ?_⟩
    generalize hV : s1.getD i 0 = V at *
    rintro i' v z' s2 _ t1 _ _ _ ⟨rfl, rfl, h2, h3, rfl, ht1⟩
    obtain ⟨z, rfl⟩ := ex_nat h2
    simp only [Int.toNat_natCast] at ht1 ⊢
    have hp : (0 : Int) < 2 ^ z := Int.pow_pos (by decide)
    have hd : 0 ≤ V / 2 ^ z := Int.ediv_nonneg hv.1 (Int.le_of_lt hp)
    have hd2 : V / 2 ^ z ≤ V := Int.ediv_le_self _ hv.1
    have hd3 := hv.2
    refine condI (fun h4 => ?_) fun h4 => ?_
    · simp only [decide_eq_true_eq] at h4
      have emax : IntKind.max .i64 = 9223372036854775807 := by decide
      have emax2 : IntKind.max .u64 = 18446744073709551615 := by decide
      have e1 : ((i : Int) % 5).toNat = i % 5 := by omega
      have e2 : ((i : Int) / 5).toNat = i / 5 := by omega
      rw [emax, emax2, pow_half, bit_of hv.1]
      simp only [Int.toNat_natCast, e1, e2, suc_nat, Nat.mul_one]
      refine ⟨by omega, by omega, by omega, by omega, by omega, by omega, by omega, by omega, by omega, ⟨by trivial, by trivial, by omega, by omega, by trivial, ?_⟩, by omega⟩
      rw [ht1]; rfl
    · simp only [decide_eq_false_iff_not] at h4
      have hz : z = 64 := by omega
      subst hz
      refine ⟨by omega, ⟨by trivial, by omega, by omega, ?_⟩, by omega⟩
      rw [suc_nat, ht1, ht, ← hV]; rfl
  · simp only [decide_eq_false_iff_not] at h
    have hi : i = 25 := by omega
    subst hi
    rw [ht]; rfl
theorem ok15 : SpecOk (base.with sp14) 15 (mkF ct15) := spec_ct (fn := Tryd.f15) (c := bodyOf Tryd.f15) (k := Tryd.f15.ntmps - ct15.ps.length) (ct := ct15) c14 Tryd.func15 (by kernel_rfl) ann15 (by kernel_rfl) (fun vs w _ => Tryd.call15 vs w) (e15.mpr vc15)
theorem c15 : (base.with sp15).Ok := addS_ok c14 ok15
theorem wv_lt (a : List Bool) (i : Nat) : ∀ n, wv a i n < 2 ^ n
  | 0 => Nat.one_pos
  | n + 1 => by
    have := wv_lt a i n
    rw [wv, Nat.pow_succ]
    split <;> omega
theorem vc13 : P13 := by
  intro a ha _
  refine ⟨⟨⟨rfl, by omega, by omega, rfl⟩, trivial⟩, ?_⟩
  rintro i' a1 _ t _ _ _ ⟨rfl, h0, h1, ht⟩
  obtain ⟨i, rfl⟩ := ex_nat h0
  simp only [Int.toNat_natCast] at ht ⊢
  refine condI (fun h => ?_) fun h => ?_
  · simp only [decide_eq_true_eq] at h
    refine ⟨⟨⟨by trivial, by trivial, by trivial, by omega, by omega, by omega⟩, trivial⟩, ?_⟩
    rintro i' v z' a2 _ t1 _ _ _ ⟨rfl, rfl, rfl, h2, h3, rfl⟩
    refine condI (fun h4 => ?_) fun h4 => ?_
    · simp only [decide_eq_true_eq] at h4
      obtain ⟨z, rfl⟩ := ex_nat h4
      have emax : IntKind.max .i64 = 9223372036854775807 := by decide
      have e1 : ((i : Int) % 5).toNat = i % 5 := by omega
      have e2 : ((i : Int) / 5).toNat = i / 5 := by omega
      have e3 : ((63 : Int) - (z : Int)).toNat = 63 - z := by omega
      have e4 : ((63 : Int) - ((z : Int) - 1)).toNat = 63 - z + 1 := by omega
      have hw := wv_lt a2 i (63 - z)
      have hpow : 2 ^ (63 - z) ≤ 2 ^ 63 := Nat.pow_le_pow_right (by decide) (by omega)
      rw [emax]
      simp only [Int.toNat_natCast, e1, e2, e3, e4, Nat.mul_one]
      have hwu : ∀ b : Nat, b ≤ 1 → IntKind.u64.wrap ((wv a2 i (63 - z) : Int) * 2 + b) = ((2 * wv a2 i (63 - z) + b : Nat) : Int) := fun b hb => by rw [wrap_u64']; omega
      refine ⟨by omega, by omega, by omega, by omega, by omega, by omega, ?_⟩
      refine condI (fun hb => ?_) fun hb => ?_
      · refine ⟨by omega, ⟨by trivial, by trivial, by trivial, by omega, by omega, ?_⟩, by omega⟩
        have := hwu 0 (by omega)
        rw [Int.natCast_zero, Int.add_zero, Nat.add_zero] at this
        rw [this, wv, if_pos (by rw [show 63 - (63 - z) = z from by omega]; exact hb), wrap_u64']
        omega
      · refine ⟨by omega, ⟨by trivial, by trivial, by trivial, by omega, by omega, ?_⟩, by omega⟩
        have := hwu 0 (by omega)
        rw [Int.natCast_zero, Int.add_zero, Nat.add_zero] at this
        rw [this, wv, if_neg (by rw [show 63 - (63 - z) = z from by omega]; unfold gb at3; rw [hb]; decide)]
        omega
    · simp only [decide_eq_false_iff_not] at h4
      have hz : z' = -1 := by omega
      subst hz
      refine ⟨by omega, by omega, by omega, ⟨by trivial, by omega, by omega, ?_⟩, by omega⟩
      rw [suc_nat, ht, Int.toNat_natCast, Nat.mul_one]; rfl
  · simp only [decide_eq_false_iff_not] at h
    have hi : i = 25 := by omega
    subst hi
    rw [ht, toW, hid_eq]
theorem ok13 : SpecOk (base.with sp15) 13 (mkF ct13) := spec_ct (fn := Tryd.f13) (c := bodyOf Tryd.f13) (k := Tryd.f13.ntmps - ct13.ps.length) (ct := ct13) c15 Tryd.func13 (by kernel_rfl) ann13 (by kernel_rfl) (fun vs w _ => Tryd.call13 vs w) (e13.mpr vc13)
theorem c13 : (base.with sp13).Ok := addS_ok c15 ok13
theorem vc18 : P18 := by
  intro s hs hw
  refine ⟨hw, ⟨⟨by omega, by omega, rfl⟩, trivial⟩, ?_⟩
  rintro n _ _ t _ _ _ ⟨h0, h1, ht⟩
  obtain ⟨i, rfl⟩ := ex_nat h0
  rw [Int.toNat_natCast] at ht
  refine condI (fun h => ?_) fun h => ?_
  · simp only [decide_eq_true_eq] at h
    refine ⟨trivial, by omega, ⟨by omega, by omega, ?_⟩, by omega⟩
    rw [suc_nat, ht]; rfl
  · simp only [decide_eq_false_iff_not] at h
    have hi : i = 24 := by omega
    subst hi
    exact ⟨trivial, by rw [ht, permR, hid_eq]⟩
theorem ok18 : SpecOk (base.with sp13) 18 (mkF ct18) := spec_ct (fn := Tryd.f18) (c := bodyOf Tryd.f18) (k := Tryd.f18.ntmps - ct18.ps.length) (ct := ct18) c13 Tryd.func18 (by kernel_rfl) ann18 (by kernel_rfl) (fun vs w _ => Tryd.call18 vs w) (e18.mpr vc18)
theorem c18 : (base.with sp18).Ok := addS_ok c13 ok18
end Go.Proofs.YtganbceicojfmaaDoor

/-
  Bytes and words: what the program's and the reference's functions compute; contracts.
-/
namespace Go.Proofs.YtganbceicojfmaaDoor
open Go Go.Avc
set_option linter.unusedVariables false
abbrev rb : Pat := .rd [.int .u8]
abbrev rw64 : Pat := .rd [.int .u64]
abbrev ob : BPat := .own 5 [.int .u8]
abbrev ow : BPat := .own 22 [.int .u64]
def row1 (n : Int) : List CD := [.int n]
/-- The number in a row. -/
def rv (l : List (List CD)) (i : Nat) : Int := ((l.getD i []).getD 0 .d0).toInt
def areR (l : List (List CD)) : Prop := ∀ i, isW (rv l i)
/-- All are bytes. -/
def areB (l : List (List CD)) : Prop := ∀ i, 0 ≤ rv l i ∧ rv l i < 256
/-- The bytes of a word. -/
def wb (w : Int) (k : Nat) : Int := w / 256 ^ k % 256
def wbN (w : Int) : Nat → List Int
  | 0 => []
  | n + 1 => wbN w n ++ [wb w n]
def bysN (f : Nat → Int) : Nat → List Int
  | 0 => []
  | n + 1 => bysN f n ++ wbN (f n) 8
noncomputable def bysL (s : List Int) : List Int := hid (bysN (fun i => s.getD i 0) 25)
theorem bysL_eq (s : List Int) : bysL s = bysN (fun i => s.getD i 0) 25 := hid_eq _
/-- The words of bytes, as the program makes them. -/
def wsN (l : List (List CD)) : Nat → List Int
  | 0 => List.replicate ((l.length + 7) / 8) 0
  | i + 1 => (wsN l i).set (i / 8) (bOr .u64 ((wsN l i).getD (i / 8) 0) (bShl .u64 (IntKind.u64.wrap (rv l i)) ((8 * (i % 8) : Nat) : Int)))
/-- The words of bytes, as the reference makes them. -/
def rbN (l : List (List CD)) : Nat → List Int
  | 0 => List.replicate 25 0
  | n + 1 => (rbN l n).set ((l.length - 1 - n) / 8) (IntKind.u64.wrap (IntKind.u64.wrap ((rbN l n).getD ((l.length - 1 - n) / 8) 0 * 256) + IntKind.u64.wrap (rv l (l.length - 1 - n))))
/-- The words of 200 bytes. -/
def wd (f : Nat → Int) : Nat → Int
  | 0 => 0
  | n + 1 => wd f n + f n * 256 ^ n
def wdsL (l : List (List CD)) : List Int := (List.range 25).map fun j => wd (fun k => rv l (8 * j + k)) 8
noncomputable def z25 : List Int := hid (List.replicate 25 0)
theorem z25_eq : z25 = List.replicate 25 0 := hid_eq _

/-! ### Contracts -/
def ct39 : Ct := { ps := [rb], bs := [], pre := fun | [.r l] => l.length ≤ 1000 ∧ areB l | _ => False, res := fun | [.r l] => .ret (.own 0) [ow] [.r ((wsN l l.length).map row1)] | _ => noRes }
def ann39 : List Dat → Ann
  | [.r l] => ⟨[], [(3, [la 33 [(3, .own 0), (11, rb), (12, i64), (13, i64)] [ow] (fun | [.r l', .i n, .i i, .r w] => l' = l ∧ n = l.length ∧ 0 ≤ i ∧ i ≤ n ∧ w = (wsN l i.toNat).map row1 | _ => False) (fun | [_, .i n, .i i, _] => (n - i).toNat | _ => 0)])], []⟩
  | _ => { cut := [], loop := [] }
def ct40 : Ct := { ps := [rw64], bs := [], pre := fun | [.r l] => l.length ≤ 1000 ∧ areR l | _ => False, res := fun | [.r l] => .ret (.own 0) [ob] [.r ((bysN (rv l) l.length).map row1)] | _ => noRes }
def sl40 : List (Nat × Pat) := [(3, .own 0), (6, rw64), (7, i64), (8, i64)]
def ann40 : List Dat → Ann
  | [.r l] => ⟨[], [(3, [la 24 sl40 [ob] (fun | [.r l', .i n, .i i, .r o] => l' = l ∧ n = l.length ∧ 0 ≤ i ∧ i ≤ n ∧ o = (bysN (rv l) i.toNat).map row1 | _ => False) (fun | [_, .i n, .i i, _] => (n - i).toNat | _ => 0)])],
    [(6, [la 24 (sl40 ++ [(5, u64), (12, i64)]) [ob] anyR noM], fun | [.i x0, .r l0, .i n0, .i i0, .i _, .r o0] => [la 24 (sl40 ++ [(5, u64), (12, i64)]) [ob]
      (fun | [.i x, .r l', .i n, .i i, .i k, .r o] => l' = l0 ∧ n = n0 ∧ i = i0 ∧ 0 ≤ k ∧ k ≤ 8 ∧ x = x0 / 256 ^ k.toNat ∧ o = o0 ++ (wbN x0 k.toNat).map row1 | _ => False) (fun | [_, _, _, _, .i k, _] => (8 - k).toNat | _ => 0)] | _ => [])]⟩
  | _ => { cut := [], loop := [] }
noncomputable def ct21 : Ct := { ps := [rb], bs := [], pre := fun | [.r l] => areB l | _ => False, res := fun | [.r l] => .ite (decide (l.length ≠ 200)) (.ret (.tup [st, i64]) [] [.li z25, .i 1]) (.ret (.tup [st, i64]) [] [.li (wsN l 200), .i 0]) | _ => noRes }
noncomputable def ct22 : Ct := { ps := [st], bs := [], pre := fun | [.li s] => areW s | _ => False, res := fun | [.li s] => .ret (.agg [.arrI 200 .u8]) [] [.li (bysL s)] | _ => noRes }
def ct23 : Ct := { ps := [rb], bs := [], pre := fun | [.r l] => l.length ≤ 200 ∧ areB l | _ => False, res := fun | [.r l] => .ret st [] [.li (rbN l l.length)] | _ => noRes }
def ann23 : List Dat → Ann
  | [.r l] => ⟨[], [(3, [la 28 [(0, rb), (2, .ptr 0 0), (3, .ptr 1 0), (4, i64)] [q23, q23] (fun | [.r l', .i i, .li _, .li w] => l' = l ∧ -1 ≤ i ∧ i < l.length ∧ w = rbN l (l.length - 1 - i).toNat | _ => False) (fun | [_, .i i, _, _] => (i + 1).toNat | _ => 0)])], []⟩
  | _ => { cut := [], loop := [] }
noncomputable def ct24 : Ct := { ps := [st], bs := [], pre := fun | [.li s] => areW s | _ => False, res := fun | [.li s] => .ret (.own 0) [ob] [.r ((bysL s).map row1)] | _ => noRes }
def sl24 : List (Nat × Pat) := [(1, .ptr 0 0), (3, .own 1), (4, i64)]
def ann24 : List Dat → Ann
  | [.li s] => ⟨[], [(3, [la 28 sl24 [q23, ob] (fun | [.i i, .li s', .r o] => s' = s ∧ 0 ≤ i ∧ i ≤ 25 ∧ o = (bysN (fun i => s.getD i 0) i.toNat).map row1 | _ => False) (fun | [.i i, _, _] => (25 - i).toNat | _ => 0)])],
    [(7, [la 28 (sl24 ++ [(5, u64), (6, i64)]) [q23, ob] anyR noM], fun | [.i i0, .i x0, .i _, .li s0, .r o0] => [la 28 (sl24 ++ [(5, u64), (6, i64)]) [q23, ob]
      (fun | [.i i, .i x, .i k, .li s, .r o] => i = i0 ∧ s = s0 ∧ 0 ≤ k ∧ k ≤ 8 ∧ x = x0 / 256 ^ k.toNat ∧ o = o0 ++ (wbN x0 k.toNat).map row1 | _ => False) (fun | [_, _, .i k, _, _] => (8 - k).toNat | _ => 0)] | _ => [])]⟩
  | _ => { cut := [], loop := [] }
end Go.Proofs.YtganbceicojfmaaDoor

/-
  Conditions of contracts, as the kernel reckons them (printed by a program of ours, checked by the kernel).
-/
namespace Go.Proofs.YtganbceicojfmaaDoor
open Go Go.Avc Go.Proofs
set_option linter.unusedVariables false
set_option maxRecDepth 100000
def P39 : Prop :=
  ∀ (l : List (List CD)),
    l.length ≤ (9223372036854775807 : Nat) →
      l.length ≤ (1000 : Nat) ∧ areB l →
        l.length ≤ (9223372036854775807 : Nat) →
          ((-9223372036854775808 : Int) ≤ (↑l.length : Int) + (7 : Int) ∧ (↑l.length : Int) + (7 : Int) ≤ (9223372036854775807 : Int)) ∧
            ((0 : Int) ≤ (↑l.length : Int) + (7 : Int) ∧ (0 : Int) < (8 : Int) ∧ (↑l.length : Int) + (7 : Int) ≤ Go.IntKind.i64.max) ∧
              ((0 : Int) ≤ ((↑l.length : Int) + (7 : Int)) / (8 : Int) ∧
                  ((↑l.length : Int) + (7 : Int)) / (8 : Int) ≤ ((↑l.length : Int) + (7 : Int)) / (8 : Int) ∧
                    (↑(8 : Nat) : Int) * (((↑l.length : Int) + (7 : Int)) / (8 : Int)) ≤ (140737488355328 : Int) ∧
                      ((↑l.length : Int) + (7 : Int)) / (8 : Int) ≤ (9223372036854775807 : Int)) ∧
                (l.length ≤ (9223372036854775807 : Nat) →
                  ((l = l ∧
                        (↑l.length : Int) = (↑l.length : Int) ∧
                          (0 : Int) ≤ (0 : Int) ∧
                            (0 : Int) ≤ (↑l.length : Int) ∧
                              List.replicate (((↑l.length : Int) + (7 : Int)) / (8 : Int)).toNat [CD.int (0 : Int)] =
                                List.map row1 (wsN l (0 : Nat))) ∧
                      True) ∧
                    ∀ (l_1 : List (List CD)) (n n_1 : Int) (l_2 : List (List CD)),
                      l_1.length ≤ (9223372036854775807 : Nat) →
                        l_2.length ≤ (9223372036854775807 : Nat) →
                          l_1 = l ∧
                              n = (↑l.length : Int) ∧
                                (0 : Int) ≤ n_1 ∧ n_1 ≤ n ∧ l_2 = List.map row1 (wsN l n_1.toNat) →
                            bif decide (n_1 < n) then
                              ((0 : Int) ≤ n_1 ∧ n_1 < (↑l_1.length : Int)) ∧
                                n_1.toNat < l_1.length ∧
                                  ((0 : Int) ≤ n_1 ∧ (0 : Int) < (8 : Int) ∧ n_1 ≤ Go.IntKind.i64.max) ∧
                                    ((0 : Int) ≤ n_1 / (8 : Int) ∧ n_1 / (8 : Int) < (↑l_2.length : Int)) ∧
                                      (n_1 / (8 : Int)).toNat < l_2.length ∧
                                        ((0 : Int) ≤ n_1 ∧ (0 : Int) < (8 : Int)) ∧
                                          ((-9223372036854775808 : Int) ≤ (8 : Int) * (n_1 % (8 : Int)) ∧ (8 : Int) * (n_1 % (8 : Int)) ≤ (9223372036854775807 : Int)) ∧
                                            (0 : Int) ≤ (8 : Int) * (n_1 % (8 : Int)) ∧
                                              ((0 : Int) ≤ n_1 / (8 : Int) ∧ n_1 / (8 : Int) < (↑l_2.length : Int)) ∧
                                                (n_1 / (8 : Int)).toNat < l_2.length ∧
                                                  ((-9223372036854775808 : Int) ≤ n_1 + (1 : Int) ∧ n_1 + (1 : Int) ≤ (9223372036854775807 : Int)) ∧
                                                    (l_1 = l ∧
                                                        n = (↑l.length : Int) ∧
                                                          (0 : Int) ≤ n_1 + (1 : Int) ∧
                                                            n_1 + (1 : Int) ≤ n ∧
                                                              l_2.set (n_1 / (8 : Int)).toNat
                                                                  ((l_2.getD (n_1 / (8 : Int)).toNat []).set (0 : Nat)
                                                                    (CD.int
                                                                      (bOr Go.IntKind.u64
                                                                        ((l_2.getD (n_1 / (8 : Int)).toNat []).getD (0 : Nat) (CD.int (0 : Int))).toInt
                                                                        (bShl Go.IntKind.u64
                                                                          (Go.IntKind.u64.wrap ((l_1.getD n_1.toNat []).getD (0 : Nat) (CD.int (0 : Int))).toInt)
                                                                          ((8 : Int) * (n_1 % (8 : Int))))))) =
                                                                List.map row1 (wsN l (n_1 + (1 : Int)).toNat)) ∧
                                                      (n - (n_1 + (1 : Int))).toNat < (n - n_1).toNat
                            else l_2 = List.map row1 (wsN l l.length))
theorem e39 : ct39.VC (base.with sp18) Tryd.f39.results.toList Tryd.f39.ntmps (Tryd.f39.ntmps - ct39.ps.length) (bodyOf Tryd.f39) ann39 = P39 := by kernel_rfl
noncomputable def sp39 : SpecT := addS sp18 39 (mkF ct39)
def P40 : Prop :=
  ∀ (l : List (List CD)),
    l.length ≤ (9223372036854775807 : Nat) →
      l.length ≤ (1000 : Nat) ∧ areR l →
        l.length ≤ (9223372036854775807 : Nat) →
          ((l = l ∧
                (↑l.length : Int) = (↑l.length : Int) ∧
                  (0 : Int) ≤ (0 : Int) ∧
                    (0 : Int) ≤ (↑l.length : Int) ∧
                      [] = List.map row1 (bysN (rv l) (0 : Nat))) ∧
              True) ∧
            ∀ (l_1 : List (List CD)) (n n_1 : Int) (l_2 : List (List CD)),
              l_1.length ≤ (9223372036854775807 : Nat) →
                l_2.length ≤ (9223372036854775807 : Nat) →
                  l_1 = l ∧
                      n = (↑l.length : Int) ∧
                        (0 : Int) ≤ n_1 ∧
                          n_1 ≤ n ∧ l_2 = List.map row1 (bysN (rv l) n_1.toNat) →
                    bif decide (n_1 < n) then
                      ((0 : Int) ≤ n_1 ∧ n_1 < (↑l_1.length : Int)) ∧
                        n_1.toNat < l_1.length ∧
                          ((l_1 = l_1 ∧
                                n = n ∧
                                  n_1 = n_1 ∧
                                    (0 : Int) ≤ (0 : Int) ∧
                                      (0 : Int) ≤ (8 : Int) ∧
                                        ((l_1.getD n_1.toNat []).getD (0 : Nat) (CD.int (0 : Int))).toInt =
                                            ((l_1.getD n_1.toNat []).getD (0 : Nat) (CD.int (0 : Int))).toInt / (256 : Int) ^ (0 : Nat) ∧
                                          l_2 =
                                            l_2 ++
                                              List.map row1
                                                (wbN ((l_1.getD n_1.toNat []).getD (0 : Nat) (CD.int (0 : Int))).toInt (0 : Nat))) ∧
                              True) ∧
                            ∀ (n_2 : Int) (l_3 : List (List CD)) (n_3 n_4 n_5 : Int) (l_4 : List (List CD)),
                              l_3.length ≤ (9223372036854775807 : Nat) →
                                l_4.length ≤ (9223372036854775807 : Nat) →
                                  l_3 = l_1 ∧
                                      n_3 = n ∧
                                        n_4 = n_1 ∧
                                          (0 : Int) ≤ n_5 ∧
                                            n_5 ≤ (8 : Int) ∧
                                              n_2 = ((l_1.getD n_1.toNat []).getD (0 : Nat) (CD.int (0 : Int))).toInt / (256 : Int) ^ n_5.toNat ∧
                                                l_4 =
                                                  l_2 ++
                                                    List.map row1
                                                      (wbN ((l_1.getD n_1.toNat []).getD (0 : Nat) (CD.int (0 : Int))).toInt n_5.toNat) →
                                    bif decide (n_5 < (8 : Int)) then
                                      ((l_4.length + (1 : Nat)) * (1 : Nat) ≤ (140737488355328 : Nat) ∧ l_4.length + (1 : Nat) ≤ (9223372036854775807 : Nat)) ∧
                                        (0 : Int) ≤ (8 : Int) ∧
                                          ((-9223372036854775808 : Int) ≤ n_5 + (1 : Int) ∧ n_5 + (1 : Int) ≤ (9223372036854775807 : Int)) ∧
                                            (l_3 = l_1 ∧
                                                n_3 = n ∧
                                                  n_4 = n_1 ∧
                                                    (0 : Int) ≤ n_5 + (1 : Int) ∧
                                                      n_5 + (1 : Int) ≤ (8 : Int) ∧
                                                        bShr Go.IntKind.u64 n_2 (8 : Int) =
                                                            ((l_1.getD n_1.toNat []).getD (0 : Nat) (CD.int (0 : Int))).toInt / (256 : Int) ^ (n_5 + (1 : Int)).toNat ∧
                                                          l_4 ++ [[CD.int (Go.IntKind.u8.wrap n_2)]] =
                                                            l_2 ++
                                                              List.map row1
                                                                (wbN ((l_1.getD n_1.toNat []).getD (0 : Nat) (CD.int (0 : Int))).toInt
                                                                  (n_5 + (1 : Int)).toNat)) ∧
                                              ((8 : Int) - (n_5 + (1 : Int))).toNat < ((8 : Int) - n_5).toNat
                                    else
                                      ((-9223372036854775808 : Int) ≤ n_4 + (1 : Int) ∧ n_4 + (1 : Int) ≤ (9223372036854775807 : Int)) ∧
                                        (l_3 = l ∧
                                            n_3 = (↑l.length : Int) ∧
                                              (0 : Int) ≤ n_4 + (1 : Int) ∧
                                                n_4 + (1 : Int) ≤ n_3 ∧
                                                  l_4 =
                                                    List.map row1
                                                      (bysN (rv l) (n_4 + (1 : Int)).toNat)) ∧
                                          (n_3 - (n_4 + (1 : Int))).toNat < (n - n_1).toNat
                    else l_2 = List.map row1 (bysN (rv l) l.length)
theorem e40 : ct40.VC (base.with sp39) Tryd.f40.results.toList Tryd.f40.ntmps (Tryd.f40.ntmps - ct40.ps.length) (bodyOf Tryd.f40) ann40 = P40 := by kernel_rfl
noncomputable def sp40 : SpecT := addS sp39 40 (mkF ct40)
def P21 : Prop :=
  ∀ (l : List (List CD)),
    l.length ≤ (9223372036854775807 : Nat) →
      areB l →
        l.length ≤ (9223372036854775807 : Nat) →
          bif decide ((↑l.length : Int) ≠ (200 : Int)) then
            bif decide (l.length ≠ (200 : Nat)) then
              [(0 : Int), (0 : Int), (0 : Int), (0 : Int), (0 : Int), (0 : Int), (0 : Int), (0 : Int), (0 : Int), (0 : Int), (0 : Int), (0 : Int), (0 : Int), (0 : Int), (0 : Int),
                    (0 : Int), (0 : Int), (0 : Int), (0 : Int), (0 : Int), (0 : Int), (0 : Int), (0 : Int), (0 : Int), (0 : Int)] =
                  z25 ∧
                (1 : Int) = (1 : Int)
            else
              [(0 : Int), (0 : Int), (0 : Int), (0 : Int), (0 : Int), (0 : Int), (0 : Int), (0 : Int), (0 : Int), (0 : Int), (0 : Int), (0 : Int), (0 : Int), (0 : Int), (0 : Int),
                    (0 : Int), (0 : Int), (0 : Int), (0 : Int), (0 : Int), (0 : Int), (0 : Int), (0 : Int), (0 : Int), (0 : Int)] =
                  wsN l (200 : Nat) ∧
                (1 : Int) = (0 : Int)
          else
            (l.length ≤ (1000 : Nat) ∧ areB l) ∧
              (25 : Nat) ≤ (List.map row1 (wsN l l.length)).length ∧
                (25 : Nat) ≤ (List.map row1 (wsN l l.length)).length ∧
                  bif decide (l.length ≠ (200 : Nat)) then
                    List.map (fun r => (r.getD (0 : Nat) (CD.int (0 : Int))).toInt)
                          (List.take (25 : Nat) (List.drop (0 : Nat) (List.map row1 (wsN l l.length)))) =
                        z25 ∧
                      (0 : Int) = (1 : Int)
                  else
                    List.map (fun r => (r.getD (0 : Nat) (CD.int (0 : Int))).toInt)
                          (List.take (25 : Nat) (List.drop (0 : Nat) (List.map row1 (wsN l l.length)))) =
                        wsN l (200 : Nat) ∧
                      (0 : Int) = (0 : Int)
theorem e21 : ct21.VC (base.with sp40) Tryd.f21.results.toList Tryd.f21.ntmps (Tryd.f21.ntmps - ct21.ps.length) (bodyOf Tryd.f21) noAnn = P21 := by kernel_rfl
noncomputable def sp21 : SpecT := addS sp40 21 (mkF ct21)
def P22 : Prop :=
  ∀ (l : List Int),
    l.length = (25 : Nat) →
      areW l →
        ((0 : Int) ≤ (0 : Int) ∧ (0 : Int) ≤ (↑(25 : Nat) : Int) ∧ (↑(25 : Nat) : Int) ≤ (↑(25 : Nat) : Int) ∧ (0 : Int) < (↑(25 : Nat) : Int)) ∧
          ((List.map (fun x => [CD.int x]) (List.take (25 : Nat) (List.drop (0 : Nat) l))).length ≤ (1000 : Nat) ∧
              areR (List.map (fun x => [CD.int x]) (List.take (25 : Nat) (List.drop (0 : Nat) l)))) ∧
            (200 : Nat) ≤
                (List.map row1
                    (bysN (rv (List.map (fun x => [CD.int x]) (List.take (25 : Nat) (List.drop (0 : Nat) l))))
                      (List.map (fun x => [CD.int x]) (List.take (25 : Nat) (List.drop (0 : Nat) l))).length)).length ∧
              (200 : Nat) ≤
                  (List.map row1
                      (bysN (rv (List.map (fun x => [CD.int x]) (List.take (25 : Nat) (List.drop (0 : Nat) l))))
                        (List.map (fun x => [CD.int x]) (List.take (25 : Nat) (List.drop (0 : Nat) l))).length)).length ∧
                List.map (fun r => (r.getD (0 : Nat) (CD.int (0 : Int))).toInt)
                    (List.take (200 : Nat)
                      (List.drop (0 : Nat)
                        (List.map row1
                          (bysN
                            (rv (List.map (fun x => [CD.int x]) (List.take (25 : Nat) (List.drop (0 : Nat) l))))
                            (List.map (fun x => [CD.int x]) (List.take (25 : Nat) (List.drop (0 : Nat) l))).length)))) =
                  bysL l
theorem e22 : ct22.VC (base.with sp21) Tryd.f22.results.toList Tryd.f22.ntmps (Tryd.f22.ntmps - ct22.ps.length) (bodyOf Tryd.f22) noAnn = P22 := by kernel_rfl
noncomputable def sp22 : SpecT := addS sp21 22 (mkF ct22)
def P23 : Prop :=
  ∀ (l : List (List CD)),
    l.length ≤ (9223372036854775807 : Nat) →
      l.length ≤ (200 : Nat) ∧ areB l →
        l.length ≤ (9223372036854775807 : Nat) →
          ((-9223372036854775808 : Int) ≤ (↑l.length : Int) - (1 : Int) ∧ (↑l.length : Int) - (1 : Int) ≤ (9223372036854775807 : Int)) ∧
            ((l = l ∧
                  (-1 : Int) ≤ (↑l.length : Int) - (1 : Int) ∧
                    (↑l.length : Int) - (1 : Int) < (↑l.length : Int) ∧
                      [(0 : Int), (0 : Int), (0 : Int), (0 : Int), (0 : Int), (0 : Int), (0 : Int), (0 : Int), (0 : Int), (0 : Int), (0 : Int), (0 : Int), (0 : Int), (0 : Int),
                          (0 : Int), (0 : Int), (0 : Int), (0 : Int), (0 : Int), (0 : Int), (0 : Int), (0 : Int), (0 : Int), (0 : Int), (0 : Int)] =
                        rbN l ((↑l.length : Int) - (1 : Int) - ((↑l.length : Int) - (1 : Int))).toNat) ∧
                True) ∧
              ∀ (l_1 : List (List CD)) (n : Int) (l_2 l_3 : List Int),
                l_1.length ≤ (9223372036854775807 : Nat) →
                  l_2.length = (25 : Nat) →
                    l_3.length = (25 : Nat) →
                      l_1 = l ∧ (-1 : Int) ≤ n ∧ n < (↑l.length : Int) ∧ l_3 = rbN l ((↑l.length : Int) - (1 : Int) - n).toNat →
                        bif decide ((0 : Int) ≤ n) then
                          ((0 : Int) ≤ n ∧ (0 : Int) < (8 : Int) ∧ n ≤ Go.IntKind.i64.max) ∧
                            ((0 : Int) ≤ n ∧ (0 : Int) < (8 : Int) ∧ n ≤ Go.IntKind.i64.max) ∧
                              ((0 : Int) ≤ n / (8 : Int) ∧ n / (8 : Int) < (↑(25 : Nat) : Int)) ∧
                                (n / (8 : Int)).toNat * (1 : Nat) < (25 : Nat) ∧
                                  ((0 : Int) ≤ n ∧ n < (↑l_1.length : Int)) ∧
                                    n.toNat < l_1.length ∧
                                      ((0 : Int) ≤ n / (8 : Int) ∧ n / (8 : Int) < (↑(25 : Nat) : Int)) ∧
                                        (n / (8 : Int)).toNat * (1 : Nat) < (25 : Nat) ∧
                                          ((-9223372036854775808 : Int) ≤ n - (1 : Int) ∧ n - (1 : Int) ≤ (9223372036854775807 : Int)) ∧
                                            (l_1 = l ∧
                                                (-1 : Int) ≤ n - (1 : Int) ∧
                                                  n - (1 : Int) < (↑l.length : Int) ∧
                                                    l_3.set ((n / (8 : Int)).toNat * (1 : Nat))
                                                        (Go.IntKind.u64.wrap
                                                          (Go.IntKind.u64.wrap (l_3.getD ((n / (8 : Int)).toNat * (1 : Nat)) (0 : Int) * (256 : Int)) +
                                                            Go.IntKind.u64.wrap ((l_1.getD n.toNat []).getD (0 : Nat) (CD.int (0 : Int))).toInt)) =
                                                      rbN l ((↑l.length : Int) - (1 : Int) - (n - (1 : Int))).toNat) ∧
                                              (n - (1 : Int) + (1 : Int)).toNat < (n + (1 : Int)).toNat
                        else l_3 = rbN l l.length
theorem e23 : ct23.VC (base.with sp22) Tryd.f23.results.toList Tryd.f23.ntmps (Tryd.f23.ntmps - ct23.ps.length) (bodyOf Tryd.f23) ann23 = P23 := by kernel_rfl
noncomputable def sp23 : SpecT := addS sp22 23 (mkF ct23)
def P24 : Prop :=
  ∀ (l : List Int),
    l.length = (25 : Nat) →
      areW l →
        ((l = l ∧
              (0 : Int) ≤ (0 : Int) ∧
                (0 : Int) ≤ (25 : Int) ∧ [] = List.map row1 (bysN (fun i => l.getD i (0 : Int)) (0 : Nat))) ∧
            True) ∧
          ∀ (n : Int) (l_1 : List Int) (l_2 : List (List CD)),
            l_1.length = (25 : Nat) →
              l_2.length ≤ (9223372036854775807 : Nat) →
                l_1 = l ∧
                    (0 : Int) ≤ n ∧ n ≤ (25 : Int) ∧ l_2 = List.map row1 (bysN (fun i => l.getD i (0 : Int)) n.toNat) →
                  bif decide (n < (25 : Int)) then
                    ((0 : Int) ≤ n ∧ n < (↑(25 : Nat) : Int)) ∧
                      n.toNat * (1 : Nat) < (25 : Nat) ∧
                        ((n = n ∧
                              l_1 = l_1 ∧
                                (0 : Int) ≤ (0 : Int) ∧
                                  (0 : Int) ≤ (8 : Int) ∧
                                    l_1.getD (n.toNat * (1 : Nat)) (0 : Int) = l_1.getD (n.toNat * (1 : Nat)) (0 : Int) / (256 : Int) ^ (0 : Nat) ∧
                                      l_2 =
                                        l_2 ++
                                          List.map row1 (wbN (l_1.getD (n.toNat * (1 : Nat)) (0 : Int)) (0 : Nat))) ∧
                            True) ∧
                          ∀ (n_1 n_2 n_3 : Int) (l_3 : List Int) (l_4 : List (List CD)),
                            l_3.length = (25 : Nat) →
                              l_4.length ≤ (9223372036854775807 : Nat) →
                                n_1 = n ∧
                                    l_3 = l_1 ∧
                                      (0 : Int) ≤ n_3 ∧
                                        n_3 ≤ (8 : Int) ∧
                                          n_2 = l_1.getD (n.toNat * (1 : Nat)) (0 : Int) / (256 : Int) ^ n_3.toNat ∧
                                            l_4 =
                                              l_2 ++
                                                List.map row1
                                                  (wbN (l_1.getD (n.toNat * (1 : Nat)) (0 : Int)) n_3.toNat) →
                                  bif decide (n_3 < (8 : Int)) then
                                    ((0 : Int) ≤ n_2 ∧ (0 : Int) < (256 : Int)) ∧
                                      ((l_4.length + (1 : Nat)) * (1 : Nat) ≤ (140737488355328 : Nat) ∧ l_4.length + (1 : Nat) ≤ (9223372036854775807 : Nat)) ∧
                                        ((0 : Int) ≤ n_2 ∧ (0 : Int) < (256 : Int) ∧ n_2 ≤ Go.IntKind.u64.max) ∧
                                          ((-9223372036854775808 : Int) ≤ n_3 + (1 : Int) ∧ n_3 + (1 : Int) ≤ (9223372036854775807 : Int)) ∧
                                            (n_1 = n ∧
                                                l_3 = l_1 ∧
                                                  (0 : Int) ≤ n_3 + (1 : Int) ∧
                                                    n_3 + (1 : Int) ≤ (8 : Int) ∧
                                                      n_2 / (256 : Int) = l_1.getD (n.toNat * (1 : Nat)) (0 : Int) / (256 : Int) ^ (n_3 + (1 : Int)).toNat ∧
                                                        l_4 ++ [[CD.int (Go.IntKind.u8.wrap (n_2 % (256 : Int)))]] =
                                                          l_2 ++
                                                            List.map row1
                                                              (wbN (l_1.getD (n.toNat * (1 : Nat)) (0 : Int)) (n_3 + (1 : Int)).toNat)) ∧
                                              ((8 : Int) - (n_3 + (1 : Int))).toNat < ((8 : Int) - n_3).toNat
                                  else
                                    ((-9223372036854775808 : Int) ≤ n_1 + (1 : Int) ∧ n_1 + (1 : Int) ≤ (9223372036854775807 : Int)) ∧
                                      (l_3 = l ∧
                                          (0 : Int) ≤ n_1 + (1 : Int) ∧
                                            n_1 + (1 : Int) ≤ (25 : Int) ∧
                                              l_4 =
                                                List.map row1
                                                  (bysN (fun i => l.getD i (0 : Int)) (n_1 + (1 : Int)).toNat)) ∧
                                        ((25 : Int) - (n_1 + (1 : Int))).toNat < ((25 : Int) - n).toNat
                  else l_2 = List.map row1 (bysL l)
theorem e24 : ct24.VC (base.with sp23) Tryd.f24.results.toList Tryd.f24.ntmps (Tryd.f24.ntmps - ct24.ps.length) (bodyOf Tryd.f24) ann24 = P24 := by kernel_rfl
noncomputable def sp24 : SpecT := addS sp23 24 (mkF ct24)
end Go.Proofs.YtganbceicojfmaaDoor

/-
  The conditions of the functions on bytes and words are met.
-/
namespace Go.Proofs.YtganbceicojfmaaDoor
open Go Go.Avc Go.Proofs
set_option linter.unusedVariables false
set_option linter.unusedSimpArgs false
set_option maxRecDepth 100000
theorem row1_get {L : List Int} {i : Nat} (h : i < L.length) : (L.map row1).getD i [] = [.int (L.getD i 0)] := by
  rw [List.getD_eq_getElem?_getD, List.getElem?_map, List.getD_eq_getElem?_getD, List.getElem?_eq_getElem h]; rfl
theorem rv_row1 (L : List Int) (i : Nat) : rv (L.map row1) i = L.getD i 0 := by
  unfold rv
  rcases Nat.lt_or_ge i L.length with h | h
  · rw [row1_get h]; rfl
  · have e1 : (L.map row1).getD i [] = [] := by rw [List.getD_eq_getElem?_getD, List.getElem?_map, List.getElem?_eq_none h]; rfl
    have e2 : L.getD i 0 = 0 := by rw [List.getD_eq_getElem?_getD, List.getElem?_eq_none h]; rfl
    rw [e1, e2]; rfl
theorem row1_set (L : List Int) (i : Nat) (x : Int) : (L.map row1).set i [.int x] = (L.set i x).map row1 := by
  rw [List.map_set]; rfl
theorem row1_back (L : List Int) : (L.map row1).map (fun r => (r.getD 0 (CD.int 0)).toInt) = L := by
  rw [List.map_map]
  have : ((fun r : List CD => (r.getD 0 (CD.int 0)).toInt) ∘ row1) = id := by funext x; rfl
  rw [this, List.map_id]
theorem row1_whole {L : List Int} {n : Nat} (h : L.length = n) : List.map (fun r => (r.getD 0 (CD.int 0)).toInt) (List.take n (List.drop 0 (L.map row1))) = L := by
  rw [List.drop_zero, List.take_of_length_le (by simp [h]), row1_back]
theorem ws_len (l : List (List CD)) : ∀ n, (wsN l n).length = (l.length + 7) / 8
  | 0 => by rw [wsN, List.length_replicate]
  | n + 1 => by rw [wsN, List.length_set, ws_len l n]
theorem rb_len (l : List (List CD)) : ∀ n, (rbN l n).length = 25
  | 0 => by rw [rbN, List.length_replicate]
  | n + 1 => by rw [rbN, List.length_set, rb_len l n]
theorem wb_len (w : Int) : ∀ n, (wbN w n).length = n
  | 0 => rfl
  | n + 1 => by rw [wbN, List.length_append, wb_len w n]; rfl
theorem bys_len (f : Nat → Int) : ∀ n, (bysN f n).length = 8 * n
  | 0 => rfl
  | n + 1 => by rw [bysN, List.length_append, bys_len f n, wb_len]; omega
theorem pow_256 (n : Nat) (v : Int) : v / 256 ^ n / 256 = v / 256 ^ (n + 1) := by
  rw [Int.pow_succ, Int.ediv_ediv_of_nonneg (Int.le_of_lt (Int.pow_pos (by decide)))]
theorem wrap_u8 (n : Int) : IntKind.u8.wrap n = n % 256 := by
  simp [IntKind.wrap, IntKind.signed, IntKind.bits]
theorem shr8 (x : Int) : bShr .u64 x 8 = x / 256 := by
  unfold bShr
  rw [show (2 : Int) ^ min (8 : Int).toNat (IntKind.bits .u64) = 256 from by decide, Int.fdiv_eq_ediv_of_nonneg _ (by decide)]
theorem div_le {v : Int} (h : 0 ≤ v) (n : Nat) : 0 ≤ v / 256 ^ n ∧ v / 256 ^ n ≤ v :=
  ⟨Int.ediv_nonneg h (Int.le_of_lt (Int.pow_pos (by decide))), Int.ediv_le_self _ h⟩
theorem rv_def (l : List (List CD)) (i : Nat) : ((l.getD i []).getD 0 (CD.int 0)).toInt = rv l i := rfl
theorem i64max : IntKind.max .i64 = 9223372036854775807 := by decide
theorem u64max : IntKind.max .u64 = 18446744073709551615 := by decide
theorem vc39 : P39 := by
  rintro l _ ⟨hl, hb⟩ _
  have e0 : (((l.length : Int) + 7) / 8).toNat = (l.length + 7) / 8 := by omega
  rw [i64max, e0]
  refine ⟨by omega, by omega, by omega, fun _ => ⟨⟨⟨rfl, rfl, by omega, by omega, ?_⟩, trivial⟩, ?_⟩⟩
  · rw [wsN, List.map_replicate]; rfl
  rintro l1 n i' w _ _ ⟨rfl, rfl, h0, h1, hw⟩
  obtain ⟨i, rfl⟩ := ex_nat h0
  rw [Int.toNat_natCast] at hw
  have hwl : w.length = (l1.length + 7) / 8 := by rw [hw, List.length_map, ws_len]
  refine condI (fun h => ?_) fun h => ?_
  · simp only [decide_eq_true_eq] at h
    have e1 : ((i : Int) / 8).toNat = i / 8 := by omega
    simp only [Int.toNat_natCast, e1, suc_nat]
    have hi : i / 8 < (wsN l1 i).length := by rw [ws_len]; omega
    refine ⟨by omega, by omega, by omega, by omega, by omega, by omega, by omega, by omega, by omega, by omega, by omega, ⟨by trivial, by trivial, by omega, by omega, ?_⟩, by omega⟩
    rw [hw, row1_get hi]
    show ((wsN l1 i).map row1).set (i / 8) [CD.int _] = _
    rw [row1_set, wsN]
    have e2 : (8 : Int) * ((i : Int) % 8) = ((8 * (i % 8) : Nat) : Int) := by omega
    rw [e2]; rfl
  · simp only [decide_eq_false_iff_not] at h
    have hi : i = l1.length := by omega
    subst hi
    exact hw
theorem ok39 : SpecOk (base.with sp18) 39 (mkF ct39) := spec_ct (fn := Tryd.f39) (c := bodyOf Tryd.f39) (k := Tryd.f39.ntmps - ct39.ps.length) (ct := ct39) c18 Tryd.func39 (by kernel_rfl) ann39 (by kernel_rfl) (fun vs w _ => Tryd.call39 vs w) (e39.mpr vc39)
theorem c39 : (base.with sp39).Ok := addS_ok c18 ok39
theorem vc40 : P40 := by
  rintro l _ ⟨hl, hb⟩ _
  refine ⟨⟨⟨rfl, rfl, by omega, by omega, rfl⟩, trivial⟩, ?_⟩
  rintro l1 n i' o _ _ ⟨rfl, rfl, h0, h1, ho⟩
  obtain ⟨i, rfl⟩ := ex_nat h0
  simp only [Int.toNat_natCast] at ho ⊢
  rw [rv_def]
  have hol : o.length = 8 * i := by rw [ho, List.length_map, bys_len]
  have hx := hb i
  generalize hX : rv l1 i = X at *
  refine condI (fun h => ?_) fun h => ?_
  · simp only [decide_eq_true_eq] at h
    refine ⟨by omega, by omega, ⟨⟨by trivial, by trivial, by trivial, by omega, by omega, (Int.ediv_one _).symm, by rw [wbN]; simp⟩, trivial⟩, ?_⟩
    rintro x l2 n i' k' o2 _ _ ⟨rfl, rfl, rfl, h2, h3, rfl, ho2⟩
    obtain ⟨k, rfl⟩ := ex_nat h2
    simp only [Int.toNat_natCast] at ho2 ⊢
    have ho2l : o2.length = 8 * i + k := by rw [ho2, List.length_append, List.length_map, wb_len, hol]
    refine condI (fun h4 => ?_) fun h4 => ?_
    · simp only [decide_eq_true_eq] at h4
      rw [suc_nat]
      refine ⟨by omega, by omega, by omega, ⟨by trivial, by trivial, by trivial, by omega, by omega, by rw [shr8, pow_256], ?_⟩, by omega⟩
      rw [ho2, wbN, List.map_append, ← List.append_assoc, wrap_u8]; rfl
    · simp only [decide_eq_false_iff_not] at h4
      have hk : k = 8 := by omega
      subst hk
      refine ⟨by omega, ⟨by trivial, by trivial, by omega, by omega, ?_⟩, by omega⟩
      rw [suc_nat, bysN, List.map_append, ho2, ho, hX]
  · simp only [decide_eq_false_iff_not] at h
    have hi : i = l1.length := by omega
    subst hi
    exact ho
theorem ok40 : SpecOk (base.with sp39) 40 (mkF ct40) := spec_ct (fn := Tryd.f40) (c := bodyOf Tryd.f40) (k := Tryd.f40.ntmps - ct40.ps.length) (ct := ct40) c39 Tryd.func40 (by kernel_rfl) ann40 (by kernel_rfl) (fun vs w _ => Tryd.call40 vs w) (e40.mpr vc40)
theorem c40 : (base.with sp40).Ok := addS_ok c39 ok40
theorem vc21 : P21 := by
  rintro l _ hb _
  refine condI (fun h => ?_) fun h => ?_
  · simp only [decide_eq_true_eq] at h
    refine condI (fun _ => ⟨z25_eq.symm, rfl⟩) fun h2 => ?_
    simp only [decide_eq_false_iff_not] at h2
    omega
  · simp only [decide_eq_false_iff_not] at h
    have hl : l.length = 200 := by omega
    have hw : (wsN l l.length).length = 25 := by rw [ws_len, hl]
    refine ⟨⟨by omega, hb⟩, by rw [List.length_map]; omega, by rw [List.length_map]; omega, ?_⟩
    rw [row1_whole hw]
    refine condI (fun h2 => ?_) fun _ => ⟨by rw [hl], rfl⟩
    simp only [decide_eq_true_eq] at h2
    omega
theorem ok21 : SpecOk (base.with sp40) 21 (mkF ct21) := spec_ct (fn := Tryd.f21) (c := bodyOf Tryd.f21) (k := Tryd.f21.ntmps - ct21.ps.length) (ct := ct21) c40 Tryd.func21 (by kernel_rfl) noAnn (by kernel_rfl) (fun vs w _ => Tryd.call21 vs w) (e21.mpr vc21)
theorem c21 : (base.with sp21).Ok := addS_ok c40 ok21
theorem rv_map (s : List Int) : rv (List.map (fun x => [CD.int x]) s) = fun i => s.getD i 0 := by
  funext i; exact rv_row1 s i
theorem vc22 : P22 := by
  rintro s hs hw
  rw [List.drop_zero, List.take_of_length_le (by omega), rv_map, List.length_map, hs]
  have h8 : (bysN (fun i => s.getD i 0) 25).length = 200 := bys_len _ 25
  refine ⟨by omega, ⟨by omega, fun i => ?_⟩, by rw [List.length_map]; omega, by rw [List.length_map]; omega, (row1_whole h8).trans (bysL_eq s).symm⟩
  rw [rv_map]; exact hw i
theorem ok22 : SpecOk (base.with sp21) 22 (mkF ct22) := spec_ct (fn := Tryd.f22) (c := bodyOf Tryd.f22) (k := Tryd.f22.ntmps - ct22.ps.length) (ct := ct22) c21 Tryd.func22 (by kernel_rfl) noAnn (by kernel_rfl) (fun vs w _ => Tryd.call22 vs w) (e22.mpr vc22)
theorem c22 : (base.with sp22).Ok := addS_ok c21 ok22
theorem vc23 : P23 := by
  rintro l _ ⟨hl, hb⟩ _
  refine ⟨by omega, ⟨⟨rfl, by omega, by omega, ?_⟩, trivial⟩, ?_⟩
  · rw [show ((l.length : Int) - 1 - ((l.length : Int) - 1)).toNat = 0 from by omega]; rfl
  rintro l1 n _ w _ _ hwl ⟨rfl, h0, h1, hw⟩
  refine condI (fun h => ?_) fun h => ?_
  · simp only [decide_eq_true_eq] at h
    obtain ⟨i, rfl⟩ := ex_nat h
    have e1 : ((i : Int) / 8).toNat = i / 8 := by omega
    have e2 : ((l1.length : Int) - 1 - (i : Int)).toNat = l1.length - 1 - i := by omega
    have e3 : ((l1.length : Int) - 1 - ((i : Int) - 1)).toNat = (l1.length - 1 - i) + 1 := by omega
    rw [e2] at hw
    rw [i64max]
    simp only [Int.toNat_natCast, e1, e3, Nat.mul_one]
    refine ⟨by omega, by omega, by omega, by omega, by omega, by omega, by omega, by omega, by omega, ⟨by trivial, by omega, by omega, ?_⟩, by omega⟩
    rw [rv_def, rbN, show l1.length - 1 - (l1.length - 1 - i) = i from by omega, ← hw]
  · simp only [decide_eq_false_iff_not] at h
    have hn : n = -1 := by omega
    subst hn
    rw [hw]
    congr 1
    omega
theorem ok23 : SpecOk (base.with sp22) 23 (mkF ct23) := spec_ct (fn := Tryd.f23) (c := bodyOf Tryd.f23) (k := Tryd.f23.ntmps - ct23.ps.length) (ct := ct23) c22 Tryd.func23 (by kernel_rfl) ann23 (by kernel_rfl) (fun vs w _ => Tryd.call23 vs w) (e23.mpr vc23)
theorem c23 : (base.with sp23).Ok := addS_ok c22 ok23
theorem vc24 : P24 := by
  rintro s hs hw
  refine ⟨⟨⟨rfl, by omega, by omega, rfl⟩, trivial⟩, ?_⟩
  rintro i' s1 o _ _ ⟨rfl, h0, h1, ho⟩
  obtain ⟨i, rfl⟩ := ex_nat h0
  simp only [Int.toNat_natCast, Nat.mul_one] at ho ⊢
  have hol : o.length = 8 * i := by rw [ho, List.length_map, bys_len]
  have hx := hw i
  refine condI (fun h => ?_) fun h => ?_
  · simp only [decide_eq_true_eq] at h
    generalize hX : s1.getD i 0 = X at *
    refine ⟨by omega, by omega, ⟨⟨by trivial, by trivial, by omega, by omega, (Int.ediv_one _).symm, by rw [wbN]; simp⟩, trivial⟩, ?_⟩
    rintro i' x k' s2 o2 _ _ ⟨rfl, rfl, h2, h3, rfl, ho2⟩
    obtain ⟨k, rfl⟩ := ex_nat h2
    simp only [Int.toNat_natCast] at ho2 ⊢
    have ho2l : o2.length = 8 * i + k := by rw [ho2, List.length_append, List.length_map, wb_len, hol]
    have hd := div_le hx.1 k
    have hx2 := hx.2
    refine condI (fun h4 => ?_) fun h4 => ?_
    · simp only [decide_eq_true_eq] at h4
      rw [suc_nat, u64max]
      refine ⟨by omega, by omega, by omega, by omega, ⟨by trivial, by trivial, by omega, by omega, by rw [pow_256], ?_⟩, by omega⟩
      rw [ho2, wbN, List.map_append, ← List.append_assoc, wrap_u8, Int.emod_emod_of_dvd _ (Int.dvd_refl _)]; rfl
    · simp only [decide_eq_false_iff_not] at h4
      have hk : k = 8 := by omega
      subst hk
      refine ⟨by omega, ⟨by trivial, by omega, by omega, ?_⟩, by omega⟩
      rw [suc_nat, bysN, List.map_append, ho2, ho, hX]
  · simp only [decide_eq_false_iff_not] at h
    have hi : i = 25 := by omega
    subst hi
    rw [bysL_eq]; exact ho
theorem ok24 : SpecOk (base.with sp23) 24 (mkF ct24) := spec_ct (fn := Tryd.f24) (c := bodyOf Tryd.f24) (k := Tryd.f24.ntmps - ct24.ps.length) (ct := ct24) c23 Tryd.func24 (by kernel_rfl) ann24 (by kernel_rfl) (fun vs w _ => Tryd.call24 vs w) (e24.mpr vc24)
theorem c24 : (base.with sp24).Ok := addS_ok c23 ok24
end Go.Proofs.YtganbceicojfmaaDoor
