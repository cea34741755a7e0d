/-
  The reference's steps on bits: what they compute, loop by loop; contracts.
-/
import Derived.Test.YtganbceicojfmaaDoorL3
namespace Go.Proofs.YtganbceicojfmaaDoor
open Go.Avc
set_option linter.unusedVariables false
abbrev s30 : Pat := .agg [.arrB 1600]
abbrev q30 : BPat := .cells 30 [.arrB 1600]
abbrev q23 : BPat := .cells 23 [a25]
abbrev q28 : BPat := .cells 28 [.arrB 320]
/-- What nobody is to reckon out. -/
noncomputable def hid {α : Type} (x : α) : α := Classical.choose (⟨x, rfl⟩ : ∃ y : α, y = x)
theorem hid_eq {α : Type} (x : α) : hid x = x := Classical.choose_spec (⟨x, rfl⟩ : ∃ y : α, y = x)
/-- Places are written one behind the other. -/
def fillN (f : Nat → Nat) (g : Nat → Bool) (l : List Bool) : Nat → List Bool
  | 0 => l
  | n + 1 => (fillN f g l n).set (f n) (g n)
def fill2 (f : Nat → Nat → Nat) (g : Nat → Nat → Bool) (m : Nat) (l : List Bool) : Nat → List Bool
  | 0 => l
  | n + 1 => fillN (f n) (g n) (fill2 f g m l n) m
def fill3 (f : Nat → Nat → Nat → Nat) (g : Nat → Nat → Nat → Bool) (k m : Nat) (l : List Bool) : Nat → List Bool
  | 0 => l
  | n + 1 => fill2 (f n) (g n) m (fill3 f g k m l n) k
def zB : List Bool := List.replicate 1600 false
def at3 (x y z : Nat) : Nat := x * 320 + y * 64 + z
def gb (a : List Bool) (k : Nat) : Bool := a.getD k false
/-! chi -/
def chV (a : List Bool) (x y z : Nat) : Bool := gb a (at3 x y z) != (!gb a (at3 ((x + 1) % 5) y z) && gb a (at3 ((x + 2) % 5) y z))
def chiB (a : List Bool) : List Bool := fill3 at3 (chV a) 5 64 zB 5
/-! pi -/
def lanes (t l : List Bool) (i : Nat) : List Bool := t.take i ++ l ++ t.drop (i + 64)
def lane (a : List Bool) (i : Nat) : List Bool := (a.drop i).take 64
def piY (a : List Bool) (x : Nat) (t : List Bool) : Nat → List Bool
  | 0 => t
  | n + 1 => lanes (piY a x t n) (lane a (x * 320 + n * 64)) (n * 320 + (2 * x + 3 * n) % 5 * 64)
def piX (a : List Bool) (t : List Bool) : Nat → List Bool
  | 0 => t
  | n + 1 => piY a n (piX a t n) 5
def piB (a : List Bool) : List Bool := piX a zB 5
/-! rho -/
def rhZ (a : List Bool) (t : Nat) (l : List Bool) (n : Nat) : List Bool :=
  fillN (fun z => at3 (xyN t).1 (xyN t).2 ((z + (t + 1) * (t + 2) / 2) % 64)) (fun z => gb a (at3 (xyN t).1 (xyN t).2 z)) l n
def rhN (a : List Bool) : Nat → List Bool
  | 0 => lanes zB (lane a 0) 0
  | n + 1 => rhZ a n (rhN a n) 64
def rhoB (a : List Bool) : List Bool := rhN a 24
/-! theta -/
def cnt (a : List Bool) (x z : Nat) : Nat → Int
  | 0 => 0
  | n + 1 => if gb a (at3 x n z) = true then cnt a x z n + 1 else cnt a x z n
def parB (a : List Bool) : List Bool := fill2 (fun x z => x * 64 + z) (fun x z => decide (cnt a x z 5 % 2 = 1)) 64 (List.replicate 320 false) 5
def thV (a p : List Bool) (x y z : Nat) : Bool := gb a (at3 x y z) != (gb p ((x + 4) % 5 * 64 + z) != gb p ((x + 1) % 5 * 64 + (z + 63) % 64))
def thetaB (a : List Bool) : List Bool := fill3 at3 (thV a (parB a)) 5 64 zB 5
/-! a round -/
def addC (a c : List Bool) : Nat → List Bool
  | 0 => a
  | n + 1 => (addC a c n).set n (gb (addC a c n) n != gb c n)
def roundB (a : List Bool) (r : Int) : List Bool := addC (chiB (piB (rhoB (thetaB a)))) (cbits r) 64
def ofW (s : List Int) : List Bool := fill2 (fun i z => at3 (i % 5) (i / 5) z) (fun i z => bt (s.getD i 0) z) 64 zB 25
def wv (a : List Bool) (i : Nat) : Nat → Nat
  | 0 => 0
  | n + 1 => 2 * wv a i n + (if gb a (at3 (i % 5) (i / 5) (63 - n)) = true then 1 else 0)
def wdN (a : List Bool) : Nat → List Int
  | 0 => List.replicate 25 0
  | n + 1 => (wdN a n).set n (wv a n 64 : Nat)
noncomputable def toW (a : List Bool) : List Int := hid (wdN a 25)
def permB (a : List Bool) : Nat → List Bool
  | 0 => a
  | n + 1 => roundB (permB a n) n
noncomputable def permR (s : List Int) : List Int := hid (toW (permB (ofW s) 24))
/-- All are words. -/
def areW (s : List Int) : Prop := ∀ j, isW (s.getD j 0)

/-! ### Contracts -/
def sl3 : List (Nat × Pat) := [(1, .ptr 0 0), (2, .ptr 1 0), (3, .ptr 2 0), (4, i64)]
def anyR : List Dat → Prop := fun _ => True
def noM : List Dat → Nat := fun _ => 0
def ct31 : Ct := { ps := [s30], bs := [], pre := fun _ => True, res := fun | [.lb a] => .ret s30 [] [.lb (chiB a)] | _ => noRes }
def ann31 : List Dat → Ann
  | [.lb a] => ⟨[], [(3, [la 56 sl3 [q30, q30, q30] (fun | [.i x, .lb a', .lb _, .lb t] => a' = a ∧ 0 ≤ x ∧ x ≤ 5 ∧ t = fill3 at3 (chV a) 5 64 zB x.toNat | _ => False) (fun | [.i x, _, _, _] => (5 - x).toNat | _ => 0)])],
    [(6, [la 56 (sl3 ++ [(5, i64)]) [q30, q30, q30] anyR noM], fun | [.i x0, .i _, .lb a0, .lb _, .lb t0] => [la 56 (sl3 ++ [(5, i64)]) [q30, q30, q30]
      (fun | [.i x, .i y, .lb a', .lb _, .lb t] => x = x0 ∧ a' = a0 ∧ 0 ≤ y ∧ y ≤ 5 ∧ t = fill2 (at3 x0.toNat) (chV a0 x0.toNat) 64 t0 y.toNat | _ => False) (fun | [_, .i y, _, _, _] => (5 - y).toNat | _ => 0)] | _ => []),
     (9, [la 56 (sl3 ++ [(5, i64), (6, i64)]) [q30, q30, q30] anyR noM], fun | [.i x0, .i y0, .i _, .lb a0, .lb _, .lb t0] => [la 56 (sl3 ++ [(5, i64), (6, i64)]) [q30, q30, q30]
      (fun | [.i x, .i y, .i z, .lb a', .lb _, .lb t] => x = x0 ∧ y = y0 ∧ a' = a0 ∧ 0 ≤ z ∧ z ≤ 64 ∧ t = fillN (at3 x0.toNat y0.toNat) (chV a0 x0.toNat y0.toNat) t0 z.toNat | _ => False) (fun | [_, _, .i z, _, _, _] => (64 - z).toNat | _ => 0)] | _ => [])]⟩
  | _ => { cut := [], loop := [] }
def ct32 : Ct := { ps := [s30], bs := [], pre := fun _ => True, res := fun | [.lb a] => .ret s30 [] [.lb (piB a)] | _ => noRes }
def ann32 : List Dat → Ann
  | [.lb a] => ⟨[], [(3, [la 30 sl3 [q30, q30, q30] (fun | [.i x, .lb a', .lb _, .lb t] => a' = a ∧ 0 ≤ x ∧ x ≤ 5 ∧ t = piX a zB x.toNat | _ => False) (fun | [.i x, _, _, _] => (5 - x).toNat | _ => 0)])],
    [(6, [la 30 (sl3 ++ [(5, i64)]) [q30, q30, q30] anyR noM], fun | [.i x0, .i _, .lb a0, .lb _, .lb t0] => [la 30 (sl3 ++ [(5, i64)]) [q30, q30, q30]
      (fun | [.i x, .i y, .lb a', .lb _, .lb t] => x = x0 ∧ a' = a0 ∧ 0 ≤ y ∧ y ≤ 5 ∧ t = piY a0 x0.toNat t0 y.toNat | _ => False) (fun | [_, .i y, _, _, _] => (5 - y).toNat | _ => 0)] | _ => [])]⟩
  | _ => { cut := [], loop := [] }
def ct33 : Ct := { ps := [s30], bs := [], pre := fun _ => True, res := fun | [.lb a] => .ret s30 [] [.lb (rhoB a)] | _ => noRes }
def ann33 : List Dat → Ann
  | [.lb a] => ⟨[], [(5, [la 51 (sl3 ++ [(5, i64), (6, i64)]) [q30, q30, q30] (fun | [.i x, .i y, .i t, .lb a', .lb _, .lb l] => a' = a ∧ 0 ≤ t ∧ t ≤ 24 ∧ x = (xyN t.toNat).1 ∧ y = (xyN t.toNat).2 ∧ l = rhN a t.toNat | _ => False) (fun | [_, _, .i t, _, _, _] => (24 - t).toNat | _ => 0)])],
    [(8, [la 51 (sl3 ++ [(5, i64), (6, i64), (7, i64)]) [q30, q30, q30] anyR noM], fun | [.i x0, .i y0, .i t0, .i _, .lb a0, .lb _, .lb l0] => [la 51 (sl3 ++ [(5, i64), (6, i64), (7, i64)]) [q30, q30, q30]
      (fun | [.i x, .i y, .i t, .i z, .lb a', .lb _, .lb l] => x = x0 ∧ y = y0 ∧ t = t0 ∧ a' = a0 ∧ 0 ≤ z ∧ z ≤ 64 ∧ l = rhZ a0 t0.toNat l0 z.toNat | _ => False) (fun | [_, _, _, .i z, _, _, _] => (64 - z).toNat | _ => 0)] | _ => [])]⟩
  | _ => { cut := [], loop := [] }
def ct34 : Ct := { ps := [s30], bs := [], pre := fun _ => True, res := fun | [.lb a] => .ret s30 [] [.lb (thetaB a)] | _ => noRes }
def sl34 : List (Nat × Pat) := [(1, .ptr 0 0), (2, .ptr 1 0), (3, .ptr 2 0), (8, .ptr 3 0), (9, i64)]
def ann34 : List Dat → Ann
  | [.lb a] => ⟨[], [(3, [la 88 sl3 [q30, q30, q28] (fun | [.i x, .lb a', .lb _, .lb p] => a' = a ∧ 0 ≤ x ∧ x ≤ 5 ∧ p = fill2 (fun x z => x * 64 + z) (fun x z => decide (cnt a x z 5 % 2 = 1)) 64 (List.replicate 320 false) x.toNat | _ => False) (fun | [.i x, _, _, _] => (5 - x).toNat | _ => 0)]),
     (17, [la 88 sl34 [q30, q30, q28, q30] (fun | [.i x, .lb a', .lb _, .lb p, .lb t] => a' = a ∧ p = parB a ∧ 0 ≤ x ∧ x ≤ 5 ∧ t = fill3 at3 (thV a p) 5 64 zB x.toNat | _ => False) (fun | [.i x, _, _, _, _] => (5 - x).toNat | _ => 0)])],
    [(6, [la 88 (sl3 ++ [(5, i64)]) [q30, q30, q28] anyR noM], fun | [.i x0, .i _, .lb a0, .lb _, .lb p0] => [la 88 (sl3 ++ [(5, i64)]) [q30, q30, q28]
      (fun | [.i x, .i z, .lb a', .lb _, .lb p] => x = x0 ∧ a' = a0 ∧ 0 ≤ z ∧ z ≤ 64 ∧ p = fillN (fun z => x0.toNat * 64 + z) (fun z => decide (cnt a0 x0.toNat z 5 % 2 = 1)) p0 z.toNat | _ => False) (fun | [_, .i z, _, _, _] => (64 - z).toNat | _ => 0)] | _ => []),
     (10, [la 88 (sl3 ++ [(5, i64), (6, i64), (7, i64)]) [q30, q30, q28] anyR noM], fun | [.i x0, .i z0, .i _, .i _, .lb a0, .lb _, .lb p0] => [la 88 (sl3 ++ [(5, i64), (6, i64), (7, i64)]) [q30, q30, q28]
      (fun | [.i x, .i z, .i n, .i y, .lb a', .lb _, .lb p] => x = x0 ∧ z = z0 ∧ a' = a0 ∧ p = p0 ∧ 0 ≤ y ∧ y ≤ 5 ∧ n = cnt a0 x0.toNat z0.toNat y.toNat ∧ 0 ≤ n ∧ n ≤ y | _ => False) (fun | [_, _, _, .i y, _, _, _] => (5 - y).toNat | _ => 0)] | _ => []),
     (20, [la 88 (sl34 ++ [(10, i64)]) [q30, q30, q28, q30] anyR noM], fun | [.i x0, .i _, .lb a0, .lb _, .lb p0, .lb t0] => [la 88 (sl34 ++ [(10, i64)]) [q30, q30, q28, q30]
      (fun | [.i x, .i y, .lb a', .lb _, .lb p, .lb t] => x = x0 ∧ a' = a0 ∧ p = p0 ∧ 0 ≤ y ∧ y ≤ 5 ∧ t = fill2 (at3 x0.toNat) (thV a0 p0 x0.toNat) 64 t0 y.toNat | _ => False) (fun | [_, .i y, _, _, _, _] => (5 - y).toNat | _ => 0)] | _ => []),
     (23, [la 88 (sl34 ++ [(10, i64), (11, i64)]) [q30, q30, q28, q30] anyR noM], fun | [.i x0, .i y0, .i _, .lb a0, .lb _, .lb p0, .lb t0] => [la 88 (sl34 ++ [(10, i64), (11, i64)]) [q30, q30, q28, q30]
      (fun | [.i x, .i y, .i z, .lb a', .lb _, .lb p, .lb t] => x = x0 ∧ y = y0 ∧ a' = a0 ∧ p = p0 ∧ 0 ≤ z ∧ z ≤ 64 ∧ t = fillN (at3 x0.toNat y0.toNat) (thV a0 p0 x0.toNat y0.toNat) t0 z.toNat | _ => False) (fun | [_, _, .i z, _, _, _, _] => (64 - z).toNat | _ => 0)] | _ => [])]⟩
  | _ => { cut := [], loop := [] }
def ct14 : Ct := { ps := [s30, i64], bs := [], pre := fun _ => True, res := fun | [.lb a, .i r] => .ret s30 [] [.lb (roundB a r)] | _ => noRes }
def ann14 : List Dat → Ann
  | [.lb a, .i r] => ⟨[], [(4, [la 32 [(2, .ptr 0 0), (4, .ptr 1 0), (5, .ptr 2 0), (6, i64)] [q30, q30, q27] (fun | [.i z, .lb t, .lb _, .lb c] => c = cbits r ∧ 0 ≤ z ∧ z ≤ 64 ∧ t = addC (chiB (piB (rhoB (thetaB a)))) (cbits r) z.toNat | _ => False) (fun | [.i z, _, _, _] => (64 - z).toNat | _ => 0)])], []⟩
  | _ => { cut := [], loop := [] }
def ct15 : Ct := { ps := [st], bs := [], pre := fun | [.li s] => areW s | _ => False, res := fun | [.li s] => .ret s30 [] [.lb (ofW s)] | _ => noRes }
def ann15 : List Dat → Ann
  | [.li s] => ⟨[], [(3, [la 33 sl3 [q23, q30, q30] (fun | [.i i, .li s', .lb _, .lb t] => s' = s ∧ 0 ≤ i ∧ i ≤ 25 ∧ t = fill2 (fun i z => at3 (i % 5) (i / 5) z) (fun i z => bt (s.getD i 0) z) 64 zB i.toNat | _ => False) (fun | [.i i, _, _, _] => (25 - i).toNat | _ => 0)])],
    [(7, [la 33 (sl3 ++ [(5, u64), (6, i64)]) [q23, q30, q30] anyR noM], fun | [.i i0, .i v0, .i _, .li s0, .lb _, .lb t0] => [la 33 (sl3 ++ [(5, u64), (6, i64)]) [q23, q30, q30]
      (fun | [.i i, .i v, .i z, .li s, .lb _, .lb t] => i = i0 ∧ s = s0 ∧ 0 ≤ z ∧ z ≤ 64 ∧ v = v0 / 2 ^ z.toNat ∧ t = fillN (fun z => at3 (i0.toNat % 5) (i0.toNat / 5) z) (fun z => bt v0 z) t0 z.toNat | _ => False) (fun | [_, _, .i z, _, _, _] => (64 - z).toNat | _ => 0)] | _ => [])]⟩
  | _ => { cut := [], loop := [] }
noncomputable def ct13 : Ct := { ps := [s30], bs := [], pre := fun _ => True, res := fun | [.lb a] => .ret st [] [.li (toW a)] | _ => noRes }
def ann13 : List Dat → Ann
  | [.lb a] => ⟨[], [(3, [la 33 sl3 [q30, q23, q23] (fun | [.i i, .lb a', .li _, .li t] => a' = a ∧ 0 ≤ i ∧ i ≤ 25 ∧ t = wdN a i.toNat | _ => False) (fun | [.i i, _, _, _] => (25 - i).toNat | _ => 0)])],
    [(7, [la 33 (sl3 ++ [(5, u64), (6, i64)]) [q30, q23, q23] anyR noM], fun | [.i i0, .i _, .i _, .lb a0, .li _, .li t0] => [la 33 (sl3 ++ [(5, u64), (6, i64)]) [q30, q23, q23]
      (fun | [.i i, .i v, .i z, .lb a, .li _, .li t] => i = i0 ∧ a = a0 ∧ t = t0 ∧ -1 ≤ z ∧ z ≤ 63 ∧ v = (wv a0 i0.toNat (63 - z).toNat : Nat) | _ => False) (fun | [_, _, .i z, _, _, _] => (z + 1).toNat | _ => 0)] | _ => [])]⟩
  | _ => { cut := [], loop := [] }
noncomputable def ct18 : Ct := { ps := [st], bs := [], pre := fun | [.li s] => areW s | _ => False, res := fun | [.li s] => .ret st [] [.li (permR s)] | _ => noRes }
def ann18 : List Dat → Ann
  | [.li s] => ⟨[], [(3, [la 16 sl3 [q23, q23, q30] (fun | [.i i, .li _, .li _, .lb t] => 0 ≤ i ∧ i ≤ 24 ∧ t = permB (ofW s) i.toNat | _ => False) (fun | [.i i, _, _, _] => (24 - i).toNat | _ => 0)])], []⟩
  | _ => { cut := [], loop := [] }
end Go.Proofs.YtganbceicojfmaaDoor
