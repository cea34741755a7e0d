/-
  The digest: what the program's and the reference's functions compute; contracts.
-/
import Derived.Test.YtganbceicojfmaaDoorK3
import Derived.Test.YtganbceicojfmaaDoorK1
namespace Go.Proofs.YtganbceicojfmaaDoor
open Go Go.Avc
set_option linter.unusedVariables false
abbrev u8 : Pat := .int .u8
abbrev qh : BPat := .cells 56 [a25, i64]
abbrev a32 : Pat := .agg [.arrI 32 .u8]
abbrev Hs := List Int × Nat
/-- A byte is xored into the words. -/
def putS (s : List Int) (p : Nat) (b : Int) : List Int := s.set (p / 8) (xr (s.getD (p / 8) 0) (bShl .u64 (IntKind.u64.wrap b) ((8 * (p % 8) : Nat) : Int)))
noncomputable def step1 (h : Hs) (b : Int) : Hs := if h.2 + 1 = 136 then (perm (putS h.1 h.2 b), 0) else (putS h.1 h.2 b, h.2 + 1)
noncomputable def wrN (h : Hs) (l : List (List CD)) : Nat → Hs
  | 0 => h
  | n + 1 => step1 (wrN h l n) (rv l n)
noncomputable def fin (h : Hs) : List Int := hid ((bysL (perm (putS (putS h.1 h.2 6) 135 128))).take 32)
/-- A part. -/
def pt (l : List (List CD)) (i : Nat) : List (List CD) := ((l.getD i []).getD 0 .d0).toSl
def hs0 : Hs := (List.replicate 25 0, 0)
noncomputable def wrP (l : List (List CD)) : Nat → Hs
  | 0 => hs0
  | n + 1 => wrN (wrP l n) (pt l n) (pt l n).length
noncomputable def sumP (l : List (List CD)) : List Int := hid (fin (wrP l l.length))
def areP (l : List (List CD)) : Prop := ∀ i, areB (pt l i)
/-! The reference. -/
def xoN (a b : Nat) : Nat → Nat
  | 0 => 0
  | n + 1 => if a / 2 ^ n % 2 ≠ b / 2 ^ n % 2 then xoN a b n + 2 ^ n else xoN a b n
def xo (a b : Int) : Int := (xoN a.toNat b.toNat 8 : Nat)
def padm (l : List (List CD)) : Nat := 135 - l.length % 136
def padN (l : List (List CD)) (m : Nat) : List (List CD) := l ++ [.int 6] :: List.replicate m [.int 0]
def padT (m : Nat) : List Int := if m = 0 then [134] else 6 :: (List.replicate (m - 1) 0 ++ [128])
noncomputable def padL (l : List (List CD)) : List (List CD) := hid (l ++ (padT (padm l)).map row1)
/-- Bytes are mixed into bytes, one by one. -/
def xsN (o : Int → Int → Int) (S : List Int) (p : List (List CD)) (at' : Nat) : Nat → List Int
  | 0 => S
  | i + 1 => (xsN o S p at' i).set i (o ((xsN o S p at' i).getD i 0) (rv p (at' + i)))
def ints (r : List (List CD)) : List Int := r.map fun r => (r.getD 0 .d0).toInt
noncomputable def blkR (p : List (List CD)) : Nat → List Int
  | 0 => List.replicate 200 0
  | n + 1 => bysL (permR (rbN ((xsN xo (blkR p n) p (136 * n) 136).map row1) 200))
noncomputable def sumR (l : List (List CD)) : List Int := hid ((blkR (padL l) ((padL l).length / 136)).take 32)

/-! ### Contracts -/
def ct42 : Ct := { ps := [.ptr 0 0, i64, u8], bs := [qh], pre := fun | [.i p, .i b, .li s, .i a] => 0 ≤ p ∧ p < 200 | _ => False, res := fun | [.i p, .i b, .li s, .i a] => .ret (.tup []) [qh] [.li (putS s p.toNat b), .i a] | _ => noRes }
noncomputable def ct28 : Ct := { ps := [.ptr 0 0, rb], bs := [qh], pre := fun | [.r l, .li s, .i a] => 0 ≤ a ∧ a < 136 | _ => False, res := fun | [.r l, .li s, .i a] => .ret (.tup []) [qh] [.li (wrN (s, a.toNat) l l.length).1, .i ((wrN (s, a.toNat) l l.length).2 : Nat)] | _ => noRes }
noncomputable def ann28 : List Dat → Ann
  | [.r l, .li s, .i a] => ⟨[], [(1, [la 43 [(0, .ptr 0 0), (6, rb), (7, i64), (8, i64)] [qh] (fun | [.r l', .i n, .i i, .li s', .i a'] => l' = l ∧ n = l.length ∧ 0 ≤ i ∧ i ≤ n ∧ s' = (wrN (s, a.toNat) l i.toNat).1 ∧ a' = ((wrN (s, a.toNat) l i.toNat).2 : Nat) | _ => False) (fun | [_, .i n, .i i, _, _] => (n - i).toNat | _ => 0)])], []⟩
  | _ => { cut := [], loop := [] }
noncomputable def ct29 : Ct := { ps := [.ptr 0 0], bs := [qh], pre := fun | [.li s, .i a] => areW s ∧ 0 ≤ a ∧ a < 136 | _ => False, res := fun | [.li s, .i a] => .ret a32 [qh] [.li (fin (s, a.toNat)), .li s, .i a] | _ => noRes }
noncomputable def ct26 : Ct := { ps := [.rd [.sl [.int .u8]]], bs := [], pre := fun | [.r l] => areP l | _ => False, res := fun | [.r l] => .ret a32 [] [.li (sumP l)] | _ => noRes }
noncomputable def ann26 : List Dat → Ann
  | [.r l] => ⟨[], [(3, [la 16 [(2, .ptr 0 0), (3, .ptr 1 0), (6, .rd [.sl [.int .u8]]), (7, i64), (8, i64)] [.cells 51 [.arrI 32 .u8], qh] (fun | [.r l', .i n, .i i, .li _, .li s', .i a'] => l' = l ∧ n = l.length ∧ 0 ≤ i ∧ i ≤ n ∧ s' = (wrP l i.toNat).1 ∧ a' = ((wrP l i.toNat).2 : Nat) | _ => False) (fun | [_, .i n, .i i, _, _, _] => (n - i).toNat | _ => 0)])], []⟩
  | _ => { cut := [], loop := [] }
def ct25 : Ct := { ps := [], bs := [], pre := fun _ => True, res := fun _ => yes }
def ct41 : Ct := { ps := [u8, u8], bs := [], pre := fun | [.i a, .i b] => (0 ≤ a ∧ a < 256) ∧ 0 ≤ b ∧ b < 256 | _ => False, res := fun | [.i a, .i b] => .ret u8 [] [.i (xo a b)] | _ => noRes }
def ann41 : List Dat → Ann
  | [.i a, .i b] => ⟨[], [(5, [la 34 [(5, i64), (6, i64), (7, i64), (8, i64), (9, i64)] [] (fun | [.i o, .i e, .i x, .i y, .i i] => 0 ≤ i ∧ i ≤ 8 ∧ o = (xoN a.toNat b.toNat i.toNat : Nat) ∧ e = (2 ^ i.toNat : Nat) ∧ x = (a.toNat / 2 ^ i.toNat : Nat) ∧ y = (b.toNat / 2 ^ i.toNat : Nat) | _ => False) (fun | [_, _, _, _, .i i] => (8 - i).toNat | _ => 0)])], []⟩
  | _ => { cut := [], loop := [] }
noncomputable def ct30 : Ct := { ps := [rb], bs := [], pre := fun | [.r l] => l.length ≤ 1000 | _ => False, res := fun | [.r l] => .ret (.own 0) [ob] [.r (padL l)] | _ => noRes }
def ann30 : List Dat → Ann
  | [.r l] => ⟨[], [(2, [la 29 [(3, .own 0)] [ob] (fun | [.r o] => l.length + 1 ≤ o.length ∧ o.length ≤ l.length + 1 + padm l ∧ o = padN l (o.length - l.length - 1) | _ => False) (fun | [.r o] => l.length + 200 - o.length | _ => 0)])], []⟩
  | _ => { cut := [], loop := [] }
noncomputable def ct27 : Ct := { ps := [rb], bs := [], pre := fun | [.r l] => l.length ≤ 1000 ∧ areB l | _ => False, res := fun | [.r l] => .ret rb [] [.r ((sumR l).map row1)] | _ => noRes }
def sl27 : List (Nat × Pat) := [(3, .own 0), (4, .own 1), (5, i64)]
noncomputable def ann27 : List Dat → Ann
  | [.r l] => ⟨[(11, [la 40 [(4, rb)] [] (fun | [.r s] => s = (blkR (padL l) ((padL l).length / 136)).map row1 | _ => False) noM])],
     [(4, [la 40 sl27 [ob, ob] (fun | [.i k, .r p, .r s] => p = padL l ∧ 0 ≤ k ∧ k ≤ p.length ∧ k % 136 = 0 ∧ s = (blkR p (k.toNat / 136)).map row1 | _ => False) (fun | [.i k, .r p, _] => (p.length - k).toNat | _ => 0)])],
    [(7, [la 40 (sl27 ++ [(6, i64)]) [ob, ob] anyR noM], fun | [.i k0, .i _, .r p0, .r s0] => [la 40 (sl27 ++ [(6, i64)]) [ob, ob]
      (fun | [.i k, .i i, .r p, .r s] => k = k0 ∧ p = p0 ∧ 0 ≤ i ∧ i ≤ 136 ∧ s = (xsN xo (ints s0) p0 k0.toNat i.toNat).map row1 | _ => False) (fun | [_, .i i, _, _] => (136 - i).toNat | _ => 0)] | _ => [])]⟩
  | _ => { cut := [], loop := [] }
end Go.Proofs.YtganbceicojfmaaDoor

/-
  Conditions of contracts, as the kernel reckons them (printed by a program of ours, checked by the kernel).
-/
namespace Go.Proofs.YtganbceicojfmaaDoor
open Go Go.Avc Go.Proofs
set_option linter.unusedVariables false
set_option maxRecDepth 100000
def P42 : Prop :=
  ∀ (n n_1 : Int) (l : List Int) (n_2 : Int),
    l.length = (25 : Nat) →
      (0 : Int) ≤ n ∧ n < (200 : Int) →
        ((0 : Int) ≤ n ∧ (0 : Int) < (8 : Int) ∧ n ≤ Go.IntKind.i64.max) ∧
          ((0 : Int) ≤ n / (8 : Int) ∧ n / (8 : Int) < (↑(25 : Nat) : Int)) ∧
            (n / (8 : Int)).toNat * (1 : Nat) < (25 : Nat) ∧
              ((0 : Int) ≤ n ∧ (0 : Int) < (8 : Int)) ∧
                ((-9223372036854775808 : Int) ≤ (8 : Int) * (n % (8 : Int)) ∧ (8 : Int) * (n % (8 : Int)) ≤ (9223372036854775807 : Int)) ∧
                  (0 : Int) ≤ (8 : Int) * (n % (8 : Int)) ∧
                    ((0 : Int) ≤ n / (8 : Int) ∧ n / (8 : Int) < (↑(25 : Nat) : Int)) ∧
                      (n / (8 : Int)).toNat * (1 : Nat) < (25 : Nat) ∧
                        l.set ((n / (8 : Int)).toNat * (1 : Nat))
                              (bXor Go.IntKind.u64 (l.getD ((n / (8 : Int)).toNat * (1 : Nat)) (0 : Int))
                                (bShl Go.IntKind.u64 (Go.IntKind.u64.wrap n_1) ((8 : Int) * (n % (8 : Int))))) =
                            putS l n.toNat n_1 ∧
                          n_2 = n_2
theorem e42 : ct42.VC (base.with sp7) Tryd.f42.results.toList Tryd.f42.ntmps (Tryd.f42.ntmps - ct42.ps.length) (bodyOf Tryd.f42) noAnn = P42 := by kernel_rfl
noncomputable def sp42 : SpecT := addS sp7 42 (mkF ct42)
def P28 : Prop :=
  ∀ (l : List (List CD)) (l_1 : List Int) (n : Int),
    l.length ≤ (9223372036854775807 : Nat) →
      l_1.length = (25 : Nat) →
        (0 : Int) ≤ n ∧ n < (136 : Int) →
          l.length ≤ (9223372036854775807 : Nat) →
            ((l = l ∧
                  (↑l.length : Int) = (↑l.length : Int) ∧
                    (0 : Int) ≤ (0 : Int) ∧
                      (0 : Int) ≤ (↑l.length : Int) ∧
                        l_1 = (wrN (l_1, n.toNat) l (0 : Nat)).fst ∧
                          n = (↑(wrN (l_1, n.toNat) l (0 : Nat)).snd : Int)) ∧
                True) ∧
              ∀ (l_2 : List (List CD)) (n_1 n_2 : Int) (l_3 : List Int) (n_3 : Int),
                l_2.length ≤ (9223372036854775807 : Nat) →
                  l_3.length = (25 : Nat) →
                    l_2 = l ∧
                        n_1 = (↑l.length : Int) ∧
                          (0 : Int) ≤ n_2 ∧
                            n_2 ≤ n_1 ∧
                              l_3 = (wrN (l_1, n.toNat) l n_2.toNat).fst ∧
                                n_3 = (↑(wrN (l_1, n.toNat) l n_2.toNat).snd : Int) →
                      bif decide (n_2 < n_1) then
                        ((0 : Int) ≤ n_2 ∧ n_2 < (↑l_2.length : Int)) ∧
                          n_2.toNat < l_2.length ∧
                            ((0 : Int) ≤ n_3 ∧ n_3 < (200 : Int)) ∧
                              ((-9223372036854775808 : Int) ≤ n_3 + (1 : Int) ∧ n_3 + (1 : Int) ≤ (9223372036854775807 : Int)) ∧
                                bif decide (n_3 + (1 : Int) = (136 : Int)) then
                                  True ∧
                                    ((-9223372036854775808 : Int) ≤ n_2 + (1 : Int) ∧ n_2 + (1 : Int) ≤ (9223372036854775807 : Int)) ∧
                                      (l_2 = l ∧
                                          n_1 = (↑l.length : Int) ∧
                                            (0 : Int) ≤ n_2 + (1 : Int) ∧
                                              n_2 + (1 : Int) ≤ n_1 ∧
                                                perm
                                                      (putS l_3 n_3.toNat ((l_2.getD n_2.toNat []).getD (0 : Nat) (CD.int (0 : Int))).toInt) =
                                                    (wrN (l_1, n.toNat) l (n_2 + (1 : Int)).toNat).fst ∧
                                                  (0 : Int) = (↑(wrN (l_1, n.toNat) l (n_2 + (1 : Int)).toNat).snd : Int)) ∧
                                        (n_1 - (n_2 + (1 : Int))).toNat < (n_1 - n_2).toNat
                                else
                                  ((-9223372036854775808 : Int) ≤ n_2 + (1 : Int) ∧ n_2 + (1 : Int) ≤ (9223372036854775807 : Int)) ∧
                                    (l_2 = l ∧
                                        n_1 = (↑l.length : Int) ∧
                                          (0 : Int) ≤ n_2 + (1 : Int) ∧
                                            n_2 + (1 : Int) ≤ n_1 ∧
                                              putS l_3 n_3.toNat ((l_2.getD n_2.toNat []).getD (0 : Nat) (CD.int (0 : Int))).toInt =
                                                  (wrN (l_1, n.toNat) l (n_2 + (1 : Int)).toNat).fst ∧
                                                n_3 + (1 : Int) = (↑(wrN (l_1, n.toNat) l (n_2 + (1 : Int)).toNat).snd : Int)) ∧
                                      (n_1 - (n_2 + (1 : Int))).toNat < (n_1 - n_2).toNat
                      else
                        l_3 = (wrN (l_1, n.toNat) l l.length).fst ∧ n_3 = (↑(wrN (l_1, n.toNat) l l.length).snd : Int)
theorem e28 : ct28.VC (base.with sp42) Tryd.f28.results.toList Tryd.f28.ntmps (Tryd.f28.ntmps - ct28.ps.length) (bodyOf Tryd.f28) ann28 = P28 := by kernel_rfl
noncomputable def sp28 : SpecT := addS sp42 28 (mkF ct28)
def P29 : Prop :=
  ∀ (l : List Int) (n : Int),
    l.length = (25 : Nat) →
      areW l ∧ (0 : Int) ≤ n ∧ n < (136 : Int) →
        ((0 : Int) ≤ n ∧ n < (200 : Int)) ∧
          ((0 : Int) ≤ (135 : Int) ∧ (135 : Int) < (200 : Int)) ∧
            True ∧
              areW
                  (perm (putS (putS l n.toNat (6 : Int)) (135 : Nat) (128 : Int))) ∧
                ((0 : Int) ≤ (0 : Int) ∧ (0 : Int) ≤ (32 : Int) ∧ (32 : Int) ≤ (↑(200 : Nat) : Int) ∧ (0 : Int) < (↑(200 : Nat) : Int)) ∧
                  (32 : Nat) ≤ (32 : Nat) ∧
                    (32 : Nat) ≤ (200 : Nat) ∧
                      List.take (32 : Nat)
                            (List.drop (0 : Nat)
                              (bysL
                                (perm
                                  (putS (putS l n.toNat (6 : Int)) (135 : Nat) (128 : Int))))) =
                          fin (l, n.toNat) ∧
                        l = l ∧ n = n
theorem e29 : ct29.VC (base.with sp28) Tryd.f29.results.toList Tryd.f29.ntmps (Tryd.f29.ntmps - ct29.ps.length) (bodyOf Tryd.f29) noAnn = P29 := by kernel_rfl
noncomputable def sp29 : SpecT := addS sp28 29 (mkF ct29)
def P26 : Prop :=
  ∀ (l : List (List CD)),
    l.length ≤ (9223372036854775807 : Nat) →
      areP l →
        l.length ≤ (9223372036854775807 : Nat) →
          ((l = l ∧
                (↑l.length : Int) = (↑l.length : Int) ∧
                  (0 : Int) ≤ (0 : Int) ∧
                    (0 : Int) ≤ (↑l.length : Int) ∧
                      [(0 : Int), (0 : Int), (0 : Int), (0 : Int), (0 : Int), (0 : Int), (0 : Int), (0 : Int), (0 : Int), (0 : Int), (0 : Int), (0 : Int), (0 : Int), (0 : Int),
                            (0 : Int), (0 : Int), (0 : Int), (0 : Int), (0 : Int), (0 : Int), (0 : Int), (0 : Int), (0 : Int), (0 : Int), (0 : Int)] =
                          (wrP l (0 : Nat)).fst ∧
                        (0 : Int) = (↑(0 : Nat) : Int)) ∧
              True) ∧
            ∀ (l_1 : List (List CD)) (n n_1 : Int) (l_2 l_3 : List Int) (n_2 : Int),
              l_1.length ≤ (9223372036854775807 : Nat) →
                l_2.length = (32 : Nat) →
                  l_3.length = (25 : Nat) →
                    l_1 = l ∧
                        n = (↑l.length : Int) ∧
                          (0 : Int) ≤ n_1 ∧
                            n_1 ≤ n ∧ l_3 = (wrP l n_1.toNat).fst ∧ n_2 = (↑(wrP l n_1.toNat).snd : Int) →
                      bif decide (n_1 < n) then
                        ((0 : Int) ≤ n_1 ∧ n_1 < (↑l_1.length : Int)) ∧
                          n_1.toNat < l_1.length ∧
                            ((0 : Int) ≤ n_2 ∧ n_2 < (136 : Int)) ∧
                              ((-9223372036854775808 : Int) ≤ n_1 + (1 : Int) ∧ n_1 + (1 : Int) ≤ (9223372036854775807 : Int)) ∧
                                (l_1 = l ∧
                                    n = (↑l.length : Int) ∧
                                      (0 : Int) ≤ n_1 + (1 : Int) ∧
                                        n_1 + (1 : Int) ≤ n ∧
                                          (wrN (l_3, n_2.toNat) ((l_1.getD n_1.toNat []).getD (0 : Nat) (CD.int (0 : Int))).toSl
                                                  ((l_1.getD n_1.toNat []).getD (0 : Nat) (CD.int (0 : Int))).toSl.length).fst =
                                              (wrP l (n_1 + (1 : Int)).toNat).fst ∧
                                            (↑(wrN (l_3, n_2.toNat) ((l_1.getD n_1.toNat []).getD (0 : Nat) (CD.int (0 : Int))).toSl
                                                      ((l_1.getD n_1.toNat []).getD (0 : Nat) (CD.int (0 : Int))).toSl.length).snd :
                                                Int) =
                                              (↑(wrP l (n_1 + (1 : Int)).toNat).snd : Int)) ∧
                                  (n - (n_1 + (1 : Int))).toNat < (n - n_1).toNat
                      else
                        (areW l_3 ∧ (0 : Int) ≤ n_2 ∧ n_2 < (136 : Int)) ∧
                          fin (l_3, n_2.toNat) = sumP l
theorem e26 : ct26.VC (base.with sp29) Tryd.f26.results.toList Tryd.f26.ntmps (Tryd.f26.ntmps - ct26.ps.length) (bodyOf Tryd.f26) ann26 = P26 := by kernel_rfl
noncomputable def sp26 : SpecT := addS sp29 26 (mkF ct26)
def P25 : Prop :=
  True →
    areP [] ∧
      ((0 : Int) ≤ (0 : Int) ∧ (0 : Int) < (↑(32 : Nat) : Int)) ∧
        (0 : Nat) < (32 : Nat) ∧
          (decide ((sumP []).getD (0 : Nat) (0 : Int) = (167 : Int)) = true → (0 : Int) ≤ (1 : Int) ∧ (1 : Int) < (↑(32 : Nat) : Int)) ∧
            (decide ((sumP []).getD (0 : Nat) (0 : Int) = (167 : Int)) = true → (1 : Nat) < (32 : Nat)) ∧
              ((decide ((sumP []).getD (0 : Nat) (0 : Int) = (167 : Int)) &&
                      decide ((sumP []).getD (1 : Nat) (0 : Int) = (255 : Int))) =
                    true →
                  (0 : Int) ≤ (2 : Int) ∧ (2 : Int) < (↑(32 : Nat) : Int)) ∧
                ((decide ((sumP []).getD (0 : Nat) (0 : Int) = (167 : Int)) &&
                        decide ((sumP []).getD (1 : Nat) (0 : Int) = (255 : Int))) =
                      true →
                    (2 : Nat) < (32 : Nat)) ∧
                  ((decide ((sumP []).getD (0 : Nat) (0 : Int) = (167 : Int)) &&
                            decide ((sumP []).getD (1 : Nat) (0 : Int) = (255 : Int)) &&
                          decide ((sumP []).getD (2 : Nat) (0 : Int) = (198 : Int))) =
                        true →
                      (0 : Int) ≤ (3 : Int) ∧ (3 : Int) < (↑(32 : Nat) : Int)) ∧
                    ((decide ((sumP []).getD (0 : Nat) (0 : Int) = (167 : Int)) &&
                              decide ((sumP []).getD (1 : Nat) (0 : Int) = (255 : Int)) &&
                            decide ((sumP []).getD (2 : Nat) (0 : Int) = (198 : Int))) =
                          true →
                        (3 : Nat) < (32 : Nat)) ∧
                      (decide ((sumP []).getD (0 : Nat) (0 : Int) = (167 : Int)) &&
                              decide ((sumP []).getD (1 : Nat) (0 : Int) = (255 : Int)) &&
                            decide ((sumP []).getD (2 : Nat) (0 : Int) = (198 : Int)) &&
                          decide ((sumP []).getD (3 : Nat) (0 : Int) = (248 : Int))) =
                        true
theorem e25 : ct25.VC (base.with sp26) Tryd.f25.results.toList Tryd.f25.ntmps (Tryd.f25.ntmps - ct25.ps.length) (bodyOf Tryd.f25) noAnn = P25 := by kernel_rfl
noncomputable def sp25 : SpecT := addS sp26 25 (mkF ct25)
def P41 : Prop :=
  ∀ (n n_1 : Int),
    ((0 : Int) ≤ n ∧ n < (256 : Int)) ∧ (0 : Int) ≤ n_1 ∧ n_1 < (256 : Int) →
      (((0 : Int) ≤ (0 : Int) ∧
            (0 : Int) ≤ (8 : Int) ∧
              (0 : Int) = (↑(0 : Nat) : Int) ∧
                (1 : Int) = (↑(1 : Nat) : Int) ∧ Go.IntKind.i64.wrap n = (↑(n.toNat / (1 : Nat)) : Int) ∧ Go.IntKind.i64.wrap n_1 = (↑(n_1.toNat / (1 : Nat)) : Int)) ∧
          True) ∧
        ∀ (n_2 n_3 n_4 n_5 n_6 : Int),
          (0 : Int) ≤ n_6 ∧
              n_6 ≤ (8 : Int) ∧
                n_2 = (↑(xoN n.toNat n_1.toNat n_6.toNat) : Int) ∧
                  n_3 = (↑((2 : Nat) ^ n_6.toNat) : Int) ∧ n_4 = (↑(n.toNat / (2 : Nat) ^ n_6.toNat) : Int) ∧ n_5 = (↑(n_1.toNat / (2 : Nat) ^ n_6.toNat) : Int) →
            bif decide (n_6 < (8 : Int)) then
              ((0 : Int) ≤ n_4 ∧ (0 : Int) < (2 : Int)) ∧
                ((0 : Int) ≤ n_5 ∧ (0 : Int) < (2 : Int)) ∧
                  bif decide (n_4 % (2 : Int) ≠ n_5 % (2 : Int)) then
                    ((-9223372036854775808 : Int) ≤ n_2 + n_3 ∧ n_2 + n_3 ≤ (9223372036854775807 : Int)) ∧
                      ((0 : Int) ≤ n_4 ∧ (0 : Int) < (2 : Int) ∧ n_4 ≤ Go.IntKind.i64.max) ∧
                        ((0 : Int) ≤ n_5 ∧ (0 : Int) < (2 : Int) ∧ n_5 ≤ Go.IntKind.i64.max) ∧
                          ((-9223372036854775808 : Int) ≤ n_3 * (2 : Int) ∧ n_3 * (2 : Int) ≤ (9223372036854775807 : Int)) ∧
                            ((-9223372036854775808 : Int) ≤ n_6 + (1 : Int) ∧ n_6 + (1 : Int) ≤ (9223372036854775807 : Int)) ∧
                              ((0 : Int) ≤ n_6 + (1 : Int) ∧
                                  n_6 + (1 : Int) ≤ (8 : Int) ∧
                                    n_2 + n_3 = (↑(xoN n.toNat n_1.toNat (n_6 + (1 : Int)).toNat) : Int) ∧
                                      n_3 * (2 : Int) = (↑((2 : Nat) ^ (n_6 + (1 : Int)).toNat) : Int) ∧
                                        n_4 / (2 : Int) = (↑(n.toNat / (2 : Nat) ^ (n_6 + (1 : Int)).toNat) : Int) ∧
                                          n_5 / (2 : Int) = (↑(n_1.toNat / (2 : Nat) ^ (n_6 + (1 : Int)).toNat) : Int)) ∧
                                ((8 : Int) - (n_6 + (1 : Int))).toNat < ((8 : Int) - n_6).toNat
                  else
                    ((0 : Int) ≤ n_4 ∧ (0 : Int) < (2 : Int) ∧ n_4 ≤ Go.IntKind.i64.max) ∧
                      ((0 : Int) ≤ n_5 ∧ (0 : Int) < (2 : Int) ∧ n_5 ≤ Go.IntKind.i64.max) ∧
                        ((-9223372036854775808 : Int) ≤ n_3 * (2 : Int) ∧ n_3 * (2 : Int) ≤ (9223372036854775807 : Int)) ∧
                          ((-9223372036854775808 : Int) ≤ n_6 + (1 : Int) ∧ n_6 + (1 : Int) ≤ (9223372036854775807 : Int)) ∧
                            ((0 : Int) ≤ n_6 + (1 : Int) ∧
                                n_6 + (1 : Int) ≤ (8 : Int) ∧
                                  n_2 = (↑(xoN n.toNat n_1.toNat (n_6 + (1 : Int)).toNat) : Int) ∧
                                    n_3 * (2 : Int) = (↑((2 : Nat) ^ (n_6 + (1 : Int)).toNat) : Int) ∧
                                      n_4 / (2 : Int) = (↑(n.toNat / (2 : Nat) ^ (n_6 + (1 : Int)).toNat) : Int) ∧
                                        n_5 / (2 : Int) = (↑(n_1.toNat / (2 : Nat) ^ (n_6 + (1 : Int)).toNat) : Int)) ∧
                              ((8 : Int) - (n_6 + (1 : Int))).toNat < ((8 : Int) - n_6).toNat
            else Go.IntKind.u8.wrap n_2 = xo n n_1
theorem e41 : ct41.VC (base.with sp25) Tryd.f41.results.toList Tryd.f41.ntmps (Tryd.f41.ntmps - ct41.ps.length) (bodyOf Tryd.f41) ann41 = P41 := by kernel_rfl
noncomputable def sp41 : SpecT := addS sp25 41 (mkF ct41)
def P30 : Prop :=
  ∀ (l : List (List CD)),
    l.length ≤ (9223372036854775807 : Nat) →
      l.length ≤ (1000 : Nat) →
        (((0 : Nat) + l.length) * (1 : Nat) ≤ (140737488355328 : Nat) ∧ (0 : Nat) + l.length ≤ (9223372036854775807 : Nat)) ∧
          ((([] ++ l).length + (1 : Nat)) * (1 : Nat) ≤ (140737488355328 : Nat) ∧ ([] ++ l).length + (1 : Nat) ≤ (9223372036854775807 : Nat)) ∧
            ((l.length + (1 : Nat) ≤ ([] ++ l ++ [[CD.int (6 : Int)]]).length ∧
                  ([] ++ l ++ [[CD.int (6 : Int)]]).length ≤ l.length + (1 : Nat) + padm l ∧
                    [] ++ l ++ [[CD.int (6 : Int)]] = padN l (([] ++ l ++ [[CD.int (6 : Int)]]).length - l.length - (1 : Nat))) ∧
                True) ∧
              ∀ (l_1 : List (List CD)),
                l_1.length ≤ (9223372036854775807 : Nat) →
                  l.length + (1 : Nat) ≤ l_1.length ∧
                      l_1.length ≤ l.length + (1 : Nat) + padm l ∧ l_1 = padN l (l_1.length - l.length - (1 : Nat)) →
                    l_1.length ≤ (9223372036854775807 : Nat) →
                      ((0 : Int) ≤ (↑l_1.length : Int) ∧ (0 : Int) < (136 : Int)) ∧
                        bif decide ((↑l_1.length : Int) % (136 : Int) ≠ (0 : Int)) then
                          ((l_1.length + (1 : Nat)) * (1 : Nat) ≤ (140737488355328 : Nat) ∧ l_1.length + (1 : Nat) ≤ (9223372036854775807 : Nat)) ∧
                            (l.length + (1 : Nat) ≤ (l_1 ++ [[CD.int (0 : Int)]]).length ∧
                                (l_1 ++ [[CD.int (0 : Int)]]).length ≤ l.length + (1 : Nat) + padm l ∧
                                  l_1 ++ [[CD.int (0 : Int)]] = padN l ((l_1 ++ [[CD.int (0 : Int)]]).length - l.length - (1 : Nat))) ∧
                              (l.length + (200 : Nat)).sub (l_1 ++ [[CD.int (0 : Int)]]).length < (l.length + (200 : Nat)).sub l_1.length
                        else
                          l_1.length ≤ (9223372036854775807 : Nat) →
                            ((-9223372036854775808 : Int) ≤ (↑l_1.length : Int) - (1 : Int) ∧ (↑l_1.length : Int) - (1 : Int) ≤ (9223372036854775807 : Int)) ∧
                              (l_1.length ≤ (9223372036854775807 : Nat) →
                                ((-9223372036854775808 : Int) ≤ (↑l_1.length : Int) - (1 : Int) ∧ (↑l_1.length : Int) - (1 : Int) ≤ (9223372036854775807 : Int)) ∧
                                  ((0 : Int) ≤ (↑l_1.length : Int) - (1 : Int) ∧ (↑l_1.length : Int) - (1 : Int) < (↑l_1.length : Int)) ∧
                                    ((↑l_1.length : Int) - (1 : Int)).toNat < l_1.length ∧
                                      ((0 : Int) ≤ (↑l_1.length : Int) - (1 : Int) ∧ (↑l_1.length : Int) - (1 : Int) < (↑l_1.length : Int)) ∧
                                        ((↑l_1.length : Int) - (1 : Int)).toNat < l_1.length ∧
                                          l_1.set ((↑l_1.length : Int) - (1 : Int)).toNat
                                              ((l_1.getD ((↑l_1.length : Int) - (1 : Int)).toNat []).set (0 : Nat)
                                                (CD.int
                                                  (Go.IntKind.u8.wrap
                                                    (((l_1.getD ((↑l_1.length : Int) - (1 : Int)).toNat []).getD (0 : Nat) (CD.int (0 : Int))).toInt + (128 : Int))))) =
                                            padL l)
theorem e30 : ct30.VC (base.with sp41) Tryd.f30.results.toList Tryd.f30.ntmps (Tryd.f30.ntmps - ct30.ps.length) (bodyOf Tryd.f30) ann30 = P30 := by kernel_rfl
noncomputable def sp30 : SpecT := addS sp41 30 (mkF ct30)
def P27 : Prop :=
  ∀ (l : List (List CD)),
    l.length ≤ (9223372036854775807 : Nat) →
      l.length ≤ (1000 : Nat) ∧ areB l →
        l.length ≤ (1000 : Nat) ∧
          ((0 : Int) ≤ (200 : Int) ∧ (200 : Int) ≤ (200 : Int) ∧ (↑(1 : Nat) : Int) * (200 : Int) ≤ (140737488355328 : Int) ∧ (200 : Int) ≤ (9223372036854775807 : Int)) ∧
            (((padL l = padL l ∧
                    (0 : Int) ≤ (0 : Int) ∧
                      (0 : Int) ≤ (↑(padL l).length : Int) ∧
                        (0 : Int) % (136 : Int) = (0 : Int) ∧
                          [[CD.int (0 : Int)], [CD.int (0 : Int)], [CD.int (0 : Int)], [CD.int (0 : Int)], [CD.int (0 : Int)],
                              [CD.int (0 : Int)], [CD.int (0 : Int)], [CD.int (0 : Int)], [CD.int (0 : Int)], [CD.int (0 : Int)],
                              [CD.int (0 : Int)], [CD.int (0 : Int)], [CD.int (0 : Int)], [CD.int (0 : Int)], [CD.int (0 : Int)],
                              [CD.int (0 : Int)], [CD.int (0 : Int)], [CD.int (0 : Int)], [CD.int (0 : Int)], [CD.int (0 : Int)],
                              [CD.int (0 : Int)], [CD.int (0 : Int)], [CD.int (0 : Int)], [CD.int (0 : Int)], [CD.int (0 : Int)],
                              [CD.int (0 : Int)], [CD.int (0 : Int)], [CD.int (0 : Int)], [CD.int (0 : Int)], [CD.int (0 : Int)],
                              [CD.int (0 : Int)], [CD.int (0 : Int)], [CD.int (0 : Int)], [CD.int (0 : Int)], [CD.int (0 : Int)],
                              [CD.int (0 : Int)], [CD.int (0 : Int)], [CD.int (0 : Int)], [CD.int (0 : Int)], [CD.int (0 : Int)],
                              [CD.int (0 : Int)], [CD.int (0 : Int)], [CD.int (0 : Int)], [CD.int (0 : Int)], [CD.int (0 : Int)],
                              [CD.int (0 : Int)], [CD.int (0 : Int)], [CD.int (0 : Int)], [CD.int (0 : Int)], [CD.int (0 : Int)],
                              [CD.int (0 : Int)], [CD.int (0 : Int)], [CD.int (0 : Int)], [CD.int (0 : Int)], [CD.int (0 : Int)],
                              [CD.int (0 : Int)], [CD.int (0 : Int)], [CD.int (0 : Int)], [CD.int (0 : Int)], [CD.int (0 : Int)],
                              [CD.int (0 : Int)], [CD.int (0 : Int)], [CD.int (0 : Int)], [CD.int (0 : Int)], [CD.int (0 : Int)],
                              [CD.int (0 : Int)], [CD.int (0 : Int)], [CD.int (0 : Int)], [CD.int (0 : Int)], [CD.int (0 : Int)],
                              [CD.int (0 : Int)], [CD.int (0 : Int)], [CD.int (0 : Int)], [CD.int (0 : Int)], [CD.int (0 : Int)],
                              [CD.int (0 : Int)], [CD.int (0 : Int)], [CD.int (0 : Int)], [CD.int (0 : Int)], [CD.int (0 : Int)],
                              [CD.int (0 : Int)], [CD.int (0 : Int)], [CD.int (0 : Int)], [CD.int (0 : Int)], [CD.int (0 : Int)],
                              [CD.int (0 : Int)], [CD.int (0 : Int)], [CD.int (0 : Int)], [CD.int (0 : Int)], [CD.int (0 : Int)],
                              [CD.int (0 : Int)], [CD.int (0 : Int)], [CD.int (0 : Int)], [CD.int (0 : Int)], [CD.int (0 : Int)],
                              [CD.int (0 : Int)], [CD.int (0 : Int)], [CD.int (0 : Int)], [CD.int (0 : Int)], [CD.int (0 : Int)],
                              [CD.int (0 : Int)], [CD.int (0 : Int)], [CD.int (0 : Int)], [CD.int (0 : Int)], [CD.int (0 : Int)],
                              [CD.int (0 : Int)], [CD.int (0 : Int)], [CD.int (0 : Int)], [CD.int (0 : Int)], [CD.int (0 : Int)],
                              [CD.int (0 : Int)], [CD.int (0 : Int)], [CD.int (0 : Int)], [CD.int (0 : Int)], [CD.int (0 : Int)],
                              [CD.int (0 : Int)], [CD.int (0 : Int)], [CD.int (0 : Int)], [CD.int (0 : Int)], [CD.int (0 : Int)],
                              [CD.int (0 : Int)], [CD.int (0 : Int)], [CD.int (0 : Int)], [CD.int (0 : Int)], [CD.int (0 : Int)],
                              [CD.int (0 : Int)], [CD.int (0 : Int)], [CD.int (0 : Int)], [CD.int (0 : Int)], [CD.int (0 : Int)],
                              [CD.int (0 : Int)], [CD.int (0 : Int)], [CD.int (0 : Int)], [CD.int (0 : Int)], [CD.int (0 : Int)],
                              [CD.int (0 : Int)], [CD.int (0 : Int)], [CD.int (0 : Int)], [CD.int (0 : Int)], [CD.int (0 : Int)],
                              [CD.int (0 : Int)], [CD.int (0 : Int)], [CD.int (0 : Int)], [CD.int (0 : Int)], [CD.int (0 : Int)],
                              [CD.int (0 : Int)], [CD.int (0 : Int)], [CD.int (0 : Int)], [CD.int (0 : Int)], [CD.int (0 : Int)],
                              [CD.int (0 : Int)], [CD.int (0 : Int)], [CD.int (0 : Int)], [CD.int (0 : Int)], [CD.int (0 : Int)],
                              [CD.int (0 : Int)], [CD.int (0 : Int)], [CD.int (0 : Int)], [CD.int (0 : Int)], [CD.int (0 : Int)],
                              [CD.int (0 : Int)], [CD.int (0 : Int)], [CD.int (0 : Int)], [CD.int (0 : Int)], [CD.int (0 : Int)],
                              [CD.int (0 : Int)], [CD.int (0 : Int)], [CD.int (0 : Int)], [CD.int (0 : Int)], [CD.int (0 : Int)],
                              [CD.int (0 : Int)], [CD.int (0 : Int)], [CD.int (0 : Int)], [CD.int (0 : Int)], [CD.int (0 : Int)],
                              [CD.int (0 : Int)], [CD.int (0 : Int)], [CD.int (0 : Int)], [CD.int (0 : Int)], [CD.int (0 : Int)],
                              [CD.int (0 : Int)], [CD.int (0 : Int)], [CD.int (0 : Int)], [CD.int (0 : Int)], [CD.int (0 : Int)],
                              [CD.int (0 : Int)], [CD.int (0 : Int)], [CD.int (0 : Int)], [CD.int (0 : Int)], [CD.int (0 : Int)],
                              [CD.int (0 : Int)], [CD.int (0 : Int)], [CD.int (0 : Int)], [CD.int (0 : Int)], [CD.int (0 : Int)],
                              [CD.int (0 : Int)], [CD.int (0 : Int)], [CD.int (0 : Int)], [CD.int (0 : Int)], [CD.int (0 : Int)]] =
                            List.map row1 (blkR (padL l) (0 : Nat))) ∧
                  True) ∧
                ∀ (n : Int) (l_1 l_2 : List (List CD)),
                  l_1.length ≤ (9223372036854775807 : Nat) →
                    l_2.length ≤ (9223372036854775807 : Nat) →
                      l_1 = padL l ∧
                          (0 : Int) ≤ n ∧
                            n ≤ (↑l_1.length : Int) ∧
                              n % (136 : Int) = (0 : Int) ∧ l_2 = List.map row1 (blkR l_1 (n.toNat / (136 : Nat))) →
                        l_1.length ≤ (9223372036854775807 : Nat) →
                          bif decide (n < (↑l_1.length : Int)) then
                            ((n = n ∧
                                  l_1 = l_1 ∧
                                    (0 : Int) ≤ (0 : Int) ∧
                                      (0 : Int) ≤ (136 : Int) ∧
                                        l_2 =
                                          List.map row1
                                            (xsN xo (ints l_2) l_1 n.toNat (0 : Nat))) ∧
                                True) ∧
                              ∀ (n_1 n_2 : Int) (l_3 l_4 : List (List CD)),
                                l_3.length ≤ (9223372036854775807 : Nat) →
                                  l_4.length ≤ (9223372036854775807 : Nat) →
                                    n_1 = n ∧
                                        l_3 = l_1 ∧
                                          (0 : Int) ≤ n_2 ∧
                                            n_2 ≤ (136 : Int) ∧
                                              l_4 =
                                                List.map row1
                                                  (xsN xo (ints l_2) l_1 n.toNat
                                                    n_2.toNat) →
                                      bif decide (n_2 < (136 : Int)) then
                                        ((0 : Int) ≤ n_2 ∧ n_2 < (↑l_4.length : Int)) ∧
                                          n_2.toNat < l_4.length ∧
                                            ((-9223372036854775808 : Int) ≤ n_1 + n_2 ∧ n_1 + n_2 ≤ (9223372036854775807 : Int)) ∧
                                              ((0 : Int) ≤ n_1 + n_2 ∧ n_1 + n_2 < (↑l_3.length : Int)) ∧
                                                (n_1 + n_2).toNat < l_3.length ∧
                                                  (((0 : Int) ≤ ((l_4.getD n_2.toNat []).getD (0 : Nat) (CD.int (0 : Int))).toInt ∧
                                                        ((l_4.getD n_2.toNat []).getD (0 : Nat) (CD.int (0 : Int))).toInt < (256 : Int)) ∧
                                                      (0 : Int) ≤ ((l_3.getD (n_1 + n_2).toNat []).getD (0 : Nat) (CD.int (0 : Int))).toInt ∧
                                                        ((l_3.getD (n_1 + n_2).toNat []).getD (0 : Nat) (CD.int (0 : Int))).toInt < (256 : Int)) ∧
                                                    ((0 : Int) ≤ n_2 ∧ n_2 < (↑l_4.length : Int)) ∧
                                                      n_2.toNat < l_4.length ∧
                                                        ((-9223372036854775808 : Int) ≤ n_2 + (1 : Int) ∧ n_2 + (1 : Int) ≤ (9223372036854775807 : Int)) ∧
                                                          (n_1 = n ∧
                                                              l_3 = l_1 ∧
                                                                (0 : Int) ≤ n_2 + (1 : Int) ∧
                                                                  n_2 + (1 : Int) ≤ (136 : Int) ∧
                                                                    l_4.set n_2.toNat
                                                                        ((l_4.getD n_2.toNat []).set (0 : Nat)
                                                                          (CD.int
                                                                            (xo
                                                                              ((l_4.getD n_2.toNat []).getD (0 : Nat) (CD.int (0 : Int))).toInt
                                                                              ((l_3.getD (n_1 + n_2).toNat []).getD (0 : Nat) (CD.int (0 : Int))).toInt))) =
                                                                      List.map row1
                                                                        (xsN xo
                                                                          (ints l_2) l_1 n.toNat (n_2 + (1 : Int)).toNat)) ∧
                                                            ((136 : Int) - (n_2 + (1 : Int))).toNat < ((136 : Int) - n_2).toNat
                                      else
                                        (l_4.length ≤ (200 : Nat) ∧ areB l_4) ∧
                                          areW (rbN l_4 l_4.length) ∧
                                            areW (permR (rbN l_4 l_4.length)) ∧
                                              ((-9223372036854775808 : Int) ≤ n_1 + (136 : Int) ∧ n_1 + (136 : Int) ≤ (9223372036854775807 : Int)) ∧
                                                (l_3 = padL l ∧
                                                    (0 : Int) ≤ n_1 + (136 : Int) ∧
                                                      n_1 + (136 : Int) ≤ (↑l_3.length : Int) ∧
                                                        (n_1 + (136 : Int)) % (136 : Int) = (0 : Int) ∧
                                                          List.map row1
                                                              (bysL
                                                                (permR (rbN l_4 l_4.length))) =
                                                            List.map row1
                                                              (blkR l_3 ((n_1 + (136 : Int)).toNat / (136 : Nat)))) ∧
                                                  ((↑l_3.length : Int) - (n_1 + (136 : Int))).toNat < ((↑l_1.length : Int) - n).toNat
                          else
                            l_2 =
                                List.map row1
                                  (blkR (padL l) ((padL l).length / (136 : Nat))) ∧
                              True) ∧
              ∀ (l_1 : List (List CD)),
                l_1.length ≤ (9223372036854775807 : Nat) →
                  l_1 =
                      List.map row1
                        (blkR (padL l) ((padL l).length / (136 : Nat))) →
                    ((0 : Int) ≤ (0 : Int) ∧ (0 : Int) ≤ (32 : Int) ∧ (32 : Int) ≤ (↑l_1.length : Int)) ∧
                      List.drop (0 : Nat) (List.take (32 : Nat) l_1) = List.map row1 (sumR l)
theorem e27 : ct27.VC (base.with sp30) Tryd.f27.results.toList Tryd.f27.ntmps (Tryd.f27.ntmps - ct27.ps.length) (bodyOf Tryd.f27) ann27 = P27 := by kernel_rfl
noncomputable def sp27 : SpecT := addS sp30 27 (mkF ct27)
end Go.Proofs.YtganbceicojfmaaDoor

/-
  The permutation of the state of no bytes (their end alone), step by step (printed by a program of ours, checked by the kernel).
-/
namespace Go.Proofs.YtganbceicojfmaaDoor
open Go Go.Avc Go.Proofs
set_option linter.unusedVariables false
set_option maxRecDepth 100000
def ez0 : List Int := [6, 0, 0, 0, 0, 0, 0, 0, 0, 0, 0, 0, 0, 0, 0, 0, 9223372036854775808, 0, 0, 0, 0, 0, 0, 0, 0]
def et0 : List Int := [7, 6, 9223372036854775808, 0, 12, 1, 6, 9223372036854775808, 0, 12, 1, 6, 9223372036854775808, 0, 12, 1, 9223372036854775814, 9223372036854775808, 0, 12, 1, 6, 9223372036854775808, 0, 12]
def er0 : List Int := [7, 105553116266496, 4398046511104, 0, 196608, 0, 12582912, 8, 228698418577408, 1152921504606846976, 12, 32, 0, 3072, 262144, 1610612736, 68719476736, 6144, 16384, 0, 2305843009213693952, 0, 6597069766656, 2199023255552, 24]
def eh0 : List Int := [4398046511111, 105553116266496, 4398046707712, 7, 105553116463104, 8, 228698431160320, 1152921504606846984, 228698418577408, 1152921504619429888, 12, 3104, 262144, 3084, 262176, 1610618880, 68719493120, 6144, 1610629120, 68719476736, 2305849606283460608, 0, 6597069766680, 2305845208236949504, 24]
def ez1 : List Int := [4398046511110, 105553116266496, 4398046707712, 7, 105553116463104, 8, 228698431160320, 1152921504606846984, 228698418577408, 1152921504619429888, 12, 3104, 262144, 3084, 262176, 1610618880, 68719493120, 6144, 1610629120, 68719476736, 2305849606283460608, 0, 6597069766680, 2305845208236949504, 24]
theorem est0 : round ez0 0 = ez1 := by
  have a : theta ez0 = et0 := (theta_eq rfl).trans (by decide +kernel)
  have b : rhoPi et0 = er0 := (rp_eq _).trans (by decide +kernel)
  have c : chi er0 = eh0 := (chi_eq rfl).trans (by decide +kernel)
  unfold round
  rw [a, b, c]
  decide +kernel
theorem epz1 : permN ez0 1 = ez1 := by
  rw [permN]
  exact est0
def et1 : List Int := [1153207583809968254, 112151797573666, 4611985157543679030, 3458977956541044839, 6917729141441920015, 1153203185763457136, 235297112467490, 5764911060196840510, 3458784442494556256, 8070685830433242127, 1153203185763457140, 6598681306114, 4611989555590255670, 3458977956541043820, 6917764325814074415, 1153203187374063736, 6667400800290, 4611989555589991478, 3458977958151673952, 6917764394533288975, 3459052792046917752, 6598681307170, 4611987356566737966, 1153132748304095328, 6917764325813812247]
def er1 : List Int := [1153207583809968254, 16321643184140584460, 2783701757906159110, 4903348155254702104, 3855125262014732288, 6915406082083874, 6920357004849905677, 9225625486107657120, 14773003046438964225, 14411556474853005957, 224303595147332, 19426378406760340, 4612550409995682180, 60253924405022560, 1783431080487993348, 360318621139862960, 1475358791306314496, 6757049657460736, 9946305744193921024, 6922033452439144728, 10376368326240695565, 3465519952184788108, 161592681320611920, 10304499967686893762, 26394725228680]
def eh1 : List Int := [1450324212945721468, 11713336149562230292, 1666817846730120710, 4903633959562510438, 15492954464522198528, 9230285793770655618, 3246615977553890316, 9225663153103491364, 14779918443662673955, 12106289616188807816, 4612493094462181444, 40819026391794164, 6341938224081977728, 60473828876230432, 1766824125311078292, 360318070452915632, 11419412735148630784, 6919781927915389208, 10306623263070692512, 8100151369804122904, 10531196812023035229, 13625887002170795022, 161601483854544984, 2233983482726462919, 2312624833444749320]
def ez2 : List Int := [1450324212945754366, 11713336149562230292, 1666817846730120710, 4903633959562510438, 15492954464522198528, 9230285793770655618, 3246615977553890316, 9225663153103491364, 14779918443662673955, 12106289616188807816, 4612493094462181444, 40819026391794164, 6341938224081977728, 60473828876230432, 1766824125311078292, 360318070452915632, 11419412735148630784, 6919781927915389208, 10306623263070692512, 8100151369804122904, 10531196812023035229, 13625887002170795022, 161601483854544984, 2233983482726462919, 2312624833444749320]
theorem est1 : round ez1 1 = ez2 := by
  have a : theta ez1 = et1 := (theta_eq rfl).trans (by decide +kernel)
  have b : rhoPi et1 = er1 := (rp_eq _).trans (by decide +kernel)
  have c : chi er1 = eh1 := (chi_eq rfl).trans (by decide +kernel)
  unfold round
  rw [a, b, c]
  decide +kernel
theorem epz2 : permN ez0 2 = ez2 := by
  rw [permN, epz1]
  exact est1
def et2 : List Int := [8877989583718359351, 13523062057878054404, 9857871899705138912, 9725763187368136604, 5257066976878602152, 17225409080230278731, 3759375836809096220, 2298994707461525954, 1146516340943620057, 4032125521629537056, 3393106374492514701, 1852304152775713252, 14406064636492988774, 13989086085800661210, 9760381907013285436, 7643867703402378361, 9753766556195570448, 18439858121557606910, 5619810971715971930, 17266614392699318960, 18244699986228595860, 11834703807701632030, 11372037603697623230, 15993789886798903869, 13830214188587571616]
def er2 : List Int := [8877989583718359351, 1639806430792285475, 15711711370917162667, 9923751208857223090, 12871808444350869499, 8001314313902984609, 14756018057927425871, 8698106922230565993, 16744964968350231171, 15256562755744366615, 8599380042046557193, 18008452761570799751, 6555275275440244335, 11481450914442817775, 14403711086166799560, 9199245716311484116, 11429965150536279221, 15191556923956105318, 14168792843300077555, 4457988978058912314, 2464467974926284728, 17043860279698362371, 15463987021737611483, 14008713633969887942, 10445327083387424890]
def eh2 : List Int := [12915972164085031871, 1689353723090201651, 16720447799939542754, 13883501770049535926, 13141744057034765307, 6861905801918254465, 5514087083087715789, 7723040304520121469, 14150961945280685859, 6016733203377255001, 8450484314583648865, 9001757333199962119, 1898553153398571631, 12629622580298823918, 5714085662664410190, 4605574096477435542, 11150858508985387812, 16973809514896101486, 9692769088920517431, 13675411001020178971, 3471016167423801184, 17070634951203854855, 14271378782365077731, 16170876796420422982, 6661159934368026745]
def ez3 : List Int := [3692600127230288693, 1689353723090201651, 16720447799939542754, 13883501770049535926, 13141744057034765307, 6861905801918254465, 5514087083087715789, 7723040304520121469, 14150961945280685859, 6016733203377255001, 8450484314583648865, 9001757333199962119, 1898553153398571631, 12629622580298823918, 5714085662664410190, 4605574096477435542, 11150858508985387812, 16973809514896101486, 9692769088920517431, 13675411001020178971, 3471016167423801184, 17070634951203854855, 14271378782365077731, 16170876796420422982, 6661159934368026745]
theorem est2 : round ez2 2 = ez3 := by
  have a : theta ez2 = et2 := (theta_eq rfl).trans (by decide +kernel)
  have b : rhoPi et2 = er2 := (rp_eq _).trans (by decide +kernel)
  have c : chi er2 = eh2 := (chi_eq rfl).trans (by decide +kernel)
  unfold round
  rw [a, b, c]
  decide +kernel
theorem epz3 : permN ez0 3 = ez3 := by
  rw [permN, epz2]
  exact est2
def et3 : List Int := [15732278361725064463, 7497633521627892203, 2562344882243879469, 16395114858133221591, 6198277725333856183, 13137252356313316283, 3744957807191144469, 11576627681051418802, 16665972560785827906, 12906143008240213525, 11253546759344143451, 257146280152770015, 15122161484864515744, 10119117247763707791, 12621598494433880066, 15456581160279687340, 16556064629181132540, 2308838516411563169, 11936966140333601878, 6749980559274085975, 15654795158935732570, 10635865968593141727, 976065974025239596, 14069600999013855783, 13552844193286061109]
def er3 : List Int := [15732278361725064463, 4864260604937145159, 10048945354355638187, 17201303504087725331, 6340847556952420101, 10604894161456362081, 5402957025495429565, 16241397779914941148, 423229205671706520, 9345380283607930757, 14995267043255784406, 3034408638908738728, 865526684799524007, 12447824319177709405, 361554032150144260, 193070933549786534, 7746116297629259423, 5063373844502772750, 5923059491230748677, 2865205546381587378, 5252272238988357771, 2410451330909406708, 3104107518829689523, 17186116252613826680, 5649975726953463678]
def eh3 : List Int := [5917803927610761639, 2811120689499900759, 11114100545166816687, 7401400964662830361, 6232462294087722309, 3614180754878935073, 5648002433467231421, 7009123261538099929, 1716890418596667384, 14511298500469249561, 15283940080179397585, 9989382635619495920, 937459922293619879, 8981882729516647823, 3386847015272139052, 481296894432185766, 8885025559349745310, 7171340211368648636, 5917241201410479105, 5661396649289965995, 4821051204577364616, 16569583188564772284, 3133563092308647349, 17150297471106504953, 8032340144727259658]
def ez4 : List Int := [15141175966612988327, 2811120689499900759, 11114100545166816687, 7401400964662830361, 6232462294087722309, 3614180754878935073, 5648002433467231421, 7009123261538099929, 1716890418596667384, 14511298500469249561, 15283940080179397585, 9989382635619495920, 937459922293619879, 8981882729516647823, 3386847015272139052, 481296894432185766, 8885025559349745310, 7171340211368648636, 5917241201410479105, 5661396649289965995, 4821051204577364616, 16569583188564772284, 3133563092308647349, 17150297471106504953, 8032340144727259658]
theorem est3 : round ez3 3 = ez4 := by
  have a : theta ez3 = et3 := (theta_eq rfl).trans (by decide +kernel)
  have b : rhoPi et3 = er3 := (rp_eq _).trans (by decide +kernel)
  have c : chi er3 = eh3 := (chi_eq rfl).trans (by decide +kernel)
  unfold round
  rw [a, b, c]
  decide +kernel
theorem epz4 : permN ez0 4 = ez4 := by
  rw [permN, epz3]
  exact est3
def et4 : List Int := [13343086719951861254, 3052775729304964511, 9582673711702673850, 18149255917397331810, 509669697979989025, 6423346671212357504, 4845596463756454517, 9188505491385376460, 9996738084417320323, 10956958373947182973, 13769508997795320944, 9799782841838643512, 1424210204880158898, 16270973490849886196, 9109917719068577864, 7899737080235907591, 8508227330236371030, 9026619494532768681, 14949225528954551930, 2305210573039483087, 3020711915742420265, 16765850385431430004, 3872513419923120544, 8316470934328095362, 4473209406735917934]
def er4 : List Int := [13343086719951861254, 8838125375789004977, 17439504140852860314, 3260906502232862410, 148715113230864261, 10475932342533616065, 17972491521300725998, 17922351613814809477, 5335304042962072800, 484064177490390068, 6105551458609929022, 16215285163667993375, 6737331578420304952, 18284840413111570207, 16568332324805322670, 2208740606312224175, 17063708003477552189, 18395598018484429343, 9173118990813544098, 9399973439517850802, 11619040464780444270, 13962669325410183194, 1101169962807390997, 16335698083264465452, 11723169320597065171]
def eh4 : List Int := [4119854819388125964, 8639967946757903089, 17299968899751548063, 10695267412074143432, 4653066727634700084, 10516220621694292672, 18116039359763879054, 18162395910101724049, 15801599413778130209, 7979741711268998170, 5245790582056425246, 4722098777013350424, 6724381508985404568, 17136629768090343183, 4967060509332539311, 983762787439777709, 17062816367475220637, 9185165034465370639, 7190404723809992623, 7078271094218888354, 12625629929812660587, 2409802960651493426, 1101468894411290310, 16409429598057711616, 16316911034896164291]
def ez5 : List Int := [4119854819388158855, 8639967946757903089, 17299968899751548063, 10695267412074143432, 4653066727634700084, 10516220621694292672, 18116039359763879054, 18162395910101724049, 15801599413778130209, 7979741711268998170, 5245790582056425246, 4722098777013350424, 6724381508985404568, 17136629768090343183, 4967060509332539311, 983762787439777709, 17062816367475220637, 9185165034465370639, 7190404723809992623, 7078271094218888354, 12625629929812660587, 2409802960651493426, 1101468894411290310, 16409429598057711616, 16316911034896164291]
theorem est4 : round ez4 4 = ez5 := by
  have a : theta ez4 = et4 := (theta_eq rfl).trans (by decide +kernel)
  have b : rhoPi et4 = er4 := (rp_eq _).trans (by decide +kernel)
  have c : chi er4 = eh4 := (chi_eq rfl).trans (by decide +kernel)
  unfold round
  rw [a, b, c]
  decide +kernel
theorem epz5 : permN ez0 5 = ez5 := by
  rw [permN, epz4]
  exact est4
def et5 : List Int := [15194853212267135991, 8617458727852084432, 13088402219491300549, 6917936723476886102, 16651149171235355971, 8791944207801836208, 18093512549613570735, 13383366228544285643, 3397619803714849215, 14500039066681120365, 11763005171078866798, 4753632754076053049, 1794476840800107714, 1854852190832524177, 16386711514355989976, 16597272435128379357, 17058303918928723644, 4237549253656584789, 10927202985561396017, 14248494720636153557, 4955476761009398043, 2378286643991002643, 5404243036161930908, 1717642224726402206, 5041375542800932788]
def er5 : List Int := [15194853212267135991, 11577346930218159660, 8207265818788589292, 2814432224709112999, 11823675252820218237, 13931748168942229292, 14649766525030667175, 1870321000083176309, 14976612359464886988, 9898902416375017171, 17234917455704168864, 7985211236194906862, 8859384171956763524, 13606065962073642437, 10335623347306304277, 11019235070861420063, 17387882523076602573, 16226248788266247431, 7371301007175359847, 11391809397932951396, 7883786573300213041, 16111508243656024260, 18374383502824416928, 7732605572930252784, 9513146575964010572]
def eh5 : List Int := [9483162700950528823, 12007212890709712431, 17435175827654602676, 8486480662041212453, 9526846589418675573, 15125076734612946812, 958534017577947951, 1872606026061182822, 10364926476932953056, 9464203862909218384, 18378181469216182432, 16920322108529473199, 8781835651276503444, 15911865059407486309, 10357861259042353499, 11010522232214545181, 17802205090270294701, 8736128982157158151, 7396096506158267772, 18380833089523027876, 5548639316362470161, 16039148885049289108, 8862706186327029420, 155156323329616577, 1626499892588247176]
def ez6 : List Int := [9483162698803045174, 12007212890709712431, 17435175827654602676, 8486480662041212453, 9526846589418675573, 15125076734612946812, 958534017577947951, 1872606026061182822, 10364926476932953056, 9464203862909218384, 18378181469216182432, 16920322108529473199, 8781835651276503444, 15911865059407486309, 10357861259042353499, 11010522232214545181, 17802205090270294701, 8736128982157158151, 7396096506158267772, 18380833089523027876, 5548639316362470161, 16039148885049289108, 8862706186327029420, 155156323329616577, 1626499892588247176]
theorem est5 : round ez5 5 = ez6 := by
  have a : theta ez5 = et5 := (theta_eq rfl).trans (by decide +kernel)
  have b : rhoPi et5 = er5 := (rp_eq _).trans (by decide +kernel)
  have c : chi er5 = eh5 := (chi_eq rfl).trans (by decide +kernel)
  unfold round
  rw [a, b, c]
  decide +kernel
theorem epz6 : permN ez0 6 = ez6 := by
  rw [permN, epz5]
  exact est5
def et6 : List Int := [3715362741850593096, 18028464951406375698, 2148612839384109336, 2693395523682970732, 3967362834816060324, 7057837323974281986, 5899341983545753106, 17715897278111205834, 16100729791087454633, 3490100870176585857, 5699589196593112286, 13133277803178892178, 10806403847249151800, 10120882694064621356, 4361257860387219338, 2943193769839318883, 12366298463227371408, 10744358295217756587, 3891922967397017397, 5489071327383476597, 18236713777466120047, 9368975096089232553, 10870000262188943360, 5945292592979095688, 11937549535285587545]
def er6 : List Int := [3715362741850593096, 12673451636820308636, 11113129814640843445, 7652069061620580444, 12430916650400115050, 6218348238179012047, 4900007119456241397, 8703225425325795058, 860774065623652836, 1358750032773617920, 17610185829103199781, 8566037302834524861, 6918159659183958322, 3249710208244086092, 5349081584886608983, 15240852241112397627, 2283518688854776431, 800040720922462937, 15021970948655270541, 9823056588349523888, 537153209846027334, 15343685470932904084, 2401479760084890979, 15325404636146714536, 582412236937826982]
def eh6 : List Int := [2564621972524883817, 14979321308679172820, 2214544235651691415, 8736172314033346140, 2369840983368157694, 7963494090831965645, 5130258108737642481, 7548380342339577586, 5761816352588291371, 1358802813760871216, 17609605269532765991, 8933434926203889393, 2459172956706597153, 11049995747865491308, 5241007264698852559, 15242470962750306219, 14974523835166366315, 223018118460231657, 9509527556388158086, 9539206537237876724, 2766367844575019301, 19064318444644892, 2973191145219646821, 15262311532213961704, 15609059421081516598]
def ez7 : List Int := [11787994007232143336, 14979321308679172820, 2214544235651691415, 8736172314033346140, 2369840983368157694, 7963494090831965645, 5130258108737642481, 7548380342339577586, 5761816352588291371, 1358802813760871216, 17609605269532765991, 8933434926203889393, 2459172956706597153, 11049995747865491308, 5241007264698852559, 15242470962750306219, 14974523835166366315, 223018118460231657, 9509527556388158086, 9539206537237876724, 2766367844575019301, 19064318444644892, 2973191145219646821, 15262311532213961704, 15609059421081516598]
theorem est6 : round ez6 6 = ez7 := by
  have a : theta ez6 = et6 := (theta_eq rfl).trans (by decide +kernel)
  have b : rhoPi et6 = er6 := (rp_eq _).trans (by decide +kernel)
  have c : chi er6 = eh6 := (chi_eq rfl).trans (by decide +kernel)
  unfold round
  rw [a, b, c]
  decide +kernel
theorem epz7 : permN ez0 7 = ez7 := by
  rw [permN, epz6]
  exact est6
def et7 : List Int := [18201909749477698413, 18410313589646718152, 15945610762663428831, 5459312694950676242, 5078392568335899538, 3569509301764561224, 8623823080909527533, 12335552151406925754, 9009544408417193061, 8377294567865829724, 12352407117130357666, 5433100699225415917, 16271831427881179241, 12368917573889615394, 3324363121206408867, 10125588361233498926, 18397096595972988023, 13900858820606246561, 12756130915429805000, 16355771191238237592, 8748645279141606816, 3520712178820033536, 16911985436253754413, 16226714579490149030, 13693135449050081370]
def er7 : List Int := [18201909749477698413, 15392977499136092918, 2937278305826752063, 3418885559825080540, 17476516854675976065, 9999412227733206527, 1181358434046919714, 6585536568495103253, 10632717150549981616, 13643213225600189061, 18373883105583884689, 14712086594242080426, 4378033126854258, 18113264298630158562, 13411091357372638629, 1390812787738136729, 2454906562667814084, 11025149820250862893, 16337165589238833268, 12024946214122170770, 17821460745948020919, 3656505265338050598, 17679814471444419231, 5622283546952593162, 14082848715280134144]
def eh7 : List Int := [15337893082529525604, 15181290453074070070, 17891185306074564926, 2549163076349223088, 17549925749519462163, 13962721195783924970, 10443705000508482690, 8589638385490812688, 10452854429505555658, 12499297835512808069, 18372764901130299841, 3998040805747818026, 4307666463042423, 13816793777504620786, 13411460217587426191, 9965634214507540912, 4659483994365582484, 11331341493541387439, 17561027583800324221, 9723734343446832598, 3608471497335427630, 4087729293439878438, 8370874310890832543, 8792386813569904573, 14113247970300762112]
def ez8 : List Int := [6114521045674717037, 15181290453074070070, 17891185306074564926, 2549163076349223088, 17549925749519462163, 13962721195783924970, 10443705000508482690, 8589638385490812688, 10452854429505555658, 12499297835512808069, 18372764901130299841, 3998040805747818026, 4307666463042423, 13816793777504620786, 13411460217587426191, 9965634214507540912, 4659483994365582484, 11331341493541387439, 17561027583800324221, 9723734343446832598, 3608471497335427630, 4087729293439878438, 8370874310890832543, 8792386813569904573, 14113247970300762112]
theorem est7 : round ez7 7 = ez8 := by
  have a : theta ez7 = et7 := (theta_eq rfl).trans (by decide +kernel)
  have b : rhoPi et7 = er7 := (rp_eq _).trans (by decide +kernel)
  have c : chi er7 = eh7 := (chi_eq rfl).trans (by decide +kernel)
  unfold round
  rw [a, b, c]
  decide +kernel
theorem epz8 : permN ez0 8 = ez8 := by
  rw [permN, epz7]
  exact est7
def et8 : List Int := [17239914490123308794, 14780852131680961852, 18275981561699747459, 497931882537927750, 15032576122317758442, 8817716493991742845, 10331710360833125256, 8277493807018004653, 13008242489903654972, 10260819541455975036, 4999684741119428694, 2951266668777861408, 424564956640814282, 11112188544090125316, 11028392072947602294, 3591151320411459623, 6856507823395591070, 11000628496884904722, 15437281435455886475, 11953126221773559087, 9910315190571987897, 2825003444330842668, 8196629993299103010, 6885340955264420683, 16199439523046091001]
def er8 : List Int := [17239914490123308794, 16625188615013356986, 4406297448807178501, 13086407814505219975, 18310157127835875379, 10038589833782136870, 1163069907404383836, 3103989781536326322, 14588227801966524325, 5636264767589775780, 11114960189652372089, 13250769585284852572, 3908931409342131417, 16287540611955109797, 910440492203124258, 12875271262808896386, 12083395121436763885, 15277784813873168547, 768641566209821781, 5431215415951096843, 18404053445707100576, 2187134544750931156, 16377827457255609447, 11069934074082243271, 11300013777323370672]
def eh8 : List Int := [17745918567949823743, 7359033964106814264, 8585246593468897589, 13032294241697153359, 18348297038315874611, 11548265480754860164, 15007194966073660249, 3394472030515923634, 5418956116995553191, 6781305423811878908, 11122489370535710456, 8639196283169745016, 4223629202661207259, 8090913294451582972, 2956252883274041126, 16333200146450117504, 12473445943811009209, 10759263160250020009, 13405774857917779925, 5642830725063047270, 2191543353557705091, 502722438367235668, 16652072561128840279, 18052696093516817351, 11296071230428292324]
def ez9 : List Int := [17745918567949823605, 7359033964106814264, 8585246593468897589, 13032294241697153359, 18348297038315874611, 11548265480754860164, 15007194966073660249, 3394472030515923634, 5418956116995553191, 6781305423811878908, 11122489370535710456, 8639196283169745016, 4223629202661207259, 8090913294451582972, 2956252883274041126, 16333200146450117504, 12473445943811009209, 10759263160250020009, 13405774857917779925, 5642830725063047270, 2191543353557705091, 502722438367235668, 16652072561128840279, 18052696093516817351, 11296071230428292324]
theorem est8 : round ez8 8 = ez9 := by
  have a : theta ez8 = et8 := (theta_eq rfl).trans (by decide +kernel)
  have b : rhoPi et8 = er8 := (rp_eq _).trans (by decide +kernel)
  have c : chi er8 = eh8 := (chi_eq rfl).trans (by decide +kernel)
  unfold round
  rw [a, b, c]
  decide +kernel
theorem epz9 : permN ez0 9 = ez9 := by
  rw [permN, epz8]
  exact est8
def et9 : List Int := [8769590690655165174, 8604605192503236214, 9443878148987858892, 1323619119345387579, 5818399819109584929, 3438037532245632007, 13910912248758785559, 15794158244173233227, 17127626866920144595, 17294152857098823406, 1562458285799144059, 7398762781086395702, 14895322682130192930, 15477395021996535432, 9735548098433007156, 7880978636101043971, 13570379546743042039, 7024240722526078544, 2056055097813124769, 16164115715825647988, 10492296136714769664, 1707778877230893850, 1383593180825070254, 6632251322100083379, 3665527472992165366]
def er9 : List Int := [8769590690655165174, 6728795730050272014, 9426340189892541465, 7420235677383758098, 11850157579046849719, 4046471636665624329, 14290672491460231186, 12499666286393152472, 1008515540627066843, 14008007202885297493, 17209210385006472428, 14701947646771139318, 9952112250798839169, 5942950740426323168, 9150096567594796656, 8600127619016816862, 11484812862336388792, 13168017611553036698, 10294188060466229437, 12924216564516053994, 2360969537246964723, 7635528567225850655, 7646859569742656778, 9047176237989535982, 6831115508923575400]
def eh9 : List Int := [18096547559585804007, 4127994466322369036, 204088005618856124, 4574022581620949842, 11543873289599356351, 1225788902651278529, 14329021773602294801, 8032095271191426012, 3890955084852956627, 303564427672511815, 17062843397108574701, 11270070461585650326, 12006355900860176273, 15166394651994578028, 9151074802233726050, 6324734484882516444, 10890282186136481437, 9781308480666606296, 14617994996816357545, 4286874957013771722, 2507057245088976883, 8968598007493172219, 7520979800266881290, 6741051758093149053, 1727411769431637092]
def ez10 : List Int := [18096547559585803887, 4127994466322369036, 204088005618856124, 4574022581620949842, 11543873289599356351, 1225788902651278529, 14329021773602294801, 8032095271191426012, 3890955084852956627, 303564427672511815, 17062843397108574701, 11270070461585650326, 12006355900860176273, 15166394651994578028, 9151074802233726050, 6324734484882516444, 10890282186136481437, 9781308480666606296, 14617994996816357545, 4286874957013771722, 2507057245088976883, 8968598007493172219, 7520979800266881290, 6741051758093149053, 1727411769431637092]
theorem est9 : round ez9 9 = ez10 := by
  have a : theta ez9 = et9 := (theta_eq rfl).trans (by decide +kernel)
  have b : rhoPi et9 = er9 := (rp_eq _).trans (by decide +kernel)
  have c : chi er9 = eh9 := (chi_eq rfl).trans (by decide +kernel)
  unfold round
  rw [a, b, c]
  decide +kernel
theorem epz10 : permN ez0 10 = ez10 := by
  rw [permN, epz9]
  exact est9
def et10 : List Int := [2024809271824746624, 221904265996022054, 1526100599112762147, 17821059526194953752, 599814461943004766, 17742119766677508654, 18196548811128403771, 8687268354475507779, 18290346778152153241, 12416584385345410726, 860520425465859842, 11978058258743364028, 12783460434755413006, 1896848741610316070, 15463616776026908547, 12754110509638160179, 12501926781635761591, 10396256962388093255, 213537758985852387, 10599469684239849003, 14263058513604634908, 5056158677339365585, 9198390972646378133, 10783351087361105463, 13807495847169789829]
def er10 : List Int := [2024809271824746624, 15524963208103968661, 15789749534492215598, 7979199325230096084, 9589384129605103591, 9313180015874347507, 1974479674158007561, 6884163403726878736, 17489436339077476202, 12679013917649267026, 443808531992044108, 2582852475145949406, 14040157390783161835, 1792860330097257363, 4654690184396478402, 11095191570998269888, 17581246931886849744, 16893592010062492312, 8525334338750105635, 4005290137271040798, 14216583205060354248, 5548129277452565528, 17110232625662313366, 2170285741033643618, 1777890635647910725]
def eh10 : List Int := [1448418883899508906, 17575356682986039621, 6495428189786826765, 8552985240487354068, 5077378186856290546, 14246640173695969763, 13497362054820905571, 5965427224232392704, 17491415457729970123, 13093133959418424666, 14278717319911360365, 4321527772705069774, 9421777558381638059, 2216252021510130591, 7010075109862082384, 10518176664635496392, 16716553603863262963, 17003266098229854596, 18318984924870429923, 6165573187236156174, 7226714838889587534, 6841755282096267384, 17137271867152712339, 15806867661633617642, 1159921242686922581]
def ez11 : List Int := [1448418886047025315, 17575356682986039621, 6495428189786826765, 8552985240487354068, 5077378186856290546, 14246640173695969763, 13497362054820905571, 5965427224232392704, 17491415457729970123, 13093133959418424666, 14278717319911360365, 4321527772705069774, 9421777558381638059, 2216252021510130591, 7010075109862082384, 10518176664635496392, 16716553603863262963, 17003266098229854596, 18318984924870429923, 6165573187236156174, 7226714838889587534, 6841755282096267384, 17137271867152712339, 15806867661633617642, 1159921242686922581]
theorem est10 : round ez10 10 = ez11 := by
  have a : theta ez10 = et10 := (theta_eq rfl).trans (by decide +kernel)
  have b : rhoPi et10 = er10 := (rp_eq _).trans (by decide +kernel)
  have c : chi er10 = eh10 := (chi_eq rfl).trans (by decide +kernel)
  unfold round
  rw [a, b, c]
  decide +kernel
theorem epz11 : permN ez0 11 = ez11 := by
  rw [permN, epz10]
  exact est10
def et11 : List Int := [6306842287169157319, 706701160532344461, 17237649407801245309, 6106402739775602978, 4446270582878840108, 9667413283066927495, 4717171481369810347, 16705398291816951408, 15038081682880143421, 14877092651741270148, 9635318535872132873, 13970068883401035014, 4025351161122908123, 4381359542324040809, 1912588575665486478, 15161270401843799980, 2151491168750461243, 6839761829985818612, 15867898417029518101, 3337922840166117072, 2870416064345477930, 11877202852361893808, 6399574112646501603, 17965215504127992092, 7771793760058958475]
def er11 : List Int := [6306842287169157319, 7591578134578168762, 9169005305321516599, 3547676394408085187, 13641368062650407670, 359373254450472143, 14924042739829761888, 3295571992138856524, 6640385832341091416, 7717475791721894556, 1413402321064688922, 17681078474840448057, 10710400116100537198, 5958019691886596142, 1211261094646554455, 5574921054258569884, 11641128254640280210, 9123879477757352711, 15821893477961707381, 2087789256124982177, 8921098370377699231, 2227127871443677328, 107320088451913359, 1607602156382073995, 10615323262028472002]
def eh11 : List Int := [4729393194854864066, 7591824700066759546, 17544553718926292483, 8339471234579998402, 10743143294245820878, 2620215451244494019, 11466054108966740848, 1055145236959410888, 6396065552505458715, 11536501075570233788, 1386363097019973212, 13209845398898596921, 10728344661463241791, 5890439172248547366, 17621958197294309238, 1390514054955117465, 2345733533203625698, 8860789452422830983, 11138704127254802281, 13580834561560196003, 8852701050564364688, 642396674773979280, 9254161997943102671, 9133671768421447062, 10912630983952297666]
def ez12 : List Int := [4729393192707380424, 7591824700066759546, 17544553718926292483, 8339471234579998402, 10743143294245820878, 2620215451244494019, 11466054108966740848, 1055145236959410888, 6396065552505458715, 11536501075570233788, 1386363097019973212, 13209845398898596921, 10728344661463241791, 5890439172248547366, 17621958197294309238, 1390514054955117465, 2345733533203625698, 8860789452422830983, 11138704127254802281, 13580834561560196003, 8852701050564364688, 642396674773979280, 9254161997943102671, 9133671768421447062, 10912630983952297666]
theorem est11 : round ez11 11 = ez12 := by
  have a : theta ez11 = et11 := (theta_eq rfl).trans (by decide +kernel)
  have b : rhoPi et11 = er11 := (rp_eq _).trans (by decide +kernel)
  have c : chi er11 = eh11 := (chi_eq rfl).trans (by decide +kernel)
  unfold round
  rw [a, b, c]
  decide +kernel
theorem epz12 : permN ez0 12 = ez12 := by
  rw [permN, epz11]
  exact est11
def et12 : List Int := [8775991442943568431, 5855740246843197533, 12046928612341634115, 3821368370336738741, 3831491472790089074, 2032350106758890020, 12035812398147758167, 6553069615716096136, 2193421336072444780, 9741961379816704, 3122650755470213307, 10325237216944969502, 13886624845618837119, 1660968005959727953, 6104272247150717898, 3108788446948496766, 1771578032966532549, 3360342930357238215, 15863748050584085534, 2036664753653778207, 4806368875159517047, 3526899817395755959, 15292232390308642447, 4067498933669674721, 3984008735144467070]
def er12 : List Int := [8775991442943568431, 7963906139622062317, 14678354911072995297, 6461587413517698283, 9418583822554861010, 10726829785508512676, 14137423041298170409, 6534461970052154841, 6897442130195297883, 18052430113284437969, 11711480493686395066, 13568085784220017174, 3734901871105415651, 4877342871499775772, 11248687306642361038, 10240265723413356937, 14516265164766296695, 3058555916075694653, 3101765973668239185, 16228847326243432766, 16846790208367572240, 13118766140949900845, 15624646452316054059, 7506089176493014572, 14107599269583023836]
def eh12 : List Int := [17940108622793059631, 9117955193441073383, 5305941937735978737, 2370650615976814278, 9561390866135162130, 10254795700425623156, 13916851046389952555, 18061701708020581465, 6620539133000038015, 13449218030972319704, 11606761547578214747, 18185890035460940810, 12665557527727315233, 7001775756976525100, 9246835081874188490, 12402551967408267649, 14446881136475258679, 16880191131761267219, 2670395964032014288, 11554110914069082952, 11608898087816738066, 10819088969606476329, 6563406716197135099, 4623345737659592492, 15405805842514502897]
def ez13 : List Int := [17940108620645543332, 9117955193441073383, 5305941937735978737, 2370650615976814278, 9561390866135162130, 10254795700425623156, 13916851046389952555, 18061701708020581465, 6620539133000038015, 13449218030972319704, 11606761547578214747, 18185890035460940810, 12665557527727315233, 7001775756976525100, 9246835081874188490, 12402551967408267649, 14446881136475258679, 16880191131761267219, 2670395964032014288, 11554110914069082952, 11608898087816738066, 10819088969606476329, 6563406716197135099, 4623345737659592492, 15405805842514502897]
theorem est12 : round ez12 12 = ez13 := by
  have a : theta ez12 = et12 := (theta_eq rfl).trans (by decide +kernel)
  have b : rhoPi et12 = er12 := (rp_eq _).trans (by decide +kernel)
  have c : chi er12 = eh12 := (chi_eq rfl).trans (by decide +kernel)
  unfold round
  rw [a, b, c]
  decide +kernel
theorem epz13 : permN ez0 13 = ez13 := by
  rw [permN, epz12]
  exact est12
def et13 : List Int := [580635805183851437, 18376645244676720700, 12261015807994372603, 1935420793879867092, 5676767302874224202, 9126156337314107517, 4660408429132693744, 1814265640275405651, 7051829538078916205, 8129620846531214464, 5901198395456560978, 9074414799913178321, 5494540570206139947, 6563588734879647550, 5342487551318123410, 6694728118448043912, 5328373352078659564, 704781012730232089, 2248112201875660738, 7651471956070725648, 5903607510360400667, 1705367361472021234, 13299263138524958193, 8796845818486384446, 2286532659206074281]
def er13 : List Int := [580635805183851437, 868917697617617899, 16118763918360071256, 14150029258466256476, 15660618801931241454, 5972286497320976367, 8171150025293237539, 10316099016233384594, 14554940471285294633, 3968250901529313726, 18306546415643889785, 5432536535368651974, 6603547601632898330, 3421948940893294698, 5693132054039709623, 5188980966432325486, 11860519717589085537, 13488486035190138359, 17387388933596021987, 4501933509329994471, 16900312007280756862, 3940911979633632895, 11651314872039903140, 15307472048715432399, 6821469445888084936]
def eh13 : List Int := [15834250914646669245, 882991997689774575, 14317483290495569402, 14147289137850539613, 15948567727802550188, 15919088532706381183, 3580442783307335946, 13341952810139106052, 9879870612908939368, 1591475088069575102, 17189512404638349665, 8015575359455151270, 1992423504379865743, 11488927735120298018, 5648081773556728625, 5990436981965078520, 16489164635550084449, 13043179015040468979, 12775735839052839403, 11160788392059536102, 7748717072732324350, 7133418170347513396, 12335750140093138340, 8389731751547601401, 5375816713274650057]
def ez14 : List Int := [6610878877791893302, 882991997689774575, 14317483290495569402, 14147289137850539613, 15948567727802550188, 15919088532706381183, 3580442783307335946, 13341952810139106052, 9879870612908939368, 1591475088069575102, 17189512404638349665, 8015575359455151270, 1992423504379865743, 11488927735120298018, 5648081773556728625, 5990436981965078520, 16489164635550084449, 13043179015040468979, 12775735839052839403, 11160788392059536102, 7748717072732324350, 7133418170347513396, 12335750140093138340, 8389731751547601401, 5375816713274650057]
theorem est13 : round ez13 13 = ez14 := by
  have a : theta ez13 = et13 := (theta_eq rfl).trans (by decide +kernel)
  have b : rhoPi et13 = er13 := (rp_eq _).trans (by decide +kernel)
  have c : chi er13 = eh13 := (chi_eq rfl).trans (by decide +kernel)
  unfold round
  rw [a, b, c]
  decide +kernel
theorem epz14 : permN ez0 14 = ez14 := by
  rw [permN, epz13]
  exact est13
def et14 : List Int := [12044985561461134103, 12189748440326078605, 4350515199094208230, 1507551867617809507, 7542089639321830389, 2341057550688446814, 10726416156000307304, 4898204250464272408, 6459000888664445526, 11810792695067428327, 1304785674503789888, 14580017067450107332, 16246536828630700435, 5750670161765878300, 18130462110318430056, 12660924151445756889, 4737484215034620931, 5752054954394647791, 7057750719675003861, 3394947352988190399, 10889163775190345183, 14381494565757298518, 5899903326788320952, 11876258846970956743, 18403097421381331344]
def er14 : List Int := [12044985561461134103, 10125931779185089334, 12433487543982970790, 6654613319639121477, 4316267129111592921, 18076711433437888102, 15425977010605407877, 10438285396030319104, 1549352860965757637, 737487915848540119, 5932752806942605595, 18337166850360608272, 1614818179947666680, 2109550900627816239, 5983741386992540792, 9925779783114118932, 13294227948070614789, 6521521437882651433, 12952544513329965033, 14385852849668639563, 10311000836628327865, 3111091779741573993, 11151955554722356593, 3258270077795360478, 2185746041900539227]
def eh14 : List Int := [9736910552236087191, 15913444862105400183, 10316215239252203070, 15587502596421959235, 3702239636220164089, 18020388945481596518, 15209874650536033856, 11159963905487959826, 16519493926740902629, 1025696199933140822, 5932674174413412851, 17833327990651495703, 6080132814389894312, 2095294736612376108, 18383734457890658936, 14645279439223740220, 1818947821369365445, 2208251808791354155, 13536565483959137277, 17862491161874852682, 2295477508397937065, 1015793161733546471, 9836970294581632112, 12411845666254028414, 4499523934373338907]
def ez15 : List Int := [513538515381278494, 15913444862105400183, 10316215239252203070, 15587502596421959235, 3702239636220164089, 18020388945481596518, 15209874650536033856, 11159963905487959826, 16519493926740902629, 1025696199933140822, 5932674174413412851, 17833327990651495703, 6080132814389894312, 2095294736612376108, 18383734457890658936, 14645279439223740220, 1818947821369365445, 2208251808791354155, 13536565483959137277, 17862491161874852682, 2295477508397937065, 1015793161733546471, 9836970294581632112, 12411845666254028414, 4499523934373338907]
theorem est14 : round ez14 14 = ez15 := by
  have a : theta ez14 = et14 := (theta_eq rfl).trans (by decide +kernel)
  have b : rhoPi et14 = er14 := (rp_eq _).trans (by decide +kernel)
  have c : chi er14 = eh14 := (chi_eq rfl).trans (by decide +kernel)
  unfold round
  rw [a, b, c]
  decide +kernel
theorem epz15 : permN ez0 15 = ez15 := by
  rw [permN, epz14]
  exact est14
def et15 : List Int := [15274706324163962269, 597675847386992854, 1116115263576068654, 1733630716127086992, 17549724975142245580, 3373078142816259301, 542932953524641249, 1925178865026921218, 2675121440262386998, 14902934495632702563, 9696192052613049200, 2585070168837949110, 15291773959660984504, 15946405717549058559, 4597611866012776781, 2298138698299975103, 14817552671030554724, 11453492371523755835, 8900646010165986350, 3965854495790549119, 14628237324384322346, 15745820914651857478, 636207854542723168, 7809597078338357677, 18346644094242094126]
def er15 : List Int := [15274706324163962269, 711023901138374779, 5387930927137238297, 5507741955260379310, 1722158965326593959, 4028294601977688447, 13794298763134430493, 3782560126066187140, 6200499786709514413, 79525981817840396, 1195351694773985708, 12530982919465648262, 458674555561089543, 687826868355235639, 13933864735916895239, 1101478269269338415, 7145187664381692721, 9227450349594007695, 9029850469603594105, 12496470007148792137, 9502400852748792971, 11174151922441842554, 7493047085743198468, 9172563878494728361, 7643051437478775067]
def eh15 : List Int := [10519123366695504029, 1005490707201130717, 6432783994288054808, 10121776569182286006, 2297476227516198853, 4032739120144180223, 18262008750694485300, 3849550897658026116, 6983386734678829278, 9877125533036621580, 1337496561326242733, 11845833123478414774, 14270079903743973895, 1804554681679642271, 7800033024233434117, 10326487324285663649, 2195731705048616001, 9708100042545295, 9174225570753277791, 14793378180723657561, 16659781755597677711, 9444567218070540243, 7488402473167214614, 18340121190816810025, 8219370627089695339]
def ez16 : List Int := [1295751329840695454, 1005490707201130717, 6432783994288054808, 10121776569182286006, 2297476227516198853, 4032739120144180223, 18262008750694485300, 3849550897658026116, 6983386734678829278, 9877125533036621580, 1337496561326242733, 11845833123478414774, 14270079903743973895, 1804554681679642271, 7800033024233434117, 10326487324285663649, 2195731705048616001, 9708100042545295, 9174225570753277791, 14793378180723657561, 16659781755597677711, 9444567218070540243, 7488402473167214614, 18340121190816810025, 8219370627089695339]
theorem est15 : round ez15 15 = ez16 := by
  have a : theta ez15 = et15 := (theta_eq rfl).trans (by decide +kernel)
  have b : rhoPi et15 = er15 := (rp_eq _).trans (by decide +kernel)
  have c : chi er15 = eh15 := (chi_eq rfl).trans (by decide +kernel)
  unfold round
  rw [a, b, c]
  decide +kernel
theorem epz16 : permN ez0 16 = ez16 := by
  rw [permN, epz15]
  exact est15
def et16 : List Int := [14359128228219796219, 14616163462142758202, 8669833609990755031, 14609077791100951368, 15158006022195804544, 16233676955905806746, 4200877077970698451, 1475178928524437579, 2748288466580226848, 4948559928024447305, 14137098275083127240, 7153942946654627921, 16653532275530525384, 6899805023751755105, 11637583925454862912, 6481168536284220356, 15662390408678359462, 2393316001205495872, 4151049454782792865, 68375664054230300, 3570755059188291306, 4914241494662693428, 5114012276221782233, 13280882192892145623, 13812357916000359470]
def er16 : List Int := [14359128228219796219, 7209475361316741016, 18398971637435922067, 12649675705733821295, 15462543554819895275, 10712354548387405293, 1194362181954849485, 2416321758407708230, 5203024449391231064, 2945094543741416731, 10785582850575964789, 2177731057016246981, 4145664245964440080, 17504169997882956800, 8879703611658520119, 6143389055575056497, 3701142704229036776, 2280180111646999949, 7069670162384818331, 15544261164220491183, 16002516457779852469, 10381661292372912289, 4917121899357566456, 5879318144752346077, 1210221904941222097]
def eh16 : List Int := [6635943084252977912, 7243366708064427764, 12630089280284424723, 12595634685779321727, 17770603607900531435, 13087927194406869487, 6388279357463808725, 91056151167548229, 15858360935890094268, 2940008198388709147, 12983340429764565605, 15878529615049395909, 3501647161712394279, 8534138548307952704, 8154826959778662071, 6476582933350229364, 6000230297559999226, 9945249363664199849, 7087877782926053579, 17700350543434233639, 11112768346742809069, 9336412087585860260, 4932904049080237560, 11494243107415562233, 1209377548663455953]
def ez17 : List Int := [15859315121107720954, 7243366708064427764, 12630089280284424723, 12595634685779321727, 17770603607900531435, 13087927194406869487, 6388279357463808725, 91056151167548229, 15858360935890094268, 2940008198388709147, 12983340429764565605, 15878529615049395909, 3501647161712394279, 8534138548307952704, 8154826959778662071, 6476582933350229364, 6000230297559999226, 9945249363664199849, 7087877782926053579, 17700350543434233639, 11112768346742809069, 9336412087585860260, 4932904049080237560, 11494243107415562233, 1209377548663455953]
theorem est16 : round ez16 16 = ez17 := by
  have a : theta ez16 = et16 := (theta_eq rfl).trans (by decide +kernel)
  have b : rhoPi et16 = er16 := (rp_eq _).trans (by decide +kernel)
  have c : chi er16 = eh16 := (chi_eq rfl).trans (by decide +kernel)
  unfold round
  rw [a, b, c]
  decide +kernel
theorem epz17 : permN ez0 17 = ez17 := by
  rw [permN, epz16]
  exact est16
def et17 : List Int := [17535519884359029567, 15789493905719556957, 8014172789284911562, 7642228192896673341, 3708347433517939080, 11163470260627329066, 16662663945682595708, 13924118420389591196, 1789686286325042686, 17088467207015310456, 11196830670939362208, 7188246551582731116, 17358915250558108670, 12875035717830361346, 13024599694122948052, 8551285263520574641, 17068377620817659731, 5367032239322145648, 12006379196714784137, 3481045610670646340, 13075443473645103144, 4470825359280836365, 9514464307517898273, 6575757086785753787, 15358398408219284402]
def er17 : List Int := [17535519884359029567, 16931228321109849953, 297228260596225885, 5227089697443206119, 18410354866471613768, 15105440815886953056, 16586160333862654566, 15787669072676691204, 642464005316702882, 3495151047653431236, 13132243737729562299, 5699863366875359024, 9979833296666057377, 5703960793626985520, 4197387029004342741, 13741762072404538770, 1532634175994712291, 513583410605568399, 14101163434913047869, 13500456636212780882, 11226915234176003698, 18378181960699602278, 17152779804678173966, 6510343507872925682, 17883301437123345460]
def eh17 : List Int := [17821482500061811491, 11707043542822909891, 12928523442000737109, 5227091656099271120, 17860141597751349512, 14461444806375696224, 16631666371334156484, 16940308809946437696, 14540565979645090434, 1625207705267963842, 3916194439773990458, 727746493546373920, 13420560601405967204, 14634315077406254618, 8304915630548243669, 13588510750141289630, 15408048679488705747, 4569638375130835917, 14345635429038982589, 13410103311936741171, 11226492747369774714, 17248060594514601878, 5633149201499426058, 6456300295298876848, 11254029255509327152]
def ez18 : List Int := [8598110463207035811, 11707043542822909891, 12928523442000737109, 5227091656099271120, 17860141597751349512, 14461444806375696224, 16631666371334156484, 16940308809946437696, 14540565979645090434, 1625207705267963842, 3916194439773990458, 727746493546373920, 13420560601405967204, 14634315077406254618, 8304915630548243669, 13588510750141289630, 15408048679488705747, 4569638375130835917, 14345635429038982589, 13410103311936741171, 11226492747369774714, 17248060594514601878, 5633149201499426058, 6456300295298876848, 11254029255509327152]
theorem est17 : round ez17 17 = ez18 := by
  have a : theta ez17 = et17 := (theta_eq rfl).trans (by decide +kernel)
  have b : rhoPi et17 = er17 := (rp_eq _).trans (by decide +kernel)
  have c : chi er17 = eh17 := (chi_eq rfl).trans (by decide +kernel)
  unfold round
  rw [a, b, c]
  decide +kernel
theorem epz18 : permN ez0 18 = ez18 := by
  rw [permN, epz17]
  exact est17
def et18 : List Int := [3107515673493527931, 3062733902230850227, 7995350939659534012, 12954031119778518879, 9134497713384529014, 10719655137233398200, 7942465320711081396, 3928959494800364969, 3640559111152966669, 11498354700713659068, 7650380994433425634, 9434966203805687376, 7467265054603839117, 3483572278644760725, 18041215195357403563, 16205803498421590598, 6711103355594254755, 16353972295562487332, 4348865268698907442, 3676617935671382605, 14392942899815084194, 7470251223364262630, 10642728958297653475, 11733786229731197759, 1527264096963932238]
def er18 : List Int := [3107515673493527931, 8996862623872060701, 14714503792404989946, 13651987859144936264, 8910000706913797452, 13293519398514745194, 14618358594287565093, 5862815734338750227, 1527964527115517220, 8247870147428288540, 6125467804461700454, 11645734708999187021, 1131540131621154885, 430243772686814515, 377668868581826296, 3494574386490778122, 10938851558921459925, 13758242146928378379, 9048839729110479226, 4585463526849347459, 1998837734914883503, 475484828260502222, 15288830118418632989, 7436724748205741806, 11434260819747498905]
def eh18 : List Int := [12323031751174283161, 5592017612099126557, 10283494152345748478, 13651971364868838267, 3422151386978288968, 12212690427570575736, 14915604846869725441, 3683653992993523467, 11330048275482044998, 3527607905526392857, 6566812592728737126, 11661356735519991679, 1130753496516764301, 6195414237487189045, 11934620177831720177, 1755903255343669248, 15482948913459095973, 13605102167273000074, 9065402907254354290, 13268261735918511958, 14670996152621444798, 2704775438827654188, 5523374531201595404, 7360506413709312712, 11146027584833678297]
def ez19 : List Int := [12323031751174315923, 5592017612099126557, 10283494152345748478, 13651971364868838267, 3422151386978288968, 12212690427570575736, 14915604846869725441, 3683653992993523467, 11330048275482044998, 3527607905526392857, 6566812592728737126, 11661356735519991679, 1130753496516764301, 6195414237487189045, 11934620177831720177, 1755903255343669248, 15482948913459095973, 13605102167273000074, 9065402907254354290, 13268261735918511958, 14670996152621444798, 2704775438827654188, 5523374531201595404, 7360506413709312712, 11146027584833678297]
theorem est18 : round ez18 18 = ez19 := by
  have a : theta ez18 = et18 := (theta_eq rfl).trans (by decide +kernel)
  have b : rhoPi et18 = er18 := (rp_eq _).trans (by decide +kernel)
  have c : chi er18 = eh18 := (chi_eq rfl).trans (by decide +kernel)
  unfold round
  rw [a, b, c]
  decide +kernel
theorem epz19 : permN ez0 19 = ez19 := by
  rw [permN, epz18]
  exact est18
def et19 : List Int := [10407087940129212265, 4893091972588121554, 9502824876246173808, 14865943155631123418, 6061366736018200989, 10526427993899123074, 13872152066036099534, 4487951759478754437, 17151838002237362919, 5446880358359037132, 6938729825697078684, 12657473886494691248, 209313764966639875, 2792639988055372948, 16051930444523251748, 2537615614781667578, 15610438774997401962, 12797426685866821380, 1077834483655592403, 14069796781271350147, 17361528315699148356, 3167259468862694627, 4751412290198434690, 1521722703829400169, 16270666974327944972]
def er19 : List Int := [10407087940129212265, 9699887217568966244, 9027491941151806715, 10957995293011992231, 4709098212320032883, 10892147828468279048, 5565288808058239347, 169606384447974627, 9812599306403411574, 5205612554702192240, 9786183945176243108, 10527751500997009743, 10075448370296357606, 4752881632103072707, 2887436869553079234, 8398613851806954087, 2403822866041022419, 11638920026458604222, 14691358918475667660, 7571991603294266874, 2375706219061543452, 8356151794978796457, 10021655340400302244, 1689399918585178591, 12669037875450778508]
def eh19 : List Int := [16802216904380209138, 472432247403523168, 4323483413409182891, 592217480219695535, 5173118473362708599, 10766064559682528136, 14203979025860766567, 4776230210808636643, 2246726256492803966, 12751087775147523, 10236306726795139332, 15149711357880901710, 11804272076390253286, 14283204544786045927, 4035832802016551817, 17585464579386257995, 7727659267235659667, 9336188800439084940, 16098945733937515209, 7513444675014778986, 12175521308642724376, 7464408282534712050, 2563692772629727908, 1682644691081685455, 18218878070865175085]
def ez20 : List Int := [7578844865377949688, 472432247403523168, 4323483413409182891, 592217480219695535, 5173118473362708599, 10766064559682528136, 14203979025860766567, 4776230210808636643, 2246726256492803966, 12751087775147523, 10236306726795139332, 15149711357880901710, 11804272076390253286, 14283204544786045927, 4035832802016551817, 17585464579386257995, 7727659267235659667, 9336188800439084940, 16098945733937515209, 7513444675014778986, 12175521308642724376, 7464408282534712050, 2563692772629727908, 1682644691081685455, 18218878070865175085]
theorem est19 : round ez19 19 = ez20 := by
  have a : theta ez19 = et19 := (theta_eq rfl).trans (by decide +kernel)
  have b : rhoPi et19 = er19 := (rp_eq _).trans (by decide +kernel)
  have c : chi er19 = eh19 := (chi_eq rfl).trans (by decide +kernel)
  unfold round
  rw [a, b, c]
  decide +kernel
theorem epz20 : permN ez0 20 = ez20 := by
  rw [permN, epz19]
  exact est19
def et20 : List Int := [13283034653582793746, 15495744766567188043, 1379447659118269155, 11621452438659733852, 262630000440566793, 4905291121861093474, 1484834141226762572, 7884752938010002091, 13140855421980342157, 4918733729356257917, 6878417612002562798, 268823263554505317, 10157275218058208430, 8018774696857901844, 8966033278130036727, 2699829055547308449, 13455544346814191032, 12588721115290386884, 8510319071123622458, 3182507065253501972, 8755986115732537842, 13119967214167996633, 914443934093405420, 13702694086995241276, 13310919059345759827]
def er20 : List Int := [13283034653582793746, 1735224278725201187, 16655846785568208465, 4855146245092459351, 8689428926609813038, 13242431826856016662, 11836216497998677037, 18133852748601399154, 195650773228019564, 9337677528616451485, 12544745459424824471, 6562098042482240219, 3744802696400376018, 3065069461676233772, 859230910892598798, 13861225471160428644, 7387739729018586259, 17020604847879721998, 1122529542404200282, 4376981791053001321, 14179919970061731000, 14329098149774750651, 11731872348706431381, 6481597178328412548, 15586380709252883302]
def eh20 : List Int := [6879219302844788290, 1753097356708711461, 16119078469338389113, 14060275339638068039, 8689429228851621647, 17036786830503372868, 11841552428092427297, 8838431742138529763, 3816685062406610286, 9337712575100795316, 10304189320222219415, 5985285207768477431, 3647000518688994000, 10275580949222268093, 6551780428356338758, 5219011068555507816, 7279651144856750019, 15861533826077996079, 14975824096471703390, 1890431829630105338, 16487083621474583740, 11523355310385783739, 2504928393709708279, 6733798830712255772, 15735575332331475045]
def ez21 : List Int := [16102591341847015107, 1753097356708711461, 16119078469338389113, 14060275339638068039, 8689429228851621647, 17036786830503372868, 11841552428092427297, 8838431742138529763, 3816685062406610286, 9337712575100795316, 10304189320222219415, 5985285207768477431, 3647000518688994000, 10275580949222268093, 6551780428356338758, 5219011068555507816, 7279651144856750019, 15861533826077996079, 14975824096471703390, 1890431829630105338, 16487083621474583740, 11523355310385783739, 2504928393709708279, 6733798830712255772, 15735575332331475045]
theorem est20 : round ez20 20 = ez21 := by
  have a : theta ez20 = et20 := (theta_eq rfl).trans (by decide +kernel)
  have b : rhoPi et20 = er20 := (rp_eq _).trans (by decide +kernel)
  have c : chi er20 = eh20 := (chi_eq rfl).trans (by decide +kernel)
  unfold round
  rw [a, b, c]
  decide +kernel
theorem epz21 : permN ez0 21 = ez21 := by
  rw [permN, epz20]
  exact est20
def et21 : List Int := [10880981234268802999, 15827852074213637061, 2133045263393694047, 7883071843637752593, 12821844151230847569, 11824258070495496496, 7468716862449089473, 13294639285150076101, 11146966708947762488, 5256090644094684394, 14306021616094739939, 10440349390434654487, 17344732760706222582, 2367872577353596139, 10631805874384498968, 7671982343575836, 12030547810770333731, 2177241726494592777, 7030890144090095368, 15229893221122409380, 12446546914290017736, 6636262692179252315, 16207094072743925969, 17524965914593580362, 1385038228550346043]
def er21 : List Int := [10880981234268802999, 17851167737899296163, 14722187491557008751, 12301205386593841751, 2971125906121082062, 3832166570031211713, 2989343730208902934, 3767708486500609822, 3892364477520136522, 4331729768306684698, 13208960074717722507, 2306686858965496174, 2345558992006265023, 6589665054621410515, 1289518191757931244, 10699504684857524922, 9718929668123607316, 10252957127255809603, 10297560739980021531, 5400718856910548437, 14368319371130587223, 11262756089270171614, 14751694827932454519, 11507321571450765612, 8098306695007457645]
def eh21 : List Int := [11475914355239342075, 15351678628042553267, 14791705489011286503, 4374870556811213158, 5298374423008044238, 2391131649837696201, 3132297926878728022, 4346140663488175374, 3974117638107270539, 3768718005069363212, 13241329704584970010, 8894854997208020270, 2308466423562873491, 18264796288272753104, 1289456369929335432, 11273924902398958841, 9673903293172269068, 14869451312173186695, 1937685006172491057, 5220696884320431313, 9788013413471567990, 10326587909218678486, 12463794713674489398, 1780672649371535678, 7524300707912410853]
def ez22 : List Int := [2252542318384533371, 15351678628042553267, 14791705489011286503, 4374870556811213158, 5298374423008044238, 2391131649837696201, 3132297926878728022, 4346140663488175374, 3974117638107270539, 3768718005069363212, 13241329704584970010, 8894854997208020270, 2308466423562873491, 18264796288272753104, 1289456369929335432, 11273924902398958841, 9673903293172269068, 14869451312173186695, 1937685006172491057, 5220696884320431313, 9788013413471567990, 10326587909218678486, 12463794713674489398, 1780672649371535678, 7524300707912410853]
theorem est21 : round ez21 21 = ez22 := by
  have a : theta ez21 = et21 := (theta_eq rfl).trans (by decide +kernel)
  have b : rhoPi et21 = er21 := (rp_eq _).trans (by decide +kernel)
  have c : chi er21 = eh21 := (chi_eq rfl).trans (by decide +kernel)
  unfold round
  rw [a, b, c]
  decide +kernel
theorem epz22 : permN ez0 22 = ez22 := by
  rw [permN, epz21]
  exact est21
def et22 : List Int := [5432251412577606950, 2340649531047948803, 12122141511001241747, 1685519076922148689, 11035071981630006707, 8434847635865605780, 16001182164912573158, 6425609002064774266, 2086404486806729660, 16496340162020899185, 16421038591780089159, 10234264431728242846, 5005081677562246119, 15468479645514735591, 13927093000732963829, 14435336818209492644, 8302154958281721276, 12332590328279476211, 3546172402991493894, 11011385548922989996, 15273847060305957419, 8807034010714780518, 14520878425784043330, 3703290862379317001, 13314970740996581272]
def er22 : List Int := [5432251412577606950, 16189998523476241118, 5737368409553380407, 2333730190540547793, 1285204798830161458, 13340062821308056234, 6889861190158012140, 2241100218273851967, 2933970254847431892, 6426795821650393320, 4681299062095897606, 5410606510535417494, 10406842646594934312, 15009601320433593496, 7775601891885404126, 143940561630995356, 16501586264683287490, 2136144222695356984, 1497454306729252243, 662984326272520631, 16865593433032474148, 16000860885183296185, 4772121122898224587, 18238814951583823228, 16781391969149570457]
def eh22 : List Int := [4932050635065743623, 13893161698831001630, 6776755165842779157, 7656429695110445013, 12779442181119413482, 13339983932418384569, 9168121711552518700, 5627789103618769431, 9851309891878000342, 2282199889891275948, 15032972375829521454, 798831706007254534, 13532371466941568366, 15013823447283109016, 6982965351597102414, 1827181297517939620, 16521856860799637057, 1483509342803229212, 1442286329918453659, 17092124828225274357, 16879244144738548582, 7136651949269246605, 4817665115358555466, 18379697343444518744, 18222438435812052224]
def ez23 : List Int := [4932050632918259974, 13893161698831001630, 6776755165842779157, 7656429695110445013, 12779442181119413482, 13339983932418384569, 9168121711552518700, 5627789103618769431, 9851309891878000342, 2282199889891275948, 15032972375829521454, 798831706007254534, 13532371466941568366, 15013823447283109016, 6982965351597102414, 1827181297517939620, 16521856860799637057, 1483509342803229212, 1442286329918453659, 17092124828225274357, 16879244144738548582, 7136651949269246605, 4817665115358555466, 18379697343444518744, 18222438435812052224]
theorem est22 : round ez22 22 = ez23 := by
  have a : theta ez22 = et22 := (theta_eq rfl).trans (by decide +kernel)
  have b : rhoPi et22 = er22 := (rp_eq _).trans (by decide +kernel)
  have c : chi er22 = eh22 := (chi_eq rfl).trans (by decide +kernel)
  unfold round
  rw [a, b, c]
  decide +kernel
theorem epz23 : permN ez0 23 = ez23 := by
  rw [permN, epz22]
  exact est22
def et23 : List Int := [18374131156805114123, 16519377789790871352, 16129874720397878876, 2902929822132852756, 15398126045783019285, 264880811775124148, 6536205716480748810, 14973027495761578078, 14609324600370968855, 8882383036536452947, 7643725392272892963, 3357705459954188576, 4188252360455970599, 10543926819792298841, 288486595380385457, 11806006864096807849, 13891246537427919207, 10756133651122368597, 6200430509678549082, 9933810497068646922, 5815044432774347627, 5081337212631438763, 14053699892337485571, 13626080676370524313, 10956004240368258815]
def er23 : List Int := [18374131156805114123, 7408603542296428635, 6555334302379976437, 6219467009664139659, 16353636999615211010, 12646632775869568116, 358382926527181897, 5809570917054488859, 9524260098036469464, 8674241514183267552, 14592011505872191089, 17489811969553864627, 2895496005680408347, 15851549151365040777, 13864510136077075148, 8245161249204963600, 6540963063666883358, 7195993283112501434, 13495207683081030306, 11078038765445046568, 4032468680099469719, 10080568205401046620, 1011999856651437016, 11571809334890947148, 1878604776816203437]
def eh23 : List Int := [16633797556430077871, 7121987202003222865, 18035012034529034485, 5351394012144785538, 16353532546077582930, 18412783603198760294, 9284587722384849545, 2944999383351570747, 264653659749781196, 8654012947508770025, 14017358335954132601, 2407256339670638387, 2895390452210067295, 15095255416571082424, 17316587762701255502, 6013984437109885360, 14035109111570034974, 7163060779998355890, 15638812977766777522, 10466102270734619430, 3745926604053256215, 3130384482864979544, 1444385073371977593, 9616104016769313630, 10525877764722749669]
def ez24 : List Int := [7410425521722818471, 7121987202003222865, 18035012034529034485, 5351394012144785538, 16353532546077582930, 18412783603198760294, 9284587722384849545, 2944999383351570747, 264653659749781196, 8654012947508770025, 14017358335954132601, 2407256339670638387, 2895390452210067295, 15095255416571082424, 17316587762701255502, 6013984437109885360, 14035109111570034974, 7163060779998355890, 15638812977766777522, 10466102270734619430, 3745926604053256215, 3130384482864979544, 1444385073371977593, 9616104016769313630, 10525877764722749669]
theorem est23 : round ez23 23 = ez24 := by
  have a : theta ez23 = et23 := (theta_eq rfl).trans (by decide +kernel)
  have b : rhoPi et23 = er23 := (rp_eq _).trans (by decide +kernel)
  have c : chi er23 = eh23 := (chi_eq rfl).trans (by decide +kernel)
  unfold round
  rw [a, b, c]
  decide +kernel
theorem epz24 : permN ez0 24 = ez24 := by
  rw [permN, epz23]
  exact est23
theorem perm_end : perm ez0 = ez24 := (perm_eq _).trans epz24
end Go.Proofs.YtganbceicojfmaaDoor

/-
  The conditions of the digest's functions are met.
-/
namespace Go.Proofs.YtganbceicojfmaaDoor
open Go Go.Avc Go.Proofs
set_option linter.unusedVariables false
set_option linter.unusedSimpArgs false
set_option maxRecDepth 100000
theorem vc42 : P42 := by
  rintro p' b s a hs ⟨h0, h1⟩
  obtain ⟨p, rfl⟩ := ex_nat h0
  have e1 : ((p : Int) / 8).toNat = p / 8 := by omega
  have e2 : (8 : Int) * ((p : Int) % 8) = ((8 * (p % 8) : Nat) : Int) := by omega
  rw [i64max, e1, e2]
  simp only [Int.toNat_natCast, Nat.mul_one]
  exact ⟨by omega, by omega, by omega, by omega, by omega, by omega, by omega, by omega, rfl, by trivial⟩
theorem ok42 : SpecOk (base.with sp7) 42 (mkF ct42) := spec_ct (fn := Tryd.f42) (c := bodyOf Tryd.f42) (k := Tryd.f42.ntmps - ct42.ps.length) (ct := ct42) c7 Tryd.func42 (by kernel_rfl) noAnn (by kernel_rfl) (fun vs w _ => Tryd.call42 vs w) (e42.mpr vc42)
theorem c42 : (base.with sp42).Ok := addS_ok c7 ok42
theorem putS_len (s : List Int) (p : Nat) (b : Int) : (putS s p b).length = s.length := List.length_set
theorem putS_w {s : List Int} (h : areW s) (p : Nat) (b : Int) : areW (putS s p b) := set_w h (xr_any _ _) _
def okH (h : Hs) : Prop := h.1.length = 25 ∧ areW h.1 ∧ h.2 < 136
theorem step_ok {h : Hs} (k : okH h) (b : Int) : okH (step1 h b) := by
  obtain ⟨h1, h2, h3⟩ := k
  unfold step1
  split
  · obtain ⟨k1, k2⟩ := perm_ok (s := putS h.1 h.2 b) (by rw [putS_len]; exact h1) (putS_w h2 _ _)
    exact ⟨k1, k2, by show 0 < 136; decide⟩
  · exact ⟨by rw [putS_len]; exact h1, putS_w h2 _ _, by show h.2 + 1 < 136; omega⟩
theorem wr_ok {h : Hs} (k : okH h) (l : List (List CD)) : ∀ n, okH (wrN h l n)
  | 0 => k
  | n + 1 => step_ok (wr_ok k l n) _
theorem step_lt {h : Hs} (k : h.2 < 136) (b : Int) : (step1 h b).2 < 136 := by
  unfold step1
  split
  · show 0 < 136; decide
  · show h.2 + 1 < 136; omega
theorem wr_lt {h : Hs} (k : h.2 < 136) (l : List (List CD)) : ∀ n, (wrN h l n).2 < 136
  | 0 => k
  | n + 1 => step_lt (wr_lt k l n) _
theorem vc28 : P28 := by
  rintro l s a' _ hs ⟨h0, h1⟩ _
  obtain ⟨a, rfl⟩ := ex_nat h0
  rw [Int.toNat_natCast]
  refine ⟨⟨⟨rfl, rfl, by omega, by omega, rfl, rfl⟩, trivial⟩, ?_⟩
  rintro l2 n i' s2 a2 _ _ ⟨rfl, rfl, h2, h3, hs2, ha2⟩
  obtain ⟨i, rfl⟩ := ex_nat h2
  rw [Int.toNat_natCast] at hs2 ha2
  have hlt := wr_lt (h := (s, a)) (show a < 136 by omega) l2 i
  refine condI (fun h => ?_) fun h => ?_
  · simp only [decide_eq_true_eq] at h
    refine ⟨by omega, by omega, by omega, by omega, ?_⟩
    rw [rv_def, suc_nat, wrN, Int.toNat_natCast, ha2, Int.toNat_natCast, hs2]
    refine condI (fun h4 => ?_) fun h4 => ?_
    · simp only [decide_eq_true_eq] at h4
      refine ⟨trivial, by omega, ⟨rfl, rfl, by omega, by omega, ?_, ?_⟩, by omega⟩
      · unfold step1; rw [if_pos (by omega)]
      · unfold step1; rw [if_pos (by omega)]; rfl
    · simp only [decide_eq_false_iff_not] at h4
      refine ⟨by omega, ⟨rfl, rfl, by omega, by omega, ?_, ?_⟩, by omega⟩
      · unfold step1; rw [if_neg (by omega)]
      · unfold step1; rw [if_neg (by omega)]; rfl
  · simp only [decide_eq_false_iff_not] at h
    have hi : i = l2.length := by omega
    subst hi
    exact ⟨hs2, ha2⟩
theorem ok28 : SpecOk (base.with sp42) 28 (mkF ct28) := spec_ct (fn := Tryd.f28) (c := bodyOf Tryd.f28) (k := Tryd.f28.ntmps - ct28.ps.length) (ct := ct28) c42 Tryd.func28 (by kernel_rfl) ann28 (by kernel_rfl) (fun vs w _ => Tryd.call28 vs w) (e28.mpr vc28)
theorem c28 : (base.with sp28).Ok := addS_ok c42 ok28
theorem vc29 : P29 := by
  rintro s a' hs ⟨hw, h0, h1⟩
  obtain ⟨a, rfl⟩ := ex_nat h0
  rw [Int.toNat_natCast]
  have k := perm_ok (s := putS (putS s a 6) 135 128) (by rw [putS_len, putS_len]; exact hs) (putS_w (putS_w hw _ _) _ _)
  refine ⟨by omega, by omega, trivial, k.2, by omega, by omega, by omega, ?_, rfl, rfl⟩
  rw [List.drop_zero, fin, hid_eq]
theorem ok29 : SpecOk (base.with sp28) 29 (mkF ct29) := spec_ct (fn := Tryd.f29) (c := bodyOf Tryd.f29) (k := Tryd.f29.ntmps - ct29.ps.length) (ct := ct29) c28 Tryd.func29 (by kernel_rfl) noAnn (by kernel_rfl) (fun vs w _ => Tryd.call29 vs w) (e29.mpr vc29)
theorem c29 : (base.with sp29).Ok := addS_ok c28 ok29
theorem rep0_w (n : Nat) : areW (List.replicate n 0) := fun j => by
  rw [List.getD_eq_getElem?_getD, List.getElem?_replicate]
  split <;> exact isW0
theorem hs0_ok : okH hs0 := ⟨rfl, rep0_w 25, by decide⟩
theorem wrP_ok (l : List (List CD)) : ∀ n, okH (wrP l n)
  | 0 => hs0_ok
  | n + 1 => wr_ok (wrP_ok l n) _ _
theorem vc26 : P26 := by
  intro l _ hp _
  refine ⟨⟨⟨rfl, rfl, by omega, by omega, rfl, rfl⟩, trivial⟩, ?_⟩
  rintro l2 n i' _ s a _ _ _ ⟨rfl, rfl, h0, h1, hs, ha⟩
  obtain ⟨i, rfl⟩ := ex_nat h0
  rw [Int.toNat_natCast] at hs ha
  obtain ⟨k1, k2, k3⟩ := wrP_ok l2 i
  refine condI (fun h => ?_) fun h => ?_
  · simp only [decide_eq_true_eq] at h
    rw [suc_nat, ha, hs, Int.toNat_natCast, Int.toNat_natCast]
    exact ⟨by omega, by omega, by omega, by omega, ⟨rfl, rfl, by omega, by omega, rfl, rfl⟩, by omega⟩
  · simp only [decide_eq_false_iff_not] at h
    have hi : i = l2.length := by omega
    subst hi
    rw [ha, hs, Int.toNat_natCast, sumP, hid_eq]
    exact ⟨⟨k2, by omega, by omega⟩, rfl⟩
theorem ok26 : SpecOk (base.with sp29) 26 (mkF ct26) := spec_ct (fn := Tryd.f26) (c := bodyOf Tryd.f26) (k := Tryd.f26.ntmps - ct26.ps.length) (ct := ct26) c29 Tryd.func26 (by kernel_rfl) ann26 (by kernel_rfl) (fun vs w _ => Tryd.call26 vs w) (e26.mpr vc26)
theorem c26 : (base.with sp26).Ok := addS_ok c29 ok26
theorem take_get (l : List Int) {n i : Nat} (h : i < n) : (l.take n).getD i 0 = l.getD i 0 := by
  rw [List.getD_eq_getElem?_getD, List.getElem?_take_of_lt h, List.getD_eq_getElem?_getD]
theorem end_is : putS (putS hs0.1 hs0.2 6) 135 128 = ez0 := by decide +kernel
theorem sum_none {i : Nat} (h : i < 8) : (sumP []).getD i 0 = wb 7410425521722818471 i := by
  rw [sumP, hid_eq]
  show (fin hs0).getD i 0 = _
  rw [fin, hid_eq, end_is, perm_end, take_get _ (by omega), bysL_get _ (by omega), show i / 8 = 0 from by omega, show i % 8 = i from by omega]
  rfl
theorem vc25 : P25 := by
  intro _
  rw [sum_none (i := 0) (by omega), sum_none (i := 1) (by omega), sum_none (i := 2) (by omega), sum_none (i := 3) (by omega)]
  refine ⟨fun i => ?_, by omega, by omega, fun _ => by omega, fun _ => by omega, fun _ => by omega, fun _ => by omega, fun _ => by omega, fun _ => by omega, by decide⟩
  intro j
  have e1 : pt [] i = [] := by unfold pt; rfl
  rw [e1]
  have e2 : rv [] j = 0 := rfl
  rw [e2]
  exact ⟨by decide, by decide⟩
theorem ok25 : SpecOk (base.with sp26) 25 (mkF ct25) := spec_ct (fn := Tryd.f25) (c := bodyOf Tryd.f25) (k := Tryd.f25.ntmps - ct25.ps.length) (ct := ct25) c26 Tryd.func25 (by kernel_rfl) noAnn (by kernel_rfl) (fun vs w _ => Tryd.call25 vs w) (e25.mpr vc25)
theorem c25 : (base.with sp25).Ok := addS_ok c26 ok25
theorem xo_lt (a b : Nat) : ∀ n, xoN a b n < 2 ^ n
  | 0 => Nat.one_pos
  | n + 1 => by
    have := xo_lt a b n
    rw [xoN, Nat.pow_succ]
    split <;> omega
theorem xo_rng (a b : Int) : 0 ≤ xo a b ∧ xo a b < 256 := by
  have := xo_lt a.toNat b.toNat 8
  unfold xo
  rw [show (2 : Nat) ^ 8 = 256 from by decide] at this
  exact ⟨by omega, by omega⟩
theorem i64_id {n : Int} (h : 0 ≤ n) (h2 : n < 256) : IntKind.i64.wrap n = n := by
  unfold IntKind.wrap
  simp [IntKind.signed, IntKind.bits]
  omega
theorem vc41 : P41 := by
  rintro a' b' ⟨⟨a0, a1⟩, b0, b1⟩
  obtain ⟨a, rfl⟩ := ex_nat a0
  obtain ⟨b, rfl⟩ := ex_nat b0
  rw [i64_id a0 a1, i64_id b0 b1]
  simp only [Int.toNat_natCast]
  refine ⟨⟨⟨by omega, by omega, rfl, rfl, by omega, by omega⟩, trivial⟩, ?_⟩
  rintro o e x y i' ⟨h0, h1, rfl, rfl, rfl, rfl⟩
  obtain ⟨i, rfl⟩ := ex_nat h0
  rw [i64max]
  simp only [Int.toNat_natCast, suc_nat]
  refine condI (fun h => ?_) fun h => ?_
  · simp only [decide_eq_true_eq] at h
    have hp : 2 ^ i ≤ 2 ^ 7 := Nat.pow_le_pow_right (by decide) (by omega)
    rw [show (2 : Nat) ^ 7 = 128 from by decide] at hp
    have hx := xo_lt a b i
    have ha : a / 2 ^ i ≤ a := Nat.div_le_self _ _
    have hb : b / 2 ^ i ≤ b := Nat.div_le_self _ _
    have ea : a / 2 ^ (i + 1) = a / 2 ^ i / 2 := by rw [Nat.pow_succ, Nat.div_div_eq_div_mul]
    have eb : b / 2 ^ (i + 1) = b / 2 ^ i / 2 := by rw [Nat.pow_succ, Nat.div_div_eq_div_mul]
    have ep : 2 ^ (i + 1) = 2 ^ i * 2 := Nat.pow_succ 2 i
    refine ⟨⟨Int.natCast_nonneg _, by decide⟩, ⟨Int.natCast_nonneg _, by decide⟩, condI (fun h4 => ?_) fun h4 => ?_⟩
    · simp only [decide_eq_true_eq] at h4
      have ex : xoN a b (i + 1) = xoN a b i + 2 ^ i := by rw [xoN, if_pos (by omega)]
      rw [ex, ea, eb, ep]
      generalize 2 ^ i = P at *
      generalize a / P = X at *
      generalize b / P = Y at *
      generalize xoN a b i = O at *
      exact ⟨by omega, by omega, by omega, by omega, by omega, ⟨by omega, by omega, by omega, by omega, by omega, by omega⟩, by omega⟩
    · simp only [decide_eq_false_iff_not] at h4
      have ex : xoN a b (i + 1) = xoN a b i := by rw [xoN, if_neg (by omega)]
      rw [ex, ea, eb, ep]
      generalize 2 ^ i = P at *
      generalize a / P = X at *
      generalize b / P = Y at *
      generalize xoN a b i = O at *
      exact ⟨by omega, by omega, by omega, by omega, ⟨by omega, by omega, by omega, by omega, by omega, by omega⟩, by omega⟩
  · simp only [decide_eq_false_iff_not] at h
    have hi : i = 8 := by omega
    subst hi
    have hx := xo_lt a b 8
    rw [show (2 : Nat) ^ 8 = 256 from by decide] at hx
    unfold xo
    rw [wrap_u8, Int.toNat_natCast, Int.toNat_natCast]
    omega
theorem ok41 : SpecOk (base.with sp25) 41 (mkF ct41) := spec_ct (fn := Tryd.f41) (c := bodyOf Tryd.f41) (k := Tryd.f41.ntmps - ct41.ps.length) (ct := ct41) c25 Tryd.func41 (by kernel_rfl) ann41 (by kernel_rfl) (fun vs w _ => Tryd.call41 vs w) (e41.mpr vc41)
theorem c41 : (base.with sp41).Ok := addS_ok c25 ok41
theorem padN_len (l : List (List CD)) (m : Nat) : (padN l m).length = l.length + 1 + m := by
  unfold padN
  simp only [List.length_append, List.length_cons, List.length_replicate]
  omega
theorem padN_s (l : List (List CD)) (m : Nat) : padN l m ++ [[.int 0]] = padN l (m + 1) := by
  unfold padN
  rw [List.append_assoc, List.cons_append, ← List.replicate_succ']
theorem last_set {α : Type} (A : List α) (x y : α) : (A ++ [x]).set A.length y = A ++ [y] := by
  rw [List.set_append_right _ _ (Nat.le_refl _), Nat.sub_self]; rfl
theorem last_get {α : Type} (A : List α) (x d : α) : (A ++ [x]).getD A.length d = x := by
  rw [List.getD_eq_getElem?_getD, List.getElem?_append_right (Nat.le_refl _), Nat.sub_self]; rfl
theorem pad_end (l : List (List CD)) (m : Nat) : (padN l m).set (l.length + m) (((padN l m).getD (l.length + m) []).set 0 (.int (IntKind.u8.wrap (rv (padN l m) (l.length + m) + 128)))) = l ++ (padT m).map row1 := by
  cases m with
  | zero =>
    have e : padN l 0 = l ++ [[.int 6]] := rfl
    rw [e, Nat.add_zero, last_get, last_set]
    unfold rv
    rw [last_get]
    rfl
  | succ m =>
    have e : padN l (m + 1) = (l ++ [.int 6] :: List.replicate m [.int 0]) ++ [[.int 0]] := by rw [← padN_s]; rfl
    have hl : (l ++ [CD.int 6] :: List.replicate m [CD.int 0]).length = l.length + (m + 1) := by
      simp only [List.length_append, List.length_cons, List.length_replicate]
    rw [e, ← hl, last_get, last_set]
    unfold rv
    rw [last_get]
    have e2 : padT (m + 1) = 6 :: (List.replicate m 0 ++ [128]) := by unfold padT; rw [if_neg (by omega), Nat.add_sub_cancel]
    rw [e2, List.map_cons, List.map_append, List.map_replicate, List.append_assoc]
    rfl
theorem vc30 : P30 := by
  intro l _ hl
  have e0 : [] ++ l ++ [[CD.int 6]] = padN l 0 := rfl
  rw [e0, padN_len, List.nil_append]
  refine ⟨by omega, by omega, ⟨⟨by omega, by omega, by rw [show l.length + 1 + 0 - l.length - 1 = 0 from by omega]⟩, trivial⟩, ?_⟩
  rintro o _ ⟨h0, h1, h2⟩ _
  obtain ⟨m, hm⟩ : ∃ m, o.length = l.length + 1 + m := ⟨o.length - l.length - 1, by omega⟩
  rw [show o.length - l.length - 1 = m from by omega] at h2
  have hpm : padm l = 135 - l.length % 136 := rfl
  refine ⟨by omega, condI (fun h => ?_) fun h => ?_⟩
  · simp only [decide_eq_true_eq] at h
    rw [h2, padN_s, padN_len, padN_len]
    have hm2 : m < padm l := by
      rw [hm] at h h1
      omega
    exact ⟨by omega, ⟨by omega, by omega, by rw [show l.length + 1 + (m + 1) - l.length - 1 = m + 1 from by omega]⟩, by show l.length + 200 - (l.length + 1 + (m + 1)) < l.length + 200 - (l.length + 1 + m); omega⟩
  · simp only [decide_eq_false_iff_not] at h
    have hm2 : m = padm l := by
      rw [hm] at h h1
      omega
    refine fun _ => ⟨by omega, fun _ => ⟨by omega, by omega, by omega, by omega, by omega, ?_⟩⟩
    rw [rv_def, show ((o.length : Int) - 1).toNat = l.length + m from by omega, h2, pad_end, padL, hid_eq, hm2]
theorem ok30 : SpecOk (base.with sp41) 30 (mkF ct30) := spec_ct (fn := Tryd.f30) (c := bodyOf Tryd.f30) (k := Tryd.f30.ntmps - ct30.ps.length) (ct := ct30) c41 Tryd.func30 (by kernel_rfl) ann30 (by kernel_rfl) (fun vs w _ => Tryd.call30 vs w) (e30.mpr vc30)
theorem c30 : (base.with sp30).Ok := addS_ok c41 ok30
theorem padT_len (m : Nat) : (padT m).length = m + 1 := by
  unfold padT
  split
  · simp [*]
  · simp; omega
theorem padL_len (l : List (List CD)) : (padL l).length = l.length + 1 + padm l := by
  rw [padL, hid_eq, List.length_append, List.length_map, padT_len]; omega
theorem padL_mod (l : List (List CD)) : (padL l).length % 136 = 0 := by
  rw [padL_len]
  unfold padm
  omega
theorem padT_rng (m i : Nat) : 0 ≤ (padT m).getD i 0 ∧ (padT m).getD i 0 < 256 := by
  have hall : ∀ x ∈ padT m, 0 ≤ x ∧ x < 256 := by
    intro x hx
    unfold padT at hx
    split at hx
    · simp at hx; omega
    · simp at hx; omega
  rw [List.getD_eq_getElem?_getD]
  cases h : (padT m)[i]? with
  | none => exact ⟨by decide, by decide⟩
  | some x => exact hall x (List.mem_of_getElem? h)
/-- What stands in the padded bytes. -/
theorem padL_get (l : List (List CD)) (i : Nat) : rv (padL l) i = if i < l.length then rv l i else (padT (padm l)).getD (i - l.length) 0 := by
  rw [padL, hid_eq]
  by_cases h : i < l.length
  · rw [if_pos h]
    unfold rv
    rw [List.getD_eq_getElem?_getD (l := l ++ _), List.getElem?_append_left h, ← List.getD_eq_getElem?_getD]
  · rw [if_neg h, ← rv_row1]
    unfold rv
    rw [List.getD_eq_getElem?_getD (l := l ++ _), List.getElem?_append_right (by omega), ← List.getD_eq_getElem?_getD]
theorem padL_b {l : List (List CD)} (h : areB l) : areB (padL l) := fun i => by
  rw [padL_get]
  split
  · exact h i
  · exact padT_rng _ _
theorem xs_len (o : Int → Int → Int) (S : List Int) (p : List (List CD)) (k : Nat) : ∀ n, (xsN o S p k n).length = S.length
  | 0 => rfl
  | n + 1 => by rw [xsN, List.length_set, xs_len o S p k n]
def areI (S : List Int) : Prop := ∀ j, 0 ≤ S.getD j 0 ∧ S.getD j 0 < 256
theorem set_i {S : List Int} (h : areI S) {x : Int} (hx : 0 ≤ x ∧ x < 256) (i : Nat) : areI (S.set i x) := fun j => by
  rcases Nat.lt_or_ge j S.length with hj | hj
  · rw [set_get _ _ _ _ hj]
    split
    · exact hx
    · exact h j
  · rw [List.getD_eq_getElem?_getD, List.getElem?_eq_none (by rw [List.length_set]; exact hj)]; exact ⟨by decide, by decide⟩
theorem xs_i {o : Int → Int → Int} (ho : ∀ a b, (0 ≤ a ∧ a < 256) → (0 ≤ b ∧ b < 256) → 0 ≤ o a b ∧ o a b < 256) {S : List Int} (hS : areI S) {p : List (List CD)} (hp : areB p) (k : Nat) : ∀ n, areI (xsN o S p k n)
  | 0 => hS
  | n + 1 => set_i (xs_i ho hS hp k n) (ho _ _ (xs_i ho hS hp k n n) (hp _)) n
theorem areI_B {S : List Int} (h : areI S) : areB (S.map row1) := fun i => by rw [rv_row1]; exact h i
theorem blkR_ok (p : List (List CD)) : ∀ n, (blkR p n).length = 200 ∧ areI (blkR p n)
  | 0 => ⟨by rw [blkR, List.length_replicate], fun j => by
    rw [blkR, List.getD_eq_getElem?_getD, List.getElem?_replicate]
    split <;> exact ⟨by decide, by decide⟩⟩
  | n + 1 => ⟨by rw [blkR, bysL_len], fun j => by rw [blkR]; exact bysL_rng _ _⟩
theorem wrap_isW (x : Int) : isW (IntKind.u64.wrap x) := by rw [wrap_u64']; exact ⟨by omega, by omega⟩
theorem rb_w (l : List (List CD)) : ∀ n, areW (rbN l n)
  | 0 => rep0_w 25
  | n + 1 => set_w (rb_w l n) (wrap_isW _) _
theorem ints_row1 (S : List Int) : ints (S.map row1) = S := row1_back S
theorem permR_w (s : List Int) : areW (permR s) := by rw [permR, hid_eq]; exact toW_w _
theorem vc27 : P27 := by
  rintro l _ ⟨hl, hb⟩
  have hpb := padL_b hb
  have hpm := padL_mod l
  refine ⟨hl, by omega, ⟨⟨⟨rfl, by omega, by omega, by omega, by rw [blkR, List.map_replicate]; rfl⟩, trivial⟩, ?_⟩, ?_⟩
  · rintro k' p s hpl _ ⟨rfl, h0, h1, hk, hs⟩ _
    obtain ⟨k, rfl⟩ := ex_nat h0
    rw [Int.toNat_natCast] at *
    obtain ⟨b1, b2⟩ := blkR_ok (padL l) (k / 136)
    refine condI (fun h => ?_) fun h => ?_
    · simp only [decide_eq_true_eq] at h
      rw [hs, ints_row1]
      refine ⟨⟨⟨rfl, rfl, by omega, by omega, rfl⟩, trivial⟩, ?_⟩
      rintro k' i' p2 s2 _ _ ⟨rfl, rfl, h2, h3, hs2⟩
      obtain ⟨i, rfl⟩ := ex_nat h2
      rw [Int.toNat_natCast] at hs2
      have hsl : s2.length = 200 := by rw [hs2, List.length_map, xs_len, b1]
      have hsb : areB s2 := by rw [hs2]; exact areI_B (xs_i (fun a b _ _ => xo_rng a b) b2 hpb _ _)
      refine condI (fun h4 => ?_) fun h4 => ?_
      · simp only [decide_eq_true_eq] at h4
        have e1 : ((k : Int) + (i : Int)).toNat = k + i := by omega
        rw [e1, rv_def, rv_def, Int.toNat_natCast, suc_nat]
        refine ⟨by omega, by omega, by omega, by omega, by omega, ⟨hsb _, hpb _⟩, by omega, by omega, by omega, ⟨rfl, rfl, by omega, by omega, ?_⟩, by omega⟩
        rw [hs2, row1_get (by rw [xs_len, b1]; omega)]
        show ((xsN xo _ _ _ _).map row1).set i [CD.int _] = _
        rw [row1_set, rv_row1, xsN]
      · simp only [decide_eq_false_iff_not] at h4
        have hi : i = 136 := by omega
        subst hi
        refine ⟨⟨by omega, hsb⟩, rb_w _ _, permR_w _, by omega, ⟨rfl, by omega, by omega, by omega, ?_⟩, by omega⟩
        rw [show ((k : Int) + 136).toNat / 136 = k / 136 + 1 from by omega, blkR, hsl, hs2, show 136 * (k / 136) = k from by omega]
    · simp only [decide_eq_false_iff_not] at h
      have hk2 : k = (padL l).length := by omega
      subst hk2
      exact ⟨hs, trivial⟩
  · rintro s _ hs
    obtain ⟨b1, b2⟩ := blkR_ok (padL l) ((padL l).length / 136)
    have hsl : s.length = 200 := by rw [hs, List.length_map, b1]
    refine ⟨by omega, ?_⟩
    rw [List.drop_zero, hs, sumR, hid_eq, List.map_take]
theorem ok27 : SpecOk (base.with sp30) 27 (mkF ct27) := spec_ct (fn := Tryd.f27) (c := bodyOf Tryd.f27) (k := Tryd.f27.ntmps - ct27.ps.length) (ct := ct27) c30 Tryd.func27 (by kernel_rfl) ann27 (by kernel_rfl) (fun vs w _ => Tryd.call27 vs w) (e27.mpr vc27)
theorem c27 : (base.with sp27).Ok := addS_ok c30 ok27
end Go.Proofs.YtganbceicojfmaaDoor

/-
  The digest, byte by byte, is the digest by blocks. (No program in sight.)
-/
namespace Go.Proofs.YtganbceicojfmaaDoor
open Go Go.Avc Go.Proofs
set_option linter.unusedVariables false
set_option linter.unusedSimpArgs false
set_option maxRecDepth 100000
/-! ### Bytes by their bits -/
theorem xoN_is (a b : Nat) : ∀ n, xoN a b n = (a ^^^ b) % 2 ^ n
  | 0 => by rw [xoN, Nat.pow_zero, Nat.mod_one]
  | n + 1 => by
    have hb : (a ^^^ b).testBit n = (a.testBit n != b.testBit n) := Nat.testBit_xor ..
    rw [Nat.testBit_eq_decide_div_mod_eq, Nat.testBit_eq_decide_div_mod_eq, Nat.testBit_eq_decide_div_mod_eq] at hb
    rw [xoN, Nat.mod_pow_succ, xoN_is a b n]
    have h1 : (a ^^^ b) / 2 ^ n % 2 < 2 := Nat.mod_lt _ (by decide)
    have h2 : a / 2 ^ n % 2 < 2 := Nat.mod_lt _ (by decide)
    have h3 : b / 2 ^ n % 2 < 2 := Nat.mod_lt _ (by decide)
    generalize (a ^^^ b) / 2 ^ n % 2 = x at *
    generalize a / 2 ^ n % 2 = y at *
    generalize b / 2 ^ n % 2 = z at *
    by_cases e : y = z
    · subst e
      have hx : x = 0 := by
        have : x ≠ 1 := by intro h; subst h; simp at hb
        omega
      rw [if_neg (fun h => h rfl), hx, Nat.mul_zero, Nat.add_zero]
    · have hx : x = 1 := by
        by_cases h0 : x = 1
        · exact h0
        · rw [decide_eq_false h0] at hb
          have hy : y = 0 ∧ z = 1 ∨ y = 1 ∧ z = 0 := by omega
          rcases hy with ⟨rfl, rfl⟩ | ⟨rfl, rfl⟩ <;> simp at hb
      rw [if_pos e, hx, Nat.mul_one]
theorem xo_bit (a b : Int) (z : Nat) : (xo a b).toNat.testBit z = (decide (z < 8) && (a.toNat.testBit z != b.toNat.testBit z)) := by
  unfold xo
  rw [Int.toNat_natCast, xoN_is, Nat.testBit_mod_two_pow, Nat.testBit_xor]
theorem byte_eq {a b : Int} (ha : 0 ≤ a ∧ a < 256) (hb : 0 ≤ b ∧ b < 256) (h : ∀ z, z < 8 → a.toNat.testBit z = b.toNat.testBit z) : a = b := by
  have e : a.toNat = b.toNat := by
    apply Nat.eq_of_testBit_eq
    intro z
    rcases Nat.lt_or_ge z 8 with hz | hz
    · exact h z hz
    · have h1 : (2 : Nat) ^ 8 ≤ 2 ^ z := Nat.pow_le_pow_right (by decide) hz
      rw [Nat.testBit_lt_two_pow (Nat.lt_of_lt_of_le (show a.toNat < 2 ^ 8 by omega) h1), Nat.testBit_lt_two_pow (Nat.lt_of_lt_of_le (show b.toNat < 2 ^ 8 by omega) h1)]
  omega
theorem wb_bit {w : Int} (h : 0 ≤ w) (k : Nat) {z : Nat} (hz : z < 8) : (wb w k).toNat.testBit z = bt w (8 * k + z) := by
  obtain ⟨n, rfl⟩ := ex_nat h
  unfold wb bt
  rw [p256, ← Int.natCast_ediv]
  have e : ((n / 2 ^ (8 * k) : Nat) : Int) % 256 = ((n / 2 ^ (8 * k) % 2 ^ 8 : Nat) : Int) := by
    rw [show (2 : Nat) ^ 8 = 256 from by decide, Int.natCast_emod]; rfl
  rw [e, Int.toNat_natCast, Int.toNat_natCast, Nat.testBit_mod_two_pow, decide_eq_true hz, Bool.true_and, ← Nat.shiftRight_eq_div_pow, Nat.testBit_shiftRight]
theorem shl_bt {b : Int} (hb : 0 ≤ b ∧ b < 256) {k : Nat} (hk : k < 8) (m : Nat) : bt (bShl .u64 (IntKind.u64.wrap b) ((8 * k : Nat) : Int)) m = (decide (8 * k ≤ m) && b.toNat.testBit (m - 8 * k)) := by
  obtain ⟨c, rfl⟩ := ex_nat hb.1
  have hc : c < 256 := by omega
  have hpow : 2 ^ (8 * k) * 256 ≤ 2 ^ 64 := by
    rw [show (256 : Nat) = 2 ^ 8 from by decide, ← Nat.pow_add]
    exact Nat.pow_le_pow_right (by decide) (by omega)
  have h3 : c * 2 ^ (8 * k) ≤ 255 * 2 ^ (8 * k) := Nat.mul_le_mul_right _ (by omega)
  have h4 : 0 < 2 ^ (8 * k) := Nat.pow_pos (by decide)
  rw [show (2 : Nat) ^ 64 = 18446744073709551616 from by decide] at hpow
  rw [wrap_id ⟨by omega, by omega⟩, shl_w c (8 * k) (by omega), Nat.mod_eq_of_lt (show c * 2 ^ (8 * k) < 18446744073709551616 by omega)]
  unfold bt
  rw [Int.toNat_natCast, Int.toNat_natCast, ← Nat.shiftLeft_eq, Nat.testBit_shiftLeft]
theorem shl_isW (x s : Int) : isW (bShl .u64 x s) := by unfold bShl; exact wrap_isW _
/-- A byte that is xored into a word is xored into one of its bytes. -/
theorem wb_xr {w b : Int} (hw : isW w) (hb : 0 ≤ b ∧ b < 256) {k j : Nat} (hk : k < 8) (hj : j < 8) : wb (xr w (bShl .u64 (IntKind.u64.wrap b) ((8 * k : Nat) : Int))) j = if k = j then xo (wb w j) b else wb w j := by
  have hx := xr_any w (bShl .u64 (IntKind.u64.wrap b) ((8 * k : Nat) : Int))
  have hr : 0 ≤ (if k = j then xo (wb w j) b else wb w j) ∧ (if k = j then xo (wb w j) b else wb w j) < 256 := by
    split
    · exact xo_rng _ _
    · exact wb_rng _ _
  refine byte_eq (wb_rng _ _) hr fun z hz => ?_
  rw [wb_bit hx.1 _ hz, xr_bt hw (shl_isW _ _), shl_bt hb hk]
  by_cases e : k = j
  · subst e
    rw [if_pos rfl, xo_bit, wb_bit hw.1 _ hz, decide_eq_true (show 8 * k ≤ 8 * k + z by omega), decide_eq_true hz, show 8 * k + z - 8 * k = z from by omega, Bool.true_and, Bool.true_and]
  · rw [if_neg e, wb_bit hw.1 _ hz]
    have : (decide (8 * k ≤ 8 * j + z) && b.toNat.testBit (8 * j + z - 8 * k)) = false := by
      by_cases h : 8 * k ≤ 8 * j + z
      · have h8 : 8 ≤ 8 * j + z - 8 * k := by omega
        have h1 : (2 : Nat) ^ 8 ≤ 2 ^ (8 * j + z - 8 * k) := Nat.pow_le_pow_right (by decide) h8
        rw [Nat.testBit_lt_two_pow (Nat.lt_of_lt_of_le (show b.toNat < 2 ^ 8 by omega) h1), Bool.and_false]
      · rw [decide_eq_false h, Bool.false_and]
    rw [this, Bool.bne_false]
theorem listN {n : Nat} {l m : List Int} (hl : l.length = n) (hm : m.length = n) (h : ∀ j, j < n → l.getD j 0 = m.getD j 0) : l = m := by
  apply List.ext_getElem (by rw [hl, hm])
  intro i h1 h2
  have := h i (by omega)
  rw [List.getD_eq_getElem?_getD, List.getD_eq_getElem?_getD, List.getElem?_eq_getElem h1, List.getElem?_eq_getElem h2] at this
  simpa using this
theorem bys_put {s : List Int} (h : s.length = 25) (hs : areW s) {p : Nat} (hp : p < 200) {b : Int} (hb : 0 ≤ b ∧ b < 256) : bysL (putS s p b) = (bysL s).set p (xo ((bysL s).getD p 0) b) := by
  refine listN (bysL_len _) (by rw [List.length_set, bysL_len]) fun i hi => ?_
  rw [bysL_get _ hi, set_get _ _ _ _ (by rw [bysL_len]; exact hi)]
  unfold putS
  rw [set_get _ _ _ _ (by omega), bysL_get _ hp, bysL_get _ hi]
  by_cases e : p / 8 = i / 8
  · rw [if_pos e, wb_xr (hs _) hb (Nat.mod_lt _ (by decide)) (Nat.mod_lt _ (by decide)), ← e]
    by_cases e2 : p % 8 = i % 8
    · have : p = i := by omega
      subst this
      rw [if_pos rfl, if_pos rfl]
    · rw [if_neg e2, if_neg (by intro h; exact e2 (by rw [h]))]
  · rw [if_neg e, if_neg (by intro h; exact e (by rw [h]))]
theorem xs_get (o : Int → Int → Int) (S : List Int) (p : List (List CD)) (k : Nat) {i : Nat} (hi : i < S.length) : ∀ n, (xsN o S p k n).getD i 0 = if i < n then o (S.getD i 0) (rv p (k + i)) else S.getD i 0
  | 0 => by rw [if_neg (by omega)]; rfl
  | n + 1 => by
    rw [xsN, set_get _ _ _ _ (by rw [xs_len]; exact hi)]
    by_cases e : n = i
    · subst e
      rw [if_pos rfl, if_pos (by omega), xs_get o S p k hi n, if_neg (by omega)]
    · rw [if_neg e, xs_get o S p k hi n]
      by_cases e2 : i < n
      · rw [if_pos e2, if_pos (by omega)]
      · rw [if_neg e2, if_neg (by omega)]
theorem back {s : List Int} (h : s.length = 25) (hs : areW s) : rbN ((bysL s).map row1) 200 = s := by
  rw [rbN_is (by rw [List.length_map, bysL_len]) (bysL_areB s), wdsL_bysL h hs]
theorem permR_back {s : List Int} (h : s.length = 25) (hs : areW s) : bysL (permR (rbN ((bysL s).map row1) 200)) = bysL (perm s) := by
  rw [back h hs, permR_is h hs]
/-- The state behind n bytes. -/
theorem absorb {l : List (List CD)} (hl : areB l) : ∀ n, n ≤ l.length → bysL (wrN hs0 l n).1 = xsN xo (blkR (padL l) (n / 136)) (padL l) (136 * (n / 136)) (n % 136) ∧ (wrN hs0 l n).2 = n % 136
  | 0, _ => by
    refine ⟨?_, rfl⟩
    rw [show 0 / 136 = 0 from rfl, show 0 % 136 = 0 from rfl, xsN, blkR, wrN]
    refine listN (bysL_len _) (by simp) fun i hi => ?_
    rw [bysL_get _ hi]
    have e1 : (hs0.1).getD (i / 8) 0 = 0 := by
      show (List.replicate 25 (0 : Int)).getD (i / 8) 0 = 0
      rw [List.getD_eq_getElem?_getD, List.getElem?_replicate]
      split <;> rfl
    have e2 : (List.replicate 200 (0 : Int)).getD i 0 = 0 := by
      rw [List.getD_eq_getElem?_getD, List.getElem?_replicate]
      split <;> rfl
    rw [e1, e2]
    unfold wb
    rw [Int.zero_ediv]; rfl
  | n + 1, hn => by
    obtain ⟨h1, h2⟩ := absorb hl n (by omega)
    obtain ⟨k1, k2, k3⟩ := wr_ok hs0_ok l n
    have hb := hl n
    have hp : rv (padL l) (136 * (n / 136) + n % 136) = rv l n := by
      rw [show 136 * (n / 136) + n % 136 = n from by omega, padL_get, if_pos (by omega)]
    have hput : bysL (putS (wrN hs0 l n).1 (wrN hs0 l n).2 (rv l n)) = xsN xo (blkR (padL l) (n / 136)) (padL l) (136 * (n / 136)) (n % 136 + 1) := by
      rw [bys_put k1 k2 (by omega) hb, h1, h2, xsN, hp]
    rw [wrN]
    unfold step1
    by_cases e : (wrN hs0 l n).2 + 1 = 136
    · rw [if_pos e]
      have e1 : (n + 1) / 136 = n / 136 + 1 := by omega
      have e2 : (n + 1) % 136 = 0 := by omega
      rw [e1, e2, xsN, blkR]
      refine ⟨?_, rfl⟩
      rw [show n % 136 + 1 = 136 from by omega] at hput
      rw [← hput, permR_back (by rw [putS_len]; exact k1) (putS_w k2 _ _)]
    · rw [if_neg e]
      have e1 : (n + 1) / 136 = n / 136 := by omega
      have e2 : (n + 1) % 136 = n % 136 + 1 := by omega
      rw [e1, e2]
      exact ⟨hput, by show (wrN hs0 l n).2 + 1 = _; omega⟩
theorem xo_zero {a : Int} (h : 0 ≤ a ∧ a < 256) : xo a 0 = a := by
  refine byte_eq (xo_rng _ _) h fun z hz => ?_
  rw [xo_bit, decide_eq_true hz, Bool.true_and, show (0 : Int).toNat = 0 from rfl, Nat.zero_testBit, Bool.bne_false]
theorem xo_two {a : Int} (h : 0 ≤ a ∧ a < 256) : xo (xo a 6) 128 = xo a 134 := by
  refine byte_eq (xo_rng _ _) (xo_rng _ _) fun z hz => ?_
  rw [xo_bit, xo_bit, xo_bit, decide_eq_true hz, Bool.true_and, Bool.true_and, Bool.true_and]
  have : ∀ z : Fin 8, ((134 : Int).toNat.testBit z.val) = ((6 : Int).toNat.testBit z.val != (128 : Int).toNat.testBit z.val) := by decide
  rw [this ⟨z, hz⟩]
  cases a.toNat.testBit z <;> cases (6 : Int).toNat.testBit z <;> cases (128 : Int).toNat.testBit z <;> rfl
theorem padT_get (m j : Nat) : (padT m).getD j 0 = if j = 0 then (if m = 0 then 134 else 6) else if j = m then 128 else 0 := by
  unfold padT
  by_cases hm : m = 0
  · subst hm
    rw [if_pos rfl, if_pos rfl]
    cases j with
    | zero => rfl
    | succ j => rfl
  · rw [if_neg hm, if_neg hm]
    cases j with
    | zero => rfl
    | succ j =>
      rw [if_neg (by omega), List.getD_cons_succ, List.getD_eq_getElem?_getD]
      rcases Nat.lt_trichotomy j (m - 1) with h | h | h
      · rw [List.getElem?_append_left (by simpa using h), List.getElem?_replicate, if_pos h, if_neg (by omega)]; rfl
      · rw [List.getElem?_append_right (by simp [h]), if_pos (by omega)]
        simp [h]
      · rw [List.getElem?_append_right (by simp; omega), if_neg (by omega)]
        have : ([128] : List Int)[j - (List.replicate (m - 1) (0 : Int)).length]? = none := by
          rw [List.getElem?_eq_none]
          simp; omega
        rw [this]; rfl
/-- The last block. -/
theorem fin_is {l : List (List CD)} (hl : areB l) : fin (wrN hs0 l l.length) = (blkR (padL l) ((padL l).length / 136)).take 32 := by
  obtain ⟨h1, h2⟩ := absorb hl l.length (Nat.le_refl _)
  obtain ⟨k1, k2, k3⟩ := wr_ok hs0_ok l l.length
  have hlen : (padL l).length / 136 = l.length / 136 + 1 := by rw [padL_len]; unfold padm; omega
  obtain ⟨b1, b2⟩ := blkR_ok (padL l) (l.length / 136)
  rw [fin, hid_eq, hlen, blkR]
  have r6 : (0 : Int) ≤ 6 ∧ (6 : Int) < 256 := by decide
  have r128 : (0 : Int) ≤ 128 ∧ (128 : Int) < 256 := by decide
  have hput : bysL (putS (putS (wrN hs0 l l.length).1 (wrN hs0 l l.length).2 6) 135 128) = xsN xo (blkR (padL l) (l.length / 136)) (padL l) (136 * (l.length / 136)) 136 := by
    rw [bys_put (by rw [putS_len]; exact k1) (putS_w k2 _ _) (by omega) r128, bys_put k1 k2 (by omega) r6, h1, h2]
    refine listN (n := 200) (by rw [List.length_set, List.length_set, xs_len, b1]) (by rw [xs_len, b1]) fun i hi => ?_
    have hm : l.length % 136 < 136 := Nat.mod_lt _ (by decide)
    rw [set_get _ _ _ _ (by rw [List.length_set, xs_len, b1]; exact hi), set_get _ _ _ _ (by rw [xs_len, b1]; omega), set_get _ _ _ _ (by rw [xs_len, b1]; exact hi), xs_get _ _ _ _ (by omega), xs_get _ _ _ _ (by omega), xs_get _ _ _ _ (by omega), xs_get _ _ _ _ (by omega)]
    have hB := b2 i
    have hB5 := b2 135
    have hpm : padm l = 135 - l.length % 136 := rfl
    have hpad : ∀ j, l.length % 136 ≤ j → rv (padL l) (136 * (l.length / 136) + j) = if j = l.length % 136 then (if l.length % 136 = 135 then 134 else 6) else if j = 135 then 128 else 0 := fun j hj => by
      rw [padL_get, if_neg (by omega), padT_get]
      by_cases e1 : j = l.length % 136
      · rw [if_pos (by omega), if_pos e1]
        by_cases e2 : l.length % 136 = 135
        · rw [if_pos (by omega), if_pos e2]
        · rw [if_neg (by omega), if_neg e2]
      · rw [if_neg (by omega), if_neg e1]
        by_cases e2 : j = 135
        · rw [if_pos (by omega), if_pos e2]
        · rw [if_neg (by omega), if_neg e2]
    generalize hS : blkR (padL l) (l.length / 136) = S at *
    generalize l.length % 136 = r at *
    by_cases i5 : 135 = i
    · subst i5
      rw [if_pos rfl, if_pos (show (135 : Nat) < 136 by decide)]
      by_cases r5 : r = 135
      · subst r5
        rw [if_pos rfl, if_neg (by omega), xo_two hB, hpad 135 (by omega), if_pos rfl, if_pos rfl]
      · rw [if_neg r5, if_neg (by omega), hpad 135 (by omega), if_neg (by omega), if_pos rfl]
    · rw [if_neg i5]
      by_cases ir : r = i
      · subst ir
        rw [if_pos rfl, if_neg (by omega), if_pos hm, hpad r (by omega), if_pos rfl, if_neg (by omega)]
      · rw [if_neg ir]
        by_cases il : i < r
        · rw [if_pos il, if_pos (by omega)]
        · rw [if_neg il]
          by_cases i6 : i < 136
          · rw [if_pos i6, hpad i (by omega), if_neg (by omega), if_neg (by omega), xo_zero hB]
          · rw [if_neg i6]
  rw [← hput, permR_back (by rw [putS_len, putS_len]; exact k1) (putS_w (putS_w k2 _ _) _ _)]
/-- One part. -/
theorem sum_one {l : List (List CD)} (hl : areB l) : sumP [[.sl l]] = sumR l := by
  rw [sumP, hid_eq, sumR, hid_eq, ← fin_is hl]
  rfl
theorem wr_append (h : Hs) (a b : List (List CD)) : wrN h (a ++ b) (a ++ b).length = wrN (wrN h a a.length) b b.length := by
  have gen1 : ∀ n, n ≤ a.length → wrN h (a ++ b) n = wrN h a n := by
    intro n
    induction n with
    | zero => intro _; rfl
    | succ n ih =>
      intro hn
      rw [wrN, wrN, ih (by omega)]
      congr 1
      unfold rv
      rw [List.getD_eq_getElem?_getD (l := a ++ b), List.getElem?_append_left (by omega), ← List.getD_eq_getElem?_getD]
  have gen2 : ∀ n, wrN h (a ++ b) (a.length + n) = wrN (wrN h a a.length) b n := by
    intro n
    induction n with
    | zero => exact gen1 _ (Nat.le_refl _)
    | succ n ih =>
      rw [show a.length + (n + 1) = (a.length + n) + 1 from by omega, wrN, wrN, ih]
      congr 1
      unfold rv
      rw [List.getD_eq_getElem?_getD (l := a ++ b), List.getElem?_append_right (by omega), ← List.getD_eq_getElem?_getD, show a.length + n - a.length = n from by omega]
  rw [List.length_append]
  exact gen2 _
end Go.Proofs.YtganbceicojfmaaDoor

/-
  The laws of the digest: contracts.
-/
namespace Go.Proofs.YtganbceicojfmaaDoor
open Go Go.Avc
set_option linter.unusedVariables false
def bX (a b : Int) : Int := bXor .u8 a b
noncomputable def blkS (p : List (List CD)) : Nat → List Int
  | 0 => List.replicate 25 0
  | n + 1 => perm (wsN ((xsN bX (bysL (blkS p n)) p (136 * n) 136).map row1) 200)
def ct8 : Ct := { ps := [rb], bs := [], pre := fun | [.r l] => areB l | _ => False, res := fun _ => yes }
def ct10 : Ct := { ps := [rb, rb, rb], bs := [], pre := fun | [.r a, .r b, .r c] => areB a ∧ areB b ∧ areB c | _ => False, res := fun _ => yes }
def ct11 : Ct := { ps := [rb], bs := [], pre := fun | [.r l] => areB l | _ => False, res := fun _ => yes }
def sl11 : List (Nat × Pat) := [(0, rb), (3, .own 0), (4, .ptr 1 0), (5, i64)]
noncomputable def ann11 : List Dat → Ann
  | [.r l] => ⟨[], [(6, [la 64 sl11 [ob, q24] (fun | [.r l', .i k, .r p, .li s] => l' = l ∧ l.length ≤ 700 ∧ p = padL l ∧ 0 ≤ k ∧ k ≤ p.length ∧ k % 136 = 0 ∧ s = blkS p (k.toNat / 136) | _ => False) (fun | [_, .i k, .r p, _] => (p.length - k).toNat | _ => 0)])],
    [(10, [la 64 (sl11 ++ [(6, .ptr 2 0), (30, i64)]) [ob, q24, .cells 46 [.arrI 200 .u8]] anyR noM], fun | [.r l0, .i k0, .i _, .r p0, .li s0, .li x0] => [la 64 (sl11 ++ [(6, .ptr 2 0), (30, i64)]) [ob, q24, .cells 46 [.arrI 200 .u8]]
      (fun | [.r l, .i k, .i i, .r p, .li s, .li x] => l = l0 ∧ k = k0 ∧ p = p0 ∧ s = s0 ∧ 0 ≤ i ∧ i ≤ 136 ∧ x = xsN bX x0 p0 k0.toNat i.toNat | _ => False) (fun | [_, _, .i i, _, _, _] => (136 - i).toNat | _ => 0)] | _ => [])]⟩
  | _ => { cut := [], loop := [] }
end Go.Proofs.YtganbceicojfmaaDoor

/-
  Conditions of contracts, as the kernel reckons them (printed by a program of ours, checked by the kernel).
-/
namespace Go.Proofs.YtganbceicojfmaaDoor
open Go Go.Avc Go.Proofs
set_option linter.unusedVariables false
set_option maxRecDepth 100000
def P8 : Prop :=
  ∀ (l : List (List CD)),
    l.length ≤ (9223372036854775807 : Nat) →
      areB l →
        True ∧
          (((bw false !true) = true → l.length ≤ (9223372036854775807 : Nat)) →
            bif !true || decide ((700 : Int) < (↑l.length : Int)) then True ∧ true = true
            else
              areP [[CD.sl l]] ∧
                ((0 : Int) ≤ (0 : Int) ∧ (0 : Int) ≤ (↑(32 : Nat) : Int) ∧ (↑(32 : Nat) : Int) ≤ (↑(32 : Nat) : Int) ∧ (0 : Int) < (↑(32 : Nat) : Int)) ∧
                  (l.length ≤ (1000 : Nat) ∧ areB l) ∧
                    decide
                        (bytesOfRows
                            (List.map (fun x => [CD.int x]) (List.take (32 : Nat) (List.drop (0 : Nat) (sumP [[CD.sl l]])))) =
                          bytesOfRows (List.map row1 (sumR l))) =
                      true)
theorem e8 : ct8.VC (base.with sp27) Tryd.f8.results.toList Tryd.f8.ntmps (Tryd.f8.ntmps - ct8.ps.length) (bodyOf Tryd.f8) noAnn = P8 := by kernel_rfl
noncomputable def sp8 : SpecT := addS sp27 8 (mkF ct8)
def P10 : Prop :=
  ∀ (l l_1 l_2 : List (List CD)),
    l.length ≤ (9223372036854775807 : Nat) →
      l_1.length ≤ (9223372036854775807 : Nat) →
        l_2.length ≤ (9223372036854775807 : Nat) →
          areB l ∧ areB l_1 ∧ areB l_2 →
            True ∧
              (((bw false !true) = true → l.length ≤ (9223372036854775807 : Nat)) →
                (bw false (!true || decide ((300 : Int) < (↑l.length : Int))) = true → l_1.length ≤ (9223372036854775807 : Nat)) →
                  (bw false (!true || decide ((300 : Int) < (↑l.length : Int)) || decide ((300 : Int) < (↑l_1.length : Int))) = true →
                      l_2.length ≤ (9223372036854775807 : Nat)) →
                    bif !true || decide ((300 : Int) < (↑l.length : Int)) || decide ((300 : Int) < (↑l_1.length : Int)) || decide ((300 : Int) < (↑l_2.length : Int)) then
                      True ∧ true = true
                    else
                      ((0 : Int) ≤ (0 : Int) ∧ (0 : Int) < (136 : Int)) ∧
                        ((0 : Int) ≤ (0 : Int) ∧ (0 : Int) < (136 : Int)) ∧
                          ((0 : Int) ≤
                                (↑(wrN
                                        ([(0 : Int), (0 : Int), (0 : Int), (0 : Int), (0 : Int), (0 : Int), (0 : Int), (0 : Int), (0 : Int), (0 : Int), (0 : Int), (0 : Int),
                                            (0 : Int), (0 : Int), (0 : Int), (0 : Int), (0 : Int), (0 : Int), (0 : Int), (0 : Int), (0 : Int), (0 : Int), (0 : Int), (0 : Int),
                                            (0 : Int)],
                                          (0 : Nat))
                                        l l.length).snd :
                                  Int) ∧
                              (↑(wrN
                                        ([(0 : Int), (0 : Int), (0 : Int), (0 : Int), (0 : Int), (0 : Int), (0 : Int), (0 : Int), (0 : Int), (0 : Int), (0 : Int), (0 : Int),
                                            (0 : Int), (0 : Int), (0 : Int), (0 : Int), (0 : Int), (0 : Int), (0 : Int), (0 : Int), (0 : Int), (0 : Int), (0 : Int), (0 : Int),
                                            (0 : Int)],
                                          (0 : Nat))
                                        l l.length).snd :
                                  Int) <
                                (136 : Int)) ∧
                            ((0 : Int) ≤
                                  (↑(wrN
                                          ([(0 : Int), (0 : Int), (0 : Int), (0 : Int), (0 : Int), (0 : Int), (0 : Int), (0 : Int), (0 : Int), (0 : Int), (0 : Int), (0 : Int),
                                              (0 : Int), (0 : Int), (0 : Int), (0 : Int), (0 : Int), (0 : Int), (0 : Int), (0 : Int), (0 : Int), (0 : Int), (0 : Int), (0 : Int),
                                              (0 : Int)],
                                            (0 : Nat))
                                          l l.length).snd :
                                    Int) ∧
                                (↑(wrN
                                          ([(0 : Int), (0 : Int), (0 : Int), (0 : Int), (0 : Int), (0 : Int), (0 : Int), (0 : Int), (0 : Int), (0 : Int), (0 : Int), (0 : Int),
                                              (0 : Int), (0 : Int), (0 : Int), (0 : Int), (0 : Int), (0 : Int), (0 : Int), (0 : Int), (0 : Int), (0 : Int), (0 : Int), (0 : Int),
                                              (0 : Int)],
                                            (0 : Nat))
                                          l l.length).snd :
                                    Int) <
                                  (136 : Int)) ∧
                              (areW
                                    (wrN
                                        ((wrN
                                              ([(0 : Int), (0 : Int), (0 : Int), (0 : Int), (0 : Int), (0 : Int), (0 : Int), (0 : Int), (0 : Int), (0 : Int), (0 : Int), (0 : Int),
                                                  (0 : Int), (0 : Int), (0 : Int), (0 : Int), (0 : Int), (0 : Int), (0 : Int), (0 : Int), (0 : Int), (0 : Int), (0 : Int), (0 : Int),
                                                  (0 : Int)],
                                                (0 : Nat))
                                              l l.length).fst,
                                          (↑(wrN
                                                    ([(0 : Int), (0 : Int), (0 : Int), (0 : Int), (0 : Int), (0 : Int), (0 : Int), (0 : Int), (0 : Int), (0 : Int), (0 : Int),
                                                        (0 : Int), (0 : Int), (0 : Int), (0 : Int), (0 : Int), (0 : Int), (0 : Int), (0 : Int), (0 : Int), (0 : Int), (0 : Int),
                                                        (0 : Int), (0 : Int), (0 : Int)],
                                                      (0 : Nat))
                                                    l l.length).snd :
                                              Int).toNat)
                                        l_1 l_1.length).fst ∧
                                  (0 : Int) ≤
                                      (↑(wrN
                                              ((wrN
                                                    ([(0 : Int), (0 : Int), (0 : Int), (0 : Int), (0 : Int), (0 : Int), (0 : Int), (0 : Int), (0 : Int), (0 : Int), (0 : Int),
                                                        (0 : Int), (0 : Int), (0 : Int), (0 : Int), (0 : Int), (0 : Int), (0 : Int), (0 : Int), (0 : Int), (0 : Int), (0 : Int),
                                                        (0 : Int), (0 : Int), (0 : Int)],
                                                      (0 : Nat))
                                                    l l.length).fst,
                                                (↑(wrN
                                                          ([(0 : Int), (0 : Int), (0 : Int), (0 : Int), (0 : Int), (0 : Int), (0 : Int), (0 : Int), (0 : Int), (0 : Int), (0 : Int),
                                                              (0 : Int), (0 : Int), (0 : Int), (0 : Int), (0 : Int), (0 : Int), (0 : Int), (0 : Int), (0 : Int), (0 : Int), (0 : Int),
                                                              (0 : Int), (0 : Int), (0 : Int)],
                                                            (0 : Nat))
                                                          l l.length).snd :
                                                    Int).toNat)
                                              l_1 l_1.length).snd :
                                        Int) ∧
                                    (↑(wrN
                                              ((wrN
                                                    ([(0 : Int), (0 : Int), (0 : Int), (0 : Int), (0 : Int), (0 : Int), (0 : Int), (0 : Int), (0 : Int), (0 : Int), (0 : Int),
                                                        (0 : Int), (0 : Int), (0 : Int), (0 : Int), (0 : Int), (0 : Int), (0 : Int), (0 : Int), (0 : Int), (0 : Int), (0 : Int),
                                                        (0 : Int), (0 : Int), (0 : Int)],
                                                      (0 : Nat))
                                                    l l.length).fst,
                                                (↑(wrN
                                                          ([(0 : Int), (0 : Int), (0 : Int), (0 : Int), (0 : Int), (0 : Int), (0 : Int), (0 : Int), (0 : Int), (0 : Int), (0 : Int),
                                                              (0 : Int), (0 : Int), (0 : Int), (0 : Int), (0 : Int), (0 : Int), (0 : Int), (0 : Int), (0 : Int), (0 : Int), (0 : Int),
                                                              (0 : Int), (0 : Int), (0 : Int)],
                                                            (0 : Nat))
                                                          l l.length).snd :
                                                    Int).toNat)
                                              l_1 l_1.length).snd :
                                        Int) <
                                      (136 : Int)) ∧
                                areP [[CD.sl l], [CD.sl l_1]] ∧
                                  (decide
                                          (fin
                                              ((wrN
                                                    ((wrN
                                                          ([(0 : Int), (0 : Int), (0 : Int), (0 : Int), (0 : Int), (0 : Int), (0 : Int), (0 : Int), (0 : Int), (0 : Int), (0 : Int),
                                                              (0 : Int), (0 : Int), (0 : Int), (0 : Int), (0 : Int), (0 : Int), (0 : Int), (0 : Int), (0 : Int), (0 : Int), (0 : Int),
                                                              (0 : Int), (0 : Int), (0 : Int)],
                                                            (0 : Nat))
                                                          l l.length).fst,
                                                      (↑(wrN
                                                                ([(0 : Int), (0 : Int), (0 : Int), (0 : Int), (0 : Int), (0 : Int), (0 : Int), (0 : Int), (0 : Int), (0 : Int),
                                                                    (0 : Int), (0 : Int), (0 : Int), (0 : Int), (0 : Int), (0 : Int), (0 : Int), (0 : Int), (0 : Int), (0 : Int),
                                                                    (0 : Int), (0 : Int), (0 : Int), (0 : Int), (0 : Int)],
                                                                  (0 : Nat))
                                                                l l.length).snd :
                                                          Int).toNat)
                                                    l_1 l_1.length).fst,
                                                (↑(wrN
                                                          ((wrN
                                                                ([(0 : Int), (0 : Int), (0 : Int), (0 : Int), (0 : Int), (0 : Int), (0 : Int), (0 : Int), (0 : Int), (0 : Int),
                                                                    (0 : Int), (0 : Int), (0 : Int), (0 : Int), (0 : Int), (0 : Int), (0 : Int), (0 : Int), (0 : Int), (0 : Int),
                                                                    (0 : Int), (0 : Int), (0 : Int), (0 : Int), (0 : Int)],
                                                                  (0 : Nat))
                                                                l l.length).fst,
                                                            (↑(wrN
                                                                      ([(0 : Int), (0 : Int), (0 : Int), (0 : Int), (0 : Int), (0 : Int), (0 : Int), (0 : Int), (0 : Int), (0 : Int),
                                                                          (0 : Int), (0 : Int), (0 : Int), (0 : Int), (0 : Int), (0 : Int), (0 : Int), (0 : Int), (0 : Int),
                                                                          (0 : Int), (0 : Int), (0 : Int), (0 : Int), (0 : Int), (0 : Int)],
                                                                        (0 : Nat))
                                                                      l l.length).snd :
                                                                Int).toNat)
                                                          l_1 l_1.length).snd :
                                                    Int).toNat) =
                                            sumP [[CD.sl l], [CD.sl l_1]]) =
                                        true →
                                      areW
                                          (wrN
                                              ((wrN
                                                    ([(0 : Int), (0 : Int), (0 : Int), (0 : Int), (0 : Int), (0 : Int), (0 : Int), (0 : Int), (0 : Int), (0 : Int), (0 : Int),
                                                        (0 : Int), (0 : Int), (0 : Int), (0 : Int), (0 : Int), (0 : Int), (0 : Int), (0 : Int), (0 : Int), (0 : Int), (0 : Int),
                                                        (0 : Int), (0 : Int), (0 : Int)],
                                                      (0 : Nat))
                                                    l l.length).fst,
                                                (↑(wrN
                                                          ([(0 : Int), (0 : Int), (0 : Int), (0 : Int), (0 : Int), (0 : Int), (0 : Int), (0 : Int), (0 : Int), (0 : Int), (0 : Int),
                                                              (0 : Int), (0 : Int), (0 : Int), (0 : Int), (0 : Int), (0 : Int), (0 : Int), (0 : Int), (0 : Int), (0 : Int), (0 : Int),
                                                              (0 : Int), (0 : Int), (0 : Int)],
                                                            (0 : Nat))
                                                          l l.length).snd :
                                                    Int).toNat)
                                              l_2 l_2.length).fst ∧
                                        (0 : Int) ≤
                                            (↑(wrN
                                                    ((wrN
                                                          ([(0 : Int), (0 : Int), (0 : Int), (0 : Int), (0 : Int), (0 : Int), (0 : Int), (0 : Int), (0 : Int), (0 : Int), (0 : Int),
                                                              (0 : Int), (0 : Int), (0 : Int), (0 : Int), (0 : Int), (0 : Int), (0 : Int), (0 : Int), (0 : Int), (0 : Int), (0 : Int),
                                                              (0 : Int), (0 : Int), (0 : Int)],
                                                            (0 : Nat))
                                                          l l.length).fst,
                                                      (↑(wrN
                                                                ([(0 : Int), (0 : Int), (0 : Int), (0 : Int), (0 : Int), (0 : Int), (0 : Int), (0 : Int), (0 : Int), (0 : Int),
                                                                    (0 : Int), (0 : Int), (0 : Int), (0 : Int), (0 : Int), (0 : Int), (0 : Int), (0 : Int), (0 : Int), (0 : Int),
                                                                    (0 : Int), (0 : Int), (0 : Int), (0 : Int), (0 : Int)],
                                                                  (0 : Nat))
                                                                l l.length).snd :
                                                          Int).toNat)
                                                    l_2 l_2.length).snd :
                                              Int) ∧
                                          (↑(wrN
                                                    ((wrN
                                                          ([(0 : Int), (0 : Int), (0 : Int), (0 : Int), (0 : Int), (0 : Int), (0 : Int), (0 : Int), (0 : Int), (0 : Int), (0 : Int),
                                                              (0 : Int), (0 : Int), (0 : Int), (0 : Int), (0 : Int), (0 : Int), (0 : Int), (0 : Int), (0 : Int), (0 : Int), (0 : Int),
                                                              (0 : Int), (0 : Int), (0 : Int)],
                                                            (0 : Nat))
                                                          l l.length).fst,
                                                      (↑(wrN
                                                                ([(0 : Int), (0 : Int), (0 : Int), (0 : Int), (0 : Int), (0 : Int), (0 : Int), (0 : Int), (0 : Int), (0 : Int),
                                                                    (0 : Int), (0 : Int), (0 : Int), (0 : Int), (0 : Int), (0 : Int), (0 : Int), (0 : Int), (0 : Int), (0 : Int),
                                                                    (0 : Int), (0 : Int), (0 : Int), (0 : Int), (0 : Int)],
                                                                  (0 : Nat))
                                                                l l.length).snd :
                                                          Int).toNat)
                                                    l_2 l_2.length).snd :
                                              Int) <
                                            (136 : Int)) ∧
                                    (decide
                                            (fin
                                                ((wrN
                                                      ((wrN
                                                            ([(0 : Int), (0 : Int), (0 : Int), (0 : Int), (0 : Int), (0 : Int), (0 : Int), (0 : Int), (0 : Int), (0 : Int), (0 : Int),
                                                                (0 : Int), (0 : Int), (0 : Int), (0 : Int), (0 : Int), (0 : Int), (0 : Int), (0 : Int), (0 : Int), (0 : Int),
                                                                (0 : Int), (0 : Int), (0 : Int), (0 : Int)],
                                                              (0 : Nat))
                                                            l l.length).fst,
                                                        (↑(wrN
                                                                  ([(0 : Int), (0 : Int), (0 : Int), (0 : Int), (0 : Int), (0 : Int), (0 : Int), (0 : Int), (0 : Int), (0 : Int),
                                                                      (0 : Int), (0 : Int), (0 : Int), (0 : Int), (0 : Int), (0 : Int), (0 : Int), (0 : Int), (0 : Int), (0 : Int),
                                                                      (0 : Int), (0 : Int), (0 : Int), (0 : Int), (0 : Int)],
                                                                    (0 : Nat))
                                                                  l l.length).snd :
                                                            Int).toNat)
                                                      l_1 l_1.length).fst,
                                                  (↑(wrN
                                                            ((wrN
                                                                  ([(0 : Int), (0 : Int), (0 : Int), (0 : Int), (0 : Int), (0 : Int), (0 : Int), (0 : Int), (0 : Int), (0 : Int),
                                                                      (0 : Int), (0 : Int), (0 : Int), (0 : Int), (0 : Int), (0 : Int), (0 : Int), (0 : Int), (0 : Int), (0 : Int),
                                                                      (0 : Int), (0 : Int), (0 : Int), (0 : Int), (0 : Int)],
                                                                    (0 : Nat))
                                                                  l l.length).fst,
                                                              (↑(wrN
                                                                        ([(0 : Int), (0 : Int), (0 : Int), (0 : Int), (0 : Int), (0 : Int), (0 : Int), (0 : Int), (0 : Int),
                                                                            (0 : Int), (0 : Int), (0 : Int), (0 : Int), (0 : Int), (0 : Int), (0 : Int), (0 : Int), (0 : Int),
                                                                            (0 : Int), (0 : Int), (0 : Int), (0 : Int), (0 : Int), (0 : Int), (0 : Int)],
                                                                          (0 : Nat))
                                                                        l l.length).snd :
                                                                  Int).toNat)
                                                            l_1 l_1.length).snd :
                                                      Int).toNat) =
                                              sumP [[CD.sl l], [CD.sl l_1]]) =
                                          true →
                                        (true = true →
                                            (true = true → areP [[CD.sl l], [CD.sl l_2]]) ∧
                                              (true &&
                                                  decide
                                                    (fin
                                                        ((wrN
                                                              ((wrN
                                                                    ([(0 : Int), (0 : Int), (0 : Int), (0 : Int), (0 : Int), (0 : Int), (0 : Int), (0 : Int), (0 : Int), (0 : Int),
                                                                        (0 : Int), (0 : Int), (0 : Int), (0 : Int), (0 : Int), (0 : Int), (0 : Int), (0 : Int), (0 : Int), (0 : Int),
                                                                        (0 : Int), (0 : Int), (0 : Int), (0 : Int), (0 : Int)],
                                                                      (0 : Nat))
                                                                    l l.length).fst,
                                                                (↑(wrN
                                                                          ([(0 : Int), (0 : Int), (0 : Int), (0 : Int), (0 : Int), (0 : Int), (0 : Int), (0 : Int), (0 : Int),
                                                                              (0 : Int), (0 : Int), (0 : Int), (0 : Int), (0 : Int), (0 : Int), (0 : Int), (0 : Int), (0 : Int),
                                                                              (0 : Int), (0 : Int), (0 : Int), (0 : Int), (0 : Int), (0 : Int), (0 : Int)],
                                                                            (0 : Nat))
                                                                          l l.length).snd :
                                                                    Int).toNat)
                                                              l_2 l_2.length).fst,
                                                          (↑(wrN
                                                                    ((wrN
                                                                          ([(0 : Int), (0 : Int), (0 : Int), (0 : Int), (0 : Int), (0 : Int), (0 : Int), (0 : Int), (0 : Int),
                                                                              (0 : Int), (0 : Int), (0 : Int), (0 : Int), (0 : Int), (0 : Int), (0 : Int), (0 : Int), (0 : Int),
                                                                              (0 : Int), (0 : Int), (0 : Int), (0 : Int), (0 : Int), (0 : Int), (0 : Int)],
                                                                            (0 : Nat))
                                                                          l l.length).fst,
                                                                      (↑(wrN
                                                                                ([(0 : Int), (0 : Int), (0 : Int), (0 : Int), (0 : Int), (0 : Int), (0 : Int), (0 : Int), (0 : Int),
                                                                                    (0 : Int), (0 : Int), (0 : Int), (0 : Int), (0 : Int), (0 : Int), (0 : Int), (0 : Int), (0 : Int),
                                                                                    (0 : Int), (0 : Int), (0 : Int), (0 : Int), (0 : Int), (0 : Int), (0 : Int)],
                                                                                  (0 : Nat))
                                                                                l l.length).snd :
                                                                          Int).toNat)
                                                                    l_2 l_2.length).snd :
                                                              Int).toNat) =
                                                      sumP [[CD.sl l], [CD.sl l_2]])) =
                                                true) ∧
                                          (true = false → ((!true) = true → False) ∧ ((!true) = true → False) ∧ false = true)) ∧
                                      (decide
                                            (fin
                                                ((wrN
                                                      ((wrN
                                                            ([(0 : Int), (0 : Int), (0 : Int), (0 : Int), (0 : Int), (0 : Int), (0 : Int), (0 : Int), (0 : Int), (0 : Int), (0 : Int),
                                                                (0 : Int), (0 : Int), (0 : Int), (0 : Int), (0 : Int), (0 : Int), (0 : Int), (0 : Int), (0 : Int), (0 : Int),
                                                                (0 : Int), (0 : Int), (0 : Int), (0 : Int)],
                                                              (0 : Nat))
                                                            l l.length).fst,
                                                        (↑(wrN
                                                                  ([(0 : Int), (0 : Int), (0 : Int), (0 : Int), (0 : Int), (0 : Int), (0 : Int), (0 : Int), (0 : Int), (0 : Int),
                                                                      (0 : Int), (0 : Int), (0 : Int), (0 : Int), (0 : Int), (0 : Int), (0 : Int), (0 : Int), (0 : Int), (0 : Int),
                                                                      (0 : Int), (0 : Int), (0 : Int), (0 : Int), (0 : Int)],
                                                                    (0 : Nat))
                                                                  l l.length).snd :
                                                            Int).toNat)
                                                      l_1 l_1.length).fst,
                                                  (↑(wrN
                                                            ((wrN
                                                                  ([(0 : Int), (0 : Int), (0 : Int), (0 : Int), (0 : Int), (0 : Int), (0 : Int), (0 : Int), (0 : Int), (0 : Int),
                                                                      (0 : Int), (0 : Int), (0 : Int), (0 : Int), (0 : Int), (0 : Int), (0 : Int), (0 : Int), (0 : Int), (0 : Int),
                                                                      (0 : Int), (0 : Int), (0 : Int), (0 : Int), (0 : Int)],
                                                                    (0 : Nat))
                                                                  l l.length).fst,
                                                              (↑(wrN
                                                                        ([(0 : Int), (0 : Int), (0 : Int), (0 : Int), (0 : Int), (0 : Int), (0 : Int), (0 : Int), (0 : Int),
                                                                            (0 : Int), (0 : Int), (0 : Int), (0 : Int), (0 : Int), (0 : Int), (0 : Int), (0 : Int), (0 : Int),
                                                                            (0 : Int), (0 : Int), (0 : Int), (0 : Int), (0 : Int), (0 : Int), (0 : Int)],
                                                                          (0 : Nat))
                                                                        l l.length).snd :
                                                                  Int).toNat)
                                                            l_1 l_1.length).snd :
                                                      Int).toNat) =
                                              sumP [[CD.sl l], [CD.sl l_1]]) =
                                          false →
                                        ((!true) = true →
                                            (true = true → areP [[CD.sl l], [CD.sl l_2]]) ∧
                                              (true = true → False) ∧
                                                Miss (2 : Nat)
                                                  { n := (0 : Nat), ov := [], tm := [SV.tup []],
                                                    hp :=
                                                      [Blk.cells (56 : Go.TypeId)
                                                          [SV.arrI (25 : Nat) Go.IntKind.u64
                                                              (wrN
                                                                  ((wrN
                                                                        ([(0 : Int), (0 : Int), (0 : Int), (0 : Int), (0 : Int), (0 : Int), (0 : Int), (0 : Int), (0 : Int),
                                                                            (0 : Int), (0 : Int), (0 : Int), (0 : Int), (0 : Int), (0 : Int), (0 : Int), (0 : Int), (0 : Int),
                                                                            (0 : Int), (0 : Int), (0 : Int), (0 : Int), (0 : Int), (0 : Int), (0 : Int)],
                                                                          (0 : Nat))
                                                                        l l.length).fst,
                                                                    (↑(wrN
                                                                              ([(0 : Int), (0 : Int), (0 : Int), (0 : Int), (0 : Int), (0 : Int), (0 : Int), (0 : Int), (0 : Int),
                                                                                  (0 : Int), (0 : Int), (0 : Int), (0 : Int), (0 : Int), (0 : Int), (0 : Int), (0 : Int), (0 : Int),
                                                                                  (0 : Int), (0 : Int), (0 : Int), (0 : Int), (0 : Int), (0 : Int), (0 : Int)],
                                                                                (0 : Nat))
                                                                              l l.length).snd :
                                                                        Int).toNat)
                                                                  l_1 l_1.length).fst,
                                                            SV.int Go.IntKind.i64
                                                              (↑(wrN
                                                                      ((wrN
                                                                            ([(0 : Int), (0 : Int), (0 : Int), (0 : Int), (0 : Int), (0 : Int), (0 : Int), (0 : Int), (0 : Int),
                                                                                (0 : Int), (0 : Int), (0 : Int), (0 : Int), (0 : Int), (0 : Int), (0 : Int), (0 : Int), (0 : Int),
                                                                                (0 : Int), (0 : Int), (0 : Int), (0 : Int), (0 : Int), (0 : Int), (0 : Int)],
                                                                              (0 : Nat))
                                                                            l l.length).fst,
                                                                        (↑(wrN
                                                                                  ([(0 : Int), (0 : Int), (0 : Int), (0 : Int), (0 : Int), (0 : Int), (0 : Int), (0 : Int), (0 : Int),
                                                                                      (0 : Int), (0 : Int), (0 : Int), (0 : Int), (0 : Int), (0 : Int), (0 : Int), (0 : Int),
                                                                                      (0 : Int), (0 : Int), (0 : Int), (0 : Int), (0 : Int), (0 : Int), (0 : Int), (0 : Int)],
                                                                                    (0 : Nat))
                                                                                  l l.length).snd :
                                                                            Int).toNat)
                                                                      l_1 l_1.length).snd :
                                                                Int)],
                                                        Blk.cells (56 : Go.TypeId)
                                                          [SV.arrI (25 : Nat) Go.IntKind.u64
                                                              (wrN
                                                                  ((wrN
                                                                        ([(0 : Int), (0 : Int), (0 : Int), (0 : Int), (0 : Int), (0 : Int), (0 : Int), (0 : Int), (0 : Int),
                                                                            (0 : Int), (0 : Int), (0 : Int), (0 : Int), (0 : Int), (0 : Int), (0 : Int), (0 : Int), (0 : Int),
                                                                            (0 : Int), (0 : Int), (0 : Int), (0 : Int), (0 : Int), (0 : Int), (0 : Int)],
                                                                          (0 : Nat))
                                                                        l l.length).fst,
                                                                    (↑(wrN
                                                                              ([(0 : Int), (0 : Int), (0 : Int), (0 : Int), (0 : Int), (0 : Int), (0 : Int), (0 : Int), (0 : Int),
                                                                                  (0 : Int), (0 : Int), (0 : Int), (0 : Int), (0 : Int), (0 : Int), (0 : Int), (0 : Int), (0 : Int),
                                                                                  (0 : Int), (0 : Int), (0 : Int), (0 : Int), (0 : Int), (0 : Int), (0 : Int)],
                                                                                (0 : Nat))
                                                                              l l.length).snd :
                                                                        Int).toNat)
                                                                  l_2 l_2.length).fst,
                                                            SV.int Go.IntKind.i64
                                                              (↑(wrN
                                                                      ((wrN
                                                                            ([(0 : Int), (0 : Int), (0 : Int), (0 : Int), (0 : Int), (0 : Int), (0 : Int), (0 : Int), (0 : Int),
                                                                                (0 : Int), (0 : Int), (0 : Int), (0 : Int), (0 : Int), (0 : Int), (0 : Int), (0 : Int), (0 : Int),
                                                                                (0 : Int), (0 : Int), (0 : Int), (0 : Int), (0 : Int), (0 : Int), (0 : Int)],
                                                                              (0 : Nat))
                                                                            l l.length).fst,
                                                                        (↑(wrN
                                                                                  ([(0 : Int), (0 : Int), (0 : Int), (0 : Int), (0 : Int), (0 : Int), (0 : Int), (0 : Int), (0 : Int),
                                                                                      (0 : Int), (0 : Int), (0 : Int), (0 : Int), (0 : Int), (0 : Int), (0 : Int), (0 : Int),
                                                                                      (0 : Int), (0 : Int), (0 : Int), (0 : Int), (0 : Int), (0 : Int), (0 : Int), (0 : Int)],
                                                                                    (0 : Nat))
                                                                                  l l.length).snd :
                                                                            Int).toNat)
                                                                      l_2 l_2.length).snd :
                                                                Int)],
                                                        Blk.own (42 : Nat) [CSh.sl [CSh.int Go.IntKind.u8]] [[CD.sl l], [CD.sl l_1]],
                                                        Blk.own (42 : Nat) [CSh.sl [CSh.int Go.IntKind.u8]] [[CD.sl l], [CD.sl l_2]]],
                                                    G := [] }) ∧
                                          ((!true) = false → ((!true) = true → False) ∧ ((!true) = true → False) ∧ false = true)))
theorem e10 : ct10.VC (base.with sp8) Tryd.f10.results.toList Tryd.f10.ntmps (Tryd.f10.ntmps - ct10.ps.length) (bodyOf Tryd.f10) noAnn = P10 := by kernel_rfl
noncomputable def sp10 : SpecT := addS sp8 10 (mkF ct10)
def P11 : Prop :=
  ∀ (l : List (List CD)),
    l.length ≤ (9223372036854775807 : Nat) →
      areB l →
        True ∧
          (((bw false !true) = true → l.length ≤ (9223372036854775807 : Nat)) →
            bif !true || decide ((700 : Int) < (↑l.length : Int)) then True ∧ true = true
            else
              l.length ≤ (1000 : Nat) ∧
                ((l = l ∧
                      l.length ≤ (700 : Nat) ∧
                        padL l = padL l ∧
                          (0 : Int) ≤ (0 : Int) ∧
                            (0 : Int) ≤ (↑(padL l).length : Int) ∧
                              (0 : Int) % (136 : Int) = (0 : Int) ∧
                                [(0 : Int), (0 : Int), (0 : Int), (0 : Int), (0 : Int), (0 : Int), (0 : Int), (0 : Int), (0 : Int), (0 : Int), (0 : Int), (0 : Int), (0 : Int),
                                    (0 : Int), (0 : Int), (0 : Int), (0 : Int), (0 : Int), (0 : Int), (0 : Int), (0 : Int), (0 : Int), (0 : Int), (0 : Int), (0 : Int)] =
                                  blkS (padL l) (0 : Nat)) ∧
                    True) ∧
                  ∀ (l_1 : List (List CD)) (n : Int) (l_2 : List (List CD)) (l_3 : List Int),
                    l_1.length ≤ (9223372036854775807 : Nat) →
                      l_2.length ≤ (9223372036854775807 : Nat) →
                        l_3.length = (25 : Nat) →
                          l_1 = l ∧
                              l.length ≤ (700 : Nat) ∧
                                l_2 = padL l ∧
                                  (0 : Int) ≤ n ∧ n ≤ (↑l_2.length : Int) ∧ n % (136 : Int) = (0 : Int) ∧ l_3 = blkS l_2 (n.toNat / (136 : Nat)) →
                            l_2.length ≤ (9223372036854775807 : Nat) →
                              bif decide (n < (↑l_2.length : Int)) then
                                areW l_3 ∧
                                  ((l_1 = l_1 ∧
                                        n = n ∧
                                          l_2 = l_2 ∧
                                            l_3 = l_3 ∧
                                              (0 : Int) ≤ (0 : Int) ∧
                                                (0 : Int) ≤ (136 : Int) ∧
                                                  bysL l_3 =
                                                    xsN bX (bysL l_3) l_2 n.toNat
                                                      (0 : Nat)) ∧
                                      True) ∧
                                    ∀ (l_4 : List (List CD)) (n_1 n_2 : Int) (l_5 : List (List CD)) (l_6 l_7 : List Int),
                                      l_4.length ≤ (9223372036854775807 : Nat) →
                                        l_5.length ≤ (9223372036854775807 : Nat) →
                                          l_6.length = (25 : Nat) →
                                            l_7.length = (200 : Nat) →
                                              l_4 = l_1 ∧
                                                  n_1 = n ∧
                                                    l_5 = l_2 ∧
                                                      l_6 = l_3 ∧
                                                        (0 : Int) ≤ n_2 ∧
                                                          n_2 ≤ (136 : Int) ∧
                                                            l_7 =
                                                              xsN bX (bysL l_3) l_2
                                                                n.toNat n_2.toNat →
                                                bif decide (n_2 < (136 : Int)) then
                                                  ((0 : Int) ≤ n_2 ∧ n_2 < (↑(200 : Nat) : Int)) ∧
                                                    n_2.toNat * (1 : Nat) < (200 : Nat) ∧
                                                      ((-9223372036854775808 : Int) ≤ n_1 + n_2 ∧ n_1 + n_2 ≤ (9223372036854775807 : Int)) ∧
                                                        ((0 : Int) ≤ n_1 + n_2 ∧ n_1 + n_2 < (↑l_5.length : Int)) ∧
                                                          (n_1 + n_2).toNat < l_5.length ∧
                                                            ((0 : Int) ≤ n_2 ∧ n_2 < (↑(200 : Nat) : Int)) ∧
                                                              n_2.toNat * (1 : Nat) < (200 : Nat) ∧
                                                                ((-9223372036854775808 : Int) ≤ n_2 + (1 : Int) ∧ n_2 + (1 : Int) ≤ (9223372036854775807 : Int)) ∧
                                                                  (l_4 = l_1 ∧
                                                                      n_1 = n ∧
                                                                        l_5 = l_2 ∧
                                                                          l_6 = l_3 ∧
                                                                            (0 : Int) ≤ n_2 + (1 : Int) ∧
                                                                              n_2 + (1 : Int) ≤ (136 : Int) ∧
                                                                                l_7.set (n_2.toNat * (1 : Nat))
                                                                                    (bXor Go.IntKind.u8 (l_7.getD (n_2.toNat * (1 : Nat)) (0 : Int))
                                                                                      ((l_5.getD (n_1 + n_2).toNat []).getD (0 : Nat) (CD.int (0 : Int))).toInt) =
                                                                                  xsN bX
                                                                                    (bysL l_3) l_2 n.toNat (n_2 + (1 : Int)).toNat) ∧
                                                                    ((136 : Int) - (n_2 + (1 : Int))).toNat < ((136 : Int) - n_2).toNat
                                                else
                                                  ((0 : Int) ≤ (0 : Int) ∧
                                                      (0 : Int) ≤ (↑(200 : Nat) : Int) ∧ (↑(200 : Nat) : Int) ≤ (↑(200 : Nat) : Int) ∧ (0 : Int) < (↑(200 : Nat) : Int)) ∧
                                                    areB (List.map (fun x => [CD.int x]) (List.take (200 : Nat) (List.drop (0 : Nat) l_7))) ∧
                                                      bif decide ((List.map (fun x => [CD.int x]) (List.take (200 : Nat) (List.drop (0 : Nat) l_7))).length ≠ (200 : Nat)) then
                                                        false = true
                                                      else
                                                        True ∧
                                                          ((-9223372036854775808 : Int) ≤ n_1 + (136 : Int) ∧ n_1 + (136 : Int) ≤ (9223372036854775807 : Int)) ∧
                                                            (l_4 = l ∧
                                                                l.length ≤ (700 : Nat) ∧
                                                                  l_5 = padL l ∧
                                                                    (0 : Int) ≤ n_1 + (136 : Int) ∧
                                                                      n_1 + (136 : Int) ≤ (↑l_5.length : Int) ∧
                                                                        (n_1 + (136 : Int)) % (136 : Int) = (0 : Int) ∧
                                                                          perm
                                                                              (wsN
                                                                                (List.map (fun x => [CD.int x]) (List.take (200 : Nat) (List.drop (0 : Nat) l_7)))
                                                                                (200 : Nat)) =
                                                                            blkS l_5 ((n_1 + (136 : Int)).toNat / (136 : Nat))) ∧
                                                              ((↑l_5.length : Int) - (n_1 + (136 : Int))).toNat < ((↑l_2.length : Int) - n).toNat
                              else
                                areW l_3 ∧
                                  areP [[CD.sl l_1]] ∧
                                    ((0 : Int) ≤ (0 : Int) ∧ (0 : Int) ≤ (32 : Int) ∧ (32 : Int) ≤ (↑(200 : Nat) : Int) ∧ (0 : Int) < (↑(200 : Nat) : Int)) ∧
                                      ((0 : Int) ≤ (0 : Int) ∧ (0 : Int) ≤ (↑(32 : Nat) : Int) ∧ (↑(32 : Nat) : Int) ≤ (↑(32 : Nat) : Int) ∧ (0 : Int) < (↑(32 : Nat) : Int)) ∧
                                        decide
                                            (bytesOfRows
                                                (List.map (fun x => [CD.int x]) (List.take (32 : Nat) (List.drop (0 : Nat) (bysL l_3)))) =
                                              bytesOfRows
                                                (List.map (fun x => [CD.int x])
                                                  (List.take (32 : Nat) (List.drop (0 : Nat) (sumP [[CD.sl l_1]]))))) =
                                          true)
theorem e11 : ct11.VC (base.with sp10) Tryd.f11.results.toList Tryd.f11.ntmps (Tryd.f11.ntmps - ct11.ps.length) (bodyOf Tryd.f11) ann11 = P11 := by kernel_rfl
noncomputable def sp11 : SpecT := addS sp10 11 (mkF ct11)
end Go.Proofs.YtganbceicojfmaaDoor

/-
  The conditions of the digest's laws are met.
-/
namespace Go.Proofs.YtganbceicojfmaaDoor
open Go Go.Avc Go.Proofs
set_option linter.unusedVariables false
set_option linter.unusedSimpArgs false
set_option maxRecDepth 100000
theorem fin_len (h : Hs) : (fin h).length = 32 := by rw [fin, hid_eq, List.length_take, bysL_len]; rfl
theorem sumP_len (l : List (List CD)) : (sumP l).length = 32 := by rw [sumP, hid_eq, fin_len]
theorem sumR_len (l : List (List CD)) : (sumR l).length = 32 := by rw [sumR, hid_eq, List.length_take, (blkR_ok _ _).1]; rfl
theorem areP1 {l : List (List CD)} (h : areB l) : areP [[.sl l]] := fun i => by
  cases i with
  | zero => exact h
  | succ i =>
    have e : pt [[CD.sl l]] (i + 1) = [] := rfl
    rw [e]
    intro j
    have e2 : rv [] j = 0 := rfl
    rw [e2]; exact ⟨by decide, by decide⟩
theorem areP2 {l m : List (List CD)} (h : areB l) (k : areB m) : areP [[.sl l], [.sl m]] := fun i => by
  match i with
  | 0 => exact h
  | 1 => exact k
  | i + 2 =>
    have e : pt [[CD.sl l], [CD.sl m]] (i + 2) = [] := rfl
    rw [e]
    intro j
    have e2 : rv [] j = 0 := rfl
    rw [e2]; exact ⟨by decide, by decide⟩
theorem vc8 : P8 := by
  intro l _ hb
  refine ⟨trivial, fun _ => condI (fun _ => ⟨trivial, rfl⟩) fun h => ?_⟩
  simp only [Bool.or_eq_false_iff, decide_eq_false_iff_not] at h
  refine ⟨areP1 hb, by omega, ⟨by omega, hb⟩, ?_⟩
  rw [List.drop_zero, List.take_of_length_le (by rw [sumP_len]; exact Nat.le_refl _), sum_one hb, rows_row1, dec_self]
theorem ok8 : SpecOk (base.with sp27) 8 (mkF ct8) := spec_ct (fn := Tryd.f8) (c := bodyOf Tryd.f8) (k := Tryd.f8.ntmps - ct8.ps.length) (ct := ct8) c27 Tryd.func8 (by kernel_rfl) noAnn (by kernel_rfl) (fun vs w _ => Tryd.call8 vs w) (e8.mpr vc8)
theorem c8 : (base.with sp8).Ok := addS_ok c27 ok8
theorem sum_two (a b : List (List CD)) : sumP [[.sl a], [.sl b]] = fin (wrN (wrN hs0 a a.length) b b.length) := by rw [sumP, hid_eq]; rfl
theorem hs_eta (h : Hs) : ((h.1, ((h.2 : Nat) : Int).toNat) : Hs) = h := by rw [Int.toNat_natCast]
theorem vc10 : P10 := by
  rintro a b c _ _ _ ⟨ha, hb, hc⟩
  refine ⟨trivial, fun _ _ _ => condI (fun _ => ⟨trivial, rfl⟩) fun h => ?_⟩
  have hz : ([0, 0, 0, 0, 0, 0, 0, 0, 0, 0, 0, 0, 0, 0, 0, 0, 0, 0, 0, 0, 0, 0, 0, 0, 0], 0) = hs0 := rfl
  rw [hz, hs_eta, hs_eta, hs_eta, sum_two, sum_two, dec_self, dec_self]
  have k0 := wr_ok hs0_ok a a.length
  have k1 := wr_ok k0 b b.length
  have k2 := wr_ok k0 c c.length
  obtain ⟨_, _, k03⟩ := k0
  refine ⟨by omega, by omega, by omega, by omega, ⟨k1.2.1, by omega, by have := k1.2.2; omega⟩, areP2 ha hb, fun _ => ⟨k2.2.1, by omega, by have := k2.2.2; omega⟩, fun _ => ⟨fun _ => ⟨fun _ => areP2 ha hc, rfl⟩, fun h => absurd h (by decide)⟩, fun h => absurd h (by decide)⟩
theorem ok10 : SpecOk (base.with sp8) 10 (mkF ct10) := spec_ct (fn := Tryd.f10) (c := bodyOf Tryd.f10) (k := Tryd.f10.ntmps - ct10.ps.length) (ct := ct10) c8 Tryd.func10 (by kernel_rfl) noAnn (by kernel_rfl) (fun vs w _ => Tryd.call10 vs w) (e10.mpr vc10)
theorem c10 : (base.with sp10).Ok := addS_ok c8 ok10
theorem bX_is {a b : Int} (ha : 0 ≤ a ∧ a < 256) (hb : 0 ≤ b ∧ b < 256) : bX a b = xo a b := by
  obtain ⟨m, rfl⟩ := ex_nat ha.1
  obtain ⟨n, rfl⟩ := ex_nat hb.1
  have hm : m < 2 ^ 8 := by rw [show (2 : Nat) ^ 8 = 256 from by decide]; omega
  have hn : n < 2 ^ 8 := by rw [show (2 : Nat) ^ 8 = 256 from by decide]; omega
  have hx := Nat.xor_lt_two_pow hm hn
  unfold xo
  rw [Int.toNat_natCast, Int.toNat_natCast, xoN_is, Nat.mod_eq_of_lt hx]
  show IntKind.u8.wrap ((BitVec.ofInt 8 (m : Int) ^^^ BitVec.ofInt 8 (n : Int)).toNat : Int) = _
  rw [BitVec.toNat_xor, BitVec.ofInt_natCast, BitVec.ofInt_natCast, BitVec.toNat_ofNat, BitVec.toNat_ofNat, Nat.mod_eq_of_lt hm, Nat.mod_eq_of_lt hn, wrap_u8]
  rw [show (2 : Nat) ^ 8 = 256 from by decide] at hx
  omega
theorem xs_same {S : List Int} (hS : areI S) {p : List (List CD)} (hp : areB p) (k : Nat) : ∀ n, xsN bX S p k n = xsN xo S p k n
  | 0 => rfl
  | n + 1 => by
    have hi := xs_i (fun a b _ _ => xo_rng a b) hS hp k n n
    rw [xsN, xsN, xs_same hS hp k n, bX_is hi (hp _)]
theorem blkS_ok {p : List (List CD)} (hp : areB p) : ∀ n, (blkS p n).length = 25 ∧ areW (blkS p n) ∧ bysL (blkS p n) = blkR p n
  | 0 => by
    refine ⟨List.length_replicate, rep0_w 25, ?_⟩
    have h0 := (absorb (l := []) (fun j => (by have e2 : rv [] j = 0 := rfl; rw [e2]; exact ⟨by decide, by decide⟩)) 0 (Nat.le_refl _)).1
    exact h0
  | n + 1 => by
    obtain ⟨h1, h2, h3⟩ := blkS_ok hp n
    obtain ⟨b1, b2⟩ := blkR_ok p n
    rw [blkS, blkR, h3, xs_same b2 hp]
    have hb : areB ((xsN xo (blkR p n) p (136 * n) 136).map row1) := areI_B (xs_i (fun a b _ _ => xo_rng a b) b2 hp _ _)
    have hl : ((xsN xo (blkR p n) p (136 * n) 136).map row1).length = 200 := by rw [List.length_map, xs_len, b1]
    have hw := wdsL_w hb
    rw [wsN_is hl hb, rbN_is hl hb, permR_is (wdsL_len _) hw]
    obtain ⟨k1, k2⟩ := perm_ok (wdsL_len _) hw
    exact ⟨k1, k2, rfl⟩
theorem vc11 : P11 := by
  intro l _ hb
  refine ⟨trivial, fun _ => condI (fun _ => ⟨trivial, rfl⟩) fun h => ?_⟩
  simp only [Bool.or_eq_false_iff, decide_eq_false_iff_not] at h
  have hpb := padL_b hb
  have hpm := padL_mod l
  refine ⟨by omega, ⟨⟨rfl, by omega, rfl, by omega, by omega, by omega, rfl⟩, trivial⟩, ?_⟩
  rintro l2 k' p s _ hpl hsl ⟨rfl, h700, rfl, h0, h1, hk, hs⟩ _
  obtain ⟨k, rfl⟩ := ex_nat h0
  rw [Int.toNat_natCast] at *
  obtain ⟨s1, s2, s3⟩ := blkS_ok hpb (k / 136)
  rw [← hs] at s1 s2 s3
  obtain ⟨b1, b2⟩ := blkR_ok (padL l2) (k / 136)
  refine condI (fun h => ?_) fun h => ?_
  · simp only [decide_eq_true_eq] at h
    refine ⟨s2, ⟨⟨rfl, rfl, rfl, rfl, by omega, by omega, rfl⟩, trivial⟩, ?_⟩
    rintro l3 k' i' p2 s' x _ _ _ hxl ⟨rfl, rfl, rfl, rfl, h2, h3, hx⟩
    obtain ⟨i, rfl⟩ := ex_nat h2
    rw [Int.toNat_natCast] at hx
    have hxb : areI x := by rw [hx, s3, xs_same b2 hpb]; exact xs_i (fun a b _ _ => xo_rng a b) b2 hpb _ _
    refine condI (fun h4 => ?_) fun h4 => ?_
    · simp only [decide_eq_true_eq] at h4
      have e1 : ((k : Int) + (i : Int)).toNat = k + i := by omega
      rw [e1, rv_def, Int.toNat_natCast, Nat.mul_one, suc_nat]
      refine ⟨by omega, by omega, by omega, by omega, by omega, by omega, by omega, by omega, ⟨rfl, rfl, rfl, rfl, by omega, by omega, ?_⟩, by omega⟩
      rw [hx]; rfl
    · simp only [decide_eq_false_iff_not] at h4
      have hi : i = 136 := by omega
      subst hi
      rw [List.drop_zero, List.take_of_length_le (by omega), rows_row1]
      refine ⟨by omega, areI_B hxb, condI (fun h5 => ?_) fun _ => ⟨trivial, by omega, ⟨rfl, h700, rfl, by omega, by omega, by omega, ?_⟩, by omega⟩⟩
      · simp only [decide_eq_true_eq] at h5
        exact absurd (by rw [List.length_map, hxl]) h5
      · rw [show ((k : Int) + 136).toNat / 136 = k / 136 + 1 from by omega, blkS, hx, ← hs, show 136 * (k / 136) = k from by omega]
  · simp only [decide_eq_false_iff_not] at h
    have hk2 : k = (padL l2).length := by omega
    refine ⟨s2, areP1 hb, by omega, by omega, ?_⟩
    have e1 : List.take 32 (bysL s) = sumR l2 := by rw [s3, sumR, hid_eq, hk2]
    rw [List.drop_zero, List.drop_zero, List.take_of_length_le (l := sumP _) (by rw [sumP_len]; exact Nat.le_refl _), sum_one hb, e1, dec_self]
theorem ok11 : SpecOk (base.with sp10) 11 (mkF ct11) := spec_ct (fn := Tryd.f11) (c := bodyOf Tryd.f11) (k := Tryd.f11.ntmps - ct11.ps.length) (ct := ct11) c10 Tryd.func11 (by kernel_rfl) ann11 (by kernel_rfl) (fun vs w _ => Tryd.call11 vs w) (e11.mpr vc11)
theorem c11 : (base.with sp11).Ok := addS_ok c10 ok11
end Go.Proofs.YtganbceicojfmaaDoor
