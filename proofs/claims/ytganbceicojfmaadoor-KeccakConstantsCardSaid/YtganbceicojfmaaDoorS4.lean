/-
  Bytes and words: what the program's and the reference's functions compute; contracts.
-/
import Derived.Test.YtganbceicojfmaaDoorV3
namespace Go.Proofs.YtganbceicojfmaaDoor
open Go Go.Avc
set_option linter.unusedVariables false
abbrev rb : Pat := .rd [.int .u8]
abbrev rw64 : Pat := .rd [.int .u64]
abbrev ob : BPat := .own 5 [.int .u8]
abbrev ow : BPat := .own 22 [.int .u64]
def row1 (n : Int) : List CD := [.int n]
/-- The number in a row. -/
def rv (l : List (List CD)) (i : Nat) : Int := ((l.getD i []).getD 0 .d0).toInt
def areR (l : List (List CD)) : Prop := ∀ i, isW (rv l i)
/-- All are bytes. -/
def areB (l : List (List CD)) : Prop := ∀ i, 0 ≤ rv l i ∧ rv l i < 256
/-- The bytes of a word. -/
def wb (w : Int) (k : Nat) : Int := w / 256 ^ k % 256
def wbN (w : Int) : Nat → List Int
  | 0 => []
  | n + 1 => wbN w n ++ [wb w n]
def bysN (f : Nat → Int) : Nat → List Int
  | 0 => []
  | n + 1 => bysN f n ++ wbN (f n) 8
noncomputable def bysL (s : List Int) : List Int := hid (bysN (fun i => s.getD i 0) 25)
theorem bysL_eq (s : List Int) : bysL s = bysN (fun i => s.getD i 0) 25 := hid_eq _
/-- The words of bytes, as the program makes them. -/
def wsN (l : List (List CD)) : Nat → List Int
  | 0 => List.replicate ((l.length + 7) / 8) 0
  | i + 1 => (wsN l i).set (i / 8) (bOr .u64 ((wsN l i).getD (i / 8) 0) (bShl .u64 (IntKind.u64.wrap (rv l i)) ((8 * (i % 8) : Nat) : Int)))
/-- The words of bytes, as the reference makes them. -/
def rbN (l : List (List CD)) : Nat → List Int
  | 0 => List.replicate 25 0
  | n + 1 => (rbN l n).set ((l.length - 1 - n) / 8) (IntKind.u64.wrap (IntKind.u64.wrap ((rbN l n).getD ((l.length - 1 - n) / 8) 0 * 256) + IntKind.u64.wrap (rv l (l.length - 1 - n))))
/-- The words of 200 bytes. -/
def wd (f : Nat → Int) : Nat → Int
  | 0 => 0
  | n + 1 => wd f n + f n * 256 ^ n
def wdsL (l : List (List CD)) : List Int := (List.range 25).map fun j => wd (fun k => rv l (8 * j + k)) 8
noncomputable def z25 : List Int := hid (List.replicate 25 0)
theorem z25_eq : z25 = List.replicate 25 0 := hid_eq _

/-! ### Contracts -/
def ct39 : Ct := { ps := [rb], bs := [], pre := fun | [.r l] => l.length ≤ 1000 ∧ areB l | _ => False, res := fun | [.r l] => .ret (.own 0) [ow] [.r ((wsN l l.length).map row1)] | _ => noRes }
def ann39 : List Dat → Ann
  | [.r l] => ⟨[], [(3, [la 33 [(3, .own 0), (11, rb), (12, i64), (13, i64)] [ow] (fun | [.r l', .i n, .i i, .r w] => l' = l ∧ n = l.length ∧ 0 ≤ i ∧ i ≤ n ∧ w = (wsN l i.toNat).map row1 | _ => False) (fun | [_, .i n, .i i, _] => (n - i).toNat | _ => 0)])], []⟩
  | _ => { cut := [], loop := [] }
def ct40 : Ct := { ps := [rw64], bs := [], pre := fun | [.r l] => l.length ≤ 1000 ∧ areR l | _ => False, res := fun | [.r l] => .ret (.own 0) [ob] [.r ((bysN (rv l) l.length).map row1)] | _ => noRes }
def sl40 : List (Nat × Pat) := [(3, .own 0), (6, rw64), (7, i64), (8, i64)]
def ann40 : List Dat → Ann
  | [.r l] => ⟨[], [(3, [la 24 sl40 [ob] (fun | [.r l', .i n, .i i, .r o] => l' = l ∧ n = l.length ∧ 0 ≤ i ∧ i ≤ n ∧ o = (bysN (rv l) i.toNat).map row1 | _ => False) (fun | [_, .i n, .i i, _] => (n - i).toNat | _ => 0)])],
    [(6, [la 24 (sl40 ++ [(5, u64), (12, i64)]) [ob] anyR noM], fun | [.i x0, .r l0, .i n0, .i i0, .i _, .r o0] => [la 24 (sl40 ++ [(5, u64), (12, i64)]) [ob]
      (fun | [.i x, .r l', .i n, .i i, .i k, .r o] => l' = l0 ∧ n = n0 ∧ i = i0 ∧ 0 ≤ k ∧ k ≤ 8 ∧ x = x0 / 256 ^ k.toNat ∧ o = o0 ++ (wbN x0 k.toNat).map row1 | _ => False) (fun | [_, _, _, _, .i k, _] => (8 - k).toNat | _ => 0)] | _ => [])]⟩
  | _ => { cut := [], loop := [] }
noncomputable def ct21 : Ct := { ps := [rb], bs := [], pre := fun | [.r l] => areB l | _ => False, res := fun | [.r l] => .ite (decide (l.length ≠ 200)) (.ret (.tup [st, i64]) [] [.li z25, .i 1]) (.ret (.tup [st, i64]) [] [.li (wsN l 200), .i 0]) | _ => noRes }
noncomputable def ct22 : Ct := { ps := [st], bs := [], pre := fun | [.li s] => areW s | _ => False, res := fun | [.li s] => .ret (.agg [.arrI 200 .u8]) [] [.li (bysL s)] | _ => noRes }
def ct23 : Ct := { ps := [rb], bs := [], pre := fun | [.r l] => l.length ≤ 200 ∧ areB l | _ => False, res := fun | [.r l] => .ret st [] [.li (rbN l l.length)] | _ => noRes }
def ann23 : List Dat → Ann
  | [.r l] => ⟨[], [(3, [la 28 [(0, rb), (2, .ptr 0 0), (3, .ptr 1 0), (4, i64)] [q23, q23] (fun | [.r l', .i i, .li _, .li w] => l' = l ∧ -1 ≤ i ∧ i < l.length ∧ w = rbN l (l.length - 1 - i).toNat | _ => False) (fun | [_, .i i, _, _] => (i + 1).toNat | _ => 0)])], []⟩
  | _ => { cut := [], loop := [] }
noncomputable def ct24 : Ct := { ps := [st], bs := [], pre := fun | [.li s] => areW s | _ => False, res := fun | [.li s] => .ret (.own 0) [ob] [.r ((bysL s).map row1)] | _ => noRes }
def sl24 : List (Nat × Pat) := [(1, .ptr 0 0), (3, .own 1), (4, i64)]
def ann24 : List Dat → Ann
  | [.li s] => ⟨[], [(3, [la 28 sl24 [q23, ob] (fun | [.i i, .li s', .r o] => s' = s ∧ 0 ≤ i ∧ i ≤ 25 ∧ o = (bysN (fun i => s.getD i 0) i.toNat).map row1 | _ => False) (fun | [.i i, _, _] => (25 - i).toNat | _ => 0)])],
    [(7, [la 28 (sl24 ++ [(5, u64), (6, i64)]) [q23, ob] anyR noM], fun | [.i i0, .i x0, .i _, .li s0, .r o0] => [la 28 (sl24 ++ [(5, u64), (6, i64)]) [q23, ob]
      (fun | [.i i, .i x, .i k, .li s, .r o] => i = i0 ∧ s = s0 ∧ 0 ≤ k ∧ k ≤ 8 ∧ x = x0 / 256 ^ k.toNat ∧ o = o0 ++ (wbN x0 k.toNat).map row1 | _ => False) (fun | [_, _, .i k, _, _] => (8 - k).toNat | _ => 0)] | _ => [])]⟩
  | _ => { cut := [], loop := [] }
end Go.Proofs.YtganbceicojfmaaDoor
