/-
  The functions that read and write items' bytes: what they answer; their contracts.
-/
import Derived.Test.YtfikklbaceidfaaDoorV1
namespace Go.Proofs.YtfikklbaceidfaaDoor
open Go.Avc
set_option linter.unusedVariables false
/-- An item. -/
structure It where
  k : Int
  t : Int
  c : Int
  l : List UInt8
  deriving DecidableEq
def itRow (r : List CD) : It := ⟨(r.getD 0 .d0).toInt, (r.getD 1 .d0).toInt, (r.getD 2 .d0).toInt, (r.getD 3 .d0).toStr⟩
def rowIt (x : It) : List CD := [.int x.k, .int x.t, .int x.c, .str x.l]
def itsOf (l : List (List CD)) : List It := l.map itRow
def rowsIt (l : List It) : List (List CD) := l.map rowIt
def sameB (a b c a' b' c' : Int) : Bool := decide (a = a') && (decide (b = b') && decide (c = c'))
/-- The number of bytes, the lowest first. -/
def leN : List UInt8 → Nat
  | [] => 0
  | b :: l => b.toNat + 256 * leN l
def isB (l : List (List CD)) : Prop := l = rowsOfBytes (bytesOfRows l)
def noIt : It := ⟨0, 0, 0, []⟩
def decX (b : List UInt8) : It := ⟨leN (b.take 1), leN ((b.drop 1).take 1), leN ((b.drop 2).take 4), (b.drop 8).take (leN ((b.drop 6).take 2))⟩
def decE (b : List UInt8) : Int :=
  if b.length < 8 ∨ b.length < 8 + leN ((b.drop 6).take 2) then 2 else chk (decX b).k (decX b).t (decX b).c (decX b).l
/-- The item at the beginning of bytes; the bytes behind it. -/
def decI (b : List UInt8) : It := if decE b = 0 then decX b else noIt
def decR (b : List UInt8) : List UInt8 := if decE b = 0 then b.drop (8 + leN ((b.drop 6).take 2)) else []

def ct16 : Ct := { ps := [itemP, itemP], bs := [], pre := fun _ => True, res := fun | [.i a, .i b, .i c, _, .i a', .i b', .i c', _] => .ret .bool [] [.b (sameB a b c a' b' c')] | _ => noRes }
def pre21 (n w : Int) : Prop := 0 ≤ n ∧ n ≤ 1000000000 ∧ 0 ≤ w ∧ w ≤ 8
def ct21 : Ct := { ps := [i64, i64], bs := [], pre := fun | [.i n, .i w] => pre21 n w | _ => False, res := fun | [.i n, .i w] => .ret (.own 0) [.own 5 u8E] [.r (rowsOfBytes (numB n w.toNat))] | _ => noRes }
def R21 (n w n' w' i : Int) (out : List (List CD)) : Prop := n' = n / 256 ^ i.toNat ∧ w' = w ∧ 0 ≤ i ∧ i ≤ w ∧ out = rowsOfBytes (numB n i.toNat)
def ann21 : List Dat → Ann
  | [.i n, .i w] => { cut := [], loop := [(3, [la 22 [(0, i64), (1, i64), (5, .own 0), (6, i64)] [.own 5 u8E] (fun | [.i n', .i w', .i i, .r out] => R21 n w n' w' i out | _ => False) (fun | [_, .i w', .i i, _] => (w' - i).toNat | _ => 0)])] }
  | _ => { cut := [], loop := [] }
def ct13 : Ct := { ps := [itemP], bs := [], pre := fun _ => True, res := fun | [.i a, .i b, .i c, .s l] => .ret (.tup [.own 0, i64]) [.own 5 u8E] [.i (chk a b c l), .r (encR a b c l)] | _ => noRes }
def pre90048 (l : List (List CD)) : Prop := isB l ∧ l.length ≤ 7
def ct90048 : Ct := { ps := [.rd u8E], bs := [], pre := fun | [.r l] => pre90048 l | _ => False, res := fun | [.r l] => .ret i64 [] [.i (leN (bytesOfRows l))] | _ => noRes }
def R90048 (l l' : List (List CD)) (n i : Int) : Prop := l' = l ∧ -1 ≤ i ∧ i < l.length ∧ n = leN ((bytesOfRows l).drop (i + 1).toNat)
def ann90048 : List Dat → Ann
  | [.r l] => { cut := [], loop := [(3, [la 21 [(0, .rd u8E), (3, i64), (4, i64)] [] (fun | [.r l', .i n, .i i] => R90048 l l' n i | _ => False) (fun | [_, _, .i i] => (i + 1).toNat | _ => 0)])] }
  | _ => { cut := [], loop := [] }
def pre32 (l : List (List CD)) : Prop := l.length ≤ 100000000
def ct32 : Ct := { ps := [.rd u8E], bs := [], pre := fun | [.r l] => pre32 l | _ => False, res := fun | [.r l] => .ret (.own 0) [.own 5 u8E] [.r l] | _ => noRes }
abbrev readB : BPat := .cells 79 [.rd u8E, .bool]
def pre30 (n : Int) : Prop := 0 ≤ n
def tkR (l : List (List CD)) (n : Int) : List (List CD) := if (l.length : Int) < n then [] else l.take n.toNat
def tkD (l : List (List CD)) (n : Int) : List (List CD) := if (l.length : Int) < n then l else l.drop n.toNat
def tkS (l : List (List CD)) (n : Int) (sh : Bool) : Bool := decide ((l.length : Int) < n) || sh
def ct30 : Ct := { ps := [.ptr 0 0, i64], bs := [readB], pre := fun | [.i n, _, _] => pre30 n | _ => False, res := fun | [.i n, .r l, .b sh] => .ret (.rd u8E) [readB] [.r (tkR l n), .r (tkD l n), .b (tkS l n sh)] | _ => noRes }
def pre29 (w : Int) (l : List (List CD)) : Prop := 0 ≤ w ∧ w ≤ 7 ∧ isB l
def ct29 : Ct := { ps := [.ptr 0 0, i64], bs := [readB], pre := fun | [.i w, .r l, _] => pre29 w l | _ => False, res := fun | [.i w, .r l, .b sh] => .ret i64 [readB] [.i (leN (bytesOfRows (tkR l w))), .r (tkD l w), .b (tkS l w sh)] | _ => noRes }
def R29 (w : Int) (l : List (List CD)) (sh : Bool) (n : Int) (tk : List (List CD)) (m i : Int) (rest : List (List CD)) (sh' : Bool) : Prop := tk = tkR l w ∧ m = tk.length ∧ 0 ≤ i ∧ i ≤ m ∧ rest = tkD l w ∧ sh' = tkS l w sh ∧ n = leN ((bytesOfRows tk).take i.toNat)
def ann29 : List Dat → Ann
  | [.i w, .r l, .b sh] => { cut := [], loop := [(3, [la 26 [(5, i64), (10, .rd u8E), (11, i64), (12, i64)] [readB] (fun | [.i n, .r tk, .i m, .i i, .r rest, .b sh'] => R29 w l sh n tk m i rest sh' | _ => False) (fun | [_, _, .i m, .i i, _, _] => (m - i).toNat | _ => 0)])] }
  | _ => { cut := [], loop := [] }
def pre22 (l : List (List CD)) : Prop := isB l ∧ l.length ≤ 100000000
def ct22 : Ct := { ps := [.rd u8E], bs := [], pre := fun | [.r l] => pre22 l | _ => False, res := fun | [.r l] => .ret (.tup [itemP, .own 0, i64]) [.own 5 u8E] [.i (decI (bytesOfRows l)).k, .i (decI (bytesOfRows l)).t, .i (decI (bytesOfRows l)).c, .s (decI (bytesOfRows l)).l, .i (decE (bytesOfRows l)), .r (rowsOfBytes (decR (bytesOfRows l)))] | _ => noRes }
def ct90022 : Ct := { ps := [.rd u8E], bs := [], pre := fun | [.r l] => pre22 l | _ => False, res := fun | [.r l] => .ret (.tup [itemP, .rd u8E, i64]) [] [.i (decI (bytesOfRows l)).k, .i (decI (bytesOfRows l)).t, .i (decI (bytesOfRows l)).c, .s (decI (bytesOfRows l)).l, .r (rowsOfBytes (decR (bytesOfRows l))), .i (decE (bytesOfRows l))] | _ => noRes }
def ct90021 : Ct := { ps := [itemP], bs := [], pre := fun _ => True, res := fun | [.i a, .i b, .i c, .s l] => .ret itemP [] [.i a, .i b, .i c, .s l] | _ => noRes }
end Go.Proofs.YtfikklbaceidfaaDoor
