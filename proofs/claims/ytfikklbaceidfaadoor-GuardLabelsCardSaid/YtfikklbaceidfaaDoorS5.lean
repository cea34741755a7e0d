/-
  Patterns, that is, lists of items: what the functions on them answer; their contracts.
-/
import Derived.Test.YtfikklbaceidfaaDoorL4
namespace Go.Proofs.YtfikklbaceidfaaDoor
open Go.Avc
set_option linter.unusedVariables false

/-! ### Lists and bytes -/
/-- Reading at most n items from bytes; what is read already; what is found: the items, where it fails, why. -/
def prsA : Nat → List It → List UInt8 → List It × Int × Int
  | 0, acc, b => if b.length = 0 then (acc, -1, 0) else ([], acc.length, 9)
  | n + 1, acc, b => if b.length = 0 then (acc, -1, 0) else if decE b = 0 then prsA n (acc ++ [decX b]) (decR b) else ([], acc.length, decE b)
def prs (b : List UInt8) : List It × Int × Int := prsA 1024 [] b
def encIt (x : It) : List UInt8 := encB x.k x.t x.c x.l
def chkIt (x : It) : Int := chk x.k x.t x.c x.l
/-- Writing items behind i items whose bytes are written. -/
def serA : Nat → List UInt8 → List It → List UInt8 × Int × Int
  | _, acc, [] => (acc, -1, 0)
  | i, acc, x :: l => if i = 1024 then ([], i, 9) else if chkIt x = 0 then serA (i + 1) (acc ++ encIt x) l else ([], i, chkIt x)
def ser (l : List It) : List UInt8 × Int × Int := serA 0 [] l
def sameIt (x y : It) : Bool := sameB x.k x.t x.c y.k y.t y.c
/-- y begins x, labels apart. -/
def prefIt : List It → List It → Bool
  | _, [] => true
  | [], _ :: _ => false
  | x :: l, y :: m => sameIt x y && prefIt l m

/-! ### Contracts -/
def ct14 : Ct := { ps := [.rd u8E], bs := [], pre := fun | [.r l] => pre22 l | _ => False, res := fun | [.r l] => .ret (.tup [.own 0, i64, i64]) [.own 51 itemE] [.i (prs (bytesOfRows l)).2.1, .i (prs (bytesOfRows l)).2.2, .r (rowsIt (prs (bytesOfRows l)).1)] | _ => noRes }
def R14 (l l' : List (List CD)) (i : Int) (acc : List (List CD)) : Prop := pre22 l' ∧ 0 ≤ i ∧ i ≤ 1024 ∧ i = acc.length ∧ acc = rowsIt (itsOf acc) ∧ prs (bytesOfRows l) = prsA (1024 - acc.length) (itsOf acc) (bytesOfRows l')
def ann14 : List Dat → Ann
  | [.r l] => { cut := [], loop := [(3, [la 34 [(0, .rd u8E), (5, .own 0), (6, i64)] [.own 51 itemE] (fun | [.r l', .i i, .r acc] => R14 l l' i acc | _ => False) (fun | [_, .i i, _] => (1025 - i).toNat | _ => 0)])] }
  | _ => { cut := [], loop := [] }
def ct90025 : Ct := { ps := [.rd u8E], bs := [], pre := fun | [.r l] => pre22 l | _ => False, res := fun | [.r l] => .ret (.tup [.own 0, i64, i64]) [.own 32 itemE] [.i (prs (bytesOfRows l)).2.1, .i (prs (bytesOfRows l)).2.2, .r (rowsIt (prs (bytesOfRows l)).1)] | _ => noRes }
def R90025 (l l' acc : List (List CD)) : Prop := pre22 l' ∧ acc.length ≤ 1024 ∧ acc = rowsIt (itsOf acc) ∧ prs (bytesOfRows l) = prsA (1024 - acc.length) (itsOf acc) (bytesOfRows l')
def ann90025 : List Dat → Ann
  | [.r l] => { cut := [], loop := [(2, [la 35 [(0, .rd u8E), (5, .own 0)] [.own 32 itemE] (fun | [.r l', .r acc] => R90025 l l' acc | _ => False) (fun | [_, .r acc] => 1025 - acc.length | _ => 0)])] }
  | _ => { cut := [], loop := [] }
def ct90026 : Ct := { ps := [.rd itemE, .rd itemE], bs := [], pre := fun _ => True, res := fun | [.r x, .r y] => .ret .bool [] [.b (decide (itsOf x = itsOf y))] | _ => noRes }
def R90026 (x y x' y' : List (List CD)) (i : Int) : Prop := x' = x ∧ y' = y ∧ x.length = y.length ∧ 0 ≤ i ∧ i ≤ x.length ∧ (itsOf x).take i.toNat = (itsOf y).take i.toNat
def ann90026 : List Dat → Ann
  | [.r x, .r y] => { cut := [], loop := [(4, [la 26 [(0, .rd itemE), (1, .rd itemE), (5, i64)] [] (fun | [.r x', .r y', .i i] => R90026 x y x' y' i | _ => False) (fun | [.r x', _, .i i] => (x'.length - i).toNat | _ => 0)])] }
  | _ => { cut := [], loop := [] }
def preL (l : List (List CD)) : Prop := l.length ≤ 100000000
def ct90027 : Ct := { ps := [.rd itemE], bs := [], pre := fun | [.r l] => preL l | _ => False, res := fun | [.r l] => .ret (.own 0) [.own 32 itemE] [.r (rowsIt (itsOf l))] | _ => noRes }
def R90027 (l acc l' : List (List CD)) (n i : Int) : Prop := l' = l ∧ n = l.length ∧ 0 ≤ i ∧ i ≤ n ∧ acc = rowsIt ((itsOf l).take i.toNat)
def ann90027 : List Dat → Ann
  | [.r l] => { cut := [], loop := [(3, [la 20 [(3, .own 0), (7, .rd itemE), (8, i64), (9, i64)] [.own 32 itemE] (fun | [.r l', .i n, .i i, .r acc] => R90027 l acc l' n i | _ => False) (fun | [_, .i n, .i i, _] => (n - i).toNat | _ => 0)])] }
  | _ => { cut := [], loop := [] }
def ct90028 : Ct := { ps := [.rd itemE], bs := [], pre := fun | [.r l] => preL l | _ => False, res := fun | [.r l] => .ret (.tup [.own 0, i64, i64]) [.own 5 u8E] [.i (ser (itsOf l)).2.1, .i (ser (itsOf l)).2.2, .r (rowsOfBytes (ser (itsOf l)).1)] | _ => noRes }
def R90028 (l acc l' : List (List CD)) (n i : Int) : Prop := l' = l ∧ n = l.length ∧ 0 ≤ i ∧ i ≤ n ∧ i ≤ 1024 ∧ acc.length ≤ 263 * i ∧ isB acc ∧ ser (itsOf l) = serA i.toNat (bytesOfRows acc) ((itsOf l).drop i.toNat)
def ann90028 : List Dat → Ann
  | [.r l] => { cut := [], loop := [(3, [la 34 [(5, .own 0), (10, .rd itemE), (11, i64), (12, i64)] [.own 5 u8E] (fun | [.r l', .i n, .i i, .r acc] => R90028 l acc l' n i | _ => False) (fun | [_, .i n, .i i, _] => (n - i).toNat | _ => 0)])] }
  | _ => { cut := [], loop := [] }
def ct5 : Ct := { ps := [.rd itemE], bs := [], pre := fun | [.r l] => preL l | _ => False, res := fun | [.r l] => .ret (.tup [.own 0, i64, i64]) [.own 5 u8E] [.i (ser (itsOf l)).2.1, .i (ser (itsOf l)).2.2, .r (rowsOfBytes (ser (itsOf l)).1)] | _ => noRes }
def ann5 : List Dat → Ann
  | [.r l] => { cut := [], loop := [(3, [la 35 [(0, .rd itemE), (5, .own 0), (6, i64)] [.own 5 u8E] (fun | [.r l', .i i, .r acc] => R90028 l acc l' l.length i | _ => False) (fun | [.r l', .i i, _] => (l'.length - i).toNat | _ => 0)])] }
  | _ => { cut := [], loop := [] }
def ct90035 : Ct := { ps := [.rd itemE], bs := [], pre := fun | [.r l] => preL l | _ => False, res := fun | [.r l] => .ret (.own 0) [.own 51 itemE] [.r (rowsIt (itsOf l))] | _ => noRes }
def ann90035 : List Dat → Ann
  | [.r l] => { cut := [], loop := [(3, [la 19 [(3, .own 0), (6, .rd itemE), (7, i64), (8, i64)] [.own 51 itemE] (fun | [.r l', .i n, .i i, .r acc] => R90027 l acc l' n i | _ => False) (fun | [_, .i n, .i i, _] => (n - i).toNat | _ => 0)])] }
  | _ => { cut := [], loop := [] }
def ct90049 : Ct := { ps := [itemP, itemP], bs := [], pre := fun _ => True, res := fun | [.i a, .i b, .i c, _, .i a', .i b', .i c', _] => .ret .bool [] [.b (sameB a b c a' b' c')] | _ => noRes }
def ct90032 : Ct := { ps := [.rd itemE, .rd itemE], bs := [], pre := fun _ => True, res := fun | [.r x, .r y] => .ret .bool [] [.b (prefIt (itsOf x) (itsOf y))] | _ => noRes }
def R90032 (x y x' y' : List (List CD)) (i : Int) : Prop := x' = x ∧ y' = y ∧ 0 ≤ i ∧ i ≤ y.length ∧ i ≤ x.length ∧ prefIt (itsOf x) (itsOf y) = prefIt ((itsOf x).drop i.toNat) ((itsOf y).drop i.toNat)
def ann90032 : List Dat → Ann
  | [.r x, .r y] => { cut := [], loop := [(2, [la 28 [(0, .rd itemE), (1, .rd itemE), (5, i64)] [] (fun | [.r x', .r y', .i i] => R90032 x y x' y' i | _ => False) (fun | [_, .r y', .i i] => (y'.length - i).toNat | _ => 0)])] }
  | _ => { cut := [], loop := [] }
def ct90023 : Ct := { ps := [], bs := [], pre := fun _ => True, res := fun _ => .ret .bool [] [.b true] }
def reps (n : Nat) (b : List UInt8) : List UInt8 := (List.replicate n b).flatten
end Go.Proofs.YtfikklbaceidfaaDoor
