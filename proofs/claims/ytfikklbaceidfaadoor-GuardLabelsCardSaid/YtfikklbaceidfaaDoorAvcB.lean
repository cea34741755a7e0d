/-
  AVC, part B: the evaluator of one operation on abstract values. Definitions alone.
-/
import Derived.Test.YtfikklbaceidfaaDoorAvcA
namespace Go.Avc
set_option linter.unusedVariables false

/-! ### Words on integers -/
def bAnd (k : IntKind) (a b : Int) : Int := k.wrap ((BitVec.ofInt k.bits a &&& BitVec.ofInt k.bits b).toNat)
def bOr (k : IntKind) (a b : Int) : Int := k.wrap ((BitVec.ofInt k.bits a ||| BitVec.ofInt k.bits b).toNat)
def bXor (k : IntKind) (a b : Int) : Int := k.wrap ((BitVec.ofInt k.bits a ^^^ BitVec.ofInt k.bits b).toNat)
def bAndNot (k : IntKind) (a b : Int) : Int := k.wrap ((BitVec.ofInt k.bits a &&& ~~~BitVec.ofInt k.bits b).toNat)
def bShl (k : IntKind) (a b : Int) : Int := k.wrap (a * 2 ^ (min b.toNat k.bits))
def bShr (k : IntKind) (a b : Int) : Int := a.fdiv (2 ^ (min b.toNat k.bits))

/-! ### Shapes of data -/
mutual
def CSh.beq : CSh → CSh → Bool
  | .int k, .int k' => k == k'
  | .bool, .bool => true
  | .str, .str => true
  | .sl e, .sl e' => CSh.beqs e e'
  | _, _ => false
def CSh.beqs : List CSh → List CSh → Bool
  | [], [] => true
  | a :: l, b :: m => CSh.beq a b && CSh.beqs l m
  | _, _ => false
end
mutual
theorem CSh.beq_eq : ∀ (a b : CSh), CSh.beq a b = true → a = b
  | .int k, .int k', h => by simp [CSh.beq] at h; rw [h]
  | .bool, .bool, _ => rfl
  | .str, .str, _ => rfl
  | .sl e, .sl e', h => by simp only [CSh.beq] at h; rw [CSh.beqs_eq e e' h]
  | .int _, .bool, h => by simp [CSh.beq] at h
  | .int _, .str, h => by simp [CSh.beq] at h
  | .int _, .sl _, h => by simp [CSh.beq] at h
  | .bool, .int _, h => by simp [CSh.beq] at h
  | .bool, .str, h => by simp [CSh.beq] at h
  | .bool, .sl _, h => by simp [CSh.beq] at h
  | .str, .int _, h => by simp [CSh.beq] at h
  | .str, .bool, h => by simp [CSh.beq] at h
  | .str, .sl _, h => by simp [CSh.beq] at h
  | .sl _, .int _, h => by simp [CSh.beq] at h
  | .sl _, .bool, h => by simp [CSh.beq] at h
  | .sl _, .str, h => by simp [CSh.beq] at h
theorem CSh.beqs_eq : ∀ (a b : List CSh), CSh.beqs a b = true → a = b
  | [], [], _ => rfl
  | a :: l, b :: m, h => by
    simp only [CSh.beqs, Bool.and_eq_true] at h
    rw [CSh.beq_eq a b h.1, CSh.beqs_eq l m h.2]
  | [], _ :: _, h => by simp [CSh.beqs] at h
  | _ :: _, [], h => by simp [CSh.beqs] at h
end

def ofCD : CSh → CD → SV
  | .int k, d => .int k d.toInt
  | .bool, d => .bool d.toBool
  | .str, d => .str d.toStr
  | .sl e, d => .rd e d.toSl
/-- The cells of row i from cell c on. -/
def rowSV (l : List (List CD)) (i : Nat) : List CSh → Nat → List SV
  | [], _ => []
  | sh :: e, c => ofCD sh ((l.getD i []).getD c .d0) :: rowSV l i e (c + 1)
def toCD : CSh → SV → Option CD
  | .int k, .int k' n => if k = k' then some (.int n) else none
  | .bool, .bool b => some (.bool b)
  | .str, .str l => some (.str l)
  | .sl e, .rd e' l => if CSh.beqs e e' then some (.sl l) else none
  | .sl e, .nils => some (.sl [])
  | .sl e, .e0 => some (.sl [])
  | _, _ => none
def toCDs : List CSh → List SV → Option (List CD)
  | [], [] => some []
  | sh :: e, s :: cs => match toCD sh s, toCDs e cs with
    | some d, some ds => some (d :: ds)
    | _, _ => none
  | _, _ => none

/-! ### Types -/
def aggT (P : Program) (T : TypeId) : Option Bool := match P.underlying T with | some (.struct _) => some true | some (.array _ _) => some true | some _ => some false | none => none
def sumSh (f : TypeId → Option (List CSh)) : List TypeId → Option (List CSh)
  | [] => some []
  | t :: ts => match f t, sumSh f ts with | some a, some b => some (a ++ b) | _, _ => none
/-- The cells of a type of data. -/
def csh (P : Program) : Nat → TypeId → Option (List CSh)
  | 0, _ => none
  | d + 1, T => match P.underlying T with
    | some (.int k) => some [.int k]
    | some .bool => some [.bool]
    | some .string => some [.str]
    | some (.slice E) => (csh P d E).map fun e => [.sl e]
    | some (.struct fs) => sumSh (csh P d) (fs.toList.map (·.type))
    | some (.array n E) => (csh P d E).map fun e => (List.replicate n e).flatten
    | _ => none

/-! ### Cells -/
/-- The first n cells, and the others. -/
def splitC : List SV → Nat → Option (List SV × List SV)
  | cs, 0 => some ([], cs)
  | [], _ + 1 => none
  | s :: cs, n + 1 => if s.size ≤ n + 1 then (match splitC cs (n + 1 - s.size) with | some (a, d) => some (s :: a, d) | none => none) else none
def szs : List SV → Nat
  | [] => 0
  | s :: cs => s.size + szs cs
/-- A value of one cell, whatever it is. -/
def SV.one : SV → Bool
  | .int .. | .bool _ | .str _ | .nilp | .ptr .. | .aptr .. | .rd .. | .e0 | .nils | .own _ | .win .. | .eptr .. | .optr .. | .fn .. | .sls _ | .nili | .iface .. => true
  | _ => false
def SV.cells : SV → Option (List SV)
  | .agg cs => some cs
  | s => if s.one then some [s] else none

/-! ### What an operation gives -/
inductive OR where
  | bad
  | need (p : Prop) (r : OR)
  | know (p : Prop) (r : OR)
  | split (b : Bool) (r1 r2 : OR)
  | val (sv : SV)
  | new (T : TypeId) (cs : List SV)
  | newRo (sv : SV)
  | newOwn (T : TypeId) (e : List CSh) (l : List (List CD))
  | upd (b : Nat) (blk : Blk)
  | app (b : Nat) (T : TypeId) (e : List CSh) (l : List (List CD))
  | anyB (f : Bool → Prop)
  | call (f : FuncId) (svs : List SV)

/-- x at a struct or an array, y at another type. -/
def ifAgg (P : Program) (T : TypeId) (x y : OR) : OR := match aggT P T with | some true => x | some false => y | none => .bad

section
variable (P : Program)

def evLoadCells (T : TypeId) (cs : List SV) (c : Nat) : OR :=
  match splitC cs c with
  | some (_, r) =>
    ifAgg P T (match splitC r (P.cellsOf T) with | some (m, _) => .val (.agg m) | none => .bad)
      (match r with | s :: _ => if s.one then .val s else .bad | [] => .bad)
  | none => .bad
def evLoadRows (T : TypeId) (e : List CSh) (l : List (List CD)) (i c : Nat) : OR :=
  ifAgg P T
    (match e, c with
     | [.int k], 0 => .need (i + P.cellsOf T ≤ l.length) (.val (.agg [.arrI (P.cellsOf T) k (((l.drop i).take (P.cellsOf T)).map fun r => (r.getD 0 .d0).toInt)]))
     | e, c => if c + P.cellsOf T ≤ e.length then .need (i < l.length) (.val (.agg (rowSV l i ((e.drop c).take (P.cellsOf T)) c))) else .bad)
    (match e[c]? with
    | some sh => .need (i < l.length) (.val (ofCD sh ((l.getD i []).getD c .d0)))
    | none => .bad)
def evLoad (hp : List Blk) (T : TypeId) : SV → OR
  | .ptr b c => (match hp.getD b .none with | .cells _ cs => evLoadCells P T cs c | _ => .bad)
  | .aptr b c i => (match hp.getD b .none with
    | .cells _ cs => (match splitC cs c with
      | some (_, .arrI n k l :: _) =>
        ifAgg P T (.need (i + P.cellsOf T ≤ n) (.val (.agg [.arrI (P.cellsOf T) k ((l.drop i).take (P.cellsOf T))])))
          (.need (i < n) (.val (.int k (l.getD i 0))))
      | some (_, .arrB n l :: _) =>
        ifAgg P T (.need (i + P.cellsOf T ≤ n) (.val (.agg [.arrB (P.cellsOf T) ((l.drop i).take (P.cellsOf T))])))
          (.need (i < n) (.val (.bool (l.getD i false))))
      | _ => .bad)
    | _ => .bad)
  | .eptr e l i c => evLoadRows P T e l i c
  | .optr b sz i c => (match hp.getD b .none with
    | .own _ e l => if e.length = sz then evLoadRows P T e l i c else .bad
    | _ => .bad)
  | _ => .bad

def evStore (hp : List Blk) (T : TypeId) (p x : SV) : OR :=
  if P.cellsOf T = 0 then .bad else
  match p with
  | .ptr b c => (match hp.getD b .none, x.cells with
    | .cells T' cs, some xs => (match splitC cs c with
      | some (a, r) => (match splitC r (P.cellsOf T) with
        | some (_, d) => if szs xs = P.cellsOf T then .upd b (.cells T' (a ++ xs ++ d)) else .bad
        | none => .bad)
      | none => .bad)
    | _, _ => .bad)
  | .aptr b c i => (match hp.getD b .none with
    | .cells T' cs => (match splitC cs c with
      | some (a, .arrI n k l :: d) => (match x with
        | .int k' v => if k = k' then (if P.cellsOf T = 1 then .need (i < n) (.upd b (.cells T' (a ++ .arrI n k (l.set i v) :: d))) else .bad) else .bad
        | .agg [.arrI m k' l'] => if k = k' then (if P.cellsOf T = m then .need (i + m ≤ n) (.upd b (.cells T' (a ++ .arrI n k (l.take i ++ l' ++ l.drop (i + m)) :: d))) else .bad) else .bad
        | _ => .bad)
      | some (a, .arrB n l :: d) => (match x with
        | .bool v => if P.cellsOf T = 1 then .need (i < n) (.upd b (.cells T' (a ++ .arrB n (l.set i v) :: d))) else .bad
        | .agg [.arrB m l'] => if P.cellsOf T = m then .need (i + m ≤ n) (.upd b (.cells T' (a ++ .arrB n (l.take i ++ l' ++ l.drop (i + m)) :: d))) else .bad
        | _ => .bad)
      | _ => .bad)
    | _ => .bad)
  | .optr b sz i c => (match hp.getD b .none with
    | .own T' e l => if e.length = sz then (match e[c]? with
      | some sh => (match toCD sh x with
        | some d => if P.cellsOf T = 1 then .need (i < l.length) (.upd b (.own T' e (l.set i ((l.getD i []).set c d)))) else .bad
        | none => .bad)
      | none => .bad) else .bad
    | _ => .bad)
  | _ => .bad

def arrAt (cs : List SV) (c : Nat) : Bool := match splitC cs c with | some (_, .arrI .. :: _) => true | some (_, .arrB .. :: _) => true | _ => false
def evIndexAddr (hp : List Blk) (T : TypeId) (x ix : SV) : OR :=
  match ix with
  | .int _ n => (match P.underlying T, x with
    | some (.array len E), .ptr b c => if P.cellsOf E = 0 then .bad else (match hp.getD b .none with
      | .cells _ cs => .need (0 ≤ n ∧ n < len) (if arrAt cs c then .val (.aptr b c (n.toNat * P.cellsOf E)) else .val (.ptr b (c + n.toNat * P.cellsOf E)))
      | _ => .bad)
    | some (.array len E), .aptr b c i => if P.cellsOf E = 0 then .bad else .need (0 ≤ n ∧ n < len) (.val (.aptr b c (i + n.toNat * P.cellsOf E)))
    | some (.array len E), .eptr e l i c => if P.cellsOf E = 0 then .bad else (if P.cellsOf E = e.length then (if c = 0 then .need (0 ≤ n ∧ n < len ∧ i + n.toNat < l.length) (.val (.eptr e l (i + n.toNat) 0)) else .bad) else .bad)
    | some (.slice E), .rd e l => if P.cellsOf E = 0 then .bad else (if P.cellsOf E = e.length then .need (0 ≤ n ∧ n < l.length) (.val (.eptr e l n.toNat 0)) else .bad)
    | some (.slice E), .own b => if P.cellsOf E = 0 then .bad else (match hp.getD b .none with
      | .own _ e l => if P.cellsOf E = e.length then .need (0 ≤ n ∧ n < l.length) (.val (.optr b e.length n.toNat 0)) else .bad
      | .ro e l => if P.cellsOf E = e.length then .need (0 ≤ n ∧ n < l.length) (.val (.eptr e l n.toNat 0)) else .bad
      | _ => .bad)
    | some (.slice E), .win b c N lo m => if P.cellsOf E = 1 then .need (0 ≤ n ∧ n < m) (.val (.aptr b c (lo + n.toNat))) else .bad
    | _, _ => .bad)
  | _ => .bad
def evIndex (T : TypeId) (x ix : SV) : OR :=
  match ix with
  | .int _ n => (match P.underlying T, x with
    | some (.array len E), .agg [.arrI m k l] =>
      ifAgg P E (.need (0 ≤ n ∧ n < len ∧ (n.toNat + 1) * P.cellsOf E ≤ m) (.val (.agg [.arrI (P.cellsOf E) k ((l.drop (n.toNat * P.cellsOf E)).take (P.cellsOf E))])))
        (.need (0 ≤ n ∧ n < len ∧ n.toNat * P.cellsOf E < m) (.val (.int k (l.getD (n.toNat * P.cellsOf E) 0))))
    | some (.array len E), .agg [.arrB m l] =>
      ifAgg P E (.need (0 ≤ n ∧ n < len ∧ (n.toNat + 1) * P.cellsOf E ≤ m) (.val (.agg [.arrB (P.cellsOf E) ((l.drop (n.toNat * P.cellsOf E)).take (P.cellsOf E))])))
        (.need (0 ≤ n ∧ n < len ∧ n.toNat * P.cellsOf E < m) (.val (.bool (l.getD (n.toNat * P.cellsOf E) false))))
    | some (.array len E), .agg cs => (match splitC cs (n.toNat * P.cellsOf E) with
      | some (_, r) => ifAgg P E (match splitC r (P.cellsOf E) with | some (m, _) => .need (0 ≤ n ∧ n < len) (.val (.agg m)) | none => .bad)
        (match r with | s :: _ => if s.one then .need (0 ≤ n ∧ n < len) (.val s) else .bad | [] => .bad)
      | none => .bad)
    | some .string, .str l => .need (0 ≤ n ∧ n < l.length) (.val (.int .u8 ((l.getD n.toNat 0).toNat : Int)))
    | _, _ => .bad)
  | _ => .bad
def evFieldAddr (S : TypeId) (x : SV) (f : Nat) : OR :=
  match P.underlying S with
  | some (.struct fs) => (match fs[f]? with
    | some fd => if P.cellsOf fd.type = 0 then .bad else (match x with
      | .ptr b c => .val (.ptr b (c + fd.offset))
      | .eptr e l i c => if e.length = 0 then .bad else .need (i < l.length) (.val (.eptr e l i (c + fd.offset)))
      | .optr b sz i c => .val (.optr b sz i (c + fd.offset))
      | _ => .bad)
    | none => .bad)
  | _ => .bad
def evField (S : TypeId) (x : SV) (f : Nat) : OR :=
  match P.underlying S, x with
  | some (.struct fs), .agg cs => (match fs[f]? with
    | some fd => evLoadCells P fd.type cs fd.offset
    | none => .bad)
  | _, _ => .bad

/-! Slices -/
def evBound (o : Option SV) (d : Int) : Option Int := match o with | none => some d | some (.int _ n) => some n | some _ => none
/-- The run of cells that begins at c has just so many. -/
def arrLen (cs : List SV) (c : Nat) : Option Nat := match splitC cs c with | some (_, .arrI n _ _ :: _) => some n | some (_, .arrB n _ :: _) => some n | _ => none
def evSlice (hp : List Blk) (T : TypeId) (x : SV) (lo hi mx : Option SV) : OR :=
  match P.underlying T, x with
  | some .string, .str l => (match evBound lo 0, evBound hi l.length, mx with
    | some a, some b, none => .need (0 ≤ a ∧ a ≤ b ∧ b ≤ l.length) (.val (.str ((l.take b.toNat).drop a.toNat)))
    | _, _, _ => .bad)
  | some (.slice E), .rd e l => if P.cellsOf E = e.length then (if e.length = 0 then .bad else (match evBound lo 0, hi, mx with
    | some a, hi, none => (match evBound hi l.length with
      | some b => .need (0 ≤ a ∧ a ≤ b ∧ b ≤ l.length) (.val (.rd e ((l.take b.toNat).drop a.toNat)))
      | none => .bad)
    | some a, some (.int _ b), some (.int _ m) =>
      .need (0 ≤ a ∧ a ≤ b ∧ b ≤ m ∧ m ≤ l.length) (.val (.rd e ((l.take b.toNat).drop a.toNat)))
    | _, _, _ => .bad)) else .bad
  | some (.array len E), .ptr b c => (match hp.getD b .none with
    | .cells _ cs => if P.cellsOf E = 1 then (if arrLen cs c = some len then (if len ≤ 1000000 then (match evBound lo 0, evBound hi len, mx with
      | some i, some j, none => .need (0 ≤ i ∧ i ≤ j ∧ j ≤ len ∧ i < len) (.val (.win b c len i.toNat (j.toNat - i.toNat)))
      | _, _, _ => .bad) else .bad) else .bad) else .bad
    | _ => .bad)
  | _, _ => .bad
/-- A slice value as data: the shape, and the rows. -/
def view (hp : List Blk) : SV → Option (List CSh × List (List CD))
  | .rd e l => some (e, l)
  | .own b => (match hp.getD b .none with | .own _ e l => some (e, l) | .ro e l => some (e, l) | _ => none)
  | .win b c N lo n => (match hp.getD b .none with
    | .cells _ cs => (match splitC cs c with
      | some (_, .arrI N' k l :: _) => if N' = N then some ([.int k], ((l.drop lo).take n).map fun x => [.int x]) else none
      | _ => none)
    | _ => none)
  | _ => none
def bytesOfRows (l : List (List CD)) : List UInt8 := l.map fun r => UInt8.ofNat (r.getD 0 .d0).toInt.toNat
def rowsOfBytes (l : List UInt8) : List (List CD) := l.map fun b => [.int (b.toNat : Int)]
def evConvert (hp : List Blk) (src dst : TypeId) (x : SV) : OR :=
  match P.underlying src, P.underlying dst, x with
  | some (.int _), some (.int k), .int _ n => .val (.int k (k.wrap n))
  | some .string, some .string, .str l => .val (.str l)
  | some .string, some (.slice E), .str l => (match P.underlying E with
    | some (.int .u8) => .newRo (.rd [.int .u8] (rowsOfBytes l))
    | _ => .bad)
  | some (.slice E), some .string, .nils => (match P.underlying E with
    | some (.int .u8) => .val (.str [])
    | _ => .bad)
  | some (.slice E), some .string, x => (match P.underlying E with
    | some (.int .u8) => (match view hp x with
        | some ([.int .u8], l) => .val (.str (bytesOfRows l))
        | _ => .bad)
    | _ => .bad)
  | _, _, _ => .bad
def evToArray (hp : List Blk) (A : TypeId) (x : SV) : OR :=
  match P.underlying A, x with
  | some (.array n E), .rd e l => if n = 0 then .bad else .need (n ≤ l.length) (.val (.eptr e l 0 0))
  | some (.array n E), .own b => if n = 0 then .bad else (match hp.getD b .none with
    | .own _ e l => .need (n ≤ l.length) (.val (.optr b e.length 0 0))
    | .ro e l => .need (n ≤ l.length) (.val (.eptr e l 0 0))
    | _ => .bad)
  | some (.array n E), .win b c N lo m => .need (n ≤ m) (.val (.aptr b c lo))
  | _, _ => .bad

/-! Building -/
def putParts (place : Nat → Option (Nat × Nat)) (cells : List SV) : List (Nat × SV) → Option (List SV)
  | [] => some cells
  | (i, x) :: rest => match place i, x.cells with
    | some (off, size), some xs => if szs xs = size then (match splitC cells off with
      | some (a, .arrI n k l :: d) => (match xs with
          | [.int k' v] => if k = k' then (if 0 < n then putParts place (a ++ .arrI n k (l.set 0 v) :: d) rest else none) else none
          | [.arrI m k' l'] => if k = k' then (if m = n then putParts place (a ++ .arrI n k l' :: d) rest else none) else none
          | _ => none)
      | some (a, r) => (match splitC r size with
          | some (_, d) => putParts place (a ++ xs ++ d) rest
          | none => none)
      | none => none) else none
    | _, _ => none
def fieldPlaces (fs : List Field) : Nat → Option (Nat × Nat) := fun i => match fs[i]? with | some f => some (f.offset, P.cellsOf f.type) | none => none
def evBuild (zero : TypeId → Option (List SV)) (T : TypeId) (parts : List (Nat × SV)) : OR :=
  match P.underlying T, zero T with
  | some (.struct fs), some z => if fs.toList.all (fun f => P.cellsOf f.type != 0) then (match putParts (fieldPlaces P fs.toList) z parts with | some cs => .val (.agg cs) | none => .bad) else .bad
  | some (.array _ E), some z => if P.cellsOf E = 0 then .bad else (match putParts (fun i => some (i * P.cellsOf E, P.cellsOf E)) z parts with | some cs => .val (.agg cs) | none => .bad)
  | _, _ => .bad
/-- The rows of a literal whose parts are all given, in order. -/
def partRows (e : List CSh) : Nat → List (Nat × SV) → Option (List (List CD))
  | _, [] => some []
  | j, (i, x) :: rest => if i = j then (match x.cells with
    | some xs => (match toCDs e xs, partRows e (j + 1) rest with
      | some row, some rows => some (row :: rows)
      | _, _ => none)
    | none => none) else none
/-- The parts of a literal that are one cell each, all given, in order. -/
def partSls : Nat → List (Nat × SV) → Option (List SV)
  | _, [] => some []
  | j, (i, x) :: rest => if i = j then (if x.one = true then (match partSls (j + 1) rest with
    | some xs => some (x :: xs)
    | none => none) else none) else none
def evBuildSlice (zero : TypeId → Option (List SV)) (T : TypeId) (len : Nat) (parts : List (Nat × SV)) : OR :=
  match P.underlying T with
  | some (.slice E) => (match csh P 4 E, zero E with
    | some e, some _ => if parts.length = len then (if e.length = P.cellsOf E then (match partRows e 0 parts with
      | some rows => if len * e.length ≤ 1024 then (if e.length = 0 then .bad else .newOwn E e rows) else .bad
      | none => (match partSls 0 parts with
        | some svs => if e.length = 1 then (if len ≤ 1024 then .newRo (.sls svs) else .bad) else .bad
        | none => .bad)) else .bad) else .bad
    | _, _ => .bad)
  | _ => .bad
def evMakeSlice (zero : TypeId → Option (List SV)) (T : TypeId) (len cap : SV) : OR :=
  match P.underlying T, len, cap with
  | some (.slice E), .int _ n, .int _ c => (match csh P 4 E, zero E with
    | some e, some z => (match toCDs e z with
      | some row => if e.length = 0 then .bad else .need (0 ≤ n ∧ n ≤ c ∧ P.bytesOf E * c ≤ 140737488355328 ∧ c ≤ 9223372036854775807) (.newOwn E e (List.replicate n.toNat row))
      | none => .bad)
    | _, _ => .bad)
  | _, _, _ => .bad

/-! Operators -/
def inI64 (n : Int) : Prop := -9223372036854775808 ≤ n ∧ n ≤ 9223372036854775807
def evArith (k : IntKind) (n : Int) : OR := match k with | .i64 => .need (inI64 n) (.val (.int .i64 n)) | k => .val (.int k (k.wrap n))
def evInt (op : BinOp) (k : IntKind) (a b : Int) : OR :=
  match op with
  | .add => evArith k (a + b)
  | .sub => evArith k (a - b)
  | .mul => evArith k (a * b)
  | .quo => .need (0 ≤ a ∧ 0 < b ∧ a ≤ k.max) (.val (.int k (a / b)))
  | .rem => .need (0 ≤ a ∧ 0 < b) (.val (.int k (a % b)))
  | .and => .val (.int k (bAnd k a b))
  | .or => .val (.int k (bOr k a b))
  | .xor => .val (.int k (bXor k a b))
  | .andNot => .val (.int k (bAndNot k a b))
  | .eql => .val (.bool (decide (a = b)))
  | .neq => .val (.bool (decide (a ≠ b)))
  | .lss => .val (.bool (decide (a < b)))
  | .leq => .val (.bool (decide (a ≤ b)))
  | .gtr => .val (.bool (decide (b < a)))
  | .geq => .val (.bool (decide (b ≤ a)))
  | _ => .bad
/-- Equality of two structs of scalars, field by field. -/
def eqFieldsSV (P : Program) : List Field → Nat → List SV → List SV → Option Bool
  | [], _, [], [] => some true
  | f :: fs, j, c :: cs, d :: ds => if f.offset = j then (if f.name = "_" then none else
    (match P.underlying f.type, c, d with
    | some (.int _), .int k a, .int k' b => if k = k' then (match eqFieldsSV P fs (j + 1) cs ds with | some r => some (decide (a = b) && r) | none => none) else none
    | some .bool, .bool a, .bool b => (match eqFieldsSV P fs (j + 1) cs ds with | some r => some (decide (a = b) && r) | none => none)
    | some .string, .str a, .str b => (match eqFieldsSV P fs (j + 1) cs ds with | some r => some (decide (a = b) && r) | none => none)
    | _, _, _ => none)) else none
  | _, _, _, _ => none
def eqAgg (P : Program) (T : TypeId) (cs ds : List SV) : Option Bool :=
  match P.underlying T with
  | some (.array n E) => (match P.underlying E, cs, ds with
    | some (.int _), [.arrI m k l], [.arrI m' k' l'] => if m = n then (if m' = n then (if k = k' then (if P.cellsOf E = 1 then some (decide (l = l')) else none) else none) else none) else none
    | _, _, _ => none)
  | some (.struct fs) => if P.stoodInHeld T = false then eqFieldsSV P fs.toList 0 cs ds else none
  | _ => none
/-- Is a pointer nil. -/
def nilEqP : SV → OR
  | .nilp => .val (.bool true)
  | .ptr .. => .val (.bool false)
  | .aptr .. => .val (.bool false)
  | .eptr .. => .val (.bool false)
  | .optr .. => .val (.bool false)
  | _ => .bad
/-- Is a slice nil; where that isn't known, whatever fits. -/
def nilEqS : SV → OR
  | .nils => .val (.bool true)
  | .e0 => .anyB fun _ => True
  | .rd e l => .anyB fun b => b = true → l = []
  | _ => .bad
def negAny (r : OR) : OR := match r with
  | .val (.bool b) => .val (.bool (!b))
  | .anyB f => .anyB fun b => f (!b)
  | r => r
def evBin (hp : List Blk) (op : BinOp) (T : TypeId) (x y : SV) : OR :=
  match op, x, y with
  | .shl, .int k a, .int _ b => .need (0 ≤ b) (.val (.int k (bShl k a b)))
  | .shr, .int k a, .int _ b => .need (0 ≤ b) (.val (.int k (bShr k a b)))
  | op, .int k a, .int k' b => if k = k' then evInt op k a b else .bad
  | .eql, .bool a, .bool b => (match P.underlying T with | some .bool => .val (.bool (a == b)) | _ => .bad)
  | .neq, .bool a, .bool b => (match P.underlying T with | some .bool => .val (.bool (a != b)) | _ => .bad)
  | .eql, .str a, .str b => .val (.bool (decide (a = b)))
  | .neq, .str a, .str b => .val (.bool (decide (a ≠ b)))
  | .add, .str a, .str b => .need (a.length + b.length ≤ 9223372036854775807) (.val (.str (a ++ b)))
  | .eql, .agg cs, .agg ds => (match eqAgg P T cs ds with | some r => .val (.bool r) | none => .bad)
  | .neq, .agg cs, .agg ds => (match eqAgg P T cs ds with | some r => .val (.bool (!r)) | none => .bad)
  | .eql, x, .nilp => (match P.underlying T with | some (.pointer _) => nilEqP x | _ => .bad)
  | .neq, x, .nilp => (match P.underlying T with | some (.pointer _) => negAny (nilEqP x) | _ => .bad)
  | .eql, x, .nils => (match P.underlying T with | some (.slice _) => nilEqS x | _ => .bad)
  | .neq, x, .nils => (match P.underlying T with | some (.slice _) => negAny (nilEqS x) | _ => .bad)
  | _, _, _ => .bad
def isConst : Operand → Bool
  | .const _ => true
  | _ => false
/-- Is an interface's value nil. -/
def evNilI (op : BinOp) (T : TypeId) (c : Bool) (x : SV) : OR :=
  match P.underlying T, op, x with
  | some (.interface _), .eql, .nili => if c = true then .val (.bool true) else .bad
  | some (.interface _), .neq, .nili => if c = true then .val (.bool false) else .bad
  | some (.interface _), .eql, .iface _ _ => .val (.bool false)
  | some (.interface _), .neq, .iface _ _ => .val (.bool true)
  | _, _, _ => .bad
def evMkI (T : TypeId) (x : SV) : OR :=
  match P.underlying T with
  | some (.interface _) => .bad
  | some _ => .val (.iface T x)
  | none => .bad
/-- A method's receiver, of a value whose fields hold it. -/
def evFollow : List FieldStep → TypeId → SV → Option (TypeId × SV)
  | [], t, s => some (t, s)
  | st :: rest, _, s => if st.deref = true then none else (match P.underlying st.struct, s with
    | some (.struct fs), .agg cs => (match fs[st.index]? with
      | some f => (match evLoadCells P f.type cs f.offset with
        | .val s' => evFollow rest f.type s'
        | _ => none)
      | none => none)
    | _, _ => none)
def evRecv (xt : TypeId) (s : SV) (ptr : Bool) : Option SV :=
  match P.underlying xt with
  | some (.pointer _) => if ptr = true then some s else none
  | some _ => if ptr = true then none else some s
  | none => none
def evInvoke (ρ : Operand → SV) (recv : Operand) (name : String) (args : List Operand) : OR :=
  match ρ recv with
  | .iface t s => (match P.info? t with
    | some i => (match i.methods.find? (·.name == name) with
      | some m => (match evFollow P m.path.toList t s with
        | some (xt, s') => (match m.func with
          | some (f, ptr) => (match evRecv P xt s' ptr with
            | some r => .call f (r :: args.map ρ)
            | none => .bad)
          | none => .bad)
        | none => .bad)
      | none => .bad)
    | none => .bad)
  | _ => .bad
def evUn (op : UnOp) (x : SV) : OR :=
  match op, x with
  | .not, .bool b => .val (.bool (!b))
  | .neg, .int k n => evArith k (0 - n)
  | _, _ => .bad

/-! Builtins -/
def lenOf (hp : List Blk) : SV → OR
  | .rd e l => .know (l.length ≤ 9223372036854775807) (.val (.int .i64 l.length))
  | .nils => .val (.int .i64 0)
  | .e0 => .val (.int .i64 0)
  | .win _ _ _ _ n => .know (n ≤ 9223372036854775807) (.val (.int .i64 n))
  | .own b => (match hp.getD b .none with
    | .own _ e l => .know (l.length ≤ 9223372036854775807) (.val (.int .i64 l.length))
    | .ro e l => .know (l.length ≤ 9223372036854775807) (.val (.int .i64 l.length))
    | _ => .bad)
  | _ => .bad
/-- The rows that are appended. -/
def newRows (hp : List Blk) : SV → Option (List CSh × List (List CD))
  | .str l => some ([.int .u8], rowsOfBytes l)
  | x => view hp x
def isRun : TypeDesc → Bool | .string => true | .slice _ => true | _ => false
def evAppend (hp : List Blk) (zero : TypeId → Option (List SV)) (T T2 : TypeId) (x y : SV) : OR :=
  match P.underlying T, P.underlying T2 with
  | some (.slice E), some d2 => (match csh P 4 E, zero E with
    | some e, some _ => if e.length = P.cellsOf E then (if e.length = 0 then .bad else (if isRun d2 = true then
      (match (match y with | .nils => some (e, []) | .e0 => some (e, []) | y => newRows hp y) with
      | some (e2, m) => if CSh.beqs e e2 then (match x with
        | .nils => .need (m.length * P.bytesOf E ≤ 140737488355328 ∧ m.length ≤ 9223372036854775807) (.newOwn E e m)
        | .e0 => .need (m.length * P.bytesOf E ≤ 140737488355328 ∧ m.length ≤ 9223372036854775807) (.newOwn E e m)
        | .own b => (match hp.getD b .none with
          | .own E' e' l => if E' = E then (if CSh.beqs e e' then .need ((l.length + m.length) * P.bytesOf E ≤ 140737488355328 ∧ l.length + m.length ≤ 9223372036854775807) (.app b E e (l ++ m)) else .bad) else .bad
          | _ => .bad)
        | _ => .bad) else .bad
      | none => .bad) else .bad)) else .bad
    | _, _ => .bad)
  | _, _ => .bad
def evBuiltin (hp : List Blk) (zero : TypeId → Option (List SV)) (b : Builtin) (Ts : List TypeId) (xs : List SV) : OR :=
  match b, Ts, xs with
  | .len, [T], [x] => (match P.underlying T, x with
    | some (.array n _), _ => .val (.int .i64 n)
    | some .string, .str l => .know (l.length ≤ 9223372036854775807) (.val (.int .i64 l.length))
    | some (.slice _), x => lenOf hp x
    | _, _ => .bad)
  | .append, [T, T2], [x, y] => evAppend P hp zero T T2 x y
  | .min, _, [.int k a, .int k' b] => if k = k' then .val (.int k (min a b)) else .bad
  | .max, _, [.int k a, .int k' b] => if k = k' then .val (.int k (max a b)) else .bad
  | _, _, _ => .bad

/-! One operation -/
def constSV : Value → SV
  | .int k n => .int k n
  | .bool b => .bool b
  | .string s => if s.size ≤ 1000000 then .str s.data.toList else .dead
  | .pointer none => .nilp
  | .slice none 0 0 => .nils
  | .nilIface => .nili
  | v => .val v
def lget : List SV → Nat → SV
  | [], _ => .dead
  | x :: _, 0 => x
  | _ :: l, n + 1 => lget l n
def lset : List SV → Nat → SV → List SV
  | [], _, _ => []
  | _ :: l, 0, x => x :: l
  | y :: l, n + 1, x => y :: lset l n x
structure AS where
  tm : List SV
  hp : List Blk
def AS.ev (glob : Nat → Option SV) (s : AS) : Operand → SV
  | .tmp t => lget s.tm t
  | .const v => constSV v
  | .global g => (glob g).getD .dead
  | .func f => .fn f []
def AS.put (s : AS) (dst : Option Tmp) (v : SV) : AS :=
  match dst with
  | some d => { s with tm := lset s.tm d v }
  | none => s
/-- The value that a slot gets by an operation that isn't done, or that gives none. -/
abbrev SV.undef : SV := .tup []
def evCall (ρ : Operand → SV) (f : Operand) (args : List Operand) : OR :=
  match ρ f with
  | .fn f caps => .call f (args.map ρ ++ caps)
  | _ => .bad
def evOp (zero : TypeId → Option (List SV)) (ρ : Operand → SV) (hp : List Blk) : Op → OR
  | .move x => .val (ρ x)
  | .assign x => .val (ρ x)
  | .pick c a b => (match ρ c with | .bool t => .split t (.val (ρ a)) (.val (ρ b)) | _ => .bad)
  | .alloc T => (match zero T with | some cs => .new T cs | none => .bad)
  | .box T x => (match (ρ x).cells with | some cs => .new T cs | none => .bad)
  | .build T parts => evBuild P zero T (parts.toList.map fun (i, x) => (i, ρ x))
  | .buildSlice T n parts => evBuildSlice P zero T n (parts.toList.map fun (i, x) => (i, ρ x))
  | .load T a => evLoad P hp T (ρ a)
  | .store T a x => evStore P hp T (ρ a) (ρ x)
  | .nilCheck x => (match ρ x with | .ptr b c => .val (.ptr b c) | .aptr b c i => .val (.aptr b c i) | .eptr e l i c => .val (.eptr e l i c) | .optr b sz i c => .val (.optr b sz i c) | _ => .bad)
  | .binOp op T x y _ => (match ρ y with | .nili => evNilI P op T (isConst x || isConst y) (ρ x) | b => evBin P hp op T (ρ x) b)
  | .makeInterface T x => evMkI P T (ρ x)
  | .unOp op _ x => evUn op (ρ x)
  | .convert src dst x => evConvert P hp src dst (ρ x)
  | .sliceToArrayPointer A x => evToArray P hp A (ρ x)
  | .makeSlice T l c => evMakeSlice P zero T (ρ l) (ρ c)
  | .slice T x lo hi mx => evSlice P hp T (ρ x) (lo.map ρ) (hi.map ρ) (mx.map ρ)
  | .fieldAddr S x f => evFieldAddr P S (ρ x) f
  | .field S x f => evField P S (ρ x) f
  | .indexAddr T x ix => evIndexAddr P hp T (ρ x) (ρ ix)
  | .index T x ix => evIndex P T (ρ x) (ρ ix)
  | .extract t i => (match ρ t with | .tup vs => (match vs[i]? with | some v => .val v | none => .bad) | _ => .bad)
  | .makeFunc (.func f) first captured => if first.size = 0 then .val (.fn f (captured.toList.map ρ)) else .bad
  | .call c => (match c.callee with
    | .value f => evCall ρ f c.args.toList
    | .builtin b => evBuiltin P hp zero b c.argTypes.toList (c.args.toList.map ρ)
    | .invoke recv name => evInvoke P ρ recv name c.args.toList)
  | _ => .bad
end
end Go.Avc
