/-
  What the functions on items answer, in numbers and lists; their contracts.
-/
import Derived.Test.YteiecapbaeajdaaGreatDoorJ4
import GoSem.ClaimJoined
import Derived.Below
import Derived.Test.YteiecapbaeajdaaGreatDoorRows
import Derived.WalkKit
import Derived.ProofKit
import Derived.OpenShut
import Derived.ShutString
import Derived.ChangeOld
import Derived.LaidMore
import Derived.MakeChecks
import Derived.SizedLaws
import Derived.Stop.Joined
namespace Go.Proofs.YteiecapbaeajdaaGreatDoor
open Go.Avc
set_option linter.unusedVariables false
/-! ### Numbers and lists -/
/-- What is wrong with an item; 0: nothing. -/
def chk (a b c : Int) (l : List UInt8) : Int :=
  if a < 1 ∨ 3 < a then 5
  else if (a = 1 ∧ (b < 1 ∨ 4 < b)) ∨ (a = 2 ∧ b ≠ 1 ∧ b ≠ 3) ∨ (a = 3 ∧ b ≠ 0) then 6
  else if c < 1 ∨ 1048576 < c ∨ (a = 3 ∧ c ≠ 1) then 7
  else if (255 : Int) < l.length then 8 else 0
def byteAt (n : Int) (i : Nat) : UInt8 := UInt8.ofNat (n / 256 ^ i % 256).toNat
/-- The bytes of a number, the lowest first. -/
def numB (n : Int) (w : Nat) : List UInt8 := (List.range w).map (byteAt n)
def encB (a b c : Int) (l : List UInt8) : List UInt8 := numB a 1 ++ numB b 1 ++ numB c 4 ++ numB l.length 2 ++ l
def intsOf (l : List (List CD)) : List Int := l.map fun r => (r.getD 0 .d0).toInt
def idxI : List Int → Int → Int
  | [], _ => -1
  | x :: l, v => if x = v then 0 else if idxI l v < 0 then -1 else idxI l v + 1
def typesOf (a : Int) : List Int := if a = 1 then [1, 2, 3, 4] else if a = 2 then [1, 3] else if a = 3 then [0] else []
def mostOf (a : Int) : Int := if a = 1 ∨ a = 2 then 1048576 else if a = 3 then 1 else 0
def rowsI (l : List Int) : List (List CD) := l.map fun n => [.int n]
/-! ### Shapes -/
abbrev i64 : Pat := .int .i64
abbrev itemP : Pat := .agg [i64, i64, i64, .str]
abbrev u8E : List CSh := [.int .u8]
abbrev intE : List CSh := [.int .i64]
abbrev itemE : List CSh := [.int .i64, .int .i64, .int .i64, .str]
abbrev noRes : Res := .ret .skip [] []
def la (n : Nat) (slots : List (Nat × Pat)) (bs : List BPat) (R : List Dat → Prop) (m : List Dat → Nat) : LA := ⟨n, pl n 0 slots, bs, R, m⟩
/-! ### Contracts -/
def ct48 : Ct := { ps := [itemP], bs := [], pre := fun _ => True, res := fun | [.i a, .i b, .i c, .s l] => .ret i64 [] [.i (chk a b c l)] | _ => noRes }
def ct41 : Ct := { ps := [itemP], bs := [], pre := fun _ => True, res := fun | [.i a, .i b, .i c, .s l] => .ret itemP [] [.i a, .i b, .i c, .s l] | _ => noRes }
def ct168 : Ct := { ps := [.rd intE, i64], bs := [], pre := fun _ => True, res := fun | [.r l, .i v] => .ret i64 [] [.i (idxI (intsOf l) v)] | _ => noRes }
def R168 (l : List (List CD)) (v : Int) (l' : List (List CD)) (v' n i : Int) : Prop := l' = l ∧ v' = v ∧ n = l.length ∧ 0 ≤ i ∧ i ≤ l.length ∧ v ∉ (intsOf l).take i.toNat
def ann168 : List Dat → Ann
  | [.r l, .i v] => { cut := [], loop := [(2, [la 19 [(0, .rd intE), (1, i64), (7, i64), (8, i64)] [] (fun | [.r l', .i v', .i n, .i i] => R168 l v l' v' n i | _ => False) (fun | [_, _, .i n, .i i] => (n - i).toNat | _ => 0)])] }
  | _ => { cut := [], loop := [] }
def ct128 : Ct := { ps := [.rd intE, i64], bs := [], pre := fun _ => True, res := fun | [.r l, .i v] => .ret .bool [] [.b (decide (v ∈ intsOf l))] | _ => noRes }
def ct127 : Ct := { ps := [i64], bs := [], pre := fun _ => True, res := fun | [.i a] => .ret (.tup [.own 0, i64]) [.own 3 intE] [.i (mostOf a), .r (rowsI (typesOf a))] | _ => noRes }
def ct77 : Ct := { ps := [itemP], bs := [], pre := fun _ => True, res := fun | [.i a, .i b, .i c, .s l] => .ret i64 [] [.i (chk a b c l)] | _ => noRes }
def pre78 (n w : Int) (l : List (List CD)) : Prop := 0 ≤ n ∧ 0 ≤ w ∧ w ≤ 8 ∧ l.length ≤ 1000000
def ct78 : Ct := { ps := [.own 0, i64, i64], bs := [.own 5 u8E], pre := fun | [.i n, .i w, .r l] => pre78 n w l | _ => False, res := fun | [.i n, .i w, .r l] => .ret (.own 1) [.none, .own 5 u8E] [.r (l ++ rowsOfBytes (numB n w.toNat))] | _ => noRes }
def R78 (n w : Int) (l : List (List CD)) (n' w' i : Int) (out : List (List CD)) : Prop := n' = n ∧ w' = w ∧ 0 ≤ i ∧ i ≤ w ∧ out = l ++ rowsOfBytes (numB n i.toNat)
def ann78 : List Dat → Ann
  | [.i n, .i w, .r l] => { cut := [], loop := [(2, [la 22 [(0, .own 1), (1, i64), (8, i64), (9, i64)] [.none, .own 5 u8E] (fun | [.i n', .i w', .i i, .r out] => R78 n w l n' w' i out | _ => False) (fun | [_, .i w', .i i, _] => (w' - i).toNat | _ => 0)])] }
  | _ => { cut := [], loop := [] }
def encR (a b c : Int) (l : List UInt8) : List (List CD) := if chk a b c l = 0 then rowsOfBytes (encB a b c l) else []
def ct40 : Ct := { ps := [itemP], bs := [], pre := fun _ => True, res := fun | [.i a, .i b, .i c, .s l] => .ret (.tup [.own 0, i64]) [.own 5 u8E] [.i (chk a b c l), .r (encR a b c l)] | _ => noRes }
end Go.Proofs.YteiecapbaeajdaaGreatDoor
namespace Go.Proofs.YteiecapbaeajdaaGreatDoor
open Go Go.Avc Go.Proofs
set_option linter.unusedVariables false
set_option maxRecDepth 100000
def P48 : Prop :=
 ∀ (n n_1 n_2 : Int) (l : List UInt8),
 l.length ≤ (9223372036854775807 : Nat) →
 True →
 bif decide (n < (1 : Int)) || decide ((3 : Int) < n) then (5 : Int) = chk n n_1 n_2 l
 else
 bif
 decide (n = (1 : Int)) && (decide (n_1 < (1 : Int)) || decide ((4 : Int) < n_1)) || decide (n = (2 : Int)) && decide (n_1 ≠ (1 : Int)) && decide (n_1 ≠ (3 : Int)) ||
 decide (n = (3 : Int)) && decide (n_1 ≠ (0 : Int)) then
 (6 : Int) = chk n n_1 n_2 l
 else
 bif decide (n_2 < (1 : Int)) || decide ((1048576 : Int) < n_2) || decide (n = (3 : Int)) && decide (n_2 ≠ (1 : Int)) then
 (7 : Int) = chk n n_1 n_2 l
 else
 l.length ≤ (9223372036854775807 : Nat) →
 bif decide ((255 : Int) < (↑l.length : Int)) then (8 : Int) = chk n n_1 n_2 l
 else (0 : Int) = chk n n_1 n_2 l
theorem e48 : ct48.VC (base.with spec0) Tryz.f48.results.toList Tryz.f48.ntmps (Tryz.f48.ntmps - ct48.ps.length) (bodyOf Tryz.f48) noAnn = P48 := by kernel_rfl
noncomputable def sp48 : SpecT := addS spec0 48 (mkF ct48)
def P41 : Prop :=
 ∀ (n n_1 n_2 : Int) (l : List UInt8), l.length ≤ (9223372036854775807 : Nat) → True → n = n ∧ n_1 = n_1 ∧ n_2 = n_2 ∧ l = l
theorem e41 : ct41.VC (base.with sp48) Tryz.f41.results.toList Tryz.f41.ntmps (Tryz.f41.ntmps - ct41.ps.length) (bodyOf Tryz.f41) noAnn = P41 := by kernel_rfl
noncomputable def sp41 : SpecT := addS sp48 41 (mkF ct41)
def P168 : Prop :=
 ∀ (l : List (List CD)) (n : Int),
 l.length ≤ (9223372036854775807 : Nat) →
 True →
 l.length ≤ (9223372036854775807 : Nat) →
 (R168 l n l n (↑l.length : Int) (0 : Int) ∧ True) ∧
 ∀ (l_1 : List (List CD)) (n_1 n_2 n_3 : Int),
 l_1.length ≤ (9223372036854775807 : Nat) →
 R168 l n l_1 n_1 n_2 n_3 →
 bif decide (n_3 < n_2) then
 ((0 : Int) ≤ n_3 ∧ n_3 < (↑l_1.length : Int)) ∧
 n_3.toNat < l_1.length ∧
 bif decide (n_1 = ((l_1.getD n_3.toNat []).getD (0 : Nat) (CD.int (0 : Int))).toInt) then
 n_3 = idxI (intsOf l) n
 else
 ((-9223372036854775808 : Int) ≤ n_3 + (1 : Int) ∧ n_3 + (1 : Int) ≤ (9223372036854775807 : Int)) ∧
 R168 l n l_1 n_1 n_2 (n_3 + (1 : Int)) ∧ (n_2 - (n_3 + (1 : Int))).toNat < (n_2 - n_3).toNat
 else (-1 : Int) = idxI (intsOf l) n
theorem e168 : ct168.VC (base.with sp41) Tryz.f168.results.toList Tryz.f168.ntmps (Tryz.f168.ntmps - ct168.ps.length) (bodyOf Tryz.f168) ann168 = P168 := by kernel_rfl
noncomputable def sp168 : SpecT := addS sp41 168 (mkF ct168)
def P128 : Prop :=
 ∀ (l : List (List CD)) (n : Int),
 l.length ≤ (9223372036854775807 : Nat) →
 True →
 True ∧
 decide ((0 : Int) ≤ idxI (intsOf l) n) = decide (n ∈ intsOf l)
theorem e128 : ct128.VC (base.with sp168) Tryz.f128.results.toList Tryz.f128.ntmps (Tryz.f128.ntmps - ct128.ps.length) (bodyOf Tryz.f128) noAnn = P128 := by kernel_rfl
noncomputable def sp128 : SpecT := addS sp168 128 (mkF ct128)
def P127 : Prop :=
 ∀ (n : Int),
 True →
 bif decide (n = (1 : Int)) then
 (1048576 : Int) = mostOf n ∧
 [[CD.int (1 : Int)], [CD.int (2 : Int)], [CD.int (3 : Int)], [CD.int (4 : Int)]] =
 rowsI (typesOf n)
 else
 bif decide (n = (2 : Int)) then
 (1048576 : Int) = mostOf n ∧
 [[CD.int (1 : Int)], [CD.int (3 : Int)]] = rowsI (typesOf n)
 else
 bif decide (n = (3 : Int)) then
 (1 : Int) = mostOf n ∧
 [[CD.int (0 : Int)]] = rowsI (typesOf n)
 else (0 : Int) = mostOf n ∧ [] = rowsI (typesOf n)
theorem e127 : ct127.VC (base.with sp128) Tryz.f127.results.toList Tryz.f127.ntmps (Tryz.f127.ntmps - ct127.ps.length) (bodyOf Tryz.f127) noAnn = P127 := by kernel_rfl
noncomputable def sp127 : SpecT := addS sp128 127 (mkF ct127)
def P77 : Prop :=
 ∀ (n n_1 n_2 : Int) (l : List UInt8),
 l.length ≤ (9223372036854775807 : Nat) →
 True →
 True ∧
 ((rowsI (typesOf n)).length ≤ (9223372036854775807 : Nat) →
 bif decide ((↑(rowsI (typesOf n)).length : Int) = (0 : Int)) then
 (5 : Int) = chk n n_1 n_2 l
 else
 True ∧
 bif !decide (n_1 ∈ intsOf (rowsI (typesOf n))) then
 (6 : Int) = chk n n_1 n_2 l
 else
 bif decide (n_2 < (1 : Int)) || decide (mostOf n < n_2) then (7 : Int) = chk n n_1 n_2 l
 else
 l.length ≤ (9223372036854775807 : Nat) →
 bif decide ((255 : Int) < (↑l.length : Int)) then (8 : Int) = chk n n_1 n_2 l
 else (0 : Int) = chk n n_1 n_2 l)
theorem e77 : ct77.VC (base.with sp127) Tryz.f77.results.toList Tryz.f77.ntmps (Tryz.f77.ntmps - ct77.ps.length) (bodyOf Tryz.f77) noAnn = P77 := by kernel_rfl
noncomputable def sp77 : SpecT := addS sp127 77 (mkF ct77)
def P78 : Prop :=
 ∀ (n n_1 : Int) (l : List (List CD)),
 l.length ≤ (9223372036854775807 : Nat) →
 pre78 n n_1 l →
 (R78 n n_1 l n n_1 (0 : Int) l ∧ True) ∧
 ∀ (n_2 n_3 n_4 : Int) (l_1 : List (List CD)),
 l_1.length ≤ (9223372036854775807 : Nat) →
 R78 n n_1 l n_2 n_3 n_4 l_1 →
 bif decide (n_4 < n_3) then
 ((-9223372036854775808 : Int) ≤ (8 : Int) * n_4 ∧ (8 : Int) * n_4 ≤ (9223372036854775807 : Int)) ∧
 (0 : Int) ≤ (8 : Int) * n_4 ∧
 ((l_1.length + (1 : Nat)) * (1 : Nat) ≤ (140737488355328 : Nat) ∧ l_1.length + (1 : Nat) ≤ (9223372036854775807 : Nat)) ∧
 ((-9223372036854775808 : Int) ≤ n_4 + (1 : Int) ∧ n_4 + (1 : Int) ≤ (9223372036854775807 : Int)) ∧
 R78 n n_1 l n_2 n_3 (n_4 + (1 : Int))
 (l_1 ++ [[CD.int (Go.IntKind.u8.wrap (bShr Go.IntKind.i64 n_2 ((8 : Int) * n_4)))]]) ∧
 (n_3 - (n_4 + (1 : Int))).toNat < (n_3 - n_4).toNat
 else l_1 = l ++ rowsOfBytes (numB n n_1.toNat)
theorem e78 : ct78.VC (base.with sp77) Tryz.f78.results.toList Tryz.f78.ntmps (Tryz.f78.ntmps - ct78.ps.length) (bodyOf Tryz.f78) ann78 = P78 := by kernel_rfl
noncomputable def sp78 : SpecT := addS sp77 78 (mkF ct78)
def P40 : Prop :=
 ∀ (n n_1 n_2 : Int) (l : List UInt8),
 l.length ≤ (9223372036854775807 : Nat) →
 True →
 True ∧
 bif decide (chk n n_1 n_2 l ≠ (0 : Int)) then
 chk n n_1 n_2 l = chk n n_1 n_2 l ∧ [] = encR n n_1 n_2 l
 else
 pre78 n_2 (4 : Int) [[CD.int (Go.IntKind.u8.wrap n)], [CD.int (Go.IntKind.u8.wrap n_1)]] ∧
 pre78 (↑l.length : Int) (2 : Int)
 ([[CD.int (Go.IntKind.u8.wrap n)], [CD.int (Go.IntKind.u8.wrap n_1)]] ++
 rowsOfBytes (numB n_2 (4 : Nat))) ∧
 (((8 : Nat) + (rowsOfBytes l).length) * (1 : Nat) ≤ (140737488355328 : Nat) ∧ (8 : Nat) + (rowsOfBytes l).length ≤ (9223372036854775807 : Nat)) ∧
 (0 : Int) = chk n n_1 n_2 l ∧
 [[CD.int (Go.IntKind.u8.wrap n)], [CD.int (Go.IntKind.u8.wrap n_1)]] ++
 rowsOfBytes (numB n_2 (4 : Nat)) ++
 rowsOfBytes (numB (↑l.length : Int) (2 : Nat)) ++
 rowsOfBytes l =
 encR n n_1 n_2 l
theorem e40 : ct40.VC (base.with sp78) Tryz.f40.results.toList Tryz.f40.ntmps (Tryz.f40.ntmps - ct40.ps.length) (bodyOf Tryz.f40) noAnn = P40 := by kernel_rfl
noncomputable def sp40 : SpecT := addS sp78 40 (mkF ct40)
end Go.Proofs.YteiecapbaeajdaaGreatDoor
namespace Go.Proofs.YteiecapbaeajdaaGreatDoor
open Go Go.Avc Go.Proofs
set_option linter.unusedVariables false
set_option linter.unusedSimpArgs false
set_option maxRecDepth 100000
theorem condI {b : Bool} {X Y : Prop} (h : b = true → X) (k : b = false → Y) : bif b then X else Y := by
  cases b with
  | true => exact h rfl
  | false => exact k rfl
theorem vc48 : P48 := by
  intro a b c l hl _
  unfold chk
  refine condI (fun h => ?_) fun h1 => condI (fun h => ?_) fun h2 => condI (fun h => ?_) fun h3 hl => condI (fun h => ?_) fun h4 => ?_
  all_goals simp only [Bool.or_eq_true, Bool.and_eq_true, decide_eq_true_eq, Bool.or_eq_false_iff, Bool.and_eq_false_iff, decide_eq_false_iff_not, ne_eq, Classical.not_not] at *
  all_goals repeat' split
  all_goals omega
theorem ok48 : SpecOk (base.with spec0) 48 (mkF ct48) := spec_ct (fn := Tryz.f48) (c := bodyOf Tryz.f48) (k := Tryz.f48.ntmps - ct48.ps.length) (ct := ct48) base_ok Tryz.func48 (by kernel_rfl) noAnn (by kernel_rfl) (fun vs w _ => Tryz.call48 vs w) (by rw [e48]; exact vc48)
theorem c48 : (base.with sp48).Ok := addS_ok base_ok ok48
theorem vc41 : P41 := fun _ _ _ _ _ _ => ⟨rfl, rfl, rfl, rfl⟩
theorem ok41 : SpecOk (base.with sp48) 41 (mkF ct41) := spec_ct (fn := Tryz.f41) (c := bodyOf Tryz.f41) (k := Tryz.f41.ntmps - ct41.ps.length) (ct := ct41) c48 Tryz.func41 (by kernel_rfl) noAnn (by kernel_rfl) (fun vs w _ => Tryz.call41 vs w) (by rw [e41]; exact vc41)
theorem c41 : (base.with sp41).Ok := addS_ok c48 ok41
theorem idxI_none : ∀ {l : List Int} {v : Int}, v ∉ l → idxI l v = -1
  | [], _, _ => rfl
  | x :: l, v, h => by
    have h1 : x ≠ v := fun e => h (by simp [e])
    have h2 := idxI_none (l := l) (v := v) fun e => h (by simp [e])
    simp [idxI, h1, h2]
theorem idxI_some : ∀ {l : List Int} {v : Int} {i : Nat}, v ∉ l.take i → l[i]? = some v → idxI l v = i
  | [], _, _, _, h => by simp at h
  | x :: l, v, 0, _, h => by simp at h; simp [idxI, h]
  | x :: l, v, i + 1, h, h' => by
    have h1 : x ≠ v := fun e => h (by simp [e])
    have h2 := idxI_some (l := l) (v := v) (i := i) (fun e => h (by simp [e])) (by simpa using h')
    simp only [idxI, if_neg h1, h2]
    rw [if_neg (by omega)]
    omega
theorem idxI_ge {l : List Int} {v : Int} : 0 ≤ idxI l v ↔ v ∈ l := by
  induction l with
  | nil => simp [idxI]
  | cons x l ih =>
    simp only [idxI, List.mem_cons]
    split
    · rename_i h; simp [h]
    · rename_i h
      have : v ≠ x := fun e => h e.symm
      rw [or_iff_right this, ← ih]
      split <;> omega
theorem intsOf_get {l : List (List CD)} {i : Nat} (h : i < l.length) : (intsOf l)[i]? = some ((l.getD i []).getD 0 .d0).toInt := by
  simp [intsOf, h]
theorem intsOf_length (l : List (List CD)) : (intsOf l).length = l.length := by simp [intsOf]
theorem vc168 : P168 := by
  intro l v hl _ _
  refine ⟨⟨⟨rfl, rfl, rfl, by omega, by omega, by simp⟩, trivial⟩, ?_⟩
  rintro l' v' n i hl' ⟨rfl, rfl, rfl, h0, h1, h2⟩
  refine condI (fun h => ?_) fun h => ?_
  · simp only [decide_eq_true_eq] at h
    have hlt : i.toNat < l'.length := by omega
    have hg := intsOf_get hlt
    refine ⟨⟨h0, h⟩, hlt, condI (fun he => ?_) fun he => ⟨by omega, ⟨rfl, rfl, rfl, by omega, by omega, ?_⟩, by omega⟩⟩
    · simp only [decide_eq_true_eq] at he
      rw [idxI_some h2 (by rw [hg, he])]
      omega
    · simp only [decide_eq_false_iff_not] at he
      rw [show (i + 1).toNat = i.toNat + 1 from by omega, List.take_add_one, hg]
      simp only [Option.toList_some, List.mem_append, List.mem_singleton, not_or]
      exact ⟨h2, he⟩
  · simp only [decide_eq_false_iff_not] at h
    rw [idxI_none]
    rw [List.take_of_length_le (by rw [intsOf_length]; omega)] at h2
    exact h2
theorem ok168 : SpecOk (base.with sp41) 168 (mkF ct168) := spec_ct (fn := Tryz.f168) (c := bodyOf Tryz.f168) (k := Tryz.f168.ntmps - ct168.ps.length) (ct := ct168) c41 Tryz.func168 (by kernel_rfl) ann168 (by kernel_rfl) (fun vs w _ => Tryz.call168 vs w) (by rw [e168]; exact vc168)
theorem c168 : (base.with sp168).Ok := addS_ok c41 ok168
theorem vc128 : P128 := fun l n _ _ => ⟨trivial, by rw [decide_eq_decide]; exact idxI_ge⟩
theorem ok128 : SpecOk (base.with sp168) 128 (mkF ct128) := spec_ct (fn := Tryz.f128) (c := bodyOf Tryz.f128) (k := Tryz.f128.ntmps - ct128.ps.length) (ct := ct128) c168 Tryz.func128 (by kernel_rfl) noAnn (by kernel_rfl) (fun vs w _ => Tryz.call128 vs w) (by rw [e128]; exact vc128)
theorem c128 : (base.with sp128).Ok := addS_ok c168 ok128
theorem vc127 : P127 := by
  intro a _
  refine condI (fun h => ?_) fun h1 => condI (fun h => ?_) fun h2 => condI (fun h => ?_) fun h3 => ?_
  all_goals simp only [decide_eq_true_eq, decide_eq_false_iff_not] at *
  all_goals simp [mostOf, typesOf, rowsI, *]
theorem ok127 : SpecOk (base.with sp128) 127 (mkF ct127) := spec_ct (fn := Tryz.f127) (c := bodyOf Tryz.f127) (k := Tryz.f127.ntmps - ct127.ps.length) (ct := ct127) c128 Tryz.func127 (by kernel_rfl) noAnn (by kernel_rfl) (fun vs w _ => Tryz.call127 vs w) (by rw [e127]; exact vc127)
theorem c127 : (base.with sp127).Ok := addS_ok c128 ok127
theorem ints_rows (l : List Int) : intsOf (rowsI l) = l := by simp [intsOf, rowsI, CD.toInt, Function.comp_def]
theorem rowsI_length (l : List Int) : (rowsI l).length = l.length := by simp [rowsI]
theorem vc77 : P77 := by
  intro a b c l hl _
  refine ⟨trivial, fun _ => ?_⟩
  rw [ints_rows, rowsI_length]
  have ht : a = 1 ∨ a = 2 ∨ a = 3 ∨ (a ≠ 1 ∧ a ≠ 2 ∧ a ≠ 3) := by omega
  have e1 : typesOf 1 = [1, 2, 3, 4] := rfl
  have e2 : typesOf 2 = [1, 3] := rfl
  have e3 : typesOf 3 = [0] := rfl
  have m1 : mostOf 1 = 1048576 := rfl
  have m2 : mostOf 2 = 1048576 := rfl
  have m3 : mostOf 3 = 1 := rfl
  rcases ht with rfl | rfl | rfl | ⟨h1, h2, h3⟩
  · rw [e1, m1]
    refine ⟨trivial, condI (fun h => ?_) fun h1 => condI (fun h => ?_) fun h2 hl => condI (fun h => ?_) fun h3 => ?_⟩
    all_goals simp only [Bool.not_eq_true', Bool.not_eq_false', decide_eq_true_eq, decide_eq_false_iff_not, Bool.or_eq_true, Bool.or_eq_false_iff, List.mem_cons, List.not_mem_nil, or_false] at *
    all_goals unfold chk
    all_goals repeat' split
    all_goals omega
  · rw [e2, m2]
    refine ⟨trivial, condI (fun h => ?_) fun h1 => condI (fun h => ?_) fun h2 hl => condI (fun h => ?_) fun h3 => ?_⟩
    all_goals simp only [Bool.not_eq_true', Bool.not_eq_false', decide_eq_true_eq, decide_eq_false_iff_not, Bool.or_eq_true, Bool.or_eq_false_iff, List.mem_cons, List.not_mem_nil, or_false] at *
    all_goals unfold chk
    all_goals repeat' split
    all_goals omega
  · rw [e3, m3]
    refine ⟨trivial, condI (fun h => ?_) fun h1 => condI (fun h => ?_) fun h2 hl => condI (fun h => ?_) fun h3 => ?_⟩
    all_goals simp only [Bool.not_eq_true', Bool.not_eq_false', decide_eq_true_eq, decide_eq_false_iff_not, Bool.or_eq_true, Bool.or_eq_false_iff, List.mem_cons, List.not_mem_nil, or_false] at *
    all_goals unfold chk
    all_goals repeat' split
    all_goals omega
  · have e : typesOf a = [] := by simp [typesOf, h1, h2, h3]
    rw [e]
    refine condI (fun h => ?_) fun h => by simp at h
    unfold chk
    rw [if_pos (by omega)]
theorem ok77 : SpecOk (base.with sp127) 77 (mkF ct77) := spec_ct (fn := Tryz.f77) (c := bodyOf Tryz.f77) (k := Tryz.f77.ntmps - ct77.ps.length) (ct := ct77) c127 Tryz.func77 (by kernel_rfl) noAnn (by kernel_rfl) (fun vs w _ => Tryz.call77 vs w) (by rw [e77]; exact vc77)
theorem c77 : (base.with sp77).Ok := addS_ok c127 ok77
theorem wrap_u8 (m : Int) : IntKind.u8.wrap m = m % 256 := by
  simp [IntKind.wrap, IntKind.signed, IntKind.bits]
theorem byteAt_toNat (n : Int) (i : Nat) : ((byteAt n i).toNat : Int) = n / 256 ^ i % 256 := by
  have h0 : 0 ≤ n / 256 ^ i % 256 := Int.emod_nonneg _ (by decide)
  have h1 : n / 256 ^ i % 256 < 256 := Int.emod_lt_of_pos _ (by decide)
  simp only [byteAt, UInt8.toNat_ofNat']
  omega
theorem shr_byte {n i : Int} (h0 : 0 ≤ i) (h : i < 8) : IntKind.u8.wrap (bShr .i64 n (8 * i)) = ((byteAt n i.toNat).toNat : Int) := by
  rw [wrap_u8, byteAt_toNat]
  obtain ⟨k, rfl⟩ : ∃ k : Nat, i = k := ⟨i.toNat, by omega⟩
  unfold bShr
  have e : min (8 * (k : Int)).toNat (IntKind.bits .i64) = 8 * k := by simp [IntKind.bits]; omega
  rw [e, Int.fdiv_eq_ediv_of_nonneg _ (by exact Int.le_of_lt (Int.pow_pos (by decide))), Int.pow_mul, Int.toNat_natCast]
  rfl
theorem numB_succ (n : Int) (i : Nat) : numB n (i + 1) = numB n i ++ [byteAt n i] := by simp [numB, List.range_succ]
theorem rows_append (a b : List UInt8) : rowsOfBytes (a ++ b) = rowsOfBytes a ++ rowsOfBytes b := by simp [rowsOfBytes]
theorem rows_length (a : List UInt8) : (rowsOfBytes a).length = a.length := by simp [rowsOfBytes]
theorem numB_length (n : Int) (w : Nat) : (numB n w).length = w := by simp [numB]
theorem bytes_rows (a : List UInt8) : bytesOfRows (rowsOfBytes a) = a := by
  simp only [bytesOfRows, rowsOfBytes, List.map_map]
  refine (List.map_congr_left fun x _ => ?_).trans (List.map_id a)
  simp [CD.toInt]
theorem vc78 : P78 := by
  rintro n w l hl ⟨hn, hw0, hw8, hlen⟩
  refine ⟨⟨⟨rfl, rfl, by omega, hw0, by simp [numB, rowsOfBytes]⟩, trivial⟩, ?_⟩
  rintro n' w' i out hout ⟨rfl, rfl, h0, h1, rfl⟩
  refine condI (fun h => ?_) fun h => ?_
  · simp only [decide_eq_true_eq] at h
    have hb : i.toNat ≤ 8 := by omega
    simp only [List.length_append, rows_length, numB_length, List.length_cons, List.length_nil] at *
    refine ⟨by omega, by omega, by omega, by omega, ⟨rfl, rfl, by omega, by omega, ?_⟩, by omega⟩
    rw [shr_byte h0 (by omega), show (i + 1).toNat = i.toNat + 1 from by omega, numB_succ, rows_append, List.append_assoc]
    rfl
  · simp only [decide_eq_false_iff_not] at h
    rw [show i = w' from by omega]
theorem ok78 : SpecOk (base.with sp77) 78 (mkF ct78) := spec_ct (fn := Tryz.f78) (c := bodyOf Tryz.f78) (k := Tryz.f78.ntmps - ct78.ps.length) (ct := ct78) c77 Tryz.func78 (by kernel_rfl) ann78 (by kernel_rfl) (fun vs w _ => Tryz.call78 vs w) (by rw [e78]; exact vc78)
theorem c78 : (base.with sp78).Ok := addS_ok c77 ok78
theorem chk_zero {a b c : Int} {l : List UInt8} (h : chk a b c l = 0) : 1 ≤ a ∧ a ≤ 3 ∧ 0 ≤ b ∧ b ≤ 4 ∧ 1 ≤ c ∧ c ≤ 1048576 ∧ (a = 3 → c = 1) ∧ (a = 1 → 1 ≤ b) ∧ (a = 2 → b = 1 ∨ b = 3) ∧ (a = 3 → b = 0) ∧ l.length ≤ 255 := by
  unfold chk at h
  repeat' split at h
  all_goals omega
theorem byte_row {a : Int} (h0 : 0 ≤ a) (h : a < 256) : [CD.int (IntKind.u8.wrap a)] = [CD.int ((byteAt a 0).toNat : Int)] := by
  rw [wrap_u8, byteAt_toNat]; simp
theorem vc40 : P40 := by
  intro a b c l hl hpre
  refine ⟨trivial, condI (fun h => ?_) fun h => ?_⟩
  · simp only [ne_eq, decide_not, Bool.not_eq_true', decide_eq_false_iff_not] at h
    exact ⟨rfl, by rw [encR, if_neg h]⟩
  · simp only [ne_eq, decide_not, Bool.not_eq_false', decide_eq_true_eq] at h
    obtain ⟨h1, h2, h3, h4, h5, h6, _, _, _, _, h7⟩ := chk_zero h
    simp only [List.length_append, rows_length, numB_length, List.length_cons, List.length_nil, pre78] at *
    refine ⟨⟨by omega, by omega, by omega, by omega⟩, ⟨by omega, by omega, by omega, by omega⟩, ⟨by omega, by omega⟩, h.symm, ?_⟩
    rw [encR, if_pos h, encB, byte_row (by omega) (by omega), byte_row (by omega) (by omega)]
    simp only [rows_append]
    rfl
theorem ok40 : SpecOk (base.with sp78) 40 (mkF ct40) := spec_ct (fn := Tryz.f40) (c := bodyOf Tryz.f40) (k := Tryz.f40.ntmps - ct40.ps.length) (ct := ct40) c78 Tryz.func40 (by kernel_rfl) noAnn (by kernel_rfl) (fun vs w _ => Tryz.call40 vs w) (by rw [e40]; exact vc40)
theorem c40 : (base.with sp40).Ok := addS_ok c78 ok40
end Go.Proofs.YteiecapbaeajdaaGreatDoor
namespace Go.Proofs.YteiecapbaeajdaaGreatDoor
open Go.Avc
set_option linter.unusedVariables false
/-- An item. -/
structure It where
  k : Int
  t : Int
  c : Int
  l : List UInt8
  deriving DecidableEq
def itRow (r : List CD) : It := ⟨(r.getD 0 .d0).toInt, (r.getD 1 .d0).toInt, (r.getD 2 .d0).toInt, (r.getD 3 .d0).toStr⟩
def rowIt (x : It) : List CD := [.int x.k, .int x.t, .int x.c, .str x.l]
def itsOf (l : List (List CD)) : List It := l.map itRow
def rowsIt (l : List It) : List (List CD) := l.map rowIt
def sameB (a b c a' b' c' : Int) : Bool := decide (a = a') && (decide (b = b') && decide (c = c'))
/-- The number of bytes, the lowest first. -/
def leN : List UInt8 → Nat
  | [] => 0
  | b :: l => b.toNat + 256 * leN l
def isB (l : List (List CD)) : Prop := l = rowsOfBytes (bytesOfRows l)
def noIt : It := ⟨0, 0, 0, []⟩
def decX (b : List UInt8) : It := ⟨leN (b.take 1), leN ((b.drop 1).take 1), leN ((b.drop 2).take 4), (b.drop 8).take (leN ((b.drop 6).take 2))⟩
def decE (b : List UInt8) : Int :=
  if b.length < 8 ∨ b.length < 8 + leN ((b.drop 6).take 2) then 2 else chk (decX b).k (decX b).t (decX b).c (decX b).l
/-- The item at the beginning of bytes; the bytes behind it. -/
def decI (b : List UInt8) : It := if decE b = 0 then decX b else noIt
def decR (b : List UInt8) : List UInt8 := if decE b = 0 then b.drop (8 + leN ((b.drop 6).take 2)) else []
def ct175 : Ct := { ps := [itemP, itemP], bs := [], pre := fun _ => True, res := fun | [.i a, .i b, .i c, _, .i a', .i b', .i c', _] => .ret .bool [] [.b (sameB a b c a' b' c')] | _ => noRes }
def pre87 (n w : Int) : Prop := 0 ≤ n ∧ n ≤ 1000000000 ∧ 0 ≤ w ∧ w ≤ 8
def ct87 : Ct := { ps := [i64, i64], bs := [], pre := fun | [.i n, .i w] => pre87 n w | _ => False, res := fun | [.i n, .i w] => .ret (.own 0) [.own 5 u8E] [.r (rowsOfBytes (numB n w.toNat))] | _ => noRes }
def R87 (n w n' w' i : Int) (out : List (List CD)) : Prop := n' = n / 256 ^ i.toNat ∧ w' = w ∧ 0 ≤ i ∧ i ≤ w ∧ out = rowsOfBytes (numB n i.toNat)
def ann87 : List Dat → Ann
  | [.i n, .i w] => { cut := [], loop := [(3, [la 22 [(0, i64), (1, i64), (5, .own 0), (6, i64)] [.own 5 u8E] (fun | [.i n', .i w', .i i, .r out] => R87 n w n' w' i out | _ => False) (fun | [_, .i w', .i i, _] => (w' - i).toNat | _ => 0)])] }
  | _ => { cut := [], loop := [] }
def ct47 : Ct := { ps := [itemP], bs := [], pre := fun _ => True, res := fun | [.i a, .i b, .i c, .s l] => .ret (.tup [.own 0, i64]) [.own 5 u8E] [.i (chk a b c l), .r (encR a b c l)] | _ => noRes }
def pre79 (l : List (List CD)) : Prop := isB l ∧ l.length ≤ 7
def ct79 : Ct := { ps := [.rd u8E], bs := [], pre := fun | [.r l] => pre79 l | _ => False, res := fun | [.r l] => .ret i64 [] [.i (leN (bytesOfRows l))] | _ => noRes }
def R79 (l l' : List (List CD)) (n i : Int) : Prop := l' = l ∧ -1 ≤ i ∧ i < l.length ∧ n = leN ((bytesOfRows l).drop (i + 1).toNat)
def ann79 : List Dat → Ann
  | [.r l] => { cut := [], loop := [(3, [la 21 [(0, .rd u8E), (3, i64), (4, i64)] [] (fun | [.r l', .i n, .i i] => R79 l l' n i | _ => False) (fun | [_, _, .i i] => (i + 1).toNat | _ => 0)])] }
  | _ => { cut := [], loop := [] }
def pre171 (l : List (List CD)) : Prop := l.length ≤ 100000000
def ct171 : Ct := { ps := [.rd u8E], bs := [], pre := fun | [.r l] => pre171 l | _ => False, res := fun | [.r l] => .ret (.own 0) [.own 5 u8E] [.r l] | _ => noRes }
abbrev readB : BPat := .cells 295 [.rd u8E, .bool]
def pre170 (n : Int) : Prop := 0 ≤ n
def tkR (l : List (List CD)) (n : Int) : List (List CD) := if (l.length : Int) < n then [] else l.take n.toNat
def tkD (l : List (List CD)) (n : Int) : List (List CD) := if (l.length : Int) < n then l else l.drop n.toNat
def tkS (l : List (List CD)) (n : Int) (sh : Bool) : Bool := decide ((l.length : Int) < n) || sh
def ct170 : Ct := { ps := [.ptr 0 0, i64], bs := [readB], pre := fun | [.i n, _, _] => pre170 n | _ => False, res := fun | [.i n, .r l, .b sh] => .ret (.rd u8E) [readB] [.r (tkR l n), .r (tkD l n), .b (tkS l n sh)] | _ => noRes }
def pre169 (w : Int) (l : List (List CD)) : Prop := 0 ≤ w ∧ w ≤ 7 ∧ isB l
def ct169 : Ct := { ps := [.ptr 0 0, i64], bs := [readB], pre := fun | [.i w, .r l, _] => pre169 w l | _ => False, res := fun | [.i w, .r l, .b sh] => .ret i64 [readB] [.i (leN (bytesOfRows (tkR l w))), .r (tkD l w), .b (tkS l w sh)] | _ => noRes }
def R169 (w : Int) (l : List (List CD)) (sh : Bool) (n : Int) (tk : List (List CD)) (m i : Int) (rest : List (List CD)) (sh' : Bool) : Prop := tk = tkR l w ∧ m = tk.length ∧ 0 ≤ i ∧ i ≤ m ∧ rest = tkD l w ∧ sh' = tkS l w sh ∧ n = leN ((bytesOfRows tk).take i.toNat)
def ann169 : List Dat → Ann
  | [.i w, .r l, .b sh] => { cut := [], loop := [(3, [la 26 [(5, i64), (10, .rd u8E), (11, i64), (12, i64)] [readB] (fun | [.i n, .r tk, .i m, .i i, .r rest, .b sh'] => R169 w l sh n tk m i rest sh' | _ => False) (fun | [_, _, .i m, .i i, _, _] => (m - i).toNat | _ => 0)])] }
  | _ => { cut := [], loop := [] }
def pre129 (l : List (List CD)) : Prop := isB l ∧ l.length ≤ 100000000
def ct129 : Ct := { ps := [.rd u8E], bs := [], pre := fun | [.r l] => pre129 l | _ => False, res := fun | [.r l] => .ret (.tup [itemP, .own 0, i64]) [.own 5 u8E] [.i (decI (bytesOfRows l)).k, .i (decI (bytesOfRows l)).t, .i (decI (bytesOfRows l)).c, .s (decI (bytesOfRows l)).l, .i (decE (bytesOfRows l)), .r (rowsOfBytes (decR (bytesOfRows l)))] | _ => noRes }
def ct42 : Ct := { ps := [.rd u8E], bs := [], pre := fun | [.r l] => pre129 l | _ => False, res := fun | [.r l] => .ret (.tup [itemP, .rd u8E, i64]) [] [.i (decI (bytesOfRows l)).k, .i (decI (bytesOfRows l)).t, .i (decI (bytesOfRows l)).c, .s (decI (bytesOfRows l)).l, .r (rowsOfBytes (decR (bytesOfRows l))), .i (decE (bytesOfRows l))] | _ => noRes }
end Go.Proofs.YteiecapbaeajdaaGreatDoor
namespace Go.Avc
set_option linter.unusedVariables false
set_option linter.unusedSimpArgs false
/-! ### Numbers in their ranges -/
mutual
def wfC : CSh → CD → Prop
  | .int k, .int n => k.min ≤ n ∧ n ≤ k.max
  | .sl e, .sl l => ∀ row ∈ l, wfRow e row
  | _, _ => True
def wfRow : List CSh → List CD → Prop
  | [], _ => True
  | sh :: e, row => (match row with | cd :: row => wfC sh cd ∧ wfRow e row | [] => True)
end
section
variable (P : Program)
def runOff : List Field → Nat → Bool
  | [], _ => true
  | f :: fs, o => Nat.beq f.offset o && runOff fs (o + P.cellsOf f.type)
def sumR (f : TypeId → Option (List CSh)) : List Field → Option (List CSh)
  | [] => some []
  | fd :: fs => match f fd.type, sumR f fs with | some a, some b => (bif Nat.beq a.length (P.cellsOf fd.type) then some (a ++ b) else none) | _, _ => none
/-- The cells of a type of data; they lie one behind the other. -/
def rsh : Nat → TypeId → Option (List CSh)
  | 0, _ => none
  | d + 1, T => match P.underlying T with
    | some (.int k) => some [.int k]
    | some .bool => some [.bool]
    | some .string => some [.str]
    | some (.slice E) => (match rsh d E with | some e => (bif Nat.beq e.length (P.cellsOf E) && !Nat.beq e.length 0 then some [.sl e] else none) | none => none)
    | some (.struct fs) => (match sumR P (rsh d) fs.toList with | some e => (bif runOff P fs.toList 0 && Nat.beq e.length (P.cellsOf T) then some e else none) | none => none)
    | some (.array n E) => (match rsh d E with | some e => (bif Nat.beq e.length (P.cellsOf E) && Nat.beq (n * e.length) (P.cellsOf T) then some (List.replicate n e).flatten else none) | none => none)
    | _ => none
end
section
variable {P : Program} {W : World} {H : Type} {enc : TypeId × Value → H}
abbrev oldIm (W : World) : Nat → Prop := fun i => i < W.heap.size
theorem row_append {Im : Nat → Prop} {w : World} : ∀ {e1 e2 : List CSh} {r1 r2 : List CD} {v1 v2 : List Value}, RowRel Im w e1 r1 v1 → RowRel Im w e2 r2 v2 → RowRel Im w (e1 ++ e2) (r1 ++ r2) (v1 ++ v2) := by
  intro e1
  induction e1 with
  | nil => intro e2 r1 r2 v1 v2 h k; cases h; exact k
  | cons sh e1 ih =>
    intro e2 r1 r2 v1 v2 h k
    cases h with
    | cons _ cd v _ row vs h1 h2 => exact .cons _ _ _ _ _ _ h1 (ih h2 k)
theorem wfRow_append : ∀ {e1 e2 : List CSh} {r1 r2 : List CD}, e1.length = r1.length → wfRow e1 r1 → wfRow e2 r2 → wfRow (e1 ++ e2) (r1 ++ r2)
  | [], e2, [], r2, _, _, k => k
  | [], _, _ :: _, _, h, _, _ => by simp at h
  | _ :: _, _, [], _, h, _, _ => by simp at h
  | sh :: e1, e2, cd :: r1, r2, hl, h, k => ⟨h.1, wfRow_append (by simpa using hl) h.2 k⟩
theorem cells_get {w : World} {a : Addr} {n : Nat} : ∀ {cs : List Value}, (List.range n).mapM (fun i => w.cell? (a.add i)) = some cs → cs.length = n ∧ ∀ j x, cs[j]? = some x → w.cell? (a.add j) = some x := by
  induction n with
  | zero => intro cs h; simp at h; subst h; exact ⟨rfl, fun j x h => by simp at h⟩
  | succ n ih =>
    intro cs h
    rw [List.range_succ, List.mapM_append] at h
    cases h1 : (List.range n).mapM (fun i => w.cell? (a.add i)) with
    | none => rw [h1] at h; simp at h
    | some l =>
      rw [h1] at h
      cases h2 : w.cell? (a.add n) with
      | none => simp [h2] at h
      | some x =>
        simp [h2] at h
        subst h
        obtain ⟨k1, k2⟩ := ih h1
        refine ⟨by simp [k1], fun j y hy => ?_⟩
        rcases Nat.lt_or_ge j l.length with hj | hj
        · rw [List.getElem?_append_left hj] at hy; exact k2 j y hy
        · rw [List.getElem?_append_right hj] at hy
          cases hz : j - l.length with
          | zero =>
            rw [hz] at hy
            simp at hy
            subst hy
            rw [show j = n from by omega]; exact h2
          | succ m => rw [hz] at hy; simp at hy
theorem cell_lt {w : World} {a : Addr} {x : Value} (h : w.cell? a = some x) : a.block < w.heap.size := by
  unfold World.cell? at h
  split at h
  · rename_i heq
    exact (Array.getElem?_eq_some_iff.1 heq).1
  · cases h
theorem add_block (a : Addr) (j : Nat) : (a.add j).block = a.block := by unfold Addr.add; split <;> rfl
def IHr (P : Program) (W : World) (enc : TypeId × Value → H) (fuel : Nat) : Prop := ∀ T cs d ps, DataW.trod enc P W 0 (fun _ => true) true fuel T cs = some (d, ps) → ∀ D e, rsh P D T = some e → ∃ row, RowRel (oldIm W) W e row cs ∧ wfRow e row
theorem fields_row {fuel D : Nat} (ih : IHr P W enc fuel) {cs : List Value} : ∀ {fs : List Field} {o : Nat} {e : List CSh} {xs : List (DataW H × List MemPlace)}, runOff P fs o = true → sumR P (rsh P D) fs = some e →
    fs.mapM (fun f => DataW.trod enc P W 0 (fun _ => true) true fuel f.type ((cs.drop f.offset).take (P.cellsOf f.type))) = some xs → ∃ row, RowRel (oldIm W) W e row ((cs.drop o).take e.length) ∧ wfRow e row
  | [], o, e, xs, h1, h2, h3 => by
    simp only [sumR, Option.some.injEq] at h2
    subst h2
    exact ⟨[], by simpa using RowRel.nil, trivial⟩
  | f :: fs, o, e, xs, h1, h2, h3 => by
    simp only [runOff, Bool.and_eq_true] at h1
    have ho := beq_true.1 h1.1
    simp only [sumR] at h2
    split at h2
    · rename_i a b ha hb
      cases hl : Nat.beq a.length (P.cellsOf f.type) with
      | false => rw [hl] at h2; cases h2
      | true =>
        rw [hl] at h2
        cases h2
        have hal := beq_true.1 hl
        rw [List.mapM_cons] at h3
        cases hx : DataW.trod enc P W 0 (fun _ => true) true fuel f.type ((cs.drop f.offset).take (P.cellsOf f.type)) with
        | none => rw [hx] at h3; simp at h3
        | some x =>
          rw [hx] at h3
          cases hxs : fs.mapM (fun f => DataW.trod enc P W 0 (fun _ => true) true fuel f.type ((cs.drop f.offset).take (P.cellsOf f.type))) with
          | none => simp [hxs] at h3
          | some ys =>
            obtain ⟨r1, k1, k2⟩ := ih _ _ _ _ hx D a ha
            obtain ⟨r2, k3, k4⟩ := fields_row ih h1.2 hb hxs
            have hlen := RowRel.length k1
            refine ⟨r1 ++ r2, ?_, wfRow_append hlen.2.symm k2 k4⟩
            have := row_append k1 k3
            rw [ho, ← hal] at this
            have e1 : (cs.drop o).take a.length ++ (cs.drop (o + a.length)).take b.length = (cs.drop o).take (a ++ b).length := by
              rw [List.length_append, List.take_add, List.drop_drop]
            rw [← e1]; exact this
    · cases h2
theorem items_row {fuel D : Nat} (ih : IHr P W enc fuel) {cs : List Value} {E : TypeId} {e : List CSh} (he : rsh P D E = some e) (hl : e.length = P.cellsOf E) : ∀ (n : Nat) {xs : List (DataW H × List MemPlace)},
    (List.range n).mapM (fun i => DataW.trod enc P W 0 (fun _ => true) true fuel E ((cs.drop (i * P.cellsOf E)).take (P.cellsOf E))) = some xs → ∃ row, RowRel (oldIm W) W (List.replicate n e).flatten row (cs.take (n * e.length)) ∧ wfRow (List.replicate n e).flatten row
  | 0, xs, h => ⟨[], by simpa using RowRel.nil, trivial⟩
  | n + 1, xs, h => by
    rw [List.range_succ, List.mapM_append] at h
    cases h1 : (List.range n).mapM (fun i => DataW.trod enc P W 0 (fun _ => true) true fuel E ((cs.drop (i * P.cellsOf E)).take (P.cellsOf E))) with
    | none => rw [h1] at h; simp at h
    | some l =>
      rw [h1] at h
      cases h2 : DataW.trod enc P W 0 (fun _ => true) true fuel E ((cs.drop (n * P.cellsOf E)).take (P.cellsOf E)) with
      | none => simp [h2] at h
      | some x =>
        obtain ⟨r1, k1, k2⟩ := items_row ih he hl n h1
        obtain ⟨r2, k3, k4⟩ := ih _ _ _ _ h2 D e he
        have hlen := RowRel.length k1
        have e0 : (List.replicate (n + 1) e).flatten = (List.replicate n e).flatten ++ e := by
          rw [show n + 1 = n + 1 from rfl, List.replicate_succ', List.flatten_append]; simp
        refine ⟨r1 ++ r2, ?_, by rw [e0]; exact wfRow_append hlen.2.symm k2 k4⟩
        rw [e0, Nat.succ_mul, List.take_add]
        rw [hl] at k1 ⊢
        exact row_append k1 k3
theorem elems_row {fuel D : Nat} (ih : IHr P W enc fuel) {a : Addr} {E : TypeId} {e : List CSh} (he : rsh P D E = some e) (hl : e.length = P.cellsOf E) : ∀ (n : Nat) {xs : List (DataW H × List MemPlace)},
    (List.range n).mapM (fun i => (W.cells? 0 (a.add (i * P.cellsOf E)) (P.cellsOf E)).bind (DataW.trod enc P W 0 (fun _ => true) true fuel E)) = some xs →
      ∃ rows vs, rows.length = n ∧ FlatRel (oldIm W) W e rows vs ∧ (∀ j x, vs[j]? = some x → W.cell? (a.add j) = some x) ∧ ∀ row ∈ rows, wfRow e row
  | 0, xs, h => ⟨[], [], rfl, .nil _, fun j x h => by simp at h, fun r h => by simp at h⟩
  | n + 1, xs, h => by
    rw [List.range_succ, List.mapM_append] at h
    cases h1 : (List.range n).mapM (fun i => (W.cells? 0 (a.add (i * P.cellsOf E)) (P.cellsOf E)).bind (DataW.trod enc P W 0 (fun _ => true) true fuel E)) with
    | none => rw [h1] at h; simp at h
    | some l =>
      rw [h1] at h
      cases h2 : W.cells? 0 (a.add (n * P.cellsOf E)) (P.cellsOf E) with
      | none => simp [h2] at h
      | some cs =>
        cases h3 : DataW.trod enc P W 0 (fun _ => true) true fuel E cs with
        | none => simp [h2, h3] at h
        | some x =>
          obtain ⟨rows, vs, k1, k2, k3, k4⟩ := elems_row ih he hl n h1
          obtain ⟨row, g1, g2⟩ := ih _ _ _ _ h3 D e he
          unfold World.cells? at h2
          rw [if_pos (Nat.zero_le _)] at h2
          obtain ⟨g3, g4⟩ := cells_get h2
          have hvl := FlatRel.length k2
          refine ⟨rows ++ [row], vs ++ cs, by simp [k1], ?_, fun j y hy => ?_, fun r hr => ?_⟩
          · have := FlatRel.append k2 (.cons e row cs [] [] g1 (.nil e))
            simpa using this
          · rcases Nat.lt_or_ge j vs.length with hj | hj
            · rw [List.getElem?_append_left hj] at hy; exact k3 j y hy
            · rw [List.getElem?_append_right hj] at hy
              have hc := g4 _ y hy
              have ha : a.spot = none := by
                have hcs : 0 < cs.length := by have := (List.getElem?_eq_some_iff.1 hy).1; omega
                have h00 : ∀ (x : Value), W.cell? (a.add 0) = some x → a.spot = none := fun x hx => by
                  have := spot_of_cell hx (.inl rfl)
                  simpa [Addr.add] using this
                rcases Nat.eq_zero_or_pos n with hn | hn
                · subst hn
                  have := g4 0 cs[0] (List.getElem?_eq_getElem hcs)
                  rw [Nat.zero_mul] at this
                  have e0 : (a.add 0).add 0 = a.add 0 := by simp [Addr.add]
                  rw [e0] at this
                  exact h00 _ this
                · have hvp : 0 < vs.length := by rw [hvl, k1]; exact Nat.mul_pos hn (by omega)
                  exact h00 _ (k3 0 vs[0] (List.getElem?_eq_getElem hvp))
              rw [add_add _ _ _ ha] at hc
              rw [show j = n * P.cellsOf E + (j - vs.length) from by rw [hvl, k1, hl] at *; omega]
              rw [hvl, k1, hl] at hc ⊢
              simpa using hc
          · rcases List.mem_append.1 hr with hr | hr
            · exact k4 r hr
            · simp at hr; subst hr; exact g2
theorem trod_row : ∀ fuel, IHr P W enc fuel
  | 0 => fun T cs d ps h => by simp [DataW.trod] at h
  | fuel + 1 => fun T cs d ps h D e he => by
    have ih := trod_row fuel
    cases D with
    | zero => cases he
    | succ D =>
      unfold DataW.trod at h
      simp only [rsh] at he
      cases hu : P.underlying T with
      | none => rw [hu] at he; cases he
      | some td =>
        rw [hu] at he h
        cases td with
        | bool =>
          cases he
          split at h <;> try cases h
          all_goals (rename_i heq; cases heq)
          exact ⟨[.bool _], .cons _ _ _ _ _ _ (.bool _) .nil, trivial, trivial⟩
        | int k =>
          cases he
          split at h <;> try cases h
          all_goals (rename_i heq; cases heq)
          split at h
          · rename_i hk
            obtain ⟨rfl, hw⟩ := hk
            refine ⟨[.int _], .cons _ _ _ _ _ _ (.int _ _) .nil, ?_, trivial⟩
            unfold Lit.wf at hw
            simpa [wfC] using hw
          · cases h
        | string =>
          cases he
          split at h <;> try cases h
          all_goals (rename_i heq; cases heq)
          split at h
          · rename_i s hs
            obtain ⟨⟨l⟩⟩ := s
            exact ⟨[.str l], .cons _ _ _ _ _ _ (.str l hs) .nil, trivial, trivial⟩
          · cases h
        | slice E =>
          simp only at he h
          split at he
          · rename_i e' he'
            cases hl : (Nat.beq e'.length (P.cellsOf E) && !Nat.beq e'.length 0) with
            | false => rw [hl] at he; cases he
            | true =>
              rw [hl] at he
              cases he
              simp only [Bool.and_eq_true, Bool.not_eq_true'] at hl
              have hl' := beq_true.1 hl.1
              have hl0 := beq_false.1 hl.2
              split at h <;> try cases h
              all_goals (rename_i heq; cases heq)
              · exact ⟨[.sl []], .cons _ _ _ _ _ _ (.sl0 _ _ _ (Nat.zero_le _)) .nil, (fun r hr => by simp at hr), trivial⟩
              · rename_i a len cap
                split at h
                · rename_i hc
                  obtain ⟨_, hc1, hc2⟩ := hc
                  cases hm : (List.range len).mapM (fun i => (W.cells? 0 (a.add (i * P.cellsOf E)) (P.cellsOf E)).bind (DataW.trod enc P W 0 (fun _ => true) true fuel E)) with
                  | none => rw [hm] at h; simp at h
                  | some xs =>
                    obtain ⟨rows, vs, k1, k2, k3, k4⟩ := elems_row ih he' hl' len hm
                    refine ⟨[.sl rows], .cons _ _ _ _ _ _ ?_ .nil, k4, trivial⟩
                    rcases Nat.eq_zero_or_pos len with h0 | h0
                    · subst h0
                      have : rows = [] := List.length_eq_zero_iff.1 k1
                      subst this
                      exact .sl0 _ _ _ hc2
                    · subst k1
                      refine .sl _ _ a cap vs hc1 hc2 ?_ k2 k3
                      have hvl := FlatRel.length k2
                      have hpos : 0 < vs.length := by rw [hvl]; exact Nat.mul_pos h0 (by omega)
                      have := k3 0 vs[0] (List.getElem?_eq_getElem hpos)
                      have := cell_lt this
                      rwa [add_block] at this
                · cases h
          · cases he
        | struct fs =>
          simp only at he h
          split at he
          · rename_i e' he'
            cases hl : (runOff P fs.toList 0 && Nat.beq e'.length (P.cellsOf T)) with
            | false => rw [hl] at he; cases he
            | true =>
              rw [hl] at he
              cases he
              simp only [Bool.and_eq_true] at hl
              have hl' := beq_true.1 hl.2
              split at h
              · rename_i hcl
                cases hm : fs.toList.mapM (fun f => DataW.trod enc P W 0 (fun _ => true) true fuel f.type ((cs.drop f.offset).take (P.cellsOf f.type))) with
                | none => rw [hm] at h; simp at h
                | some xs =>
                  obtain ⟨row, k1, k2⟩ := fields_row ih hl.1 he' hm
                  rw [List.drop_zero, hl', ← hcl, List.take_length] at k1
                  exact ⟨row, k1, k2⟩
              · cases h
          · cases he
        | array n E =>
          simp only at he h
          split at he
          · rename_i e' he'
            cases hl : (Nat.beq e'.length (P.cellsOf E) && Nat.beq (n * e'.length) (P.cellsOf T)) with
            | false => rw [hl] at he; cases he
            | true =>
              rw [hl] at he
              cases he
              simp only [Bool.and_eq_true] at hl
              have hl1 := beq_true.1 hl.1
              have hl2 := beq_true.1 hl.2
              split at h
              · rename_i hcl
                cases hm : (List.range n).mapM (fun i => DataW.trod enc P W 0 (fun _ => true) true fuel E ((cs.drop (i * P.cellsOf E)).take (P.cellsOf E))) with
                | none => rw [hm] at h; simp at h
                | some xs =>
                  obtain ⟨row, k1, k2⟩ := items_row ih he' hl1 n hm
                  rw [hl2, ← hcl, List.take_length] at k1
                  exact ⟨row, k1, k2⟩
              · cases h
          · cases he
        | _ => cases he
/-! ### A struct's cells -/
theorem flat_rows {Im : Nat → Prop} {w : World} {e : List CSh} : ∀ {l : List (List CD)} {xs : List Value}, FlatRel Im w e l xs → ∀ row ∈ l, ∃ vs, RowRel Im w e row vs := by
  intro l
  induction l with
  | nil => intro xs _ row h; cases h
  | cons r l ih =>
    intro xs h row hr
    cases h with
    | cons _ _ vs _ xs h1 h2 =>
      rcases List.mem_cons.1 hr with rfl | hr
      · exact ⟨vs, h1⟩
      · exact ih h2 row hr
theorem crel_rows {Im : Nat → Prop} {w : World} {e : List CSh} {l : List (List CD)} {v : Value} (h : CRel Im w (.sl e) (.sl l) v) : ∀ row ∈ l, ∃ vs, RowRel Im w e row vs := by
  cases h with
  | sl0 => intro row h; cases h
  | sl _ _ ad cap xs _ _ _ hf _ => exact flat_rows hf
/-- A slice that came in. -/
theorem slice_in {T : TypeId} {e : List CSh} (D : Nat) (hr : rsh P D T = some [.sl e]) {v : Value} {d : DataW H} {ps : List MemPlace} (hv : ∃ a n c, v = .slice a n c) (h : DataW.Trod enc P W 0 (fun _ => true) true T v d ps) :
    ∃ l, CRel (oldIm W) W (.sl e) (.sl l) v ∧ ∀ row ∈ l, wfRow e row := by
  obtain ⟨a, n, c, rfl⟩ := hv
  obtain ⟨fuel, hf⟩ := h
  obtain ⟨row, h1, h2⟩ := trod_row fuel _ _ _ _ hf D _ hr
  have h1' : RowRel (oldIm W) W [.sl e] row [.slice a n c] := h1
  cases h1' with
  | cons _ cd _ _ row vs k1 k2 =>
    cases k1 with
    | sl0 e a cap h => exact ⟨[], .sl0 _ _ _ h, fun row hr => by cases hr⟩
    | sl e l ad _ xs q1 q2 q3 q4 q5 => exact ⟨l, .sl e l ad _ xs q1 q2 q3 q4 q5, h2.1⟩
/-! ### A law's call -/
theorem law_calls {C : Ctx} {f : FuncId} {F : List SV → List Blk → CR} (hs : SpecOk C f F) {W : World} {svs : List SV} {vs : List Value} (hcall : (callFunc f vs.toArray).run C.P W = .ok (.enter f vs.toArray) W)
    (hv : VRels (oldIm W) (fun _ => none) W svs vs) (hg : Globs C (oldIm W) (fun _ => none) W) (hK : (F svs []).wp [] fun sv _ => sv = .bool true) :
    Calls C.P f vs.toArray W fun e w' => e = .returned (.bool true) ∧ RowKit.Below W.heap.size W w' := by
  have hm : Mem C ⟨W, oldIm W, fun _ => none, fun _ => False, []⟩ [] (oldIm W) (fun _ => none) W :=
    ⟨(fun b v h => by cases h), ⟨fun i h => h, (fun b v r _ h => by cases h), (fun b b' v v' r _ _ h => by cases h), fun b v r _ h => by cases h⟩,
      ⟨rfl, rfl, rfl, Nat.le_refl _, fun _ _ _ => rfl, (fun b v h => by cases h), fun _ h => h, fun _ h => .inl h⟩, hg⟩
  have h := hs svs [] (fun sv _ => sv = .bool true) (fun _ => True) (CR.wp_mono (fun sv hp h => ⟨h, fun _ _ _ => trivial⟩) _ hK) _ _ _ W vs hm (fun _ _ => rfl) hv
  rcases h with ⟨_, h⟩ | ⟨v, h, _⟩
  · refine Calls.mono h ?_
    rintro e w' ⟨v, sv, hp', Im', ι', rfl, rfl, hv, hm', _⟩
    have hv' : v = .bool true := hv
    subst hv'
    exact ⟨rfl, hm'.since.os, hm'.since.tape, hm'.since.output, hm'.since.size, fun k hk => hm'.since.block k hk id⟩
  · rw [hcall] at h; cases h
end
end Go.Avc
namespace Go.Proofs.YteiecapbaeajdaaGreatDoor
open Go Go.Avc Go.ChangeShapes Go.WideShapes Go.ChangeAt Go.RowKit
set_option linter.unusedVariables false
set_option linter.unusedSimpArgs false
theorem own : ownKnob Tryz.prog.godebug = none := by kernel_rfl
theorem laidOut : laidOutB Tryz.prog = true := by kernel_rfl
/-- An array of whole numbers, as it is read. -/
theorem arr_ints {H : Type} {enc : TypeId × Value → H} {P : Program} {W : World} {base : Nat} {sp : Nat → Bool} {held : Bool} {fuel : Nat} {T E : TypeId} {n : Nat} {k : IntKind} {cs : List Value} {x : DataW H × List MemPlace}
    (hT : P.underlying T = some (.array n E)) (hE : P.underlying E = some (.int k)) (hc : P.cellsOf E = 1) (hc2 : P.cellsOf T = n) (h : DataW.trod enc P W base sp held fuel T cs = some x) :
    ∃ l : List Int, l.length = n ∧ cs = l.map (Value.int k) ∧ x.1 = .agg (l.map fun i => .lit (.int k i)) ∧ ∀ i ∈ l, (Lit.int k i).wf = true := by
  obtain ⟨xs, m, rfl, rfl, hlen, hn, hel⟩ := DataW.trod_array hT h
  rw [hc2] at hlen
  have one : ∀ i, i < n → ∃ a : Int, cs[i]? = some (.int k a) ∧ (xs.map (·.1))[i]? = some (.lit (.int k a)) ∧ (Lit.int k a).wf = true := fun i hi => by
    have h1 := hel i hi
    rw [hc, Nat.mul_one] at h1
    have hx : xs[i]? = some xs[i] := List.getElem?_eq_getElem (by omega)
    rw [hx] at h1
    obtain ⟨a, e1, e2, e3⟩ := DataW.trod_int hE h1
    refine ⟨a, ?_, ?_, e3⟩
    · have : ((cs.drop i).take 1)[0]? = some (.int k a) := by rw [e1]; rfl
      rwa [List.getElem?_take_of_lt (by omega), List.getElem?_drop, Nat.add_zero] at this
    · rw [List.getElem?_map, hx]
      simp [e2]
  have hcs : ∀ i, i < n → ∃ a : Int, cs[i]? = some (.int k a) := fun i hi => by obtain ⟨a, h, _⟩ := one i hi; exact ⟨a, h⟩
  let f : Value → Int := fun v => match v with | .int _ a => a | _ => 0
  have key : ∀ i, i < n → cs[i]? = some (.int k ((cs.map f).getD i 0)) ∧ (xs.map (·.1))[i]? = some (.lit (.int k ((cs.map f).getD i 0))) ∧ (Lit.int k ((cs.map f).getD i 0)).wf = true := fun i hi => by
    obtain ⟨a, h1, h2, h3⟩ := one i hi
    have : (cs.map f).getD i 0 = a := by
      rw [List.getD_eq_getElem?_getD, List.getElem?_map, h1]; rfl
    rw [this]
    exact ⟨h1, h2, h3⟩
  have ll : (cs.map f).length = n := by rw [List.length_map, hlen]
  refine ⟨cs.map f, ll, ?_, ?_, ?_⟩
  · apply List.ext_getElem (by simp)
    intro i h1 h2
    have := (key i (by omega)).1
    rw [List.getElem?_eq_getElem h1, List.getD_eq_getElem?_getD, List.getElem?_eq_getElem (by rw [List.length_map]; exact h1)] at this
    simpa using this
  · show DataW.agg _ = DataW.agg _
    congr 1
    apply List.ext_getElem (by simp [hn, hlen])
    intro i h1 h2
    have hi : i < n := by rw [List.length_map] at h1; omega
    have := (key i hi).2.1
    rw [List.getElem?_eq_getElem h1, List.getD_eq_getElem?_getD, List.getElem?_eq_getElem (by omega)] at this
    simpa using this
  · intro a ha
    obtain ⟨i, hi, rfl⟩ := List.getElem_of_mem ha
    have := (key i (by omega)).2.2
    rwa [List.getD_eq_getElem?_getD, List.getElem?_eq_getElem hi] at this
/-! ### The table -/
def laidL : List (String × DataW Unit) := [("avouch/keccak.constants", Rows.laid_avouch_keccak_constants)]
theorem gRc : Tryz.prog.globalNamed "avouch/keccak.constants" = some 0 := by kernel_rfl
theorem tRc : (Tryz.prog.globals[0]?).map (·.type) = some 381 := by kernel_rfl
theorem cellsRc : Tryz.prog.cellsOf 381 = 24 := by kernel_rfl
theorem cells73 : Tryz.prog.cellsOf 73 = 1 := by kernel_rfl
theorem flat_ints {Im : Nat → Prop} {w : World} (k : IntKind) : ∀ l : List Int, FlatRel Im w [.int k] (l.map fun n => [.int n]) (l.map (Value.int k))
  | [] => .nil _
  | n :: l => .cons _ _ [.int k n] _ _ (.cons _ _ _ _ _ _ (.int k n) .nil) (flat_ints k l)
theorem rc_datum : (Rows.laid_avouch_keccak_constants : DataW Unit) = .agg (rcL.map fun i => .lit (.int .u64 i)) := rfl
theorem agg_inj {k : IntKind} : ∀ {l m : List Int}, (DataW.agg (l.map fun i => DataW.lit (H := Unit) (.int k i)) = DataW.agg (m.map fun i => DataW.lit (.int k i))) → l = m := by
  intro l m h
  injection h with h
  have := congrArg (List.map fun d : DataW Unit => match d with | .lit (.int _ i) => i | _ => 0) h
  rw [List.map_map, List.map_map] at this
  have e : ((fun d : DataW Unit => match d with | .lit (.int _ i) => i | _ => 0) ∘ fun i : Int => DataW.lit (.int k i)) = id := by funext i; rfl
  rwa [e, List.map_id, List.map_id] at this
theorem of_laid {W : World} (h : laidMetH Tryz.prog laidL W) (f : Nat → Option SV) (hf : ∀ g sv, f g = some sv → gl g = some sv) : ∀ g sv, f g = some sv → VRel (oldIm W) (fun _ => none) W sv (.pointer (some ⟨g, 0, none⟩)) := by
  rw [MakeChecks.laidMetH_plain _ _ _ (by kernel_rfl)] at h
  obtain ⟨ps, ⟨g0, t0, cs0, f0, p0, q0, hg0, ht0, hv0, hd0, _⟩, _, _⟩ := h
  obtain rfl := Option.some.inj (gRc.symm.trans hg0)
  obtain rfl := Option.some.inj (tRc.symm.trans ht0)
  obtain ⟨l, hl, hcs, hx, _⟩ := arr_ints Tryz.underlying381 Tryz.underlying73 cells73 cellsRc hd0
  rw [rc_datum] at hx
  obtain rfl := agg_inj hx.symm
  intro g sv hg
  have hg' := hf g sv hg
  unfold gl at hg'
  cases hb : Nat.beq g 0 with
  | false => rw [hb] at hg'; cases hg'
  | true =>
    rw [hb] at hg'
    cases hg'
    obtain rfl := beq_true.1 hb
    have hcell : ∀ j x, (rcL.map (Value.int .u64))[j]? = some x → W.cell? ((⟨0, 0, none⟩ : Addr).add j) = some x := fun j x hj => by
      have := World.var?_cell hg0 hv0 j
      rw [← Array.getElem?_toList, hcs, hj] at this
      have e : (⟨0, 0, none⟩ : Addr).add j = ⟨0, j, none⟩ := by
        unfold Addr.add
        split
        · rename_i h; subst h; rfl
        · simp
      rw [e]; exact this
    refine ⟨⟨0, 0, none⟩, rcL.map (Value.int .u64), rfl, ?_, flat_ints .u64 rcL, hcell⟩
    have h0 := hcell 0 (.int .u64 1) rfl
    have := cell_lt h0
    rwa [add_block] at this
/-- The door's own heap meets the condition. -/
theorem door_met (os : Os) (args : Array Value) : laidMetH Tryz.prog laidL ((World.doorLaid Tryz.prog 400 os).forCall (fun _ _ => 0) ⟨#[], args, []⟩).memory := by
  rw [MakeChecks.laidMetH_plain _ _ _ (by kernel_rfl)]
  exact laidMet_of_run' 8 (by kernel_rfl) (by kernel_rfl)
/-! ### Bytes that come in -/
theorem isB_in {Im : Nat → Prop} {w : World} {l : List (List CD)} {v : Value} (h : CRel Im w (.sl u8E) (.sl l) v) (q : ∀ row ∈ l, wfRow u8E row) : isB l := by
  have k := crel_rows h
  clear h
  unfold isB
  induction l with
  | nil => rfl
  | cons r l ih =>
    obtain ⟨vs, hv⟩ := k r (List.mem_cons_self ..)
    have hq := q r (List.mem_cons_self ..)
    cases hv with
    | cons _ cd v _ row vs h1 h2 =>
      cases h2
      cases h1 with
      | int _ n =>
        have hn : (0 : Int) ≤ n ∧ n ≤ 255 := hq.1
        have e : (((UInt8.ofNat n.toNat).toNat : Nat) : Int) = n := by
          rw [UInt8.toNat_ofNat', Nat.mod_eq_of_lt (by omega)]; omega
        show [CD.int n] :: l = [CD.int (((UInt8.ofNat n.toNat).toNat : Nat) : Int)] :: rowsOfBytes (bytesOfRows l)
        rw [e, ← ih (fun r hr => q r (List.mem_cons_of_mem _ hr)) fun r hr => k r (List.mem_cons_of_mem _ hr)]
end Go.Proofs.YteiecapbaeajdaaGreatDoor
namespace Go.Proofs.YteiecapbaeajdaaGreatDoor
open Go Go.Avc Go.Proofs
set_option linter.unusedVariables false
set_option maxRecDepth 100000
def P175 : Prop :=
 ∀ (n n_1 n_2 : Int) (l : List UInt8) (n_3 n_4 n_5 : Int) (l_1 : List UInt8),
 l.length ≤ (9223372036854775807 : Nat) →
 l_1.length ≤ (9223372036854775807 : Nat) →
 True → (decide (n = n_3) && (decide (n_1 = n_4) && (decide (n_2 = n_5) && (decide (([] : List UInt8) = []) && true)))) = sameB n n_1 n_2 n_3 n_4 n_5
theorem e175 : ct175.VC (base.with sp40) Tryz.f175.results.toList Tryz.f175.ntmps (Tryz.f175.ntmps - ct175.ps.length) (bodyOf Tryz.f175) noAnn = P175 := by kernel_rfl
noncomputable def sp175 : SpecT := addS sp40 175 (mkF ct175)
def P87 : Prop :=
 ∀ (n n_1 : Int),
 pre87 n n_1 →
 (R87 n n_1 n n_1 (0 : Int) [] ∧ True) ∧
 ∀ (n_2 n_3 n_4 : Int) (l : List (List CD)),
 l.length ≤ (9223372036854775807 : Nat) →
 R87 n n_1 n_2 n_3 n_4 l →
 bif decide (n_4 < n_3) then
 ((0 : Int) ≤ n_2 ∧ (0 : Int) < (256 : Int)) ∧
 ((l.length + (1 : Nat)) * (1 : Nat) ≤ (140737488355328 : Nat) ∧ l.length + (1 : Nat) ≤ (9223372036854775807 : Nat)) ∧
 ((0 : Int) ≤ n_2 ∧ (0 : Int) < (256 : Int) ∧ n_2 ≤ Go.IntKind.i64.max) ∧
 ((-9223372036854775808 : Int) ≤ n_4 + (1 : Int) ∧ n_4 + (1 : Int) ≤ (9223372036854775807 : Int)) ∧
 R87 n n_1 (n_2 / (256 : Int)) n_3 (n_4 + (1 : Int)) (l ++ [[CD.int (Go.IntKind.u8.wrap (n_2 % (256 : Int)))]]) ∧
 (n_3 - (n_4 + (1 : Int))).toNat < (n_3 - n_4).toNat
 else l = rowsOfBytes (numB n n_1.toNat)
theorem e87 : ct87.VC (base.with sp175) Tryz.f87.results.toList Tryz.f87.ntmps (Tryz.f87.ntmps - ct87.ps.length) (bodyOf Tryz.f87) ann87 = P87 := by kernel_rfl
noncomputable def sp87 : SpecT := addS sp175 87 (mkF ct87)
def P47 : Prop :=
 ∀ (n n_1 n_2 : Int) (l : List UInt8),
 l.length ≤ (9223372036854775807 : Nat) →
 True →
 True ∧
 bif decide (chk n n_1 n_2 l ≠ (0 : Int)) then
 chk n n_1 n_2 l = chk n n_1 n_2 l ∧ [] = encR n n_1 n_2 l
 else
 pre87 n (1 : Int) ∧
 pre87 n_1 (1 : Int) ∧
 ((2 : Nat) ≤ (140737488355328 : Nat) ∧ (2 : Nat) ≤ (9223372036854775807 : Nat)) ∧
 pre87 n_2 (4 : Int) ∧
 ((6 : Nat) ≤ (140737488355328 : Nat) ∧ (6 : Nat) ≤ (9223372036854775807 : Nat)) ∧
 pre87 (↑l.length : Int) (2 : Int) ∧
 ((8 : Nat) ≤ (140737488355328 : Nat) ∧ (8 : Nat) ≤ (9223372036854775807 : Nat)) ∧
 (((8 : Nat) + (rowsOfBytes l).length) * (1 : Nat) ≤ (140737488355328 : Nat) ∧
 (8 : Nat) + (rowsOfBytes l).length ≤ (9223372036854775807 : Nat)) ∧
 (0 : Int) = chk n n_1 n_2 l ∧
 rowsOfBytes (numB n (1 : Nat)) ++
 rowsOfBytes (numB n_1 (1 : Nat)) ++
 rowsOfBytes (numB n_2 (4 : Nat)) ++
 rowsOfBytes (numB (↑l.length : Int) (2 : Nat)) ++
 rowsOfBytes l =
 encR n n_1 n_2 l
theorem e47 : ct47.VC (base.with sp87) Tryz.f47.results.toList Tryz.f47.ntmps (Tryz.f47.ntmps - ct47.ps.length) (bodyOf Tryz.f47) noAnn = P47 := by kernel_rfl
noncomputable def sp47 : SpecT := addS sp87 47 (mkF ct47)
def P79 : Prop :=
 ∀ (l : List (List CD)),
 l.length ≤ (9223372036854775807 : Nat) →
 pre79 l →
 l.length ≤ (9223372036854775807 : Nat) →
 ((-9223372036854775808 : Int) ≤ (↑l.length : Int) - (1 : Int) ∧ (↑l.length : Int) - (1 : Int) ≤ (9223372036854775807 : Int)) ∧
 (R79 l l (0 : Int) ((↑l.length : Int) - (1 : Int)) ∧ True) ∧
 ∀ (l_1 : List (List CD)) (n n_1 : Int),
 l_1.length ≤ (9223372036854775807 : Nat) →
 R79 l l_1 n n_1 →
 bif decide ((0 : Int) ≤ n_1) then
 ((-9223372036854775808 : Int) ≤ n * (256 : Int) ∧ n * (256 : Int) ≤ (9223372036854775807 : Int)) ∧
 ((0 : Int) ≤ n_1 ∧ n_1 < (↑l_1.length : Int)) ∧
 n_1.toNat < l_1.length ∧
 ((-9223372036854775808 : Int) ≤ n * (256 : Int) + Go.IntKind.i64.wrap ((l_1.getD n_1.toNat []).getD (0 : Nat) (CD.int (0 : Int))).toInt ∧
 n * (256 : Int) + Go.IntKind.i64.wrap ((l_1.getD n_1.toNat []).getD (0 : Nat) (CD.int (0 : Int))).toInt ≤ (9223372036854775807 : Int)) ∧
 ((-9223372036854775808 : Int) ≤ n_1 - (1 : Int) ∧ n_1 - (1 : Int) ≤ (9223372036854775807 : Int)) ∧
 R79 l l_1
 (n * (256 : Int) + Go.IntKind.i64.wrap ((l_1.getD n_1.toNat []).getD (0 : Nat) (CD.int (0 : Int))).toInt) (n_1 - (1 : Int)) ∧
 (n_1 - (1 : Int) + (1 : Int)).toNat < (n_1 + (1 : Int)).toNat
 else n = (↑(leN (bytesOfRows l)) : Int)
theorem e79 : ct79.VC (base.with sp47) Tryz.f79.results.toList Tryz.f79.ntmps (Tryz.f79.ntmps - ct79.ps.length) (bodyOf Tryz.f79) ann79 = P79 := by kernel_rfl
noncomputable def sp79 : SpecT := addS sp47 79 (mkF ct79)
def P171 : Prop :=
 ∀ (l : List (List CD)),
 l.length ≤ (9223372036854775807 : Nat) →
 pre171 l →
 ∀ (β : Bool),
 (β = true → l = []) →
 bif β then [] = l else (((0 : Nat) + l.length) * (1 : Nat) ≤ (140737488355328 : Nat) ∧ (0 : Nat) + l.length ≤ (9223372036854775807 : Nat)) ∧ [] ++ l = l
theorem e171 : ct171.VC (base.with sp79) Tryz.f171.results.toList Tryz.f171.ntmps (Tryz.f171.ntmps - ct171.ps.length) (bodyOf Tryz.f171) noAnn = P171 := by kernel_rfl
noncomputable def sp171 : SpecT := addS sp79 171 (mkF ct171)
def P170 : Prop :=
 ∀ (n : Int) (l : List (List CD)) (b : Bool),
 l.length ≤ (9223372036854775807 : Nat) →
 pre170 n →
 l.length ≤ (9223372036854775807 : Nat) →
 bif decide ((↑l.length : Int) < n) then
 ((0 : Int) ≤ (0 : Int) ∧ (0 : Int) ≤ (0 : Int) ∧ (0 : Int) ≤ (0 : Int) ∧ (0 : Int) ≤ (↑l.length : Int)) ∧
 ((0 : Int) ≤ (0 : Int) ∧ (0 : Int) ≤ (↑l.length : Int) ∧ (↑l.length : Int) ≤ (↑l.length : Int)) ∧
 List.drop (0 : Nat) (List.take (0 : Nat) l) = tkR l n ∧
 List.drop (0 : Nat) (List.take (↑l.length : Int).toNat l) = tkD l n ∧ true = tkS l n b
 else
 ((0 : Int) ≤ (0 : Int) ∧ (0 : Int) ≤ n ∧ n ≤ n ∧ n ≤ (↑l.length : Int)) ∧
 ((0 : Int) ≤ n ∧ n ≤ (↑l.length : Int) ∧ (↑l.length : Int) ≤ (↑l.length : Int)) ∧
 List.drop (0 : Nat) (List.take n.toNat l) = tkR l n ∧
 List.drop n.toNat (List.take (↑l.length : Int).toNat l) = tkD l n ∧ b = tkS l n b
theorem e170 : ct170.VC (base.with sp171) Tryz.f170.results.toList Tryz.f170.ntmps (Tryz.f170.ntmps - ct170.ps.length) (bodyOf Tryz.f170) noAnn = P170 := by kernel_rfl
noncomputable def sp170 : SpecT := addS sp171 170 (mkF ct170)
def P169 : Prop :=
 ∀ (n : Int) (l : List (List CD)) (b : Bool),
 l.length ≤ (9223372036854775807 : Nat) →
 pre169 n l →
 pre170 n ∧
 ((tkR l n).length ≤ (9223372036854775807 : Nat) →
 (R169 n l b (0 : Int) (tkR l n) (↑(tkR l n).length : Int)
 (0 : Int) (tkD l n) (tkS l n b) ∧
 True) ∧
 ∀ (n_1 : Int) (l_1 : List (List CD)) (n_2 n_3 : Int) (l_2 : List (List CD)) (b_1 : Bool),
 l_1.length ≤ (9223372036854775807 : Nat) →
 R169 n l b n_1 l_1 n_2 n_3 l_2 b_1 →
 bif decide (n_3 < n_2) then
 ((0 : Int) ≤ n_3 ∧ n_3 < (↑l_1.length : Int)) ∧
 n_3.toNat < l_1.length ∧
 ((-9223372036854775808 : Int) ≤ (8 : Int) * n_3 ∧ (8 : Int) * n_3 ≤ (9223372036854775807 : Int)) ∧
 (0 : Int) ≤ (8 : Int) * n_3 ∧
 ((-9223372036854775808 : Int) ≤ n_3 + (1 : Int) ∧ n_3 + (1 : Int) ≤ (9223372036854775807 : Int)) ∧
 R169 n l b
 (bOr Go.IntKind.i64 n_1
 (bShl Go.IntKind.i64 (Go.IntKind.i64.wrap ((l_1.getD n_3.toNat []).getD (0 : Nat) (CD.int (0 : Int))).toInt) ((8 : Int) * n_3)))
 l_1 n_2 (n_3 + (1 : Int)) l_2 b_1 ∧
 (n_2 - (n_3 + (1 : Int))).toNat < (n_2 - n_3).toNat
 else
 n_1 = (↑(leN (bytesOfRows (tkR l n))) : Int) ∧
 l_2 = tkD l n ∧ b_1 = tkS l n b)
theorem e169 : ct169.VC (base.with sp170) Tryz.f169.results.toList Tryz.f169.ntmps (Tryz.f169.ntmps - ct169.ps.length) (bodyOf Tryz.f169) ann169 = P169 := by kernel_rfl
noncomputable def sp169 : SpecT := addS sp170 169 (mkF ct169)
def P129 : Prop :=
 ∀ (l : List (List CD)),
 l.length ≤ (9223372036854775807 : Nat) →
 pre129 l →
 pre169 (1 : Int) l ∧
 pre169 (1 : Int) (tkD l (1 : Int)) ∧
 pre169 (4 : Int) (tkD (tkD l (1 : Int)) (1 : Int)) ∧
 pre169 (2 : Int)
 (tkD (tkD (tkD l (1 : Int)) (1 : Int)) (4 : Int)) ∧
 pre170
 (↑(leN
 (bytesOfRows
 (tkR
 (tkD (tkD (tkD l (1 : Int)) (1 : Int))
 (4 : Int))
 (2 : Int)))) :
 Int) ∧
 bif
 tkS
 (tkD
 (tkD (tkD (tkD l (1 : Int)) (1 : Int))
 (4 : Int))
 (2 : Int))
 (↑(leN
 (bytesOfRows
 (tkR
 (tkD (tkD (tkD l (1 : Int)) (1 : Int))
 (4 : Int))
 (2 : Int)))) :
 Int)
 (tkS
 (tkD (tkD (tkD l (1 : Int)) (1 : Int))
 (4 : Int))
 (2 : Int)
 (tkS (tkD (tkD l (1 : Int)) (1 : Int)) (4 : Int)
 (tkS (tkD l (1 : Int)) (1 : Int)
 (tkS l (1 : Int) false)))) then
 (0 : Int) = (decI (bytesOfRows l)).k ∧
 (0 : Int) = (decI (bytesOfRows l)).t ∧
 (0 : Int) = (decI (bytesOfRows l)).c ∧
 [] = (decI (bytesOfRows l)).l ∧
 (2 : Int) = decE (bytesOfRows l) ∧
 [] = rowsOfBytes (decR (bytesOfRows l))
 else
 True ∧
 bif
 decide
 (chk
 (↑(leN (bytesOfRows (tkR l (1 : Int)))) : Int)
 (↑(leN
 (bytesOfRows (tkR (tkD l (1 : Int)) (1 : Int)))) :
 Int)
 (↑(leN
 (bytesOfRows
 (tkR
 (tkD (tkD l (1 : Int)) (1 : Int)) (4 : Int)))) :
 Int)
 (bytesOfRows
 (tkR
 (tkD
 (tkD
 (tkD (tkD l (1 : Int)) (1 : Int)) (4 : Int))
 (2 : Int))
 (↑(leN
 (bytesOfRows
 (tkR
 (tkD
 (tkD (tkD l (1 : Int)) (1 : Int)) (4 : Int))
 (2 : Int)))) :
 Int))) ≠
 (0 : Int)) then
 (0 : Int) = (decI (bytesOfRows l)).k ∧
 (0 : Int) = (decI (bytesOfRows l)).t ∧
 (0 : Int) = (decI (bytesOfRows l)).c ∧
 [] = (decI (bytesOfRows l)).l ∧
 chk
 (↑(leN (bytesOfRows (tkR l (1 : Int)))) : Int)
 (↑(leN
 (bytesOfRows (tkR (tkD l (1 : Int)) (1 : Int)))) :
 Int)
 (↑(leN
 (bytesOfRows
 (tkR
 (tkD (tkD l (1 : Int)) (1 : Int)) (4 : Int)))) :
 Int)
 (bytesOfRows
 (tkR
 (tkD
 (tkD
 (tkD (tkD l (1 : Int)) (1 : Int)) (4 : Int))
 (2 : Int))
 (↑(leN
 (bytesOfRows
 (tkR
 (tkD
 (tkD (tkD l (1 : Int)) (1 : Int)) (4 : Int))
 (2 : Int)))) :
 Int))) =
 decE (bytesOfRows l) ∧
 [] = rowsOfBytes (decR (bytesOfRows l))
 else
 pre171
 (tkD
 (tkD
 (tkD (tkD (tkD l (1 : Int)) (1 : Int))
 (4 : Int))
 (2 : Int))
 (↑(leN
 (bytesOfRows
 (tkR
 (tkD
 (tkD (tkD l (1 : Int)) (1 : Int)) (4 : Int))
 (2 : Int)))) :
 Int)) ∧
 (↑(leN (bytesOfRows (tkR l (1 : Int)))) : Int) =
 (decI (bytesOfRows l)).k ∧
 (↑(leN
 (bytesOfRows (tkR (tkD l (1 : Int)) (1 : Int)))) :
 Int) =
 (decI (bytesOfRows l)).t ∧
 (↑(leN
 (bytesOfRows
 (tkR
 (tkD (tkD l (1 : Int)) (1 : Int)) (4 : Int)))) :
 Int) =
 (decI (bytesOfRows l)).c ∧
 bytesOfRows
 (tkR
 (tkD
 (tkD
 (tkD (tkD l (1 : Int)) (1 : Int)) (4 : Int))
 (2 : Int))
 (↑(leN
 (bytesOfRows
 (tkR
 (tkD
 (tkD (tkD l (1 : Int)) (1 : Int)) (4 : Int))
 (2 : Int)))) :
 Int)) =
 (decI (bytesOfRows l)).l ∧
 (0 : Int) = decE (bytesOfRows l) ∧
 tkD
 (tkD
 (tkD
 (tkD (tkD l (1 : Int)) (1 : Int)) (4 : Int))
 (2 : Int))
 (↑(leN
 (bytesOfRows
 (tkR
 (tkD
 (tkD (tkD l (1 : Int)) (1 : Int)) (4 : Int))
 (2 : Int)))) :
 Int) =
 rowsOfBytes (decR (bytesOfRows l))
theorem e129 : ct129.VC (base.with sp169) Tryz.f129.results.toList Tryz.f129.ntmps (Tryz.f129.ntmps - ct129.ps.length) (bodyOf Tryz.f129) noAnn = P129 := by kernel_rfl
noncomputable def sp129 : SpecT := addS sp169 129 (mkF ct129)
def P42 : Prop :=
 ∀ (l : List (List CD)),
 l.length ≤ (9223372036854775807 : Nat) →
 pre129 l →
 l.length ≤ (9223372036854775807 : Nat) →
 (bw false (decide ((↑l.length : Int) < (8 : Int))) = true → l.length ≤ (9223372036854775807 : Nat)) →
 ((!decide ((↑l.length : Int) < (8 : Int))) = true → (0 : Int) ≤ (6 : Int) ∧ (6 : Int) ≤ (8 : Int) ∧ (8 : Int) ≤ (↑l.length : Int)) ∧
 ((!decide ((↑l.length : Int) < (8 : Int))) = true → pre79 (List.drop (6 : Nat) (List.take (8 : Nat) l))) ∧
 ((!decide ((↑l.length : Int) < (8 : Int))) = true →
 (-9223372036854775808 : Int) ≤ (8 : Int) + (↑(leN (bytesOfRows (List.drop (6 : Nat) (List.take (8 : Nat) l)))) : Int) ∧
 (8 : Int) + (↑(leN (bytesOfRows (List.drop (6 : Nat) (List.take (8 : Nat) l)))) : Int) ≤
 (9223372036854775807 : Int)) ∧
 bif
 decide ((↑l.length : Int) < (8 : Int)) ||
 decide
 ((↑l.length : Int) < (8 : Int) + (↑(leN (bytesOfRows (List.drop (6 : Nat) (List.take (8 : Nat) l)))) : Int)) then
 (0 : Int) = (decI (bytesOfRows l)).k ∧
 (0 : Int) = (decI (bytesOfRows l)).t ∧
 (0 : Int) = (decI (bytesOfRows l)).c ∧
 [] = (decI (bytesOfRows l)).l ∧
 [] = rowsOfBytes (decR (bytesOfRows l)) ∧
 (2 : Int) = decE (bytesOfRows l)
 else
 ((0 : Int) ≤ (6 : Int) ∧ (6 : Int) ≤ (8 : Int) ∧ (8 : Int) ≤ (↑l.length : Int)) ∧
 pre79 (List.drop (6 : Nat) (List.take (8 : Nat) l)) ∧
 ((-9223372036854775808 : Int) ≤
 (8 : Int) + (↑(leN (bytesOfRows (List.drop (6 : Nat) (List.take (8 : Nat) l)))) : Int) ∧
 (8 : Int) + (↑(leN (bytesOfRows (List.drop (6 : Nat) (List.take (8 : Nat) l)))) : Int) ≤
 (9223372036854775807 : Int)) ∧
 ((0 : Int) ≤ (0 : Int) ∧ (0 : Int) < (↑l.length : Int)) ∧
 (0 : Nat) < l.length ∧
 ((0 : Int) ≤ (1 : Int) ∧ (1 : Int) < (↑l.length : Int)) ∧
 (1 : Nat) < l.length ∧
 ((0 : Int) ≤ (2 : Int) ∧ (2 : Int) ≤ (6 : Int) ∧ (6 : Int) ≤ (↑l.length : Int)) ∧
 pre79 (List.drop (2 : Nat) (List.take (6 : Nat) l)) ∧
 ((0 : Int) ≤ (8 : Int) ∧
 (8 : Int) ≤
 (8 : Int) + (↑(leN (bytesOfRows (List.drop (6 : Nat) (List.take (8 : Nat) l)))) : Int) ∧
 (8 : Int) + (↑(leN (bytesOfRows (List.drop (6 : Nat) (List.take (8 : Nat) l)))) : Int) ≤
 (↑l.length : Int)) ∧
 True ∧
 bif
 decide
 (chk (Go.IntKind.i64.wrap ((l.getD (0 : Nat) []).getD (0 : Nat) (CD.int (0 : Int))).toInt)
 (Go.IntKind.i64.wrap ((l.getD (1 : Nat) []).getD (0 : Nat) (CD.int (0 : Int))).toInt)
 (↑(leN (bytesOfRows (List.drop (2 : Nat) (List.take (6 : Nat) l)))) : Int)
 (bytesOfRows
 (List.drop (8 : Nat)
 (List.take
 ((8 : Int) +
 (↑(leN (bytesOfRows (List.drop (6 : Nat) (List.take (8 : Nat) l)))) :
 Int)).toNat
 l))) ≠
 (0 : Int)) then
 (0 : Int) = (decI (bytesOfRows l)).k ∧
 (0 : Int) = (decI (bytesOfRows l)).t ∧
 (0 : Int) = (decI (bytesOfRows l)).c ∧
 [] = (decI (bytesOfRows l)).l ∧
 [] = rowsOfBytes (decR (bytesOfRows l)) ∧
 chk
 (Go.IntKind.i64.wrap ((l.getD (0 : Nat) []).getD (0 : Nat) (CD.int (0 : Int))).toInt)
 (Go.IntKind.i64.wrap ((l.getD (1 : Nat) []).getD (0 : Nat) (CD.int (0 : Int))).toInt)
 (↑(leN (bytesOfRows (List.drop (2 : Nat) (List.take (6 : Nat) l)))) : Int)
 (bytesOfRows
 (List.drop (8 : Nat)
 (List.take
 ((8 : Int) +
 (↑(leN (bytesOfRows (List.drop (6 : Nat) (List.take (8 : Nat) l)))) :
 Int)).toNat
 l))) =
 decE (bytesOfRows l)
 else
 ((0 : Int) ≤
 (8 : Int) + (↑(leN (bytesOfRows (List.drop (6 : Nat) (List.take (8 : Nat) l)))) : Int) ∧
 (8 : Int) + (↑(leN (bytesOfRows (List.drop (6 : Nat) (List.take (8 : Nat) l)))) : Int) ≤
 (↑l.length : Int) ∧
 (↑l.length : Int) ≤ (↑l.length : Int)) ∧
 Go.IntKind.i64.wrap ((l.getD (0 : Nat) []).getD (0 : Nat) (CD.int (0 : Int))).toInt =
 (decI (bytesOfRows l)).k ∧
 Go.IntKind.i64.wrap ((l.getD (1 : Nat) []).getD (0 : Nat) (CD.int (0 : Int))).toInt =
 (decI (bytesOfRows l)).t ∧
 (↑(leN (bytesOfRows (List.drop (2 : Nat) (List.take (6 : Nat) l)))) : Int) =
 (decI (bytesOfRows l)).c ∧
 bytesOfRows
 (List.drop (8 : Nat)
 (List.take
 ((8 : Int) +
 (↑(leN (bytesOfRows (List.drop (6 : Nat) (List.take (8 : Nat) l)))) :
 Int)).toNat
 l)) =
 (decI (bytesOfRows l)).l ∧
 List.drop
 ((8 : Int) +
 (↑(leN (bytesOfRows (List.drop (6 : Nat) (List.take (8 : Nat) l)))) :
 Int)).toNat
 (List.take (↑l.length : Int).toNat l) =
 rowsOfBytes (decR (bytesOfRows l)) ∧
 (0 : Int) = decE (bytesOfRows l)
theorem e42 : ct42.VC (base.with sp129) Tryz.f42.results.toList Tryz.f42.ntmps (Tryz.f42.ntmps - ct42.ps.length) (bodyOf Tryz.f42) noAnn = P42 := by kernel_rfl
noncomputable def sp42 : SpecT := addS sp129 42 (mkF ct42)
end Go.Proofs.YteiecapbaeajdaaGreatDoor
namespace Go.Proofs.YteiecapbaeajdaaGreatDoor
open Go Go.Avc Go.Proofs
set_option linter.unusedVariables false
set_option linter.unusedSimpArgs false
set_option maxRecDepth 100000
theorem vc175 : P175 := by
  intro a b c l a' b' c' l' _ _ _
  simp [sameB]
theorem ok175 : SpecOk (base.with sp40) 175 (mkF ct175) := spec_ct (fn := Tryz.f175) (c := bodyOf Tryz.f175) (k := Tryz.f175.ntmps - ct175.ps.length) (ct := ct175) c40 Tryz.func175 (by kernel_rfl) noAnn (by kernel_rfl) (fun vs w _ => Tryz.call175 vs w) (by rw [e175]; exact vc175)
theorem c175 : (base.with sp175).Ok := addS_ok c40 ok175
theorem i64_max : IntKind.i64.max = 9223372036854775807 := by decide
theorem wrap_i64 {n : Int} (h0 : -9223372036854775808 ≤ n) (h : n ≤ 9223372036854775807) : IntKind.i64.wrap n = n := wrap_in .i64 n rfl ⟨h0, h⟩
theorem div_le {n : Int} (k : Nat) (h0 : 0 ≤ n) : 0 ≤ n / 256 ^ k ∧ n / 256 ^ k ≤ n := by
  have hp : (0 : Int) < 256 ^ k := Int.pow_pos (by decide)
  exact ⟨Int.ediv_nonneg h0 (Int.le_of_lt hp), Int.ediv_le_self _ h0⟩
theorem vc87 : P87 := by
  rintro n w ⟨hn, hn2, hw0, hw8⟩
  refine ⟨⟨⟨by simp, rfl, by omega, hw0, by simp [numB, rowsOfBytes]⟩, trivial⟩, ?_⟩
  rintro n' w' i out hout ⟨rfl, rfl, h0, h1, rfl⟩
  have hd := div_le (n := n) i.toNat hn
  refine condI (fun h => ?_) fun h => ?_
  · simp only [decide_eq_true_eq] at h
    rw [i64_max]
    simp only [rows_length, numB_length, List.length_cons, List.length_nil]
    refine ⟨⟨by omega, by omega⟩, ⟨by omega, by omega⟩, ⟨by omega, by omega, by omega⟩, ⟨by omega, by omega⟩, ⟨?_, rfl, by omega, by omega, ?_⟩, by omega⟩
    · rw [show (i + 1).toNat = i.toNat + 1 from by omega, Int.ediv_ediv_of_nonneg (Int.le_of_lt (Int.pow_pos (by decide))), Int.pow_succ]
    · rw [show (i + 1).toNat = i.toNat + 1 from by omega, numB_succ, rows_append, wrap_u8, Int.emod_emod_of_dvd _ (Int.dvd_refl 256), ← byteAt_toNat]
      rfl
  · simp only [decide_eq_false_iff_not] at h
    rw [show i = w' from by omega]
theorem ok87 : SpecOk (base.with sp175) 87 (mkF ct87) := spec_ct (fn := Tryz.f87) (c := bodyOf Tryz.f87) (k := Tryz.f87.ntmps - ct87.ps.length) (ct := ct87) c175 Tryz.func87 (by kernel_rfl) ann87 (by kernel_rfl) (fun vs w _ => Tryz.call87 vs w) (by rw [e87]; exact vc87)
theorem c87 : (base.with sp87).Ok := addS_ok c175 ok87
theorem vc47 : P47 := by
  intro a b c l hl _
  refine ⟨trivial, condI (fun h => ?_) fun h => ?_⟩
  · simp only [ne_eq, decide_not, Bool.not_eq_true', decide_eq_false_iff_not] at h
    exact ⟨rfl, by rw [encR, if_neg h]⟩
  · simp only [ne_eq, decide_not, Bool.not_eq_false', decide_eq_true_eq] at h
    obtain ⟨h1, h2, h3, h4, h5, h6, _, _, _, _, h7⟩ := chk_zero h
    simp only [List.length_append, rows_length, numB_length, pre87]
    refine ⟨⟨by omega, by omega, by omega, by omega⟩, ⟨by omega, by omega, by omega, by omega⟩, ⟨by omega, by omega⟩, ⟨by omega, by omega, by omega, by omega⟩, ⟨by omega, by omega⟩, ⟨by omega, by omega, by omega, by omega⟩, ⟨by omega, by omega⟩, ⟨by omega, by omega⟩, h.symm, ?_⟩
    rw [encR, if_pos h, encB]
    simp only [rows_append]
theorem ok47 : SpecOk (base.with sp87) 47 (mkF ct47) := spec_ct (fn := Tryz.f47) (c := bodyOf Tryz.f47) (k := Tryz.f47.ntmps - ct47.ps.length) (ct := ct47) c87 Tryz.func47 (by kernel_rfl) noAnn (by kernel_rfl) (fun vs w _ => Tryz.call47 vs w) (by rw [e47]; exact vc47)
theorem c47 : (base.with sp47).Ok := addS_ok c87 ok47
/-! ### Bytes in rows -/
theorem leN_lt (b : List UInt8) : leN b < 256 ^ b.length := by
  induction b with
  | nil => simp [leN]
  | cons x b ih =>
    have := x.toNat_lt
    simp only [leN, List.length_cons, Nat.pow_succ]
    omega
theorem rows_get (b : List UInt8) {i : Nat} (h : i < b.length) : (((rowsOfBytes b).getD i []).getD 0 (CD.int 0)).toInt = ((b.getD i 0).toNat : Int) := by
  simp [rowsOfBytes, h, CD.toInt]
theorem rows_drop (b : List UInt8) (n : Nat) : (rowsOfBytes b).drop n = rowsOfBytes (b.drop n) := by simp [rowsOfBytes]
theorem rows_take (b : List UInt8) (n : Nat) : (rowsOfBytes b).take n = rowsOfBytes (b.take n) := by simp [rowsOfBytes]
theorem isB_rows (b : List UInt8) : isB (rowsOfBytes b) := by unfold isB; rw [bytes_rows]
theorem isB_ex {l : List (List CD)} (h : isB l) : ∃ b, l = rowsOfBytes b := ⟨_, h⟩
theorem byte_wrap (x : UInt8) : IntKind.i64.wrap ((x.toNat : Int)) = (x.toNat : Int) := by
  have := x.toNat_lt
  exact wrap_i64 (by omega) (by omega)
theorem pow_le6 {n : Nat} (h : n ≤ 6) : 256 ^ n ≤ 281474976710656 := by
  have := Nat.pow_le_pow_right (show 0 < 256 by decide) h
  simpa using this
theorem getD_eq {b : List UInt8} {i : Nat} (h : i < b.length) : b.getD i 0 = b[i] := by simp [h]
theorem vc79 : P79 := by
  rintro l hl ⟨hB, h7⟩ _
  obtain ⟨b, rfl⟩ := isB_ex hB
  rw [rows_length] at *
  refine ⟨by omega, ⟨⟨rfl, by omega, by rw [rows_length]; omega, ?_⟩, trivial⟩, ?_⟩
  · rw [bytes_rows, show ((b.length : Int) - 1 + 1).toNat = b.length from by omega, List.drop_length]; rfl
  rintro l' n i hl' ⟨rfl, h0, h1, h2⟩
  rw [rows_length] at *
  rw [bytes_rows] at *
  refine condI (fun h => ?_) fun h => ?_
  · simp only [decide_eq_true_eq] at h
    have hlt : i.toNat < b.length := by omega
    rw [rows_get b hlt, byte_wrap, getD_eq hlt]
    have hx := b[i.toNat].toNat_lt
    have hn := leN_lt (b.drop (i + 1).toNat)
    have hp := pow_le6 (n := (b.drop (i + 1).toNat).length) (by rw [List.length_drop]; omega)
    have hd : b.drop i.toNat = b[i.toNat] :: b.drop (i + 1).toNat := by
      rw [show (i + 1).toNat = i.toNat + 1 from by omega]
      exact List.drop_eq_getElem_cons hlt
    refine ⟨by omega, ⟨by omega, by omega⟩, hlt, by omega, by omega, ⟨rfl, by omega, by rw [rows_length]; omega, ?_⟩, by omega⟩
    rw [bytes_rows, show (i - 1 + 1).toNat = i.toNat from by omega, hd, leN, h2]
    omega
  · simp only [decide_eq_false_iff_not] at h
    rw [h2, show (i + 1).toNat = 0 from by omega, List.drop_zero]
theorem ok79 : SpecOk (base.with sp47) 79 (mkF ct79) := spec_ct (fn := Tryz.f79) (c := bodyOf Tryz.f79) (k := Tryz.f79.ntmps - ct79.ps.length) (ct := ct79) c47 Tryz.func79 (by kernel_rfl) ann79 (by kernel_rfl) (fun vs w _ => Tryz.call79 vs w) (by rw [e79]; exact vc79)
theorem c79 : (base.with sp79).Ok := addS_ok c47 ok79
theorem vc171 : P171 := by
  intro l hl hp β hβ
  unfold pre171 at hp
  refine condI (fun h => (hβ h).symm) fun h => ⟨⟨by omega, by omega⟩, rfl⟩
theorem ok171 : SpecOk (base.with sp79) 171 (mkF ct171) := spec_ct (fn := Tryz.f171) (c := bodyOf Tryz.f171) (k := Tryz.f171.ntmps - ct171.ps.length) (ct := ct171) c79 Tryz.func171 (by kernel_rfl) noAnn (by kernel_rfl) (fun vs w _ => Tryz.call171 vs w) (by rw [e171]; exact vc171)
theorem c171 : (base.with sp171).Ok := addS_ok c79 ok171
theorem vc170 : P170 := by
  intro n l b hl hp _
  unfold pre170 at hp
  refine condI (fun h => ?_) fun h => ?_
  · simp only [decide_eq_true_eq] at h
    simp only [tkR, tkD, tkS, if_pos h, decide_eq_true h]
    refine ⟨by omega, by omega, by simp, by simp, rfl⟩
  · simp only [decide_eq_false_iff_not] at h
    simp only [tkR, tkD, tkS, if_neg h, decide_eq_false h]
    refine ⟨by omega, by omega, by simp, by simp, rfl⟩
theorem ok170 : SpecOk (base.with sp171) 170 (mkF ct170) := spec_ct (fn := Tryz.f170) (c := bodyOf Tryz.f170) (k := Tryz.f170.ntmps - ct170.ps.length) (ct := ct170) c171 Tryz.func170 (by kernel_rfl) noAnn (by kernel_rfl) (fun vs w _ => Tryz.call170 vs w) (by rw [e170]; exact vc170)
theorem c170 : (base.with sp170).Ok := addS_ok c171 ok170
theorem pow_cast (i : Nat) : ((256 ^ i : Nat) : Int) = (256 : Int) ^ i := by rw [Int.natCast_pow]; rfl
theorem or_add {a x i : Nat} (ha : a < 256 ^ i) (hx : x < 256) (hi : i < 7) : bOr .i64 (a : Int) (bShl .i64 (x : Int) (8 * (i : Int))) = ((a + x * 256 ^ i : Nat) : Int) := by
  have hp := pow_le6 (n := i) (by omega)
  have hxp : x * 256 ^ i ≤ 255 * 281474976710656 := Nat.mul_le_mul (by omega) hp
  have e1 : bShl .i64 (x : Int) (8 * (i : Int)) = ((x * 256 ^ i : Nat) : Int) := by
    unfold bShl
    have : min (8 * (i : Int)).toNat (IntKind.bits .i64) = 8 * i := by
      show min (8 * (i : Int)).toNat 64 = 8 * i
      omega
    rw [this, Int.pow_mul, show (2 : Int) ^ 8 = 256 from by decide, ← pow_cast, ← Int.natCast_mul]
    exact wrap_i64 (by omega) (by omega)
  rw [e1]
  unfold bOr
  have e3 : (BitVec.ofInt (IntKind.bits .i64) (a : Int) ||| BitVec.ofInt (IntKind.bits .i64) ((x * 256 ^ i : Nat) : Int)).toNat = a + x * 256 ^ i := by
    rw [BitVec.ofInt_natCast, BitVec.ofInt_natCast, BitVec.toNat_or, BitVec.toNat_ofNat, BitVec.toNat_ofNat]
    rw [show 2 ^ IntKind.bits .i64 = 18446744073709551616 from by decide, Nat.mod_eq_of_lt (by omega), Nat.mod_eq_of_lt (by omega)]
    have h8 : 256 ^ i = 2 ^ (8 * i) := by rw [Nat.pow_mul]
    rw [h8] at ha ⊢
    rw [Nat.or_comm, ← Nat.shiftLeft_eq, ← Nat.shiftLeft_add_eq_or_of_lt ha]
    omega
  rw [e3]
  exact wrap_i64 (by omega) (by omega)
theorem leN_snoc (b : List UInt8) (x : UInt8) : leN (b ++ [x]) = leN b + x.toNat * 256 ^ b.length := by
  induction b with
  | nil => simp [leN]
  | cons y b ih => simp only [List.cons_append, leN, ih, List.length_cons, Nat.pow_succ]; rw [Nat.mul_add, Nat.add_assoc, Nat.mul_left_comm, Nat.mul_comm 256 (256 ^ b.length)]
def tkRb (b : List UInt8) (n : Int) : List UInt8 := if (b.length : Int) < n then [] else b.take n.toNat
def tkDb (b : List UInt8) (n : Int) : List UInt8 := if (b.length : Int) < n then b else b.drop n.toNat
theorem tkR_rows (b : List UInt8) (n : Int) : tkR (rowsOfBytes b) n = rowsOfBytes (tkRb b n) := by
  unfold tkR tkRb
  rw [rows_length]
  split
  · rfl
  · rw [rows_take]
theorem tkD_rows (b : List UInt8) (n : Int) : tkD (rowsOfBytes b) n = rowsOfBytes (tkDb b n) := by
  unfold tkD tkDb
  rw [rows_length]
  split
  · rfl
  · rw [rows_drop]
theorem tkRb_le (b : List UInt8) (n : Int) (h : 0 ≤ n) : (tkRb b n).length ≤ n.toNat := by
  unfold tkRb
  split
  · simp
  · rw [List.length_take]; omega
theorem vc169 : P169 := by
  rintro n l sh hl ⟨h0, h7, hB⟩
  obtain ⟨b, rfl⟩ := isB_ex hB
  refine ⟨h0, fun _ => ⟨⟨⟨rfl, rfl, by omega, by omega, rfl, rfl, by simp [leN]⟩, trivial⟩, ?_⟩⟩
  rintro n' tk m i rest sh' htk ⟨rfl, rfl, h0', h1, rfl, rfl, h2⟩
  rw [tkR_rows, rows_length] at *
  rw [bytes_rows] at *
  have hle := tkRb_le b n h0
  generalize ht : tkRb b n = t at *
  refine condI (fun h => ?_) fun h => ?_
  · simp only [decide_eq_true_eq] at h
    have hlt : i.toNat < t.length := by omega
    rw [rows_get t hlt, byte_wrap, getD_eq hlt]
    have hx := t[i.toNat].toNat_lt
    have hn := leN_lt (t.take i.toNat)
    rw [List.length_take, Nat.min_eq_left (by omega)] at hn
    have e := or_add hn hx (by omega)
    rw [h2, show (8 : Int) * i = 8 * ((i.toNat : Nat) : Int) from by omega, e]
    refine ⟨⟨by omega, by omega⟩, hlt, by omega, by omega, by omega, ⟨by rw [tkR_rows, ht], by rw [rows_length], by omega, by omega, rfl, rfl, ?_⟩, by omega⟩
    rw [bytes_rows, show (i + 1).toNat = i.toNat + 1 from by omega, List.take_add_one, List.getElem?_eq_getElem hlt]
    simp only [Option.toList_some]
    rw [leN_snoc, List.length_take, Nat.min_eq_left (by omega)]
  · simp only [decide_eq_false_iff_not] at h
    refine ⟨?_, rfl, rfl⟩
    rw [h2, List.take_of_length_le (by omega)]
theorem ok169 : SpecOk (base.with sp170) 169 (mkF ct169) := spec_ct (fn := Tryz.f169) (c := bodyOf Tryz.f169) (k := Tryz.f169.ntmps - ct169.ps.length) (ct := ct169) c170 Tryz.func169 (by kernel_rfl) ann169 (by kernel_rfl) (fun vs w _ => Tryz.call169 vs w) (by rw [e169]; exact vc169)
theorem c169 : (base.with sp169).Ok := addS_ok c170 ok169
/-! ### Decode -/
def tkSb (b : List UInt8) (n : Int) (sh : Bool) : Bool := decide ((b.length : Int) < n) || sh
theorem tkS_rows (b : List UInt8) (n : Int) (sh : Bool) : tkS (rowsOfBytes b) n sh = tkSb b n sh := by unfold tkS tkSb; rw [rows_length]
theorem tkSb_true (b : List UInt8) (n : Int) : tkSb b n true = true := by simp [tkSb]
theorem tkDb_ge {b : List UInt8} {n : Nat} (h : n ≤ b.length) : tkDb b n = b.drop n := by
  unfold tkDb; rw [if_neg (by omega)]; simp
theorem tkRb_ge {b : List UInt8} {n : Nat} (h : n ≤ b.length) : tkRb b n = b.take n := by
  unfold tkRb; rw [if_neg (by omega)]; simp
theorem tkSb_lt {b : List UInt8} {n : Int} {sh : Bool} (h : (b.length : Int) < n) : tkSb b n sh = true := by simp [tkSb, h]
theorem tkSb_ge {b : List UInt8} {n : Int} {sh : Bool} (h : n ≤ (b.length : Int)) : tkSb b n sh = sh := by
  unfold tkSb; rw [decide_eq_false (by omega)]; rfl
/-- Whether bytes are too short for an item. -/
def shortB (b : List UInt8) : Bool :=
  tkSb (tkDb (tkDb (tkDb (tkDb b 1) 1) 4) 2) (leN (tkRb (tkDb (tkDb (tkDb b 1) 1) 4) 2) : Int) (tkSb (tkDb (tkDb (tkDb b 1) 1) 4) 2 (tkSb (tkDb (tkDb b 1) 1) 4 (tkSb (tkDb b 1) 1 (tkSb b 1 false))))
theorem dec_long {b : List UInt8} (h : 8 ≤ b.length) : tkDb b 1 = b.drop 1 ∧ tkDb (b.drop 1) 1 = b.drop 2 ∧ tkDb (b.drop 2) 4 = b.drop 6 ∧ tkDb (b.drop 6) 2 = b.drop 8 ∧
    tkRb b 1 = b.take 1 ∧ tkRb (b.drop 1) 1 = (b.drop 1).take 1 ∧ tkRb (b.drop 2) 4 = (b.drop 2).take 4 ∧ tkRb (b.drop 6) 2 = (b.drop 6).take 2 := by
  have d1 := tkDb_ge (b := b) (n := 1) (by omega)
  have d2 := tkDb_ge (b := b.drop 1) (n := 1) (by rw [List.length_drop]; omega)
  have d3 := tkDb_ge (b := b.drop 2) (n := 4) (by rw [List.length_drop]; omega)
  have d4 := tkDb_ge (b := b.drop 6) (n := 2) (by rw [List.length_drop]; omega)
  have r1 := tkRb_ge (b := b) (n := 1) (by omega)
  have r2 := tkRb_ge (b := b.drop 1) (n := 1) (by rw [List.length_drop]; omega)
  have r3 := tkRb_ge (b := b.drop 2) (n := 4) (by rw [List.length_drop]; omega)
  have r4 := tkRb_ge (b := b.drop 6) (n := 2) (by rw [List.length_drop]; omega)
  simp only [List.drop_drop] at d1 d2 d3 d4
  exact ⟨d1, d2, d3, d4, r1, r2, r3, r4⟩
theorem shortB_eq (b : List UInt8) : shortB b = decide (b.length < 8 ∨ b.length < 8 + leN ((b.drop 6).take 2)) := by
  unfold shortB
  rcases Nat.lt_or_ge b.length 8 with h | h
  · rw [decide_eq_true (.inl h)]
    rcases Nat.lt_or_ge b.length 1 with h1 | h1
    · rw [tkSb_lt (b := b) (by omega)]; simp only [tkSb_true]
    have d1 : tkDb b 1 = b.drop 1 := tkDb_ge (b := b) (n := 1) (by omega)
    rw [d1]
    rcases Nat.lt_or_ge b.length 2 with h2 | h2
    · rw [tkSb_lt (b := b.drop 1) (by rw [List.length_drop]; omega)]; simp only [tkSb_true]
    have d2 : tkDb (b.drop 1) 1 = b.drop 2 := by
      have := tkDb_ge (b := b.drop 1) (n := 1) (by rw [List.length_drop]; omega)
      rw [List.drop_drop] at this
      exact this
    rw [d2]
    rcases Nat.lt_or_ge b.length 6 with h3 | h3
    · rw [tkSb_lt (b := b.drop 2) (by rw [List.length_drop]; omega)]; simp only [tkSb_true]
    have d3 : tkDb (b.drop 2) 4 = b.drop 6 := by
      have := tkDb_ge (b := b.drop 2) (n := 4) (by rw [List.length_drop]; omega)
      rw [List.drop_drop] at this
      exact this
    rw [d3, tkSb_lt (b := b.drop 6) (by rw [List.length_drop]; omega)]
    simp only [tkSb_true]
  · obtain ⟨d1, d2, d3, d4, r1, r2, r3, r4⟩ := dec_long h
    rw [d1, d2, d3, d4, r4, tkSb_ge (b := b) (by omega), tkSb_ge (b := b.drop 1) (by rw [List.length_drop]; omega), tkSb_ge (b := b.drop 2) (by rw [List.length_drop]; omega), tkSb_ge (b := b.drop 6) (by rw [List.length_drop]; omega)]
    unfold tkSb
    rw [Bool.or_false, decide_eq_decide, List.length_drop]
    omega
theorem vc129 : P129 := by
  rintro l hl ⟨hB, hlen⟩
  obtain ⟨b, rfl⟩ := isB_ex hB
  simp only [tkD_rows, tkR_rows, tkS_rows, bytes_rows, rows_length] at *
  refine ⟨⟨by omega, by omega, isB_rows _⟩, ⟨by omega, by omega, isB_rows _⟩, ⟨by omega, by omega, isB_rows _⟩, ⟨by omega, by omega, isB_rows _⟩, by unfold pre170; omega, condI (fun h => ?_) fun h => ⟨trivial, ?_⟩⟩
  · have hs : shortB b = true := h
    rw [shortB_eq, decide_eq_true_eq] at hs
    have he : decE b = 2 := by unfold decE; rw [if_pos hs]
    unfold decI decR
    rw [he, if_neg (by decide), if_neg (by decide)]
    exact ⟨rfl, rfl, rfl, rfl, rfl, rfl⟩
  · have hs : shortB b = false := h
    rw [shortB_eq, decide_eq_false_iff_not] at hs
    have h8 : 8 ≤ b.length := by omega
    obtain ⟨d1, d2, d3, d4, r1, r2, r3, r4⟩ := dec_long h8
    rw [d1, d2, d3, d4, r1, r2, r3, r4]
    have r5 : tkRb (b.drop 8) (leN ((b.drop 6).take 2) : Int) = (b.drop 8).take (leN ((b.drop 6).take 2)) := tkRb_ge (by rw [List.length_drop]; omega)
    have d5 : tkDb (b.drop 8) (leN ((b.drop 6).take 2) : Int) = b.drop (8 + leN ((b.drop 6).take 2)) := by
      rw [tkDb_ge (by rw [List.length_drop]; omega), List.drop_drop]
    rw [r5, d5]
    have he : decE b = chk (leN (b.take 1)) (leN ((b.drop 1).take 1)) (leN ((b.drop 2).take 4)) ((b.drop 8).take (leN ((b.drop 6).take 2))) := by
      unfold decE; rw [if_neg hs]; rfl
    refine condI (fun h => ?_) fun h => ?_
    · simp only [ne_eq, decide_not, Bool.not_eq_true', decide_eq_false_iff_not] at h
      unfold decI decR
      rw [he, if_neg h, if_neg h]
      exact ⟨rfl, rfl, rfl, rfl, rfl, rfl⟩
    · simp only [ne_eq, decide_not, Bool.not_eq_false', decide_eq_true_eq] at h
      unfold decI decR
      rw [he, if_pos h, if_pos h]
      refine ⟨?_, rfl, rfl, rfl, rfl, h.symm, rfl⟩
      unfold pre171
      rw [rows_length, List.length_drop]; omega
theorem ok129 : SpecOk (base.with sp169) 129 (mkF ct129) := spec_ct (fn := Tryz.f129) (c := bodyOf Tryz.f129) (k := Tryz.f129.ntmps - ct129.ps.length) (ct := ct129) c169 Tryz.func129 (by kernel_rfl) noAnn (by kernel_rfl) (fun vs w _ => Tryz.call129 vs w) (by rw [e129]; exact vc129)
theorem c129 : (base.with sp129).Ok := addS_ok c169 ok129
theorem drop_take' (b : List UInt8) (i j : Nat) : (b.take (i + j)).drop i = (b.drop i).take j := by
  rw [List.drop_take]; congr 1; omega
theorem leN_one {b : List UInt8} {i : Nat} (h : i < b.length) : leN ((b.drop i).take 1) = (b.getD i 0).toNat := by
  rw [List.drop_eq_getElem_cons h, List.take_succ_cons, List.take_zero, getD_eq h]
  simp only [leN]
  omega
theorem vc42 : P42 := by
  rintro l hl ⟨hB, hlen⟩ _ _
  obtain ⟨b, rfl⟩ := isB_ex hB
  have e6 : (b.take 8).drop 6 = (b.drop 6).take 2 := drop_take' b 6 2
  have e2 : (b.take 6).drop 2 = (b.drop 2).take 4 := drop_take' b 2 4
  simp only [rows_take, rows_drop, bytes_rows, rows_length, e6, e2] at *
  have hm := leN_lt ((b.drop 6).take 2)
  have hm2 : leN ((b.drop 6).take 2) < 65536 := by
    refine Nat.lt_of_lt_of_le hm ?_
    have := Nat.pow_le_pow_right (show 0 < 256 by decide) (show ((b.drop 6).take 2).length ≤ 2 by rw [List.length_take]; omega)
    simpa using this
  refine ⟨fun h => ?_, fun h => ⟨isB_rows _, by rw [rows_length, List.length_take]; omega⟩, fun h => by omega, condI (fun h => ?_) fun h => ?_⟩
  · simp only [Bool.not_eq_true', decide_eq_false_iff_not] at h; omega
  · simp only [Bool.or_eq_true, decide_eq_true_eq] at h
    have he : decE b = 2 := by unfold decE; rw [if_pos (by omega)]
    unfold decI decR
    rw [he, if_neg (by decide), if_neg (by decide)]
    exact ⟨rfl, rfl, rfl, rfl, rfl, rfl⟩
  · simp only [Bool.or_eq_false_iff, decide_eq_false_iff_not] at h
    have h8 : 8 ≤ b.length := by omega
    have hs : ¬ (b.length < 8 ∨ b.length < 8 + leN ((b.drop 6).take 2)) := by omega
    have e8 : ((8 : Int) + (leN ((b.drop 6).take 2) : Int)).toNat = 8 + leN ((b.drop 6).take 2) := by omega
    have g0 := rows_get b (i := 0) (by omega)
    have g1 := rows_get b (i := 1) (by omega)
    have n0 := leN_one (b := b) (i := 0) (by omega)
    have n1 := leN_one (b := b) (i := 1) (by omega)
    rw [List.drop_zero] at n0
    rw [g0, g1, byte_wrap, byte_wrap, e8, drop_take', ← n0, ← n1]
    have he : decE b = chk (leN (b.take 1)) (leN ((b.drop 1).take 1)) (leN ((b.drop 2).take 4)) ((b.drop 8).take (leN ((b.drop 6).take 2))) := by
      unfold decE; rw [if_neg hs]; rfl
    refine ⟨by omega, ⟨isB_rows _, by rw [rows_length, List.length_take]; omega⟩, by omega, by omega, by omega, by omega, by omega, by omega, ⟨isB_rows _, by rw [rows_length, List.length_take]; omega⟩, by omega, trivial, condI (fun h => ?_) fun h => ?_⟩
    · simp only [ne_eq, decide_not, Bool.not_eq_true', decide_eq_false_iff_not] at h
      unfold decI decR
      rw [he, if_neg h, if_neg h]
      exact ⟨rfl, rfl, rfl, rfl, rfl, rfl⟩
    · simp only [ne_eq, decide_not, Bool.not_eq_false', decide_eq_true_eq] at h
      unfold decI decR
      rw [he, if_pos h, if_pos h]
      refine ⟨by omega, rfl, rfl, rfl, rfl, ?_, h.symm⟩
      rw [Int.toNat_natCast, List.take_length]
theorem ok42 : SpecOk (base.with sp129) 42 (mkF ct42) := spec_ct (fn := Tryz.f42) (c := bodyOf Tryz.f42) (k := Tryz.f42.ntmps - ct42.ps.length) (ct := ct42) c129 Tryz.func42 (by kernel_rfl) noAnn (by kernel_rfl) (fun vs w _ => Tryz.call42 vs w) (by rw [e42]; exact vc42)
theorem c42 : (base.with sp42).Ok := addS_ok c129 ok42
end Go.Proofs.YteiecapbaeajdaaGreatDoor
namespace Go.Proofs.YteiecapbaeajdaaGreatDoor
open Go Go.Avc Go.Proofs
set_option linter.unusedVariables false
set_option linter.unusedSimpArgs false
set_option maxRecDepth 100000
/-! ### Numbers and bytes -/
theorem byteAt_nat (n i : Nat) : (byteAt (n : Int) i).toNat = n / 256 ^ i % 256 := by
  have := byteAt_toNat (n : Int) i
  rw [← pow_cast] at this
  have h2 : ((n : Int) / ((256 ^ i : Nat) : Int) % 256) = ((n / 256 ^ i % 256 : Nat) : Int) := by
    rw [Int.natCast_emod, Int.natCast_ediv]; rfl
  rw [h2] at this
  exact Int.ofNat.inj this
theorem leN_numB (n w : Nat) : leN (numB (n : Int) w) = n % 256 ^ w := by
  induction w with
  | zero => simp [numB, leN, Nat.mod_one]
  | succ w ih => rw [numB_succ, leN_snoc, ih, numB_length, byteAt_nat, Nat.mod_pow_succ, Nat.mul_comm]
theorem numB_cons (n w : Nat) : numB (n : Int) (w + 1) = byteAt (n : Int) 0 :: numB ((n / 256 : Nat) : Int) w := by
  simp only [numB, List.range_succ_eq_map, List.map_cons, List.map_map]
  congr 1
  refine List.map_congr_left fun i _ => ?_
  apply UInt8.toNat_inj.1
  simp only [Function.comp_apply]
  rw [byteAt_nat, byteAt_nat, Nat.div_div_eq_div_mul, Nat.pow_succ, Nat.mul_comm]
theorem numB_leN (b : List UInt8) : numB (leN b : Int) b.length = b := by
  induction b with
  | nil => rfl
  | cons x b ih =>
    have hx := x.toNat_lt
    rw [List.length_cons, numB_cons]
    congr 1
    · apply UInt8.toNat_inj.1
      rw [byteAt_nat, leN]; omega
    · rw [show leN (x :: b) / 256 = leN b from by rw [leN]; omega, ih]
/-- What was encoded is decoded. -/
theorem dec_enc {a b c : Int} {l : List UInt8} (h : chk a b c l = 0) (more : List UInt8) : decE (encB a b c l ++ more) = 0 ∧ decX (encB a b c l ++ more) = ⟨a, b, c, l⟩ ∧ (encB a b c l ++ more).drop (8 + leN (((encB a b c l ++ more).drop 6).take 2)) = more := by
  obtain ⟨h1, h2, h3, h4, h5, h6, _, _, _, _, h7⟩ := chk_zero h
  obtain ⟨a, rfl⟩ : ∃ n : Nat, a = n := ⟨a.toNat, by omega⟩
  obtain ⟨b, rfl⟩ : ∃ n : Nat, b = n := ⟨b.toNat, by omega⟩
  obtain ⟨c, rfl⟩ : ∃ n : Nat, c = n := ⟨c.toNat, by omega⟩
  have e1 : ((encB a b c l ++ more).drop 6).take 2 = numB l.length 2 := rfl
  have e2 : (encB a b c l ++ more).take 1 = numB a 1 := rfl
  have e3 : ((encB a b c l ++ more).drop 1).take 1 = numB b 1 := rfl
  have e4 : ((encB a b c l ++ more).drop 2).take 4 = numB c 4 := rfl
  have e5 : (encB a b c l ++ more).drop 8 = l ++ more := rfl
  have m1 : leN (numB l.length 2) = l.length := by rw [leN_numB]; exact Nat.mod_eq_of_lt (by omega)
  have m2 : leN (numB a 1) = a := by rw [leN_numB]; exact Nat.mod_eq_of_lt (by omega)
  have m3 : leN (numB b 1) = b := by rw [leN_numB]; exact Nat.mod_eq_of_lt (by omega)
  have m4 : leN (numB c 4) = c := by rw [leN_numB]; exact Nat.mod_eq_of_lt (by omega)
  have eX : decX (encB a b c l ++ more) = ⟨a, b, c, l⟩ := by
    unfold decX
    rw [e1, e2, e3, e4, e5, m1, m2, m3, m4, List.take_left']
    rfl
  refine ⟨?_, eX, ?_⟩
  · unfold decE
    rw [eX, e1, m1, if_neg]
    · exact h
    · simp only [encB, List.length_append, numB_length]; omega
  · rw [e1, m1, ← List.drop_drop, e5, List.drop_left']
    rfl
/-- What was decoded is encoded. -/
theorem enc_dec {b : List UInt8} (h : decE b = 0) : chk (decX b).k (decX b).t (decX b).c (decX b).l = 0 ∧ encB (decX b).k (decX b).t (decX b).c (decX b).l ++ b.drop (8 + leN ((b.drop 6).take 2)) = b := by
  unfold decE at h
  split at h
  · cases h
  · rename_i hs
    refine ⟨h, ?_⟩
    have t1 : (b.take 1).length = 1 := by rw [List.length_take]; omega
    have t2 : ((b.drop 1).take 1).length = 1 := by rw [List.length_take, List.length_drop]; omega
    have t3 : ((b.drop 2).take 4).length = 4 := by rw [List.length_take, List.length_drop]; omega
    have t4 : ((b.drop 6).take 2).length = 2 := by rw [List.length_take, List.length_drop]; omega
    have t5 : ((b.drop 8).take (leN ((b.drop 6).take 2))).length = leN ((b.drop 6).take 2) := by rw [List.length_take, List.length_drop]; omega
    have n1 := numB_leN (b.take 1)
    have n2 := numB_leN ((b.drop 1).take 1)
    have n3 := numB_leN ((b.drop 2).take 4)
    have n4 := numB_leN ((b.drop 6).take 2)
    rw [t1] at n1; rw [t2] at n2; rw [t3] at n3; rw [t4] at n4
    simp only [encB, decX, t5]
    rw [n1, n2, n3, n4]
    have d1 : b.drop 1 = (b.drop 1).take 1 ++ b.drop 2 := by
      have := (List.take_append_drop 1 (b.drop 1)).symm; rwa [List.drop_drop] at this
    have d2 : b.drop 2 = (b.drop 2).take 4 ++ b.drop 6 := by
      have := (List.take_append_drop 4 (b.drop 2)).symm; rwa [List.drop_drop] at this
    have d3 : b.drop 6 = (b.drop 6).take 2 ++ b.drop 8 := by
      have := (List.take_append_drop 2 (b.drop 6)).symm; rwa [List.drop_drop] at this
    have d4 : b.drop 8 = (b.drop 8).take (leN ((b.drop 6).take 2)) ++ b.drop (8 + leN ((b.drop 6).take 2)) := by
      have := (List.take_append_drop (leN ((b.drop 6).take 2)) (b.drop 8)).symm; rwa [List.drop_drop] at this
    simp only [List.append_assoc]
    rw [← d4, ← d3, ← d2, ← d1, List.take_append_drop]
theorem encR_ok {a b c : Int} {l : List UInt8} (h : chk a b c l = 0) : encR a b c l = rowsOfBytes (encB a b c l) := if_pos h
end Go.Proofs.YteiecapbaeajdaaGreatDoor
namespace Go.Proofs.YteiecapbaeajdaaGreatDoor
open Go.Avc
set_option linter.unusedVariables false
/-! ### Lists and bytes -/
/-- Reading at most n items from bytes; what is read already; what is found: the items, where it fails, why. -/
def prsA : Nat → List It → List UInt8 → List It × Int × Int
  | 0, acc, b => if b.length = 0 then (acc, -1, 0) else ([], acc.length, 9)
  | n + 1, acc, b => if b.length = 0 then (acc, -1, 0) else if decE b = 0 then prsA n (acc ++ [decX b]) (decR b) else ([], acc.length, decE b)
def prs (b : List UInt8) : List It × Int × Int := prsA 1024 [] b
def encIt (x : It) : List UInt8 := encB x.k x.t x.c x.l
def chkIt (x : It) : Int := chk x.k x.t x.c x.l
/-- Writing items behind i items whose bytes are written. -/
def serA : Nat → List UInt8 → List It → List UInt8 × Int × Int
  | _, acc, [] => (acc, -1, 0)
  | i, acc, x :: l => if i = 1024 then ([], i, 9) else if chkIt x = 0 then serA (i + 1) (acc ++ encIt x) l else ([], i, chkIt x)
def ser (l : List It) : List UInt8 × Int × Int := serA 0 [] l
def sameIt (x y : It) : Bool := sameB x.k x.t x.c y.k y.t y.c
/-- y begins x, labels apart. -/
def prefIt : List It → List It → Bool
  | _, [] => true
  | [], _ :: _ => false
  | x :: l, y :: m => sameIt x y && prefIt l m
/-! ### Contracts -/
def ct80 : Ct := { ps := [.rd u8E], bs := [], pre := fun | [.r l] => pre129 l | _ => False, res := fun | [.r l] => .ret (.tup [.own 0, i64, i64]) [.own 116 itemE] [.i (prs (bytesOfRows l)).2.1, .i (prs (bytesOfRows l)).2.2, .r (rowsIt (prs (bytesOfRows l)).1)] | _ => noRes }
def R80 (l l' : List (List CD)) (i : Int) (acc : List (List CD)) : Prop := pre129 l' ∧ 0 ≤ i ∧ i ≤ 1024 ∧ i = acc.length ∧ acc = rowsIt (itsOf acc) ∧ prs (bytesOfRows l) = prsA (1024 - acc.length) (itsOf acc) (bytesOfRows l')
def ann80 : List Dat → Ann
  | [.r l] => { cut := [], loop := [(3, [la 34 [(0, .rd u8E), (5, .own 0), (6, i64)] [.own 116 itemE] (fun | [.r l', .i i, .r acc] => R80 l l' i acc | _ => False) (fun | [_, .i i, _] => (1025 - i).toNat | _ => 0)])] }
  | _ => { cut := [], loop := [] }
def ct20 : Ct := { ps := [.rd u8E], bs := [], pre := fun | [.r l] => pre129 l | _ => False, res := fun | [.r l] => .ret (.tup [.own 0, i64, i64]) [.own 65 itemE] [.i (prs (bytesOfRows l)).2.1, .i (prs (bytesOfRows l)).2.2, .r (rowsIt (prs (bytesOfRows l)).1)] | _ => noRes }
def R20 (l l' acc : List (List CD)) : Prop := pre129 l' ∧ acc.length ≤ 1024 ∧ acc = rowsIt (itsOf acc) ∧ prs (bytesOfRows l) = prsA (1024 - acc.length) (itsOf acc) (bytesOfRows l')
def ann20 : List Dat → Ann
  | [.r l] => { cut := [], loop := [(2, [la 35 [(0, .rd u8E), (5, .own 0)] [.own 65 itemE] (fun | [.r l', .r acc] => R20 l l' acc | _ => False) (fun | [_, .r acc] => 1025 - acc.length | _ => 0)])] }
  | _ => { cut := [], loop := [] }
def ct19 : Ct := { ps := [.rd itemE, .rd itemE], bs := [], pre := fun _ => True, res := fun | [.r x, .r y] => .ret .bool [] [.b (decide (itsOf x = itsOf y))] | _ => noRes }
def R19 (x y x' y' : List (List CD)) (i : Int) : Prop := x' = x ∧ y' = y ∧ x.length = y.length ∧ 0 ≤ i ∧ i ≤ x.length ∧ (itsOf x).take i.toNat = (itsOf y).take i.toNat
def ann19 : List Dat → Ann
  | [.r x, .r y] => { cut := [], loop := [(4, [la 26 [(0, .rd itemE), (1, .rd itemE), (5, i64)] [] (fun | [.r x', .r y', .i i] => R19 x y x' y' i | _ => False) (fun | [.r x', _, .i i] => (x'.length - i).toNat | _ => 0)])] }
  | _ => { cut := [], loop := [] }
def preL (l : List (List CD)) : Prop := l.length ≤ 100000000
def ct17 : Ct := { ps := [.rd itemE], bs := [], pre := fun | [.r l] => preL l | _ => False, res := fun | [.r l] => .ret (.tup [.own 0, i64, i64]) [.own 5 u8E] [.i (ser (itsOf l)).2.1, .i (ser (itsOf l)).2.2, .r (rowsOfBytes (ser (itsOf l)).1)] | _ => noRes }
def R17 (l acc l' : List (List CD)) (n i : Int) : Prop := l' = l ∧ n = l.length ∧ 0 ≤ i ∧ i ≤ n ∧ i ≤ 1024 ∧ acc.length ≤ 263 * i ∧ isB acc ∧ ser (itsOf l) = serA i.toNat (bytesOfRows acc) ((itsOf l).drop i.toNat)
def ann17 : List Dat → Ann
  | [.r l] => { cut := [], loop := [(3, [la 34 [(5, .own 0), (10, .rd itemE), (11, i64), (12, i64)] [.own 5 u8E] (fun | [.r l', .i n, .i i, .r acc] => R17 l acc l' n i | _ => False) (fun | [_, .i n, .i i, _] => (n - i).toNat | _ => 0)])] }
  | _ => { cut := [], loop := [] }
def ct22 : Ct := { ps := [.rd itemE], bs := [], pre := fun | [.r l] => preL l | _ => False, res := fun | [.r l] => .ret (.tup [.own 0, i64, i64]) [.own 5 u8E] [.i (ser (itsOf l)).2.1, .i (ser (itsOf l)).2.2, .r (rowsOfBytes (ser (itsOf l)).1)] | _ => noRes }
def ann22 : List Dat → Ann
  | [.r l] => { cut := [], loop := [(3, [la 35 [(0, .rd itemE), (5, .own 0), (6, i64)] [.own 5 u8E] (fun | [.r l', .i i, .r acc] => R17 l acc l' l.length i | _ => False) (fun | [.r l', .i i, _] => (l'.length - i).toNat | _ => 0)])] }
  | _ => { cut := [], loop := [] }
def ct18 : Ct := { ps := [.rd itemE], bs := [], pre := fun | [.r l] => preL l | _ => False, res := fun | [.r l] => .ret (.own 0) [.own 116 itemE] [.r (rowsIt (itsOf l))] | _ => noRes }
def RT (l acc l' : List (List CD)) (n i : Int) : Prop := l' = l ∧ n = l.length ∧ 0 ≤ i ∧ i ≤ n ∧ acc = rowsIt ((itsOf l).take i.toNat)
def ann18 : List Dat → Ann
  | [.r l] => { cut := [], loop := [(3, [la 19 [(3, .own 0), (6, .rd itemE), (7, i64), (8, i64)] [.own 116 itemE] (fun | [.r l', .i n, .i i, .r acc] => RT l acc l' n i | _ => False) (fun | [_, .i n, .i i, _] => (n - i).toNat | _ => 0)])] }
  | _ => { cut := [], loop := [] }
def ct56 : Ct := { ps := [itemP, itemP], bs := [], pre := fun _ => True, res := fun | [.i a, .i b, .i c, _, .i a', .i b', .i c', _] => .ret .bool [] [.b (sameB a b c a' b' c')] | _ => noRes }
def ct26 : Ct := { ps := [.rd itemE, .rd itemE], bs := [], pre := fun _ => True, res := fun | [.r x, .r y] => .ret .bool [] [.b (prefIt (itsOf x) (itsOf y))] | _ => noRes }
def R26 (x y x' y' : List (List CD)) (i : Int) : Prop := x' = x ∧ y' = y ∧ 0 ≤ i ∧ i ≤ y.length ∧ i ≤ x.length ∧ prefIt (itsOf x) (itsOf y) = prefIt ((itsOf x).drop i.toNat) ((itsOf y).drop i.toNat)
def ann26 : List Dat → Ann
  | [.r x, .r y] => { cut := [], loop := [(2, [la 28 [(0, .rd itemE), (1, .rd itemE), (5, i64)] [] (fun | [.r x', .r y', .i i] => R26 x y x' y' i | _ => False) (fun | [_, .r y', .i i] => (y'.length - i).toNat | _ => 0)])] }
  | _ => { cut := [], loop := [] }
/-! ### Laws -/
end Go.Proofs.YteiecapbaeajdaaGreatDoor
namespace Go.Proofs.YteiecapbaeajdaaGreatDoor
open Go Go.Avc Go.Proofs
set_option linter.unusedVariables false
set_option maxRecDepth 100000
def P80 : Prop :=
 ∀ (l : List (List CD)),
 l.length ≤ (9223372036854775807 : Nat) →
 pre129 l →
 (R80 l l (0 : Int) [] ∧ True) ∧
 ∀ (l_1 : List (List CD)) (n : Int) (l_2 : List (List CD)),
 l_1.length ≤ (9223372036854775807 : Nat) →
 l_2.length ≤ (9223372036854775807 : Nat) →
 R80 l l_1 n l_2 →
 l_1.length ≤ (9223372036854775807 : Nat) →
 bif decide ((0 : Int) < (↑l_1.length : Int)) then
 bif decide (n = (1024 : Int)) then
 n = (prs (bytesOfRows l)).snd.fst ∧
 (9 : Int) = (prs (bytesOfRows l)).snd.snd ∧
 [] = rowsIt (prs (bytesOfRows l)).fst
 else
 pre129 l_1 ∧
 bif decide (decE (bytesOfRows l_1) ≠ (0 : Int)) then
 n = (prs (bytesOfRows l)).snd.fst ∧
 decE (bytesOfRows l_1) = (prs (bytesOfRows l)).snd.snd ∧
 [] = rowsIt (prs (bytesOfRows l)).fst
 else
 ((l_2.length + (1 : Nat)) * (40 : Nat) ≤ (140737488355328 : Nat) ∧ l_2.length + (1 : Nat) ≤ (9223372036854775807 : Nat)) ∧
 ((-9223372036854775808 : Int) ≤ n + (1 : Int) ∧ n + (1 : Int) ≤ (9223372036854775807 : Int)) ∧
 R80 l (rowsOfBytes (decR (bytesOfRows l_1))) (n + (1 : Int))
 (l_2 ++
 [[CD.int (decI (bytesOfRows l_1)).k,
 CD.int (decI (bytesOfRows l_1)).t,
 CD.int (decI (bytesOfRows l_1)).c,
 CD.str (decI (bytesOfRows l_1)).l]]) ∧
 ((1025 : Int) - (n + (1 : Int))).toNat < ((1025 : Int) - n).toNat
 else
 (-1 : Int) = (prs (bytesOfRows l)).snd.fst ∧
 (0 : Int) = (prs (bytesOfRows l)).snd.snd ∧
 l_2 = rowsIt (prs (bytesOfRows l)).fst
theorem e80 : ct80.VC (base.with sp42) Tryz.f80.results.toList Tryz.f80.ntmps (Tryz.f80.ntmps - ct80.ps.length) (bodyOf Tryz.f80) ann80 = P80 := by kernel_rfl
noncomputable def sp80 : SpecT := addS sp42 80 (mkF ct80)
def P20 : Prop :=
 ∀ (l : List (List CD)),
 l.length ≤ (9223372036854775807 : Nat) →
 pre129 l →
 (R20 l l [] ∧ True) ∧
 ∀ (l_1 l_2 : List (List CD)),
 l_1.length ≤ (9223372036854775807 : Nat) →
 l_2.length ≤ (9223372036854775807 : Nat) →
 R20 l l_1 l_2 →
 l_1.length ≤ (9223372036854775807 : Nat) →
 bif decide ((0 : Int) < (↑l_1.length : Int)) then
 l_2.length ≤ (9223372036854775807 : Nat) →
 bif decide ((↑l_2.length : Int) = (1024 : Int)) then
 l_2.length ≤ (9223372036854775807 : Nat) →
 (↑l_2.length : Int) = (prs (bytesOfRows l)).snd.fst ∧
 (9 : Int) = (prs (bytesOfRows l)).snd.snd ∧
 [] = rowsIt (prs (bytesOfRows l)).fst
 else
 pre129 l_1 ∧
 bif decide (decE (bytesOfRows l_1) ≠ (0 : Int)) then
 l_2.length ≤ (9223372036854775807 : Nat) →
 (↑l_2.length : Int) = (prs (bytesOfRows l)).snd.fst ∧
 decE (bytesOfRows l_1) = (prs (bytesOfRows l)).snd.snd ∧
 [] = rowsIt (prs (bytesOfRows l)).fst
 else
 ((l_2.length + (1 : Nat)) * (40 : Nat) ≤ (140737488355328 : Nat) ∧ l_2.length + (1 : Nat) ≤ (9223372036854775807 : Nat)) ∧
 R20 l (rowsOfBytes (decR (bytesOfRows l_1)))
 (l_2 ++
 [[CD.int (decI (bytesOfRows l_1)).k,
 CD.int (decI (bytesOfRows l_1)).t,
 CD.int (decI (bytesOfRows l_1)).c,
 CD.str (decI (bytesOfRows l_1)).l]]) ∧
 Nat.sub (1025 : Nat)
 (l_2 ++
 [[CD.int (decI (bytesOfRows l_1)).k,
 CD.int (decI (bytesOfRows l_1)).t,
 CD.int (decI (bytesOfRows l_1)).c,
 CD.str (decI (bytesOfRows l_1)).l]]).length <
 Nat.sub (1025 : Nat) l_2.length
 else
 (-1 : Int) = (prs (bytesOfRows l)).snd.fst ∧
 (0 : Int) = (prs (bytesOfRows l)).snd.snd ∧
 l_2 = rowsIt (prs (bytesOfRows l)).fst
theorem e20 : ct20.VC (base.with sp80) Tryz.f20.results.toList Tryz.f20.ntmps (Tryz.f20.ntmps - ct20.ps.length) (bodyOf Tryz.f20) ann20 = P20 := by kernel_rfl
noncomputable def sp20 : SpecT := addS sp80 20 (mkF ct20)
def P19 : Prop :=
 ∀ (l l_1 : List (List CD)),
 l.length ≤ (9223372036854775807 : Nat) →
 l_1.length ≤ (9223372036854775807 : Nat) →
 True →
 l.length ≤ (9223372036854775807 : Nat) →
 l_1.length ≤ (9223372036854775807 : Nat) →
 bif decide ((↑l.length : Int) ≠ (↑l_1.length : Int)) then false = decide (itsOf l = itsOf l_1)
 else
 (R19 l l_1 l l_1 (0 : Int) ∧ True) ∧
 ∀ (l_2 l_3 : List (List CD)) (n : Int),
 l_2.length ≤ (9223372036854775807 : Nat) →
 l_3.length ≤ (9223372036854775807 : Nat) →
 R19 l l_1 l_2 l_3 n →
 l_2.length ≤ (9223372036854775807 : Nat) →
 bif decide (n < (↑l_2.length : Int)) then
 ((0 : Int) ≤ n ∧ n < (↑l_2.length : Int)) ∧
 n.toNat < l_2.length ∧
 ((0 : Int) ≤ n ∧ n < (↑l_3.length : Int)) ∧
 n.toNat < l_3.length ∧
 bif
 !(decide
 (((l_2.getD n.toNat []).getD (0 : Nat) (CD.int (0 : Int))).toInt =
 ((l_3.getD n.toNat []).getD (0 : Nat) (CD.int (0 : Int))).toInt) &&
 (decide
 (((l_2.getD n.toNat []).getD (1 : Nat) (CD.int (0 : Int))).toInt =
 ((l_3.getD n.toNat []).getD (1 : Nat) (CD.int (0 : Int))).toInt) &&
 (decide
 (((l_2.getD n.toNat []).getD (2 : Nat) (CD.int (0 : Int))).toInt =
 ((l_3.getD n.toNat []).getD (2 : Nat) (CD.int (0 : Int))).toInt) &&
 (decide
 (((l_2.getD n.toNat []).getD (3 : Nat) (CD.int (0 : Int))).toStr =
 ((l_3.getD n.toNat []).getD (3 : Nat) (CD.int (0 : Int))).toStr) &&
 true)))) then
 false = decide (itsOf l = itsOf l_1)
 else
 ((-9223372036854775808 : Int) ≤ n + (1 : Int) ∧ n + (1 : Int) ≤ (9223372036854775807 : Int)) ∧
 R19 l l_1 l_2 l_3 (n + (1 : Int)) ∧
 ((↑l_2.length : Int) - (n + (1 : Int))).toNat < ((↑l_2.length : Int) - n).toNat
 else true = decide (itsOf l = itsOf l_1)
theorem e19 : ct19.VC (base.with sp20) Tryz.f19.results.toList Tryz.f19.ntmps (Tryz.f19.ntmps - ct19.ps.length) (bodyOf Tryz.f19) ann19 = P19 := by kernel_rfl
noncomputable def sp19 : SpecT := addS sp20 19 (mkF ct19)
def P17 : Prop :=
 ∀ (l : List (List CD)),
 l.length ≤ (9223372036854775807 : Nat) →
 preL l →
 l.length ≤ (9223372036854775807 : Nat) →
 (R17 l [] l (↑l.length : Int) (0 : Int) ∧ True) ∧
 ∀ (l_1 : List (List CD)) (n n_1 : Int) (l_2 : List (List CD)),
 l_1.length ≤ (9223372036854775807 : Nat) →
 l_2.length ≤ (9223372036854775807 : Nat) →
 R17 l l_2 l_1 n n_1 →
 bif decide (n_1 < n) then
 ((0 : Int) ≤ n_1 ∧ n_1 < (↑l_1.length : Int)) ∧
 n_1.toNat < l_1.length ∧
 bif decide (n_1 = (1024 : Int)) then
 n_1 = (ser (itsOf l)).snd.fst ∧
 (9 : Int) = (ser (itsOf l)).snd.snd ∧
 [] = rowsOfBytes (ser (itsOf l)).fst
 else
 True ∧
 bif
 decide
 (chk ((l_1.getD n_1.toNat []).getD (0 : Nat) (CD.int (0 : Int))).toInt
 ((l_1.getD n_1.toNat []).getD (1 : Nat) (CD.int (0 : Int))).toInt
 ((l_1.getD n_1.toNat []).getD (2 : Nat) (CD.int (0 : Int))).toInt
 ((l_1.getD n_1.toNat []).getD (3 : Nat) (CD.int (0 : Int))).toStr ≠
 (0 : Int)) then
 n_1 = (ser (itsOf l)).snd.fst ∧
 chk ((l_1.getD n_1.toNat []).getD (0 : Nat) (CD.int (0 : Int))).toInt
 ((l_1.getD n_1.toNat []).getD (1 : Nat) (CD.int (0 : Int))).toInt
 ((l_1.getD n_1.toNat []).getD (2 : Nat) (CD.int (0 : Int))).toInt
 ((l_1.getD n_1.toNat []).getD (3 : Nat) (CD.int (0 : Int))).toStr =
 (ser (itsOf l)).snd.snd ∧
 [] = rowsOfBytes (ser (itsOf l)).fst
 else
 ((l_2.length +
 (encR ((l_1.getD n_1.toNat []).getD (0 : Nat) (CD.int (0 : Int))).toInt
 ((l_1.getD n_1.toNat []).getD (1 : Nat) (CD.int (0 : Int))).toInt
 ((l_1.getD n_1.toNat []).getD (2 : Nat) (CD.int (0 : Int))).toInt
 ((l_1.getD n_1.toNat []).getD (3 : Nat) (CD.int (0 : Int))).toStr).length) *
 (1 : Nat) ≤
 (140737488355328 : Nat) ∧
 l_2.length +
 (encR ((l_1.getD n_1.toNat []).getD (0 : Nat) (CD.int (0 : Int))).toInt
 ((l_1.getD n_1.toNat []).getD (1 : Nat) (CD.int (0 : Int))).toInt
 ((l_1.getD n_1.toNat []).getD (2 : Nat) (CD.int (0 : Int))).toInt
 ((l_1.getD n_1.toNat []).getD (3 : Nat) (CD.int (0 : Int))).toStr).length ≤
 (9223372036854775807 : Nat)) ∧
 ((-9223372036854775808 : Int) ≤ n_1 + (1 : Int) ∧ n_1 + (1 : Int) ≤ (9223372036854775807 : Int)) ∧
 R17 l
 (l_2 ++
 encR ((l_1.getD n_1.toNat []).getD (0 : Nat) (CD.int (0 : Int))).toInt
 ((l_1.getD n_1.toNat []).getD (1 : Nat) (CD.int (0 : Int))).toInt
 ((l_1.getD n_1.toNat []).getD (2 : Nat) (CD.int (0 : Int))).toInt
 ((l_1.getD n_1.toNat []).getD (3 : Nat) (CD.int (0 : Int))).toStr)
 l_1 n (n_1 + (1 : Int)) ∧
 (n - (n_1 + (1 : Int))).toNat < (n - n_1).toNat
 else
 (-1 : Int) = (ser (itsOf l)).snd.fst ∧
 (0 : Int) = (ser (itsOf l)).snd.snd ∧
 l_2 = rowsOfBytes (ser (itsOf l)).fst
theorem e17 : ct17.VC (base.with sp19) Tryz.f17.results.toList Tryz.f17.ntmps (Tryz.f17.ntmps - ct17.ps.length) (bodyOf Tryz.f17) ann17 = P17 := by kernel_rfl
noncomputable def sp17 : SpecT := addS sp19 17 (mkF ct17)
def P22 : Prop :=
 ∀ (l : List (List CD)),
 l.length ≤ (9223372036854775807 : Nat) →
 preL l →
 (R17 l [] l (↑l.length : Int) (0 : Int) ∧ True) ∧
 ∀ (l_1 : List (List CD)) (n : Int) (l_2 : List (List CD)),
 l_1.length ≤ (9223372036854775807 : Nat) →
 l_2.length ≤ (9223372036854775807 : Nat) →
 R17 l l_2 l_1 (↑l.length : Int) n →
 l_1.length ≤ (9223372036854775807 : Nat) →
 bif decide (n < (↑l_1.length : Int)) then
 bif decide (n = (1024 : Int)) then
 n = (ser (itsOf l)).snd.fst ∧
 (9 : Int) = (ser (itsOf l)).snd.snd ∧
 [] = rowsOfBytes (ser (itsOf l)).fst
 else
 ((0 : Int) ≤ n ∧ n < (↑l_1.length : Int)) ∧
 n.toNat < l_1.length ∧
 True ∧
 bif
 decide
 (chk ((l_1.getD n.toNat []).getD (0 : Nat) (CD.int (0 : Int))).toInt
 ((l_1.getD n.toNat []).getD (1 : Nat) (CD.int (0 : Int))).toInt ((l_1.getD n.toNat []).getD (2 : Nat) (CD.int (0 : Int))).toInt
 ((l_1.getD n.toNat []).getD (3 : Nat) (CD.int (0 : Int))).toStr ≠
 (0 : Int)) then
 n = (ser (itsOf l)).snd.fst ∧
 chk ((l_1.getD n.toNat []).getD (0 : Nat) (CD.int (0 : Int))).toInt
 ((l_1.getD n.toNat []).getD (1 : Nat) (CD.int (0 : Int))).toInt ((l_1.getD n.toNat []).getD (2 : Nat) (CD.int (0 : Int))).toInt
 ((l_1.getD n.toNat []).getD (3 : Nat) (CD.int (0 : Int))).toStr =
 (ser (itsOf l)).snd.snd ∧
 [] = rowsOfBytes (ser (itsOf l)).fst
 else
 ((l_2.length +
 (encR ((l_1.getD n.toNat []).getD (0 : Nat) (CD.int (0 : Int))).toInt
 ((l_1.getD n.toNat []).getD (1 : Nat) (CD.int (0 : Int))).toInt
 ((l_1.getD n.toNat []).getD (2 : Nat) (CD.int (0 : Int))).toInt
 ((l_1.getD n.toNat []).getD (3 : Nat) (CD.int (0 : Int))).toStr).length) *
 (1 : Nat) ≤
 (140737488355328 : Nat) ∧
 l_2.length +
 (encR ((l_1.getD n.toNat []).getD (0 : Nat) (CD.int (0 : Int))).toInt
 ((l_1.getD n.toNat []).getD (1 : Nat) (CD.int (0 : Int))).toInt
 ((l_1.getD n.toNat []).getD (2 : Nat) (CD.int (0 : Int))).toInt
 ((l_1.getD n.toNat []).getD (3 : Nat) (CD.int (0 : Int))).toStr).length ≤
 (9223372036854775807 : Nat)) ∧
 ((-9223372036854775808 : Int) ≤ n + (1 : Int) ∧ n + (1 : Int) ≤ (9223372036854775807 : Int)) ∧
 R17 l
 (l_2 ++
 encR ((l_1.getD n.toNat []).getD (0 : Nat) (CD.int (0 : Int))).toInt
 ((l_1.getD n.toNat []).getD (1 : Nat) (CD.int (0 : Int))).toInt
 ((l_1.getD n.toNat []).getD (2 : Nat) (CD.int (0 : Int))).toInt
 ((l_1.getD n.toNat []).getD (3 : Nat) (CD.int (0 : Int))).toStr)
 l_1 (↑l.length : Int) (n + (1 : Int)) ∧
 ((↑l_1.length : Int) - (n + (1 : Int))).toNat < ((↑l_1.length : Int) - n).toNat
 else
 (-1 : Int) = (ser (itsOf l)).snd.fst ∧
 (0 : Int) = (ser (itsOf l)).snd.snd ∧
 l_2 = rowsOfBytes (ser (itsOf l)).fst
theorem e22 : ct22.VC (base.with sp17) Tryz.f22.results.toList Tryz.f22.ntmps (Tryz.f22.ntmps - ct22.ps.length) (bodyOf Tryz.f22) ann22 = P22 := by kernel_rfl
noncomputable def sp22 : SpecT := addS sp17 22 (mkF ct22)
def P18 : Prop :=
 ∀ (l : List (List CD)),
 l.length ≤ (9223372036854775807 : Nat) →
 preL l →
 l.length ≤ (9223372036854775807 : Nat) →
 (RT l [] l (↑l.length : Int) (0 : Int) ∧ True) ∧
 ∀ (l_1 : List (List CD)) (n n_1 : Int) (l_2 : List (List CD)),
 l_1.length ≤ (9223372036854775807 : Nat) →
 l_2.length ≤ (9223372036854775807 : Nat) →
 RT l l_2 l_1 n n_1 →
 bif decide (n_1 < n) then
 ((0 : Int) ≤ n_1 ∧ n_1 < (↑l_1.length : Int)) ∧
 n_1.toNat < l_1.length ∧
 True ∧
 ((l_2.length + (1 : Nat)) * (40 : Nat) ≤ (140737488355328 : Nat) ∧ l_2.length + (1 : Nat) ≤ (9223372036854775807 : Nat)) ∧
 ((-9223372036854775808 : Int) ≤ n_1 + (1 : Int) ∧ n_1 + (1 : Int) ≤ (9223372036854775807 : Int)) ∧
 RT l
 (l_2 ++
 [[CD.int ((l_1.getD n_1.toNat []).getD (0 : Nat) (CD.int (0 : Int))).toInt,
 CD.int ((l_1.getD n_1.toNat []).getD (1 : Nat) (CD.int (0 : Int))).toInt,
 CD.int ((l_1.getD n_1.toNat []).getD (2 : Nat) (CD.int (0 : Int))).toInt,
 CD.str ((l_1.getD n_1.toNat []).getD (3 : Nat) (CD.int (0 : Int))).toStr]])
 l_1 n (n_1 + (1 : Int)) ∧
 (n - (n_1 + (1 : Int))).toNat < (n - n_1).toNat
 else l_2 = rowsIt (itsOf l)
theorem e18 : ct18.VC (base.with sp22) Tryz.f18.results.toList Tryz.f18.ntmps (Tryz.f18.ntmps - ct18.ps.length) (bodyOf Tryz.f18) ann18 = P18 := by kernel_rfl
noncomputable def sp18 : SpecT := addS sp22 18 (mkF ct18)
def P56 : Prop :=
 ∀ (n n_1 n_2 : Int) (l : List UInt8) (n_3 n_4 n_5 : Int) (l_1 : List UInt8),
 l.length ≤ (9223372036854775807 : Nat) →
 l_1.length ≤ (9223372036854775807 : Nat) →
 True → (decide (n = n_3) && decide (n_1 = n_4) && decide (n_2 = n_5)) = sameB n n_1 n_2 n_3 n_4 n_5
theorem e56 : ct56.VC (base.with sp18) Tryz.f56.results.toList Tryz.f56.ntmps (Tryz.f56.ntmps - ct56.ps.length) (bodyOf Tryz.f56) noAnn = P56 := by kernel_rfl
noncomputable def sp56 : SpecT := addS sp18 56 (mkF ct56)
def P26 : Prop :=
 ∀ (l l_1 : List (List CD)),
 l.length ≤ (9223372036854775807 : Nat) →
 l_1.length ≤ (9223372036854775807 : Nat) →
 True →
 (R26 l l_1 l l_1 (0 : Int) ∧ True) ∧
 ∀ (l_2 l_3 : List (List CD)) (n : Int),
 l_2.length ≤ (9223372036854775807 : Nat) →
 l_3.length ≤ (9223372036854775807 : Nat) →
 R26 l l_1 l_2 l_3 n →
 l_3.length ≤ (9223372036854775807 : Nat) →
 bif decide (n < (↑l_3.length : Int)) then
 ((!decide ((↑l_2.length : Int) ≤ n)) = true → (0 : Int) ≤ n ∧ n < (↑l_2.length : Int)) ∧
 ((!decide ((↑l_2.length : Int) ≤ n)) = true → n.toNat < l_2.length) ∧
 ((!decide ((↑l_2.length : Int) ≤ n)) = true → (0 : Int) ≤ n ∧ n < (↑l_3.length : Int)) ∧
 ((!decide ((↑l_2.length : Int) ≤ n)) = true → n.toNat < l_3.length) ∧
 ((!decide ((↑l_2.length : Int) ≤ n)) = true → True) ∧
 bif
 decide ((↑l_2.length : Int) ≤ n) ||
 !sameB ((l_2.getD n.toNat []).getD (0 : Nat) (CD.int (0 : Int))).toInt
 ((l_2.getD n.toNat []).getD (1 : Nat) (CD.int (0 : Int))).toInt
 ((l_2.getD n.toNat []).getD (2 : Nat) (CD.int (0 : Int))).toInt
 ((l_3.getD n.toNat []).getD (0 : Nat) (CD.int (0 : Int))).toInt
 ((l_3.getD n.toNat []).getD (1 : Nat) (CD.int (0 : Int))).toInt
 ((l_3.getD n.toNat []).getD (2 : Nat) (CD.int (0 : Int))).toInt then
 false = prefIt (itsOf l) (itsOf l_1)
 else
 ((-9223372036854775808 : Int) ≤ n + (1 : Int) ∧ n + (1 : Int) ≤ (9223372036854775807 : Int)) ∧
 R26 l l_1 l_2 l_3 (n + (1 : Int)) ∧
 ((↑l_3.length : Int) - (n + (1 : Int))).toNat < ((↑l_3.length : Int) - n).toNat
 else true = prefIt (itsOf l) (itsOf l_1)
theorem e26 : ct26.VC (base.with sp56) Tryz.f26.results.toList Tryz.f26.ntmps (Tryz.f26.ntmps - ct26.ps.length) (bodyOf Tryz.f26) ann26 = P26 := by kernel_rfl
noncomputable def sp26 : SpecT := addS sp56 26 (mkF ct26)
end Go.Proofs.YteiecapbaeajdaaGreatDoor
namespace Go.Proofs.YteiecapbaeajdaaGreatDoor
open Go Go.Avc Go.Proofs
set_option linter.unusedVariables false
set_option linter.unusedSimpArgs false
def flat (l : List It) : List UInt8 := (l.map encIt).flatten
theorem flat_cons (x : It) (l : List It) : flat (x :: l) = encIt x ++ flat l := rfl
theorem enc_pos (x : It) : 8 ≤ (encIt x).length := by
  unfold encIt encB
  simp only [List.length_append, numB_length]
  omega
theorem enc_le {x : It} (h : chkIt x = 0) : (encIt x).length ≤ 263 := by
  obtain ⟨_, _, _, _, _, _, _, _, _, _, h7⟩ := chk_zero h
  unfold encIt encB
  simp only [List.length_append, numB_length]
  omega
theorem dec_enc' {x : It} (h : chkIt x = 0) (more : List UInt8) : decE (encIt x ++ more) = 0 ∧ decX (encIt x ++ more) = x ∧ decR (encIt x ++ more) = more := by
  obtain ⟨k1, k2, k3⟩ := dec_enc h more
  have k1' : decE (encIt x ++ more) = 0 := k1
  refine ⟨k1, k2, ?_⟩
  unfold decR
  rw [if_pos k1']
  exact k3
theorem enc_dec' {b : List UInt8} (h : decE b = 0) : chkIt (decX b) = 0 ∧ encIt (decX b) ++ decR b = b := by
  obtain ⟨k1, k2⟩ := enc_dec h
  refine ⟨k1, ?_⟩
  unfold decR
  rw [if_pos h]
  exact k2
theorem prsA_ok : ∀ (n : Nat) (acc : List It) (b : List UInt8), (prsA n acc b).2.2 = 0 → ∃ m, prsA n acc b = (acc ++ m, -1, 0) ∧ m.length ≤ n ∧ (∀ x ∈ m, chkIt x = 0) ∧ flat m = b
  | 0, acc, b, h => by
    unfold prsA at h ⊢
    by_cases hb : b.length = 0
    · rw [if_pos hb]
      exact ⟨[], by simp, Nat.le_refl _, (fun x hx => by cases hx), (List.length_eq_zero_iff.1 hb).symm⟩
    · rw [if_neg hb] at h; cases h
  | n + 1, acc, b, h => by
    unfold prsA at h ⊢
    by_cases hb : b.length = 0
    · rw [if_pos hb]
      exact ⟨[], by simp, Nat.zero_le _, (fun x hx => by cases hx), (List.length_eq_zero_iff.1 hb).symm⟩
    · rw [if_neg hb] at h ⊢
      by_cases hd : decE b = 0
      · rw [if_pos hd] at h ⊢
        obtain ⟨m, h1, h2, h3, h4⟩ := prsA_ok n _ _ h
        obtain ⟨k1, k2⟩ := enc_dec' hd
        refine ⟨decX b :: m, by rw [h1]; simp, by simp only [List.length_cons]; omega, fun x hx => ?_, ?_⟩
        · rcases List.mem_cons.1 hx with rfl | hx
          · exact k1
          · exact h3 x hx
        · rw [flat_cons, h4, k2]
      · rw [if_neg hd] at h; exact absurd h hd
theorem prsA_enc : ∀ (m : List It) (n : Nat) (acc : List It), (∀ x ∈ m, chkIt x = 0) → prsA n acc (flat m) = if m.length ≤ n then (acc ++ m, -1, 0) else ([], ((acc.length + n : Nat) : Int), 9)
  | [], n, acc, h => by
    cases n <;> simp [prsA, flat]
  | x :: m, 0, acc, h => by
    have := enc_pos x
    rw [if_neg (by simp), flat_cons]
    unfold prsA
    rw [if_neg (by rw [List.length_append]; omega)]
    rfl
  | x :: m, n + 1, acc, h => by
    have := enc_pos x
    obtain ⟨k1, k2, k3⟩ := dec_enc' (h x (List.mem_cons_self ..)) (flat m)
    rw [flat_cons]
    unfold prsA
    rw [if_neg (by rw [List.length_append]; omega), if_pos k1, k2, k3, prsA_enc m n _ fun y hy => h y (List.mem_cons_of_mem _ hy)]
    by_cases hm : m.length ≤ n
    · rw [if_pos hm, if_pos (by simp only [List.length_cons]; omega)]; simp
    · rw [if_neg hm, if_neg (by simp only [List.length_cons]; omega)]
      simp only [List.length_append, List.length_cons, List.length_nil]
      congr 2
      omega
theorem serA_ok : ∀ (l : List It) (i : Nat) (acc : List UInt8), i ≤ 1024 → (serA i acc l).2.2 = 0 → serA i acc l = (acc ++ flat l, -1, 0) ∧ i + l.length ≤ 1024 ∧ ∀ x ∈ l, chkIt x = 0
  | [], i, acc, hi, h => ⟨by simp [serA, flat], by simpa using hi, fun x hx => by cases hx⟩
  | x :: l, i, acc, hi, h => by
    unfold serA at h ⊢
    by_cases h1 : i = 1024
    · rw [if_pos h1] at h; cases h
    · rw [if_neg h1] at h ⊢
      by_cases h2 : chkIt x = 0
      · rw [if_pos h2] at h ⊢
        obtain ⟨k1, k2, k3⟩ := serA_ok l _ _ (by omega) h
        refine ⟨by rw [k1, flat_cons]; simp, by simp only [List.length_cons]; omega, fun y hy => ?_⟩
        rcases List.mem_cons.1 hy with rfl | hy
        · exact h2
        · exact k3 y hy
      · rw [if_neg h2] at h; exact absurd h h2
theorem serA_len : ∀ (l : List It) (i : Nat) (acc : List UInt8), i ≤ 1024 → acc.length ≤ 263 * i → (serA i acc l).1.length ≤ 263 * 1024
  | [], i, acc, hi, h => by show acc.length ≤ _; omega
  | x :: l, i, acc, hi, h => by
    unfold serA
    by_cases h1 : i = 1024
    · rw [if_pos h1]; exact Nat.zero_le _
    · rw [if_neg h1]
      by_cases h2 : chkIt x = 0
      · rw [if_pos h2]
        have := enc_le h2
        exact serA_len l _ _ (by omega) (by rw [List.length_append]; omega)
      · rw [if_neg h2]; exact Nat.zero_le _
theorem ser_len (l : List It) : (ser l).1.length ≤ 263 * 1024 := serA_len l 0 [] (by omega) (by simp)
/-- What was written is read as it was. -/
theorem prs_ser {l : List It} (h : (ser l).2.2 = 0) : prs (ser l).1 = (l, -1, 0) := by
  obtain ⟨h1, h2, h3⟩ := serA_ok l 0 [] (by omega) h
  unfold prs ser
  rw [h1, List.nil_append, prsA_enc l 1024 [] h3, if_pos (by omega), List.nil_append]
theorem its_rows (l : List It) : itsOf (rowsIt l) = l := by
  unfold itsOf rowsIt
  rw [List.map_map]
  exact (List.map_congr_left fun x _ => rfl).trans (List.map_id _)
theorem rowsIt_length (l : List It) : (rowsIt l).length = l.length := List.length_map ..
theorem itsOf_length (l : List (List CD)) : (itsOf l).length = l.length := List.length_map ..
theorem prs_at {b : List UInt8} (h : (prs b).2.2 = 0) : (prs b).2.1 = -1 := by
  obtain ⟨m, h1, h2, h3, h4⟩ := prsA_ok 1024 [] b h
  unfold prs; rw [h1]
end Go.Proofs.YteiecapbaeajdaaGreatDoor
namespace Go.Proofs.YteiecapbaeajdaaGreatDoor
open Go Go.Avc Go.Proofs
set_option linter.unusedVariables false
set_option linter.unusedSimpArgs false
set_option maxRecDepth 100000
theorem its_drop {l : List (List CD)} {i : Nat} (h : i < l.length) : (itsOf l).drop i = itRow (l.getD i []) :: (itsOf l).drop (i + 1) := by
  have h' : i < (itsOf l).length := by rw [itsOf_length]; exact h
  rw [List.drop_eq_getElem_cons h']
  congr 1
  simp [itsOf, h]
theorem its_take {l : List (List CD)} {i : Nat} (h : i < l.length) : (itsOf l).take (i + 1) = (itsOf l).take i ++ [itRow (l.getD i [])] := by
  have h' : i < (itsOf l).length := by rw [itsOf_length]; exact h
  rw [List.take_add_one, List.getElem?_eq_getElem h']
  congr 1
  simp [itsOf, h]
theorem eqIt_dec (a b : It) : (decide (a.k = b.k) && (decide (a.t = b.t) && (decide (a.c = b.c) && (decide (a.l = b.l) && true)))) = decide (a = b) := by
  obtain ⟨a1, a2, a3, a4⟩ := a
  obtain ⟨b1, b2, b3, b4⟩ := b
  simp only [It.mk.injEq, Bool.and_true, Bool.decide_and]
theorem decI_ok {b : List UInt8} (h : decE b = 0) : decI b = decX b := if_pos h
theorem vc80 : P80 := by
  intro l hl hp
  refine ⟨⟨⟨hp, by omega, by omega, by simp, rfl, rfl⟩, trivial⟩, ?_⟩
  rintro l' n acc hl' hacc ⟨hp2, h0, h1, h2, h3, h4⟩ _
  obtain ⟨b, rfl⟩ := isB_ex hp2.1
  rw [bytes_rows] at h4 ⊢
  rw [rows_length] at *
  refine condI (fun h => ?_) fun h => ?_
  · simp only [decide_eq_true_eq] at h
    have hb : b.length ≠ 0 := by omega
    refine condI (fun h5 => ?_) fun h5 => ?_
    · simp only [decide_eq_true_eq] at h5
      rw [h4, show 1024 - acc.length = 0 from by omega, prsA, if_neg hb]
      exact ⟨by rw [itsOf_length]; exact h2, rfl, rfl⟩
    · simp only [decide_eq_false_iff_not] at h5
      obtain ⟨k, hk⟩ : ∃ k, 1024 - acc.length = k + 1 := ⟨1023 - acc.length, by omega⟩
      rw [hk, prsA, if_neg hb] at h4
      refine ⟨hp2, condI (fun h6 => ?_) fun h6 => ?_⟩
      · simp only [ne_eq, decide_not, Bool.not_eq_true', decide_eq_false_iff_not] at h6
        rw [h4, if_neg h6]
        exact ⟨by rw [itsOf_length]; exact h2, rfl, rfl⟩
      · simp only [ne_eq, decide_not, Bool.not_eq_false', decide_eq_true_eq] at h6
        rw [if_pos h6] at h4
        have hl2 := hp2.2
        rw [rows_length] at hl2
        have hd : (decR b).length ≤ b.length := by unfold decR; rw [if_pos h6, List.length_drop]; omega
        refine ⟨⟨by first | omega | (simp only [List.length_cons, List.length_nil]; omega), by first | omega | (simp only [List.length_cons, List.length_nil]; omega)⟩, ⟨by omega, by omega⟩, ⟨⟨isB_rows _, by rw [rows_length]; omega⟩, by omega, by omega, by simp only [List.length_append, List.length_cons, List.length_nil]; omega, ?_, ?_⟩, by omega⟩
        · conv => lhs; rw [h3]
          simp only [itsOf, rowsIt, List.map_append, List.map_cons, List.map_nil]
          rfl
        · rw [h4, bytes_rows, List.length_append, List.length_cons, List.length_nil, show 1024 - (acc.length + (0 + 1)) = k from by omega, ← decI_ok h6]
          simp only [itsOf, List.map_append, List.map_cons, List.map_nil]
          rfl
  · simp only [decide_eq_false_iff_not] at h
    have hb : b.length = 0 := by omega
    have e : prs (bytesOfRows l) = (itsOf acc, -1, 0) := by
      rw [h4]
      cases 1024 - acc.length <;> rw [prsA, if_pos hb]
    rw [e]
    exact ⟨rfl, rfl, h3⟩
theorem ok80 : SpecOk (base.with sp42) 80 (mkF ct80) := spec_ct (fn := Tryz.f80) (c := bodyOf Tryz.f80) (k := Tryz.f80.ntmps - ct80.ps.length) (ct := ct80) c42 Tryz.func80 (by kernel_rfl) ann80 (by kernel_rfl) (fun vs w _ => Tryz.call80 vs w) (by rw [e80]; exact vc80)
theorem c80 : (base.with sp80).Ok := addS_ok c42 ok80
theorem vc20 : P20 := by
  intro l hl hp
  refine ⟨⟨⟨hp, by simp, rfl, rfl⟩, trivial⟩, ?_⟩
  rintro l' acc hl' hacc ⟨hp2, h1, h3, h4⟩ _
  obtain ⟨b, rfl⟩ := isB_ex hp2.1
  rw [bytes_rows] at h4 ⊢
  rw [rows_length] at *
  refine condI (fun h _ => ?_) fun h => ?_
  · simp only [decide_eq_true_eq] at h
    have hb : b.length ≠ 0 := by omega
    refine condI (fun h5 _ => ?_) fun h5 => ?_
    · simp only [decide_eq_true_eq] at h5
      rw [h4, show 1024 - acc.length = 0 from by omega, prsA, if_neg hb]
      exact ⟨by rw [itsOf_length], rfl, rfl⟩
    · simp only [decide_eq_false_iff_not] at h5
      obtain ⟨k, hk⟩ : ∃ k, 1024 - acc.length = k + 1 := ⟨1023 - acc.length, by omega⟩
      rw [hk, prsA, if_neg hb] at h4
      refine ⟨hp2, condI (fun h6 _ => ?_) fun h6 => ?_⟩
      · simp only [ne_eq, decide_not, Bool.not_eq_true', decide_eq_false_iff_not] at h6
        rw [h4, if_neg h6]
        exact ⟨by rw [itsOf_length], rfl, rfl⟩
      · simp only [ne_eq, decide_not, Bool.not_eq_false', decide_eq_true_eq] at h6
        rw [if_pos h6] at h4
        have hl2 := hp2.2
        rw [rows_length] at hl2
        have hd : (decR b).length ≤ b.length := by unfold decR; rw [if_pos h6, List.length_drop]; omega
        refine ⟨⟨by first | omega | (simp only [List.length_cons, List.length_nil]; omega), by first | omega | (simp only [List.length_cons, List.length_nil]; omega)⟩, ⟨⟨isB_rows _, by rw [rows_length]; omega⟩, by simp only [List.length_append, List.length_cons, List.length_nil]; omega, ?_, ?_⟩, ?_⟩
        · conv => lhs; rw [h3]
          simp only [itsOf, rowsIt, List.map_append, List.map_cons, List.map_nil]
          rfl
        · rw [h4, bytes_rows, List.length_append, List.length_cons, List.length_nil, show 1024 - (acc.length + (0 + 1)) = k from by omega, ← decI_ok h6]
          simp only [itsOf, List.map_append, List.map_cons, List.map_nil]
          rfl
        · simp only [List.length_append, List.length_cons, List.length_nil]
          show 1025 - (acc.length + (0 + 1)) < 1025 - acc.length
          omega
  · simp only [decide_eq_false_iff_not] at h
    have hb : b.length = 0 := by omega
    have e : prs (bytesOfRows l) = (itsOf acc, -1, 0) := by
      rw [h4]
      cases 1024 - acc.length <;> rw [prsA, if_pos hb]
    rw [e]
    exact ⟨rfl, rfl, h3⟩
theorem ok20 : SpecOk (base.with sp80) 20 (mkF ct20) := spec_ct (fn := Tryz.f20) (c := bodyOf Tryz.f20) (k := Tryz.f20.ntmps - ct20.ps.length) (ct := ct20) c80 Tryz.func20 (by kernel_rfl) ann20 (by kernel_rfl) (fun vs w _ => Tryz.call20 vs w) (by rw [e20]; exact vc20)
theorem c20 : (base.with sp20).Ok := addS_ok c80 ok20
theorem vc19 : P19 := by
  intro x y hx hy _ _ _
  refine condI (fun h => ?_) fun h => ?_
  · simp only [ne_eq, decide_not, Bool.not_eq_true', decide_eq_false_iff_not] at h
    refine (decide_eq_false fun e => h ?_).symm
    have := congrArg List.length e
    rw [itsOf_length, itsOf_length] at this
    omega
  · simp only [ne_eq, decide_not, Bool.not_eq_false', decide_eq_true_eq] at h
    refine ⟨⟨⟨rfl, rfl, by omega, by omega, by omega, by simp⟩, trivial⟩, ?_⟩
    rintro x' y' n _ _ ⟨rfl, rfl, h1, h2, h3, h4⟩ _
    refine condI (fun h5 => ?_) fun h5 => ?_
    · simp only [decide_eq_true_eq] at h5
      have hlt : n.toNat < x'.length := by omega
      have hlt2 : n.toNat < y'.length := by omega
      refine ⟨⟨by omega, by omega⟩, hlt, ⟨by omega, by omega⟩, hlt2, condI (fun h6 => ?_) fun h6 => ?_⟩
      · have h6' : (!decide (itRow (x'.getD n.toNat []) = itRow (y'.getD n.toNat []))) = true := by rw [← eqIt_dec]; exact h6
        simp only [Bool.not_eq_true', decide_eq_false_iff_not] at h6'
        refine (decide_eq_false fun e => h6' ?_).symm
        have := its_drop hlt
        rw [e, its_drop hlt2] at this
        exact (List.cons.inj this).1.symm
      · have h6' : (!decide (itRow (x'.getD n.toNat []) = itRow (y'.getD n.toNat []))) = false := by rw [← eqIt_dec]; exact h6
        simp only [Bool.not_eq_false', decide_eq_true_eq] at h6'
        refine ⟨⟨by omega, by omega⟩, ⟨rfl, rfl, h1, by omega, by omega, ?_⟩, by omega⟩
        rw [show (n + 1).toNat = n.toNat + 1 from by omega, its_take hlt, its_take hlt2, h4, h6']
    · simp only [decide_eq_false_iff_not] at h5
      refine (decide_eq_true ?_).symm
      rw [List.take_of_length_le (by rw [itsOf_length]; omega), List.take_of_length_le (by rw [itsOf_length]; omega)] at h4
      exact h4
theorem ok19 : SpecOk (base.with sp20) 19 (mkF ct19) := spec_ct (fn := Tryz.f19) (c := bodyOf Tryz.f19) (k := Tryz.f19.ntmps - ct19.ps.length) (ct := ct19) c20 Tryz.func19 (by kernel_rfl) ann19 (by kernel_rfl) (fun vs w _ => Tryz.call19 vs w) (by rw [e19]; exact vc19)
theorem c19 : (base.with sp19).Ok := addS_ok c20 ok19
theorem ser_done {l : List (List CD)} {i : Nat} {acc : List UInt8} (h : ser (itsOf l) = serA i acc ((itsOf l).drop i)) (hi : l.length ≤ i) : ser (itsOf l) = (acc, -1, 0) := by
  rw [h, List.drop_eq_nil_of_le (by rw [itsOf_length]; exact hi)]
  cases i <;> rfl
theorem ser_many {l : List (List CD)} {acc : List UInt8} {i : Nat} (h : ser (itsOf l) = serA i acc ((itsOf l).drop i)) (hi : i < l.length) (h2 : i = 1024) : ser (itsOf l) = ([], 1024, 9) := by
  rw [h, its_drop hi, serA, if_pos h2, h2]; rfl
theorem ser_bad {l : List (List CD)} {acc : List UInt8} {i : Nat} (h : ser (itsOf l) = serA i acc ((itsOf l).drop i)) (hi : i < l.length) (h2 : i ≠ 1024) (h3 : chkIt (itRow (l.getD i [])) ≠ 0) : ser (itsOf l) = ([], (i : Int), chkIt (itRow (l.getD i []))) := by
  rw [h, its_drop hi, serA, if_neg h2, if_neg h3]
theorem ser_next {l : List (List CD)} {acc : List UInt8} {i : Nat} (h : ser (itsOf l) = serA i acc ((itsOf l).drop i)) (hi : i < l.length) (h2 : i ≠ 1024) (h3 : chkIt (itRow (l.getD i [])) = 0) : ser (itsOf l) = serA (i + 1) (acc ++ encIt (itRow (l.getD i []))) ((itsOf l).drop (i + 1)) := by
  rw [h, its_drop hi, serA, if_neg h2, if_pos h3]
theorem encR_it {x : It} (h : chkIt x = 0) : encR x.k x.t x.c x.l = rowsOfBytes (encIt x) := encR_ok h
theorem vc17 : P17 := by
  intro l hl hp _
  unfold preL at hp
  refine ⟨⟨⟨rfl, rfl, by omega, by omega, by omega, by simp, rfl, rfl⟩, trivial⟩, ?_⟩
  rintro l' n i acc hl' hacc ⟨rfl, rfl, h1, h2, h3, h4, h5, h6⟩
  obtain ⟨a, rfl⟩ := isB_ex h5
  rw [bytes_rows] at h6
  rw [rows_length] at *
  refine condI (fun h => ?_) fun h => ?_
  · simp only [decide_eq_true_eq] at h
    have hlt : i.toNat < l'.length := by omega
    refine ⟨⟨by omega, by omega⟩, hlt, condI (fun h7 => ?_) fun h7 => ⟨trivial, condI (fun h8 => ?_) fun h8 => ?_⟩⟩
    · simp only [decide_eq_true_eq] at h7
      rw [ser_many h6 hlt (by omega)]
      exact ⟨h7, rfl, rfl⟩
    · simp only [decide_eq_false_iff_not] at h7
      have h8' : chkIt (itRow (l'.getD i.toNat [])) ≠ 0 := of_decide_eq_true h8
      rw [ser_bad h6 hlt (by omega) h8']
      exact ⟨by show i = (i.toNat : Int); omega, rfl, rfl⟩
    · simp only [decide_eq_false_iff_not] at h7
      have h8' : chkIt (itRow (l'.getD i.toNat [])) = 0 := Decidable.not_not.1 (of_decide_eq_false h8)
      have e := encR_it h8'
      have k1 := enc_le h8'
      change encR ((l'.getD i.toNat []).getD 0 (CD.int 0)).toInt ((l'.getD i.toNat []).getD 1 (CD.int 0)).toInt ((l'.getD i.toNat []).getD 2 (CD.int 0)).toInt ((l'.getD i.toNat []).getD 3 (CD.int 0)).toStr = _ at e
      rw [e, rows_length]
      refine ⟨⟨by omega, by omega⟩, ⟨by omega, by omega⟩, ⟨rfl, rfl, by omega, by omega, by omega, ?_, ?_, ?_⟩, by omega⟩
      · rw [List.length_append, rows_length, rows_length]; omega
      · rw [← rows_append]; exact isB_rows _
      · rw [← rows_append, bytes_rows, show (i + 1).toNat = i.toNat + 1 from by omega, ser_next h6 hlt (by omega) h8']
  · simp only [decide_eq_false_iff_not] at h
    rw [ser_done h6 (by omega)]
    exact ⟨rfl, rfl, rfl⟩
theorem ok17 : SpecOk (base.with sp19) 17 (mkF ct17) := spec_ct (fn := Tryz.f17) (c := bodyOf Tryz.f17) (k := Tryz.f17.ntmps - ct17.ps.length) (ct := ct17) c19 Tryz.func17 (by kernel_rfl) ann17 (by kernel_rfl) (fun vs w _ => Tryz.call17 vs w) (by rw [e17]; exact vc17)
theorem c17 : (base.with sp17).Ok := addS_ok c19 ok17
theorem vc22 : P22 := by
  intro l hl hp
  unfold preL at hp
  refine ⟨⟨⟨rfl, rfl, by omega, by omega, by omega, by simp, rfl, rfl⟩, trivial⟩, ?_⟩
  rintro l' i acc hl' hacc ⟨rfl, h0, h1, h2, h3, h4, h5, h6⟩ _
  obtain ⟨a, rfl⟩ := isB_ex h5
  rw [bytes_rows] at h6
  rw [rows_length] at *
  refine condI (fun h => ?_) fun h => ?_
  · simp only [decide_eq_true_eq] at h
    have hlt : i.toNat < l'.length := by omega
    refine condI (fun h7 => ?_) fun h7 => ⟨⟨by omega, by omega⟩, hlt, trivial, condI (fun h8 => ?_) fun h8 => ?_⟩
    · simp only [decide_eq_true_eq] at h7
      rw [ser_many h6 hlt (by omega)]
      exact ⟨h7, rfl, rfl⟩
    · simp only [decide_eq_false_iff_not] at h7
      have h8' : chkIt (itRow (l'.getD i.toNat [])) ≠ 0 := of_decide_eq_true h8
      rw [ser_bad h6 hlt (by omega) h8']
      exact ⟨by show i = (i.toNat : Int); omega, rfl, rfl⟩
    · simp only [decide_eq_false_iff_not] at h7
      have h8' : chkIt (itRow (l'.getD i.toNat [])) = 0 := Decidable.not_not.1 (of_decide_eq_false h8)
      have e := encR_it h8'
      have k1 := enc_le h8'
      change encR ((l'.getD i.toNat []).getD 0 (CD.int 0)).toInt ((l'.getD i.toNat []).getD 1 (CD.int 0)).toInt ((l'.getD i.toNat []).getD 2 (CD.int 0)).toInt ((l'.getD i.toNat []).getD 3 (CD.int 0)).toStr = _ at e
      rw [e, rows_length]
      refine ⟨⟨by omega, by omega⟩, ⟨by omega, by omega⟩, ⟨rfl, rfl, by omega, by omega, by omega, ?_, ?_, ?_⟩, by omega⟩
      · rw [List.length_append, rows_length, rows_length]; omega
      · rw [← rows_append]; exact isB_rows _
      · rw [← rows_append, bytes_rows, show (i + 1).toNat = i.toNat + 1 from by omega, ser_next h6 hlt (by omega) h8']
  · simp only [decide_eq_false_iff_not] at h
    rw [ser_done h6 (by omega)]
    exact ⟨rfl, rfl, rfl⟩
theorem ok22 : SpecOk (base.with sp17) 22 (mkF ct22) := spec_ct (fn := Tryz.f22) (c := bodyOf Tryz.f22) (k := Tryz.f22.ntmps - ct22.ps.length) (ct := ct22) c17 Tryz.func22 (by kernel_rfl) ann22 (by kernel_rfl) (fun vs w _ => Tryz.call22 vs w) (by rw [e22]; exact vc22)
theorem c22 : (base.with sp22).Ok := addS_ok c17 ok22
theorem vc18 : P18 := by
  intro l hl hp _
  unfold preL at hp
  refine ⟨⟨⟨rfl, rfl, by omega, by omega, by simp [rowsIt]⟩, trivial⟩, ?_⟩
  rintro l' n i acc hl' hacc ⟨rfl, rfl, h1, h2, h3⟩
  refine condI (fun h => ?_) fun h => ?_
  · simp only [decide_eq_true_eq] at h
    have hlt : i.toNat < l'.length := by omega
    have hlen : acc.length = i.toNat := by rw [h3, rowsIt_length, List.length_take, itsOf_length]; omega
    refine ⟨⟨by omega, by omega⟩, hlt, trivial, ⟨by first | omega | (simp only [List.length_cons, List.length_nil]; omega), by first | omega | (simp only [List.length_cons, List.length_nil]; omega)⟩, ⟨by omega, by omega⟩, ⟨rfl, rfl, by omega, by omega, ?_⟩, by omega⟩
    rw [show (i + 1).toNat = i.toNat + 1 from by omega, its_take hlt, h3]
    simp only [rowsIt, List.map_append, List.map_cons, List.map_nil]
    rfl
  · simp only [decide_eq_false_iff_not] at h
    rw [h3, List.take_of_length_le (by rw [itsOf_length]; omega)]
theorem ok18 : SpecOk (base.with sp22) 18 (mkF ct18) := spec_ct (fn := Tryz.f18) (c := bodyOf Tryz.f18) (k := Tryz.f18.ntmps - ct18.ps.length) (ct := ct18) c22 Tryz.func18 (by kernel_rfl) ann18 (by kernel_rfl) (fun vs w _ => Tryz.call18 vs w) (by rw [e18]; exact vc18)
theorem c18 : (base.with sp18).Ok := addS_ok c22 ok18
theorem vc56 : P56 := by
  intro a b c l a' b' c' l' _ _ _
  simp [sameB, Bool.and_assoc]
theorem ok56 : SpecOk (base.with sp18) 56 (mkF ct56) := spec_ct (fn := Tryz.f56) (c := bodyOf Tryz.f56) (k := Tryz.f56.ntmps - ct56.ps.length) (ct := ct56) c18 Tryz.func56 (by kernel_rfl) noAnn (by kernel_rfl) (fun vs w _ => Tryz.call56 vs w) (by rw [e56]; exact vc56)
theorem c56 : (base.with sp56).Ok := addS_ok c18 ok56
theorem pref_step {x y : List (List CD)} {i : Nat} (h : i < y.length) (h2 : i < x.length) : prefIt ((itsOf x).drop i) ((itsOf y).drop i) = (sameIt (itRow (x.getD i [])) (itRow (y.getD i [])) && prefIt ((itsOf x).drop (i + 1)) ((itsOf y).drop (i + 1))) := by
  rw [its_drop h, its_drop h2, prefIt]
theorem pref_over {x y : List (List CD)} {i : Nat} (h : i < y.length) (h2 : x.length ≤ i) : prefIt ((itsOf x).drop i) ((itsOf y).drop i) = false := by
  rw [its_drop h, List.drop_eq_nil_of_le (by rw [itsOf_length]; exact h2), prefIt]
theorem pref_nil (x : List It) : prefIt x [] = true := by cases x <;> rfl
theorem vc26 : P26 := by
  intro x y hx hy _
  refine ⟨⟨⟨rfl, rfl, by omega, by omega, by omega, rfl⟩, trivial⟩, ?_⟩
  rintro x' y' n _ _ ⟨rfl, rfl, h1, h2, h3, h4⟩ _
  refine condI (fun h5 => ?_) fun h5 => ?_
  · simp only [decide_eq_true_eq] at h5
    have hlt : n.toNat < y'.length := by omega
    simp only [Bool.not_eq_true', decide_eq_false_iff_not]
    refine ⟨fun _ => ⟨by omega, by omega⟩, fun _ => by omega, fun _ => ⟨by omega, by omega⟩, fun _ => hlt, fun _ => trivial, condI (fun h6 => ?_) fun h6 => ?_⟩
    · rw [h4]
      rcases Nat.lt_or_ge n.toNat x'.length with hx2 | hx2
      · rw [pref_step hlt hx2]
        have h6' : (decide ((x'.length : Int) ≤ n) || !sameIt (itRow (x'.getD n.toNat [])) (itRow (y'.getD n.toNat []))) = true := h6
        rw [decide_eq_false (by omega)] at h6'
        simp only [Bool.false_or, Bool.not_eq_true'] at h6'
        rw [h6']; rfl
      · rw [pref_over hlt hx2]
    · have h6' : (decide ((x'.length : Int) ≤ n) || !sameIt (itRow (x'.getD n.toNat [])) (itRow (y'.getD n.toNat []))) = false := h6
      simp only [Bool.or_eq_false_iff, decide_eq_false_iff_not, Bool.not_eq_false'] at h6'
      refine ⟨⟨by omega, by omega⟩, ⟨rfl, rfl, by omega, by omega, by omega, ?_⟩, by omega⟩
      rw [h4, pref_step hlt (by omega), h6'.2, show (n + 1).toNat = n.toNat + 1 from by omega]; rfl
  · simp only [decide_eq_false_iff_not] at h5
    have hn : (itsOf y').drop n.toNat = [] := List.drop_eq_nil_of_le (by rw [itsOf_length]; omega)
    rw [h4, hn, pref_nil]
theorem ok26 : SpecOk (base.with sp56) 26 (mkF ct26) := spec_ct (fn := Tryz.f26) (c := bodyOf Tryz.f26) (k := Tryz.f26.ntmps - ct26.ps.length) (ct := ct26) c56 Tryz.func26 (by kernel_rfl) ann26 (by kernel_rfl) (fun vs w _ => Tryz.call26 vs w) (by rw [e26]; exact vc26)
theorem c26 : (base.with sp26).Ok := addS_ok c56 ok26
theorem prs_len (b : List UInt8) : (prs b).1.length ≤ 1024 := by
  suffices h : ∀ n acc b, acc.length + n ≤ 1024 → (prsA n acc b).1.length ≤ 1024 from h 1024 [] b (by simp)
  intro n
  induction n with
  | zero => intro acc b h; unfold prsA; split <;> simp_all
  | succ n ih =>
    intro acc b h
    unfold prsA
    split
    · show acc.length ≤ _; omega
    · split
      · exact ih _ _ (by simp only [List.length_append, List.length_cons, List.length_nil]; omega)
      · exact Nat.zero_le _
end Go.Proofs.YteiecapbaeajdaaGreatDoor
namespace Go.Proofs.YteiecapbaeajdaaGreatDoor
open Go.Avc
set_option linter.unusedVariables false
/-! ### The guard -/
abbrev gA : BPat := .cells 185 [.rd itemE, i64, .nilp]
abbrev gB : BPat := .cells 185 [.rd itemE, i64, .ptr 1 0]
abbrev eB : BPat := .cells 204 [i64]
def ct43 : Ct := { ps := [.rd u8E], bs := [], pre := fun | [.r l] => pre129 l | _ => False, res := fun
  | [.r l] => .ite (decide ((prs (bytesOfRows l)).2.2 = 0)) (.ret (.tup [.ptr 0 0, i64, i64]) [gA] [.i (-1), .i 0, .r (rowsIt (prs (bytesOfRows l)).1), .i 0]) (.ret (.tup [.nilp, i64, i64]) [] [.i (prs (bytesOfRows l)).2.1, .i (prs (bytesOfRows l)).2.2])
  | _ => noRes }
def ct55a : Ct := { ps := [.ptr 0 0, i64], bs := [gA], pre := fun _ => True, res := fun
  | [.i e, .r l, .i n] => .ite (decide (e = 0)) (.ret i64 [gA] [.i 0, .r l, .i n]) (.ret i64 [gB, eB] [.i e, .r l, .i n, .i e])
  | _ => noRes }
def ct55b : Ct := { ps := [.ptr 0 0, i64], bs := [gB, eB], pre := fun _ => True, res := fun
  | [.i _, .r l, .i n, .i w] => .ret i64 [gB, eB] [.i w, .r l, .i n, .i w]
  | _ => noRes }
def ct94a : Ct := { ps := [.ptr 0 0, .bool, i64], bs := [gA], pre := fun | [.b _, .i e, .r _, .i _] => e ≠ 0 | _ => False, res := fun
  | [.b ok, .i e, .r l, .i n] => .ite ok (.ret i64 [gA] [.i 0, .r l, .i n]) (.ret i64 [gB, eB] [.i e, .r l, .i n, .i e])
  | _ => noRes }
def ct94b : Ct := { ps := [.ptr 0 0, .bool, i64], bs := [gB, eB], pre := fun _ => True, res := fun
  | [.b _, .i _, .r l, .i n, .i w] => .ret i64 [gB, eB] [.i w, .r l, .i n, .i w]
  | _ => noRes }
/-- The next item is this one, its label apart. -/
def hit (l : List (List CD)) (n a b c : Int) : Bool := decide (n < l.length) && sameB (itRow (l.getD n.toNat [])).k (itRow (l.getD n.toNat [])).t (itRow (l.getD n.toNat [])).c a b c
def pre137 (l : List (List CD)) (n : Int) : Prop := 0 ≤ n ∧ n ≤ 1000000
def ct137a : Ct := { ps := [.ptr 0 0, i64, i64, i64], bs := [gA], pre := fun | [.i _, .i _, .i _, .r l, .i n] => pre137 l n | _ => False, res := fun
  | [.i a, .i b, .i c, .r l, .i n] => .ite (hit l n a b c) (.ret i64 [gA] [.i 0, .r l, .i (n + 1)]) (.ret i64 [gB, eB] [.i 10, .r l, .i n, .i 10])
  | _ => noRes }
def ct137b : Ct := { ps := [.ptr 0 0, i64, i64, i64], bs := [gB, eB], pre := fun | [.i _, .i _, .i _, .r l, .i n, .i w] => pre137 l n ∧ w ≠ 0 | _ => False, res := fun
  | [.i _, .i _, .i _, .r l, .i n, .i w] => .ret i64 [gB, eB] [.i w, .r l, .i n, .i w]
  | _ => noRes }
def ct57a : Ct := { ps := [.ptr 0 0], bs := [gA], pre := fun _ => True, res := fun
  | [.r l, .i n] => .ite (decide (n = l.length)) (.ret i64 [gA] [.i 0, .r l, .i n]) (.ret i64 [gB, eB] [.i 12, .r l, .i n, .i 12])
  | _ => noRes }
def ct57b : Ct := { ps := [.ptr 0 0], bs := [gB, eB], pre := fun _ => True, res := fun
  | [.r l, .i n, .i w] => .ret i64 [gB, eB] [.i w, .r l, .i n, .i w]
  | _ => noRes }
/-! ### Looking in patterns -/
end Go.Proofs.YteiecapbaeajdaaGreatDoor
