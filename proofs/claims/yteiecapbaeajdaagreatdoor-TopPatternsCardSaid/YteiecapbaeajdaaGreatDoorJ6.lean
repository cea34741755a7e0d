/-
 Conditions of contracts, as the kernel reckons them (printed by a program of ours, checked by the kernel).
-/
import Derived.Test.YteiecapbaeajdaaGreatDoorJ5
namespace Go.Proofs.YteiecapbaeajdaaGreatDoor
open Go Go.Avc Go.Proofs
set_option linter.unusedVariables false
set_option maxRecDepth 100000
def P43 : Prop :=
 ∀ (l : List (List CD)),
 l.length ≤ (9223372036854775807 : Nat) →
 pre129 l →
 pre129 l ∧
 bif decide ((prs (bytesOfRows l)).snd.snd ≠ (0 : Int)) then
 bif decide ((prs (bytesOfRows l)).snd.snd = (0 : Int)) then
 Miss (2 : Nat)
 { n := (0 : Nat), ov := [], tm := [SV.tup [SV.nilp, SV.int Go.IntKind.i64 (prs (bytesOfRows l)).snd.fst, SV.int Go.IntKind.i64 (prs (bytesOfRows l)).snd.snd]], hp := [Blk.own (116 : Go.TypeId) [CSh.int Go.IntKind.i64, CSh.int Go.IntKind.i64, CSh.int Go.IntKind.i64, CSh.str] (rowsIt (prs (bytesOfRows l)).fst)], G := [] }
 else
 (prs (bytesOfRows l)).snd.fst = (prs (bytesOfRows l)).snd.fst ∧
 (prs (bytesOfRows l)).snd.snd = (prs (bytesOfRows l)).snd.snd
 else
 bif decide ((prs (bytesOfRows l)).snd.snd = (0 : Int)) then
 (-1 : Int) = (-1 : Int) ∧
 (0 : Int) = (0 : Int) ∧
 rowsIt (prs (bytesOfRows l)).fst =
 rowsIt (prs (bytesOfRows l)).fst ∧
 (0 : Int) = (0 : Int)
 else
 Miss (2 : Nat)
 { n := (0 : Nat), ov := [], tm := [SV.tup [SV.ptr (1 : Nat) (0 : Nat), SV.int Go.IntKind.i64 (-1 : Int), SV.int Go.IntKind.i64 (0 : Int)]], hp := [Blk.own (116 : Go.TypeId) [CSh.int Go.IntKind.i64, CSh.int Go.IntKind.i64, CSh.int Go.IntKind.i64, CSh.str] (rowsIt (prs (bytesOfRows l)).fst), Blk.cells (185 : Nat) [SV.own (0 : Nat), SV.int Go.IntKind.i64 (0 : Int), SV.nilp]], G := [] }
theorem e43 : ct43.VC (base.with sp26) Tryz.f43.results.toList Tryz.f43.ntmps (Tryz.f43.ntmps - ct43.ps.length) (bodyOf Tryz.f43) noAnn = P43 := by kernel_rfl
noncomputable def sp43 : SpecT := addS sp26 43 (mkF ct43)
def P55a : Prop :=
 ∀ (n : Int) (l : List (List CD)) (n_1 : Int),
 l.length ≤ (9223372036854775807 : Nat) →
 True →
 bif true && decide (n ≠ (0 : Int)) then
 bif decide (n = (0 : Int)) then
 Miss (2 : Nat)
 { n := (0 : Nat), ov := [], tm := [SV.int Go.IntKind.i64 n], hp := [Blk.cells (185 : Go.TypeId) [SV.rd [CSh.int Go.IntKind.i64, CSh.int Go.IntKind.i64, CSh.int Go.IntKind.i64, CSh.str] l, SV.int Go.IntKind.i64 n_1, SV.ptr (1 : Nat) (0 : Nat)], Blk.cells (204 : Nat) [SV.int Go.IntKind.i64 n]], G := [] }
 else n = n ∧ l = l ∧ n_1 = n_1 ∧ n = n
 else
 bif decide (n = (0 : Int)) then (0 : Int) = (0 : Int) ∧ l = l ∧ n_1 = n_1
 else
 Miss (2 : Nat)
 { n := (0 : Nat), ov := [], tm := [SV.int Go.IntKind.i64 (0 : Int)], hp := [Blk.cells (185 : Go.TypeId) [SV.rd [CSh.int Go.IntKind.i64, CSh.int Go.IntKind.i64, CSh.int Go.IntKind.i64, CSh.str] l, SV.int Go.IntKind.i64 n_1, SV.nilp]], G := [] }
theorem e55a : ct55a.VC (base.with sp43) Tryz.f55.results.toList Tryz.f55.ntmps (Tryz.f55.ntmps - ct55a.ps.length) (bodyOf Tryz.f55) noAnn = P55a := by kernel_rfl
def P55b : Prop :=
 ∀ (n : Int) (l : List (List CD)) (n n_1 : Int), l.length ≤ (9223372036854775807 : Nat) → True → n_1 = n_1 ∧ l = l ∧ n = n ∧ n_1 = n_1
theorem e55b : ct55b.VC (base.with sp43) Tryz.f55.results.toList Tryz.f55.ntmps (Tryz.f55.ntmps - ct55b.ps.length) (bodyOf Tryz.f55) noAnn = P55b := by kernel_rfl
noncomputable def sp55 : SpecT := addS sp43 55 (altF ct55a (mkF ct55b))
def P94a : Prop :=
 ∀ (b : Bool) (n : Int) (l : List (List CD)) (n_1 : Int),
 l.length ≤ (9223372036854775807 : Nat) →
 n ≠ (0 : Int) →
 bif b then
 True ∧
 bif b then (0 : Int) = (0 : Int) ∧ l = l ∧ n_1 = n_1
 else
 Miss (2 : Nat)
 { n := (0 : Nat), ov := [], tm := [SV.int Go.IntKind.i64 (0 : Int)], hp := [Blk.cells (185 : Go.TypeId) [SV.rd [CSh.int Go.IntKind.i64, CSh.int Go.IntKind.i64, CSh.int Go.IntKind.i64, CSh.str] l, SV.int Go.IntKind.i64 n_1, SV.nilp]], G := [] }
 else
 True ∧
 bif decide (n = (0 : Int)) then
 bif b then (0 : Int) = (0 : Int) ∧ l = l ∧ n_1 = n_1
 else
 Miss (2 : Nat)
 { n := (0 : Nat), ov := [], tm := [SV.int Go.IntKind.i64 (0 : Int)], hp := [Blk.cells (185 : Go.TypeId) [SV.rd [CSh.int Go.IntKind.i64, CSh.int Go.IntKind.i64, CSh.int Go.IntKind.i64, CSh.str] l, SV.int Go.IntKind.i64 n_1, SV.nilp]], G := [] }
 else
 bif b then
 Miss (2 : Nat)
 { n := (0 : Nat), ov := [], tm := [SV.int Go.IntKind.i64 n], hp := [Blk.cells (185 : Go.TypeId) [SV.rd [CSh.int Go.IntKind.i64, CSh.int Go.IntKind.i64, CSh.int Go.IntKind.i64, CSh.str] l, SV.int Go.IntKind.i64 n_1, SV.ptr (1 : Nat) (0 : Nat)], Blk.cells (204 : Go.TypeId) [SV.int Go.IntKind.i64 n]], G := [] }
 else n = n ∧ l = l ∧ n_1 = n_1 ∧ n = n
theorem e94a : ct94a.VC (base.with sp55) Tryz.f94.results.toList Tryz.f94.ntmps (Tryz.f94.ntmps - ct94a.ps.length) (bodyOf Tryz.f94) noAnn = P94a := by kernel_rfl
def P94b : Prop :=
 ∀ (b : Bool) (n : Int) (l : List (List CD)) (n n_1 : Int),
 l.length ≤ (9223372036854775807 : Nat) → True → bif b then True ∧ n_1 = n_1 ∧ l = l ∧ n = n ∧ n_1 = n_1 else True ∧ n_1 = n_1 ∧ l = l ∧ n = n ∧ n_1 = n_1
theorem e94b : ct94b.VC (base.with sp55) Tryz.f94.results.toList Tryz.f94.ntmps (Tryz.f94.ntmps - ct94b.ps.length) (bodyOf Tryz.f94) noAnn = P94b := by kernel_rfl
noncomputable def sp94 : SpecT := addS sp55 94 (altF ct94a (mkF ct94b))
def P137a : Prop :=
 ∀ (n n_1 n_2 : Int) (l : List (List CD)) (n_3 : Int),
 l.length ≤ (9223372036854775807 : Nat) →
 pre137 l n_3 →
 (decide (n_3 < (↑l.length : Int)) = true → (0 : Int) ≤ n_3 ∧ n_3 < (↑l.length : Int)) ∧
 (decide (n_3 < (↑l.length : Int)) = true → n_3.toNat < l.length) ∧
 (decide (n_3 < (↑l.length : Int)) = true → True) ∧
 (10 : Int) ≠ (0 : Int) ∧
 bif
 decide (n_3 < (↑l.length : Int)) &&
 sameB ((l.getD n_3.toNat []).getD (0 : Nat) (CD.int (0 : Int))).toInt
 ((l.getD n_3.toNat []).getD (1 : Nat) (CD.int (0 : Int))).toInt ((l.getD n_3.toNat []).getD (2 : Nat) (CD.int (0 : Int))).toInt n n_1 n_2 then
 ((-9223372036854775808 : Int) ≤ n_3 + (1 : Int) ∧ n_3 + (1 : Int) ≤ (9223372036854775807 : Int)) ∧
 bif hit l n_3 n n_1 n_2 then (0 : Int) = (0 : Int) ∧ l = l ∧ n_3 + (1 : Int) = n_3 + (1 : Int)
 else
 Miss (2 : Nat)
 { n := (0 : Nat), ov := [], tm := [SV.int Go.IntKind.i64 (0 : Int)], hp := [Blk.cells (185 : Go.TypeId) [SV.rd [CSh.int Go.IntKind.i64, CSh.int Go.IntKind.i64, CSh.int Go.IntKind.i64, CSh.str] l, SV.int Go.IntKind.i64 (n_3 + (1 : Int)), SV.nilp], Blk.cells (116 : Nat) [SV.int Go.IntKind.i64 n, SV.int Go.IntKind.i64 n_1, SV.int Go.IntKind.i64 n_2, SV.str []]], G := [] }
 else
 bif hit l n_3 n n_1 n_2 then
 Miss (2 : Nat)
 { n := (0 : Nat), ov := [], tm := [SV.int Go.IntKind.i64 (10 : Int)], hp := [Blk.cells (185 : Go.TypeId) [SV.rd [CSh.int Go.IntKind.i64, CSh.int Go.IntKind.i64, CSh.int Go.IntKind.i64, CSh.str] l, SV.int Go.IntKind.i64 n_3, SV.ptr (2 : Nat) (0 : Nat)], Blk.cells (116 : Nat) [SV.int Go.IntKind.i64 n, SV.int Go.IntKind.i64 n_1, SV.int Go.IntKind.i64 n_2, SV.str []], Blk.cells (204 : Go.TypeId) [SV.int Go.IntKind.i64 (10 : Int)]], G := [] }
 else (10 : Int) = (10 : Int) ∧ l = l ∧ n_3 = n_3 ∧ (10 : Int) = (10 : Int)
theorem e137a : ct137a.VC (base.with sp94) Tryz.f137.results.toList Tryz.f137.ntmps (Tryz.f137.ntmps - ct137a.ps.length) (bodyOf Tryz.f137) noAnn = P137a := by kernel_rfl
def P137b : Prop :=
 ∀ (n n n : Int) (l : List (List CD)) (n n_1 : Int),
 l.length ≤ (9223372036854775807 : Nat) →
 pre137 l n ∧ n_1 ≠ (0 : Int) →
 (decide (n < (↑l.length : Int)) = true → (0 : Int) ≤ n ∧ n < (↑l.length : Int)) ∧
 (decide (n < (↑l.length : Int)) = true → n.toNat < l.length) ∧
 (decide (n < (↑l.length : Int)) = true → True) ∧
 True ∧
 bif decide (n_1 = (0 : Int)) then
 ((-9223372036854775808 : Int) ≤ n + (1 : Int) ∧ n + (1 : Int) ≤ (9223372036854775807 : Int)) ∧ n_1 = n_1 ∧ l = l ∧ n + (1 : Int) = n ∧ n_1 = n_1
 else n_1 = n_1 ∧ l = l ∧ n = n ∧ n_1 = n_1
theorem e137b : ct137b.VC (base.with sp94) Tryz.f137.results.toList Tryz.f137.ntmps (Tryz.f137.ntmps - ct137b.ps.length) (bodyOf Tryz.f137) noAnn = P137b := by kernel_rfl
noncomputable def sp137 : SpecT := addS sp94 137 (altF ct137a (mkF ct137b))
def P57a : Prop :=
 ∀ (l : List (List CD)) (n : Int),
 l.length ≤ (9223372036854775807 : Nat) →
 True →
 (12 : Int) ≠ (0 : Int) ∧
 bif decide (n = (↑l.length : Int)) then
 bif decide (n = (↑l.length : Int)) then (0 : Int) = (0 : Int) ∧ l = l ∧ n = n
 else
 Miss (2 : Nat)
 { n := (0 : Nat), ov := [], tm := [SV.int Go.IntKind.i64 (0 : Int)], hp := [Blk.cells (185 : Go.TypeId) [SV.rd [CSh.int Go.IntKind.i64, CSh.int Go.IntKind.i64, CSh.int Go.IntKind.i64, CSh.str] l, SV.int Go.IntKind.i64 n, SV.nilp]], G := [] }
 else
 bif decide (n = (↑l.length : Int)) then
 Miss (2 : Nat)
 { n := (0 : Nat), ov := [], tm := [SV.int Go.IntKind.i64 (12 : Int)], hp := [Blk.cells (185 : Go.TypeId) [SV.rd [CSh.int Go.IntKind.i64, CSh.int Go.IntKind.i64, CSh.int Go.IntKind.i64, CSh.str] l, SV.int Go.IntKind.i64 n, SV.ptr (1 : Nat) (0 : Nat)], Blk.cells (204 : Go.TypeId) [SV.int Go.IntKind.i64 (12 : Int)]], G := [] }
 else (12 : Int) = (12 : Int) ∧ l = l ∧ n = n ∧ (12 : Int) = (12 : Int)
theorem e57a : ct57a.VC (base.with sp137) Tryz.f57.results.toList Tryz.f57.ntmps (Tryz.f57.ntmps - ct57a.ps.length) (bodyOf Tryz.f57) noAnn = P57a := by kernel_rfl
def P57b : Prop :=
 ∀ (l : List (List CD)) (n n_1 : Int), l.length ≤ (9223372036854775807 : Nat) → True → True ∧ n_1 = n_1 ∧ l = l ∧ n = n ∧ n_1 = n_1
theorem e57b : ct57b.VC (base.with sp137) Tryz.f57.results.toList Tryz.f57.ntmps (Tryz.f57.ntmps - ct57b.ps.length) (bodyOf Tryz.f57) noAnn = P57b := by kernel_rfl
noncomputable def sp57 : SpecT := addS sp137 57 (altF ct57a (mkF ct57b))
end Go.Proofs.YteiecapbaeajdaaGreatDoor
namespace Go.Proofs.YteiecapbaeajdaaGreatDoor
open Go Go.Avc Go.Proofs
set_option linter.unusedVariables false
set_option linter.unusedSimpArgs false
set_option maxRecDepth 100000
theorem vc43 : P43 := by
  intro l hl hp
  refine ⟨hp, condI (fun h => ?_) fun h => ?_⟩
  · have h := of_decide_eq_true h
    rw [decide_eq_false h]
    exact ⟨rfl, rfl⟩
  · have h : (prs (bytesOfRows l)).2.2 = 0 := Decidable.not_not.1 (of_decide_eq_false h)
    rw [decide_eq_true h]
    exact ⟨rfl, rfl, rfl, rfl⟩
theorem ok43 : SpecOk (base.with sp26) 43 (mkF ct43) := spec_ct (fn := Tryz.f43) (c := bodyOf Tryz.f43) (k := Tryz.f43.ntmps - ct43.ps.length) (ct := ct43) c26 Tryz.func43 (by kernel_rfl) noAnn (by kernel_rfl) (fun vs w _ => Tryz.call43 vs w) (by rw [e43]; exact vc43)
theorem c43 : (base.with sp43).Ok := addS_ok c26 ok43
theorem vc55a : P55a := by
  intro n l k hl _
  refine condI (fun h => condI (fun h2 => ?_) fun _ => ⟨rfl, rfl, rfl, rfl⟩) fun h => condI (fun _ => ⟨rfl, rfl, rfl⟩) fun h2 => ?_
  · simp only [Bool.true_and, ne_eq, decide_not, Bool.not_eq_true', decide_eq_false_iff_not, decide_eq_true_eq] at h h2
    exact absurd h2 h
  · simp only [Bool.true_and, ne_eq, decide_not, Bool.not_eq_false', decide_eq_false_iff_not, decide_eq_true_eq] at h h2
    exact absurd h h2
theorem vc55b : P55b := fun _ _ _ _ _ _ => ⟨rfl, rfl, rfl, rfl⟩
theorem ok55a : SpecOk (base.with sp43) 55 (mkF ct55a) := spec_ct (fn := Tryz.f55) (c := bodyOf Tryz.f55) (k := Tryz.f55.ntmps - ct55a.ps.length) (ct := ct55a) c43 Tryz.func55 (by kernel_rfl) noAnn (by kernel_rfl) (fun vs w _ => Tryz.call55 vs w) (by rw [e55a]; exact vc55a)
theorem ok55b : SpecOk (base.with sp43) 55 (mkF ct55b) := spec_ct (fn := Tryz.f55) (c := bodyOf Tryz.f55) (k := Tryz.f55.ntmps - ct55b.ps.length) (ct := ct55b) c43 Tryz.func55 (by kernel_rfl) noAnn (by kernel_rfl) (fun vs w _ => Tryz.call55 vs w) (by rw [e55b]; exact vc55b)
theorem c55 : (base.with sp55).Ok := addS_ok c43 (alt_ok ok55a ok55b)
theorem vc94a : P94a := by
  intro b n l k hl hn
  refine condI (fun hb => ⟨trivial, condI (fun _ => ⟨rfl, rfl, rfl⟩) fun h => ?_⟩) fun hb => ⟨trivial, condI (fun h => absurd (of_decide_eq_true h) hn) fun _ => condI (fun h => ?_) fun _ => ⟨rfl, rfl, rfl, rfl⟩⟩
  · rw [hb] at h; cases h
  · rw [hb] at h; cases h
theorem vc94b : P94b := fun _ _ _ _ _ _ _ => condI (fun _ => ⟨trivial, rfl, rfl, rfl, rfl⟩) fun _ => ⟨trivial, rfl, rfl, rfl, rfl⟩
theorem ok94a : SpecOk (base.with sp55) 94 (mkF ct94a) := spec_ct (fn := Tryz.f94) (c := bodyOf Tryz.f94) (k := Tryz.f94.ntmps - ct94a.ps.length) (ct := ct94a) c55 Tryz.func94 (by kernel_rfl) noAnn (by kernel_rfl) (fun vs w _ => Tryz.call94 vs w) (by rw [e94a]; exact vc94a)
theorem ok94b : SpecOk (base.with sp55) 94 (mkF ct94b) := spec_ct (fn := Tryz.f94) (c := bodyOf Tryz.f94) (k := Tryz.f94.ntmps - ct94b.ps.length) (ct := ct94b) c55 Tryz.func94 (by kernel_rfl) noAnn (by kernel_rfl) (fun vs w _ => Tryz.call94 vs w) (by rw [e94b]; exact vc94b)
theorem c94 : (base.with sp94).Ok := addS_ok c55 (alt_ok ok94a ok94b)
theorem vc137a : P137a := by
  intro a b c l n hl hp
  obtain ⟨h0, h1⟩ := hp
  refine ⟨fun h => ⟨h0, of_decide_eq_true h⟩, fun h => by have := of_decide_eq_true h; omega, fun _ => trivial, by decide, condI (fun h => ⟨⟨by omega, by omega⟩, condI (fun _ => ⟨rfl, rfl, rfl⟩) fun h2 => ?_⟩) fun h => condI (fun h2 => ?_) fun _ => ⟨rfl, rfl, rfl, rfl⟩⟩
  · have h' : hit l n a b c = true := h
    rw [h'] at h2; cases h2
  · have h' : hit l n a b c = false := h
    rw [h'] at h2; cases h2
theorem vc137b : P137b := by
  intro a b c l n w hl hp
  obtain ⟨⟨h0, h1⟩, hw⟩ := hp
  exact ⟨fun h => ⟨h0, of_decide_eq_true h⟩, fun h => by have := of_decide_eq_true h; omega, fun _ => trivial, trivial, condI (fun h => absurd (of_decide_eq_true h) hw) fun _ => ⟨rfl, rfl, rfl, rfl⟩⟩
theorem ok137a : SpecOk (base.with sp94) 137 (mkF ct137a) := spec_ct (fn := Tryz.f137) (c := bodyOf Tryz.f137) (k := Tryz.f137.ntmps - ct137a.ps.length) (ct := ct137a) c94 Tryz.func137 (by kernel_rfl) noAnn (by kernel_rfl) (fun vs w _ => Tryz.call137 vs w) (by rw [e137a]; exact vc137a)
theorem ok137b : SpecOk (base.with sp94) 137 (mkF ct137b) := spec_ct (fn := Tryz.f137) (c := bodyOf Tryz.f137) (k := Tryz.f137.ntmps - ct137b.ps.length) (ct := ct137b) c94 Tryz.func137 (by kernel_rfl) noAnn (by kernel_rfl) (fun vs w _ => Tryz.call137 vs w) (by rw [e137b]; exact vc137b)
theorem c137 : (base.with sp137).Ok := addS_ok c94 (alt_ok ok137a ok137b)
theorem vc57a : P57a := by
  intro l n hl _
  refine ⟨by decide, condI (fun h => condI (fun _ => ⟨rfl, rfl, rfl⟩) fun h2 => ?_) fun h => condI (fun h2 => ?_) fun _ => ⟨rfl, rfl, rfl, rfl⟩⟩
  · rw [h] at h2; cases h2
  · rw [h] at h2; cases h2
theorem vc57b : P57b := fun _ _ _ _ _ => ⟨trivial, rfl, rfl, rfl, rfl⟩
theorem ok57a : SpecOk (base.with sp137) 57 (mkF ct57a) := spec_ct (fn := Tryz.f57) (c := bodyOf Tryz.f57) (k := Tryz.f57.ntmps - ct57a.ps.length) (ct := ct57a) c137 Tryz.func57 (by kernel_rfl) noAnn (by kernel_rfl) (fun vs w _ => Tryz.call57 vs w) (by rw [e57a]; exact vc57a)
theorem ok57b : SpecOk (base.with sp137) 57 (mkF ct57b) := spec_ct (fn := Tryz.f57) (c := bodyOf Tryz.f57) (k := Tryz.f57.ntmps - ct57b.ps.length) (ct := ct57b) c137 Tryz.func57 (by kernel_rfl) noAnn (by kernel_rfl) (fun vs w _ => Tryz.call57 vs w) (by rw [e57b]; exact vc57b)
theorem c57 : (base.with sp57).Ok := addS_ok c137 (alt_ok ok57a ok57b)
/-! ### The guard's law -/
/-! ### Looking in patterns -/
theorem ser_inj {x y : List It} (hx : (ser x).2.2 = 0) (hy : (ser y).2.2 = 0) (h : (ser x).1 = (ser y).1) : x = y := by
  have h1 := prs_ser hx
  have h2 := prs_ser hy
  rw [h, h2] at h1
  exact (Prod.mk.inj h1).1.symm
end Go.Proofs.YteiecapbaeajdaaGreatDoor
namespace Go.Proofs.YteiecapbaeajdaaGreatDoor
open Go.Avc
set_option linter.unusedVariables false
abbrev u64 : Pat := .int .u64
abbrev a25 : Pat := .arrI 25 .u64
abbrev st : Pat := .agg [a25]
/-! ### Words -/
def xr (a b : Int) : Int := bXor .u64 a b
def rotW (x s : Int) : Int := bOr .u64 (bShl .u64 x s) (bShr .u64 x (64 - s))
def cols (s : List Int) : Nat → List Int
  | 0 => List.replicate 5 0
  | i + 1 => (cols s i).set (i % 5) (xr ((cols s i).getD (i % 5) 0) (s.getD i 0))
def thN (c s : List Int) : Nat → List Int
  | 0 => s
  | i + 1 => (thN c s i).set i (xr ((thN c s i).getD i 0) (xr (c.getD ((i % 5 + 4) % 5) 0) (rotW (c.getD ((i % 5 + 1) % 5) 0) 1)))
def theta (s : List Int) : List Int := thN (cols s 25) s 25
def xyN : Nat → Nat × Nat
  | 0 => (1, 0)
  | i + 1 => ((xyN i).2, (2 * (xyN i).1 + 3 * (xyN i).2) % 5)
def rpN (s : List Int) : Nat → List Int
  | 0 => (List.replicate 25 0).set 0 (s.getD 0 0)
  | i + 1 => (rpN s i).set ((xyN i).2 + 5 * ((2 * (xyN i).1 + 3 * (xyN i).2) % 5)) (rotW (s.getD ((xyN i).1 + 5 * (xyN i).2) 0) (((i + 1) * (i + 2) / 2 : Nat) % 64 : Nat))
def rhoPi (s : List Int) : List Int := rpN s 24
def chN (s : List Int) : Nat → List Int
  | 0 => s
  | i + 1 => (chN s i).set i (xr ((chN s i).getD i 0) (bAndNot .u64 (s.getD (i - i % 5 + (i + 2) % 5) 0) (s.getD (i - i % 5 + (i + 1) % 5) 0)))
def chi (s : List Int) : List Int := chN s 25
def rcOf (r : Int) : Int := if r < 0 ∨ 24 ≤ r then 0 else rcL.getD r.toNat 0
def round (s : List Int) (r : Int) : List Int := (chi (rhoPi (theta s))).set 0 (xr ((chi (rhoPi (theta s))).getD 0 0) (rcOf r))
def permN (s : List Int) : Nat → List Int
  | 0 => s
  | i + 1 => round (permN s i) i
/-- (Behind a choice, so that nobody reckons it out.) -/
noncomputable def perm : List Int → List Int := Classical.choose (⟨fun s => permN s 24, rfl⟩ : ∃ f : List Int → List Int, f = fun s => permN s 24)
theorem perm_eq (s : List Int) : perm s = permN s 24 := congrFun (Classical.choose_spec (⟨fun s => permN s 24, rfl⟩ : ∃ f : List Int → List Int, f = fun s => permN s 24)) s
/-! ### Contracts -/
def ct238 : Ct := { ps := [u64, i64], bs := [], pre := fun | [.i _, .i k] => 0 ≤ k ∧ k ≤ 1000 | _ => False, res := fun | [.i x, .i k] => .ret u64 [] [.i (rotW x (k % 64))] | _ => noRes }
def ct214 : Ct := { ps := [i64], bs := [], pre := fun _ => True, res := fun | [.i r] => .ret u64 [] [.i (rcOf r)] | _ => noRes }
abbrev q24 : BPat := .cells 212 [a25]
def ct211 : Ct := { ps := [st], bs := [], pre := fun _ => True, res := fun | [.li s] => .ret st [] [.li (theta s)] | _ => noRes }
def ann211 : List Dat → Ann
  | [.li s] => { cut := [], loop := [
    (3, [la 45 [(1, .ptr 0 0), (2, .ptr 1 0), (3, .ptr 2 0), (8, st), (9, i64)] [q24, q24, .cells 337 [.arrI 5 .u64]] (fun | [.li s', .i i, .li s'', .li z, .li c] => s' = s ∧ s'' = s ∧ 0 ≤ i ∧ i ≤ 25 ∧ c = cols s i.toNat | _ => False) (fun | [_, .i i, _, _, _] => (25 - i).toNat | _ => 0)]),
    (8, [la 45 [(1, .ptr 0 0), (2, .ptr 1 0), (3, .ptr 2 0), (21, i64)] [q24, q24, .cells 337 [.arrI 5 .u64]] (fun | [.i i, .li t, .li z, .li c] => 0 ≤ i ∧ i ≤ 25 ∧ c = cols s 25 ∧ t = thN c s i.toNat | _ => False) (fun | [.i i, _, _, _] => (25 - i).toNat | _ => 0)])] }
  | _ => { cut := [], loop := [] }
def ct212 : Ct := { ps := [st], bs := [], pre := fun _ => True, res := fun | [.li s] => .ret st [] [.li (rhoPi s)] | _ => noRes }
def ann212 : List Dat → Ann
  | [.li s] => { cut := [], loop := [
    (4, [la 42 [(1, .ptr 0 0), (2, .ptr 1 0), (3, .ptr 2 0), (4, i64), (5, i64), (11, i64)] [q24, q24, q24] (fun | [.i x, .i y, .i i, .li s', .li z, .li t] => s' = s ∧ 0 ≤ i ∧ i ≤ 24 ∧ x = (xyN i.toNat).1 ∧ y = (xyN i.toNat).2 ∧ t = rpN s i.toNat | _ => False) (fun | [_, _, .i i, _, _, _] => (24 - i).toNat | _ => 0)])] }
  | _ => { cut := [], loop := [] }
def ct213 : Ct := { ps := [st], bs := [], pre := fun _ => True, res := fun | [.li s] => .ret st [] [.li (chi s)] | _ => noRes }
def ann213 : List Dat → Ann
  | [.li s] => { cut := [], loop := [
    (3, [la 36 [(1, .ptr 0 0), (2, .ptr 1 0), (3, .ptr 2 0), (7, i64)] [q24, q24, q24] (fun | [.i i, .li s', .li z, .li t] => s' = s ∧ 0 ≤ i ∧ i ≤ 25 ∧ t = chN s i.toNat | _ => False) (fun | [.i i, _, _, _] => (25 - i).toNat | _ => 0)])] }
  | _ => { cut := [], loop := [] }
def ct187 : Ct := { ps := [st, i64], bs := [], pre := fun _ => True, res := fun | [.li s, .i r] => .ret st [] [.li (round s r)] | _ => noRes }
noncomputable def ct147 : Ct := { ps := [st], bs := [], pre := fun _ => True, res := fun | [.li s] => .ret st [] [.li (perm s)] | _ => noRes }
def ann147 : List Dat → Ann
  | [.li s] => { cut := [], loop := [
    (2, [la 12 [(1, .ptr 0 0), (2, .ptr 1 0), (4, i64)] [q24, q24] (fun | [.i i, .li t, .li z] => 0 ≤ i ∧ i ≤ 24 ∧ t = permN s i.toNat | _ => False) (fun | [.i i, _, _] => (24 - i).toNat | _ => 0)])] }
  | _ => { cut := [], loop := [] }
end Go.Proofs.YteiecapbaeajdaaGreatDoor
namespace Go.Proofs.YteiecapbaeajdaaGreatDoor
open Go Go.Avc Go.Proofs
set_option linter.unusedVariables false
set_option maxRecDepth 100000
def P238 : Prop :=
 ∀ (n n_1 : Int),
 (0 : Int) ≤ n_1 ∧ n_1 ≤ (1000 : Int) →
 (0 : Int) ≤ bAnd Go.IntKind.u64 (Go.IntKind.u64.wrap n_1) (63 : Int) ∧
 (0 : Int) ≤ Go.IntKind.u64.wrap ((64 : Int) - bAnd Go.IntKind.u64 (Go.IntKind.u64.wrap n_1) (63 : Int)) ∧
 bOr Go.IntKind.u64 (bShl Go.IntKind.u64 n (bAnd Go.IntKind.u64 (Go.IntKind.u64.wrap n_1) (63 : Int)))
 (bShr Go.IntKind.u64 n (Go.IntKind.u64.wrap ((64 : Int) - bAnd Go.IntKind.u64 (Go.IntKind.u64.wrap n_1) (63 : Int)))) =
 rotW n (n_1 % (64 : Int))
theorem e238 : ct238.VC (base.with sp57) Tryz.f238.results.toList Tryz.f238.ntmps (Tryz.f238.ntmps - ct238.ps.length) (bodyOf Tryz.f238) noAnn = P238 := by kernel_rfl
noncomputable def sp238 : SpecT := addS sp57 238 (mkF ct238)
def P214 : Prop :=
 ∀ (n : Int),
 True →
 bif decide (n < (0 : Int)) || decide ((24 : Int) ≤ n) then (0 : Int) = rcOf n
 else
 ((0 : Int) ≤ n ∧ n < (↑(24 : Nat) : Int) ∧ (0 : Nat) + n.toNat < (24 : Nat)) ∧
 (0 : Nat) + n.toNat < (24 : Nat) ∧
 (([[CD.int (1 : Int)], [CD.int (32898 : Int)], [CD.int (9223372036854808714 : Int)], [CD.int (9223372039002292224 : Int)],
 [CD.int (32907 : Int)], [CD.int (2147483649 : Int)], [CD.int (9223372039002292353 : Int)], [CD.int (9223372036854808585 : Int)],
 [CD.int (138 : Int)], [CD.int (136 : Int)], [CD.int (2147516425 : Int)], [CD.int (2147483658 : Int)],
 [CD.int (2147516555 : Int)], [CD.int (9223372036854775947 : Int)], [CD.int (9223372036854808713 : Int)],
 [CD.int (9223372036854808579 : Int)], [CD.int (9223372036854808578 : Int)], [CD.int (9223372036854775936 : Int)],
 [CD.int (32778 : Int)], [CD.int (9223372039002259466 : Int)], [CD.int (9223372039002292353 : Int)],
 [CD.int (9223372036854808704 : Int)], [CD.int (2147483649 : Int)], [CD.int (9223372039002292232 : Int)]].getD
 ((0 : Nat) + n.toNat) []).getD
 (0 : Nat) (CD.int (0 : Int))).toInt =
 rcOf n
theorem e214 : ct214.VC (base.with sp238) Tryz.f214.results.toList Tryz.f214.ntmps (Tryz.f214.ntmps - ct214.ps.length) (bodyOf Tryz.f214) noAnn = P214 := by kernel_rfl
noncomputable def sp214 : SpecT := addS sp238 214 (mkF ct214)
def P211 : Prop :=
 ∀ (l : List Int),
 l.length = (25 : Nat) →
 True →
 ((l = l ∧
 l = l ∧
 (0 : Int) ≤ (0 : Int) ∧ (0 : Int) ≤ (25 : Int) ∧ [(0 : Int), (0 : Int), (0 : Int), (0 : Int), (0 : Int)] = cols l (0 : Nat)) ∧
 True) ∧
 ∀ (l_1 : List Int) (n : Int) (l_2 l_3 l_4 : List Int),
 l_1.length = (25 : Nat) →
 l_2.length = (25 : Nat) →
 l_3.length = (25 : Nat) →
 l_4.length = (5 : Nat) →
 l_1 = l ∧ l_2 = l ∧ (0 : Int) ≤ n ∧ n ≤ (25 : Int) ∧ l_4 = cols l n.toNat →
 bif decide (n < (25 : Int)) then
 ((0 : Int) ≤ n ∧ n < (↑(25 : Nat) : Int) ∧ n.toNat * (1 : Nat) < (25 : Nat)) ∧
 ((0 : Int) ≤ n ∧ (0 : Int) < (5 : Int)) ∧
 ((0 : Int) ≤ n % (5 : Int) ∧ n % (5 : Int) < (↑(5 : Nat) : Int)) ∧
 (n % (5 : Int)).toNat * (1 : Nat) < (5 : Nat) ∧
 ((0 : Int) ≤ n % (5 : Int) ∧ n % (5 : Int) < (↑(5 : Nat) : Int)) ∧
 (n % (5 : Int)).toNat * (1 : Nat) < (5 : Nat) ∧
 ((-9223372036854775808 : Int) ≤ n + (1 : Int) ∧ n + (1 : Int) ≤ (9223372036854775807 : Int)) ∧
 (l_1 = l ∧
 l_2 = l ∧
 (0 : Int) ≤ n + (1 : Int) ∧
 n + (1 : Int) ≤ (25 : Int) ∧
 l_4.set ((n % (5 : Int)).toNat * (1 : Nat))
 (bXor Go.IntKind.u64 (l_4.getD ((n % (5 : Int)).toNat * (1 : Nat)) (0 : Int)) (l_1.getD (n.toNat * (1 : Nat)) (0 : Int))) =
 cols l (n + (1 : Int)).toNat) ∧
 ((25 : Int) - (n + (1 : Int))).toNat < ((25 : Int) - n).toNat
 else
 (((0 : Int) ≤ (0 : Int) ∧
 (0 : Int) ≤ (25 : Int) ∧ l_4 = cols l (25 : Nat) ∧ l_2 = thN l_4 l (0 : Nat)) ∧
 True) ∧
 ∀ (n : Int) (l_5 l_6 l_7 : List Int),
 l_5.length = (25 : Nat) →
 l_6.length = (25 : Nat) →
 l_7.length = (5 : Nat) →
 (0 : Int) ≤ n ∧
 n ≤ (25 : Int) ∧ l_7 = cols l (25 : Nat) ∧ l_5 = thN l_7 l n.toNat →
 bif decide (n < (25 : Int)) then
 ((0 : Int) ≤ n ∧ (0 : Int) < (5 : Int)) ∧
 ((0 : Int) ≤ n ∧ n < (↑(25 : Nat) : Int)) ∧
 n.toNat * (1 : Nat) < (25 : Nat) ∧
 ((-9223372036854775808 : Int) ≤ n % (5 : Int) + (4 : Int) ∧ n % (5 : Int) + (4 : Int) ≤ (9223372036854775807 : Int)) ∧
 ((0 : Int) ≤ n % (5 : Int) + (4 : Int) ∧ (0 : Int) < (5 : Int)) ∧
 ((0 : Int) ≤ (n % (5 : Int) + (4 : Int)) % (5 : Int) ∧ (n % (5 : Int) + (4 : Int)) % (5 : Int) < (↑(5 : Nat) : Int)) ∧
 ((n % (5 : Int) + (4 : Int)) % (5 : Int)).toNat * (1 : Nat) < (5 : Nat) ∧
 ((-9223372036854775808 : Int) ≤ n % (5 : Int) + (1 : Int) ∧ n % (5 : Int) + (1 : Int) ≤ (9223372036854775807 : Int)) ∧
 ((0 : Int) ≤ n % (5 : Int) + (1 : Int) ∧ (0 : Int) < (5 : Int)) ∧
 ((0 : Int) ≤ (n % (5 : Int) + (1 : Int)) % (5 : Int) ∧ (n % (5 : Int) + (1 : Int)) % (5 : Int) < (↑(5 : Nat) : Int)) ∧
 ((n % (5 : Int) + (1 : Int)) % (5 : Int)).toNat * (1 : Nat) < (5 : Nat) ∧
 ((0 : Int) ≤ (1 : Int) ∧ (1 : Int) ≤ (1000 : Int)) ∧
 ((0 : Int) ≤ n ∧ n < (↑(25 : Nat) : Int)) ∧
 n.toNat * (1 : Nat) < (25 : Nat) ∧
 ((-9223372036854775808 : Int) ≤ n + (1 : Int) ∧ n + (1 : Int) ≤ (9223372036854775807 : Int)) ∧
 ((0 : Int) ≤ n + (1 : Int) ∧
 n + (1 : Int) ≤ (25 : Int) ∧
 l_7 = cols l (25 : Nat) ∧
 l_5.set (n.toNat * (1 : Nat))
 (bXor Go.IntKind.u64 (l_5.getD (n.toNat * (1 : Nat)) (0 : Int))
 (bXor Go.IntKind.u64
 (l_7.getD (((n % (5 : Int) + (4 : Int)) % (5 : Int)).toNat * (1 : Nat)) (0 : Int))
 (rotW
 (l_7.getD (((n % (5 : Int) + (1 : Int)) % (5 : Int)).toNat * (1 : Nat)) (0 : Int))
 ((1 : Int) % (64 : Int))))) =
 thN l_7 l (n + (1 : Int)).toNat) ∧
 ((25 : Int) - (n + (1 : Int))).toNat < ((25 : Int) - n).toNat
 else l_5 = theta l
theorem e211 : ct211.VC (base.with sp214) Tryz.f211.results.toList Tryz.f211.ntmps (Tryz.f211.ntmps - ct211.ps.length) (bodyOf Tryz.f211) ann211 = P211 := by kernel_rfl
noncomputable def sp211 : SpecT := addS sp214 211 (mkF ct211)
def P212 : Prop :=
 ∀ (l : List Int),
 l.length = (25 : Nat) →
 True →
 ((0 : Int) ≤ (0 : Int) ∧ (0 : Int) < (↑(25 : Nat) : Int)) ∧
 (0 : Nat) < (25 : Nat) ∧
 ((l = l ∧
 (0 : Int) ≤ (0 : Int) ∧
 (0 : Int) ≤ (24 : Int) ∧
 (1 : Int) = (↑(1 : Nat) : Int) ∧
 (0 : Int) = (↑(0 : Nat) : Int) ∧
 [(0 : Int), (0 : Int), (0 : Int), (0 : Int), (0 : Int), (0 : Int), (0 : Int), (0 : Int), (0 : Int), (0 : Int), (0 : Int), (0 : Int), (0 : Int), (0 : Int),
 (0 : Int), (0 : Int), (0 : Int), (0 : Int), (0 : Int), (0 : Int), (0 : Int), (0 : Int), (0 : Int), (0 : Int), (0 : Int)].set
 (0 : Nat) (l.getD (0 : Nat) (0 : Int)) =
 rpN l (0 : Nat)) ∧
 True) ∧
 ∀ (n n_1 n_2 : Int) (l_1 l_2 l_3 : List Int),
 l_1.length = (25 : Nat) →
 l_2.length = (25 : Nat) →
 l_3.length = (25 : Nat) →
 l_1 = l ∧
 (0 : Int) ≤ n_2 ∧
 n_2 ≤ (24 : Int) ∧
 n = (↑(xyN n_2.toNat).fst : Int) ∧
 n_1 = (↑(xyN n_2.toNat).snd : Int) ∧ l_3 = rpN l n_2.toNat →
 bif decide (n_2 < (24 : Int)) then
 ((-9223372036854775808 : Int) ≤ (2 : Int) * n ∧ (2 : Int) * n ≤ (9223372036854775807 : Int)) ∧
 ((-9223372036854775808 : Int) ≤ (3 : Int) * n_1 ∧ (3 : Int) * n_1 ≤ (9223372036854775807 : Int)) ∧
 ((-9223372036854775808 : Int) ≤ (2 : Int) * n + (3 : Int) * n_1 ∧ (2 : Int) * n + (3 : Int) * n_1 ≤ (9223372036854775807 : Int)) ∧
 ((0 : Int) ≤ (2 : Int) * n + (3 : Int) * n_1 ∧ (0 : Int) < (5 : Int)) ∧
 ((-9223372036854775808 : Int) ≤ (5 : Int) * (((2 : Int) * n + (3 : Int) * n_1) % (5 : Int)) ∧
 (5 : Int) * (((2 : Int) * n + (3 : Int) * n_1) % (5 : Int)) ≤ (9223372036854775807 : Int)) ∧
 ((-9223372036854775808 : Int) ≤ n_1 + (5 : Int) * (((2 : Int) * n + (3 : Int) * n_1) % (5 : Int)) ∧
 n_1 + (5 : Int) * (((2 : Int) * n + (3 : Int) * n_1) % (5 : Int)) ≤ (9223372036854775807 : Int)) ∧
 ((-9223372036854775808 : Int) ≤ (5 : Int) * n_1 ∧ (5 : Int) * n_1 ≤ (9223372036854775807 : Int)) ∧
 ((-9223372036854775808 : Int) ≤ n + (5 : Int) * n_1 ∧ n + (5 : Int) * n_1 ≤ (9223372036854775807 : Int)) ∧
 ((0 : Int) ≤ n + (5 : Int) * n_1 ∧ n + (5 : Int) * n_1 < (↑(25 : Nat) : Int)) ∧
 (n + (5 : Int) * n_1).toNat * (1 : Nat) < (25 : Nat) ∧
 ((-9223372036854775808 : Int) ≤ n_2 + (1 : Int) ∧ n_2 + (1 : Int) ≤ (9223372036854775807 : Int)) ∧
 ((-9223372036854775808 : Int) ≤ n_2 + (2 : Int) ∧ n_2 + (2 : Int) ≤ (9223372036854775807 : Int)) ∧
 ((-9223372036854775808 : Int) ≤ (n_2 + (1 : Int)) * (n_2 + (2 : Int)) ∧
 (n_2 + (1 : Int)) * (n_2 + (2 : Int)) ≤ (9223372036854775807 : Int)) ∧
 ((0 : Int) ≤ (n_2 + (1 : Int)) * (n_2 + (2 : Int)) ∧
 (0 : Int) < (2 : Int) ∧ (n_2 + (1 : Int)) * (n_2 + (2 : Int)) ≤ Go.IntKind.i64.max) ∧
 ((0 : Int) ≤ (n_2 + (1 : Int)) * (n_2 + (2 : Int)) / (2 : Int) ∧
 (n_2 + (1 : Int)) * (n_2 + (2 : Int)) / (2 : Int) ≤ (1000 : Int)) ∧
 ((0 : Int) ≤ n_1 + (5 : Int) * (((2 : Int) * n + (3 : Int) * n_1) % (5 : Int)) ∧
 n_1 + (5 : Int) * (((2 : Int) * n + (3 : Int) * n_1) % (5 : Int)) < (↑(25 : Nat) : Int)) ∧
 (n_1 + (5 : Int) * (((2 : Int) * n + (3 : Int) * n_1) % (5 : Int))).toNat * (1 : Nat) < (25 : Nat) ∧
 ((-9223372036854775808 : Int) ≤ n_2 + (1 : Int) ∧ n_2 + (1 : Int) ≤ (9223372036854775807 : Int)) ∧
 (l_1 = l ∧
 (0 : Int) ≤ n_2 + (1 : Int) ∧
 n_2 + (1 : Int) ≤ (24 : Int) ∧
 n_1 = (↑(xyN (n_2 + (1 : Int)).toNat).fst : Int) ∧
 ((2 : Int) * n + (3 : Int) * n_1) % (5 : Int) =
 (↑(xyN (n_2 + (1 : Int)).toNat).snd : Int) ∧
 l_3.set ((n_1 + (5 : Int) * (((2 : Int) * n + (3 : Int) * n_1) % (5 : Int))).toNat * (1 : Nat))
 (rotW (l_1.getD ((n + (5 : Int) * n_1).toNat * (1 : Nat)) (0 : Int))
 ((n_2 + (1 : Int)) * (n_2 + (2 : Int)) / (2 : Int) % (64 : Int))) =
 rpN l (n_2 + (1 : Int)).toNat) ∧
 ((24 : Int) - (n_2 + (1 : Int))).toNat < ((24 : Int) - n_2).toNat
 else l_3 = rhoPi l
theorem e212 : ct212.VC (base.with sp211) Tryz.f212.results.toList Tryz.f212.ntmps (Tryz.f212.ntmps - ct212.ps.length) (bodyOf Tryz.f212) ann212 = P212 := by kernel_rfl
noncomputable def sp212 : SpecT := addS sp211 212 (mkF ct212)
def P213 : Prop :=
 ∀ (l : List Int),
 l.length = (25 : Nat) →
 True →
 ((l = l ∧ (0 : Int) ≤ (0 : Int) ∧ (0 : Int) ≤ (25 : Int) ∧ l = chN l (0 : Nat)) ∧ True) ∧
 ∀ (n : Int) (l_1 l_2 l_3 : List Int),
 l_1.length = (25 : Nat) →
 l_2.length = (25 : Nat) →
 l_3.length = (25 : Nat) →
 l_1 = l ∧ (0 : Int) ≤ n ∧ n ≤ (25 : Int) ∧ l_3 = chN l n.toNat →
 bif decide (n < (25 : Int)) then
 ((0 : Int) ≤ n ∧ (0 : Int) < (5 : Int)) ∧
 ((-9223372036854775808 : Int) ≤ n - n % (5 : Int) ∧ n - n % (5 : Int) ≤ (9223372036854775807 : Int)) ∧
 ((0 : Int) ≤ n ∧ n < (↑(25 : Nat) : Int)) ∧
 n.toNat * (1 : Nat) < (25 : Nat) ∧
 ((-9223372036854775808 : Int) ≤ n + (2 : Int) ∧ n + (2 : Int) ≤ (9223372036854775807 : Int)) ∧
 ((0 : Int) ≤ n + (2 : Int) ∧ (0 : Int) < (5 : Int)) ∧
 ((-9223372036854775808 : Int) ≤ n - n % (5 : Int) + (n + (2 : Int)) % (5 : Int) ∧
 n - n % (5 : Int) + (n + (2 : Int)) % (5 : Int) ≤ (9223372036854775807 : Int)) ∧
 ((0 : Int) ≤ n - n % (5 : Int) + (n + (2 : Int)) % (5 : Int) ∧ n - n % (5 : Int) + (n + (2 : Int)) % (5 : Int) < (↑(25 : Nat) : Int)) ∧
 (n - n % (5 : Int) + (n + (2 : Int)) % (5 : Int)).toNat * (1 : Nat) < (25 : Nat) ∧
 ((-9223372036854775808 : Int) ≤ n + (1 : Int) ∧ n + (1 : Int) ≤ (9223372036854775807 : Int)) ∧
 ((0 : Int) ≤ n + (1 : Int) ∧ (0 : Int) < (5 : Int)) ∧
 ((-9223372036854775808 : Int) ≤ n - n % (5 : Int) + (n + (1 : Int)) % (5 : Int) ∧
 n - n % (5 : Int) + (n + (1 : Int)) % (5 : Int) ≤ (9223372036854775807 : Int)) ∧
 ((0 : Int) ≤ n - n % (5 : Int) + (n + (1 : Int)) % (5 : Int) ∧ n - n % (5 : Int) + (n + (1 : Int)) % (5 : Int) < (↑(25 : Nat) : Int)) ∧
 (n - n % (5 : Int) + (n + (1 : Int)) % (5 : Int)).toNat * (1 : Nat) < (25 : Nat) ∧
 ((0 : Int) ≤ n ∧ n < (↑(25 : Nat) : Int)) ∧
 n.toNat * (1 : Nat) < (25 : Nat) ∧
 ((-9223372036854775808 : Int) ≤ n + (1 : Int) ∧ n + (1 : Int) ≤ (9223372036854775807 : Int)) ∧
 (l_1 = l ∧
 (0 : Int) ≤ n + (1 : Int) ∧
 n + (1 : Int) ≤ (25 : Int) ∧
 l_3.set (n.toNat * (1 : Nat))
 (bXor Go.IntKind.u64 (l_3.getD (n.toNat * (1 : Nat)) (0 : Int))
 (bAndNot Go.IntKind.u64
 (l_1.getD ((n - n % (5 : Int) + (n + (2 : Int)) % (5 : Int)).toNat * (1 : Nat)) (0 : Int))
 (l_1.getD ((n - n % (5 : Int) + (n + (1 : Int)) % (5 : Int)).toNat * (1 : Nat)) (0 : Int)))) =
 chN l (n + (1 : Int)).toNat) ∧
 ((25 : Int) - (n + (1 : Int))).toNat < ((25 : Int) - n).toNat
 else l_3 = chi l
theorem e213 : ct213.VC (base.with sp212) Tryz.f213.results.toList Tryz.f213.ntmps (Tryz.f213.ntmps - ct213.ps.length) (bodyOf Tryz.f213) ann213 = P213 := by kernel_rfl
noncomputable def sp213 : SpecT := addS sp212 213 (mkF ct213)
def P187 : Prop :=
 ∀ (l : List Int) (n : Int),
 l.length = (25 : Nat) →
 True →
 True ∧
 True ∧
 True ∧
 ((0 : Int) ≤ (0 : Int) ∧ (0 : Int) < (↑(25 : Nat) : Int)) ∧
 (0 : Nat) < (25 : Nat) ∧
 True ∧
 ((0 : Int) ≤ (0 : Int) ∧ (0 : Int) < (↑(25 : Nat) : Int)) ∧
 (0 : Nat) < (25 : Nat) ∧
 (chi (rhoPi (theta l))).set (0 : Nat)
 (bXor Go.IntKind.u64
 ((chi (rhoPi (theta l))).getD (0 : Nat)
 (0 : Int))
 (rcOf n)) =
 round l n
theorem e187 : ct187.VC (base.with sp213) Tryz.f187.results.toList Tryz.f187.ntmps (Tryz.f187.ntmps - ct187.ps.length) (bodyOf Tryz.f187) noAnn = P187 := by kernel_rfl
noncomputable def sp187 : SpecT := addS sp213 187 (mkF ct187)
def P147 : Prop :=
 ∀ (l : List Int),
 l.length = (25 : Nat) →
 True →
 (((0 : Int) ≤ (0 : Int) ∧ (0 : Int) ≤ (24 : Int) ∧ l = permN l (0 : Nat)) ∧ True) ∧
 ∀ (n : Int) (l_1 l_2 : List Int),
 l_1.length = (25 : Nat) →
 l_2.length = (25 : Nat) →
 (0 : Int) ≤ n ∧ n ≤ (24 : Int) ∧ l_1 = permN l n.toNat →
 bif decide (n < (24 : Int)) then
 True ∧
 ((-9223372036854775808 : Int) ≤ n + (1 : Int) ∧ n + (1 : Int) ≤ (9223372036854775807 : Int)) ∧
 ((0 : Int) ≤ n + (1 : Int) ∧
 n + (1 : Int) ≤ (24 : Int) ∧ round l_1 n = permN l (n + (1 : Int)).toNat) ∧
 ((24 : Int) - (n + (1 : Int))).toNat < ((24 : Int) - n).toNat
 else l_1 = perm l
theorem e147 : ct147.VC (base.with sp187) Tryz.f147.results.toList Tryz.f147.ntmps (Tryz.f147.ntmps - ct147.ps.length) (bodyOf Tryz.f147) ann147 = P147 := by kernel_rfl
noncomputable def sp147 : SpecT := addS sp187 147 (mkF ct147)
end Go.Proofs.YteiecapbaeajdaaGreatDoor
namespace Go.Proofs.YteiecapbaeajdaaGreatDoor
open Go Go.Avc Go.Proofs
set_option linter.unusedVariables false
theorem set_get (l : List Int) (i j : Nat) (x : Int) (hj : j < l.length) : (l.set i x).getD j 0 = if i = j then x else l.getD j 0 := by
  rw [List.getD_eq_getElem?_getD, List.getD_eq_getElem?_getD, List.getElem?_set]
  by_cases h : i = j
  · subst h; simp [hj]
  · simp [h]
theorem th_len (c s : List Int) : ∀ n, (thN c s n).length = s.length
  | 0 => rfl
  | n + 1 => by rw [thN, List.length_set, th_len c s n]
theorem th_get (c s : List Int) : ∀ n j, j < s.length → (thN c s n).getD j 0 = if j < n then xr (s.getD j 0) (xr (c.getD ((j % 5 + 4) % 5) 0) (rotW (c.getD ((j % 5 + 1) % 5) 0) 1)) else s.getD j 0
  | 0, j, h => by rw [if_neg (by omega)]; rfl
  | n + 1, j, h => by
    rw [thN, set_get _ _ _ _ (by rw [th_len]; exact h)]
    by_cases e : n = j
    · subst e
      rw [if_pos rfl, if_pos (by omega), th_get c s n n h, if_neg (by omega)]
    · rw [if_neg e, th_get c s n j h]
      by_cases e2 : j < n
      · rw [if_pos e2, if_pos (by omega)]
      · rw [if_neg e2, if_neg (by omega)]
theorem ch_len (s : List Int) : ∀ n, (chN s n).length = s.length
  | 0 => rfl
  | n + 1 => by rw [chN, List.length_set, ch_len s n]
theorem ch_get (s : List Int) : ∀ n j, j < s.length → (chN s n).getD j 0 = if j < n then xr (s.getD j 0) (bAndNot .u64 (s.getD (j - j % 5 + (j + 2) % 5) 0) (s.getD (j - j % 5 + (j + 1) % 5) 0)) else s.getD j 0
  | 0, j, h => by rw [if_neg (by omega)]; rfl
  | n + 1, j, h => by
    rw [chN, set_get _ _ _ _ (by rw [ch_len]; exact h)]
    by_cases e : n = j
    · subst e
      rw [if_pos rfl, if_pos (by omega), ch_get s n n h, if_neg (by omega)]
    · rw [if_neg e, ch_get s n j h]
      by_cases e2 : j < n
      · rw [if_pos e2, if_pos (by omega)]
      · rw [if_neg e2, if_neg (by omega)]
theorem cols_at (s : List Int) (x : Nat) (h : x < 5) : (cols s 25).getD x 0 = xr (xr (xr (xr (xr 0 (s.getD x 0)) (s.getD (x + 5) 0)) (s.getD (x + 10) 0)) (s.getD (x + 15) 0)) (s.getD (x + 20) 0) := by
  match x, h with
  | 0, _ => simp [cols]
  | 1, _ => simp [cols]
  | 2, _ => simp [cols]
  | 3, _ => simp [cols]
  | 4, _ => simp [cols]
theorem list_ext {l : List Int} {n : Nat} {f : Nat → Int} (hl : l.length = n) (h : ∀ j, j < n → l.getD j 0 = f j) : l = (List.range n).map f := by
  apply List.ext_getElem
  · simp [hl]
  · intro i h1 h2
    have := h i (by omega)
    rw [List.getD_eq_getElem?_getD, List.getElem?_eq_getElem h1] at this
    simpa using this
def cAt (s : List Int) (x : Nat) : Int := xr (xr (xr (xr (xr 0 (s.getD x 0)) (s.getD (x + 5) 0)) (s.getD (x + 10) 0)) (s.getD (x + 15) 0)) (s.getD (x + 20) 0)
theorem theta_eq {s : List Int} (hs : s.length = 25) : theta s = (List.range 25).map fun j => xr (s.getD j 0) (xr (cAt s ((j % 5 + 4) % 5)) (rotW (cAt s ((j % 5 + 1) % 5)) 1)) := by
  refine list_ext (by unfold theta; rw [th_len, hs]) fun j hj => ?_
  unfold theta
  rw [th_get _ _ _ _ (by omega), if_pos hj, cols_at _ _ (by omega), cols_at _ _ (by omega)]
  rfl
theorem chi_eq {s : List Int} (hs : s.length = 25) : chi s = (List.range 25).map fun j => xr (s.getD j 0) (bAndNot .u64 (s.getD (j - j % 5 + (j + 2) % 5) 0) (s.getD (j - j % 5 + (j + 1) % 5) 0)) := by
  refine list_ext (by unfold chi; rw [ch_len, hs]) fun j hj => ?_
  unfold chi
  rw [ch_get _ _ _ (by omega), if_pos hj]
end Go.Proofs.YteiecapbaeajdaaGreatDoor
namespace Go.Proofs.YteiecapbaeajdaaGreatDoor
open Go Go.Avc Go.Proofs
set_option linter.unusedVariables false
set_option linter.unusedSimpArgs false
set_option maxRecDepth 100000
theorem wrap_u64 {n : Int} (h0 : 0 ≤ n) (h : n ≤ 18446744073709551615) : IntKind.u64.wrap n = n := by
  unfold IntKind.wrap
  simp [IntKind.signed, IntKind.bits]
  omega
theorem and63 {k : Nat} (h : k ≤ 1000) : bAnd .u64 (k : Int) 63 = ((k % 64 : Nat) : Int) := by
  unfold bAnd
  rw [BitVec.ofInt_natCast, show (63 : Int) = ((63 : Nat) : Int) from rfl, BitVec.ofInt_natCast, BitVec.toNat_and, BitVec.toNat_ofNat, BitVec.toNat_ofNat, show 2 ^ IntKind.bits .u64 = 18446744073709551616 from by decide, Nat.mod_eq_of_lt (by omega), Nat.mod_eq_of_lt (by omega)]
  have := Nat.and_two_pow_sub_one_eq_mod k 6
  rw [show (2 : Nat) ^ 6 - 1 = 63 from by decide, show (2 : Nat) ^ 6 = 64 from by decide] at this
  rw [this]
  exact wrap_u64 (by omega) (by omega)
theorem vc238 : P238 := by
  rintro x k ⟨h0, h1⟩
  obtain ⟨i, rfl⟩ : ∃ i : Nat, k = i := ⟨k.toNat, by omega⟩
  rw [wrap_u64 (by omega) (by omega), and63 (by omega), wrap_u64 (by omega) (by omega)]
  exact ⟨by omega, by omega, rfl⟩
theorem ok238 : SpecOk (base.with sp57) 238 (mkF ct238) := spec_ct (fn := Tryz.f238) (c := bodyOf Tryz.f238) (k := Tryz.f238.ntmps - ct238.ps.length) (ct := ct238) c57 Tryz.func238 (by kernel_rfl) noAnn (by kernel_rfl) (fun vs w _ => Tryz.call238 vs w) (by rw [e238]; exact vc238)
theorem c238 : (base.with sp238).Ok := addS_ok c57 ok238
theorem vc214 : P214 := by
  intro n _
  refine condI (fun h => ?_) fun h => ?_
  · simp only [Bool.or_eq_true, decide_eq_true_eq] at h
    unfold rcOf
    rw [if_pos h]
  · simp only [Bool.or_eq_false_iff, decide_eq_false_iff_not] at h
    refine ⟨⟨by omega, by omega, by omega⟩, by omega, ?_⟩
    unfold rcOf
    rw [if_neg (by omega), Nat.zero_add]
    obtain ⟨i, rfl⟩ : ∃ i : Nat, n = i := ⟨n.toNat, by omega⟩
    rw [Int.toNat_natCast]
    have hi : i < 24 := by omega
    clear h
    revert i
    decide
theorem ok214 : SpecOk (base.with sp238) 214 (mkF ct214) := spec_ct (fn := Tryz.f214) (c := bodyOf Tryz.f214) (k := Tryz.f214.ntmps - ct214.ps.length) (ct := ct214) c238 Tryz.func214 (by kernel_rfl) noAnn (by kernel_rfl) (fun vs w _ => Tryz.call214 vs w) (by rw [e214]; exact vc214)
theorem c214 : (base.with sp214).Ok := addS_ok c238 ok214
theorem vc211 : P211 := by
  intro s hs _
  refine ⟨⟨⟨rfl, rfl, by omega, by omega, rfl⟩, trivial⟩, ?_⟩
  rintro s' n s'' z c _ _ _ _ ⟨rfl, rfl, h0, h1, rfl⟩
  obtain ⟨i, rfl⟩ : ∃ i : Nat, n = i := ⟨n.toNat, by omega⟩
  refine condI (fun h => ?_) fun h => ?_
  · simp only [decide_eq_true_eq] at h
    simp only [Nat.mul_one, Int.toNat_natCast]
    have e : ((i : Int) % 5).toNat = i % 5 := by omega
    rw [e]
    refine ⟨⟨by omega, by omega, by omega⟩, ⟨by omega, by omega⟩, ⟨by omega, by omega⟩, by omega, ⟨by omega, by omega⟩, by omega, ⟨by omega, by omega⟩, ⟨by trivial, by trivial, by omega, by omega, ?_⟩, by omega⟩
    rw [show ((i : Int) + 1).toNat = i + 1 from by omega]
    rfl
  · simp only [decide_eq_false_iff_not] at h
    have hi : i = 25 := by omega
    subst hi
    rw [show ((25 : Nat) : Int).toNat = 25 from rfl]
    have z0 : ∀ c : List Int, thN c s'' 0 = s'' := fun c => by rw [thN]
    refine ⟨⟨⟨by omega, by omega, Eq.refl (cols s'' 25), (z0 _).symm⟩, trivial⟩, ?_⟩
    have fin : ∀ c t, c = cols s'' 25 → t = thN c s'' 25 → t = theta s'' := fun c t h1 h2 => by rw [h2, h1]; rfl
    generalize cols s'' 25 = cc at *
    rintro n t z c _ _ _ ⟨h0, h1, ec, et⟩
    subst ec et
    obtain ⟨i, rfl⟩ : ∃ i : Nat, n = i := ⟨n.toNat, by omega⟩
    refine condI (fun h => ?_) fun h => ?_
    · simp only [decide_eq_true_eq] at h
      simp only [Nat.mul_one, Int.toNat_natCast]
      have e1 : (((i : Int) % 5 + 4) % 5).toNat = (i % 5 + 4) % 5 := by omega
      have e2 : (((i : Int) % 5 + 1) % 5).toNat = (i % 5 + 1) % 5 := by omega
      rw [e1, e2]
      refine ⟨⟨by omega, by omega⟩, ⟨by omega, by omega⟩, by omega, ⟨by omega, by omega⟩, ⟨by omega, by omega⟩, ⟨by omega, by omega⟩, by omega, ⟨by omega, by omega⟩, ⟨by omega, by omega⟩, ⟨by omega, by omega⟩, by omega, ⟨by omega, by omega⟩, ⟨by omega, by omega⟩, by omega, ⟨by omega, by omega⟩, ⟨by omega, by omega, by trivial, ?_⟩, by omega⟩
      rw [show ((i : Int) + 1).toNat = i + 1 from by omega]
      rfl
    · simp only [decide_eq_false_iff_not] at h
      have hi : i = 25 := by omega
      subst hi
      exact fin _ _ rfl rfl
theorem ok211 : SpecOk (base.with sp214) 211 (mkF ct211) := spec_ct (fn := Tryz.f211) (c := bodyOf Tryz.f211) (k := Tryz.f211.ntmps - ct211.ps.length) (ct := ct211) c214 Tryz.func211 (by kernel_rfl) ann211 (by kernel_rfl) (fun vs w _ => Tryz.call211 vs w) (by rw [e211]; exact vc211)
theorem c211 : (base.with sp211).Ok := addS_ok c214 ok211
theorem xy_lt (i : Nat) : (xyN i).1 < 5 ∧ (xyN i).2 < 5 := by
  induction i with
  | zero => decide
  | succ i ih => simp only [xyN]; omega
theorem vc212 : P212 := by
  intro s hs _
  refine ⟨⟨by omega, by omega⟩, by omega, ⟨⟨rfl, by omega, by omega, rfl, rfl, rfl⟩, trivial⟩, ?_⟩
  rintro x y n s' z t _ _ _ ⟨rfl, h0, h1, rfl, rfl, rfl⟩
  obtain ⟨i, rfl⟩ : ∃ i : Nat, n = i := ⟨n.toNat, by omega⟩
  rw [Int.toNat_natCast]
  obtain ⟨hx, hy⟩ := xy_lt i
  refine condI (fun h => ?_) fun h => ?_
  · simp only [decide_eq_true_eq] at h
    have hm : (i + 1) * (i + 2) ≤ 24 * 25 := Nat.mul_le_mul (by omega) (by omega)
    have em : ((i : Int) + 1) * ((i : Int) + 2) = (((i + 1) * (i + 2) : Nat) : Int) := by simp
    rw [em]
    generalize hM : (i + 1) * (i + 2) = M at *
    have emax : IntKind.max .i64 = 9223372036854775807 := by decide
    rw [emax]
    simp only [Nat.mul_one]
    have e1 : (((xyN i).1 : Int) + 5 * ((xyN i).2 : Int)).toNat = (xyN i).1 + 5 * (xyN i).2 := by omega
    have e2 : (((xyN i).2 : Int) + 5 * ((2 * ((xyN i).1 : Int) + 3 * ((xyN i).2 : Int)) % 5)).toNat = (xyN i).2 + 5 * ((2 * (xyN i).1 + 3 * (xyN i).2) % 5) := by
      have e0 : (2 * ((xyN i).1 : Int) + 3 * ((xyN i).2 : Int)) = ((2 * (xyN i).1 + 3 * (xyN i).2 : Nat) : Int) := by omega
      rw [e0]
      generalize 2 * (xyN i).1 + 3 * (xyN i).2 = m at *
      omega
    rw [e1, e2]
    refine ⟨by omega, by omega, by omega, by omega, by omega, by omega, by omega, by omega, by omega, by omega, by omega, by omega, by omega, by omega, by omega, by omega, by omega, by omega, ⟨by trivial, by omega, by omega, ?_, ?_, ?_⟩, by omega⟩
    · rw [show ((i : Int) + 1).toNat = i + 1 from by omega]; rfl
    · rw [show ((i : Int) + 1).toNat = i + 1 from by omega]
      show _ = (((2 * (xyN i).1 + 3 * (xyN i).2) % 5 : Nat) : Int)
      have e0 : (2 * ((xyN i).1 : Int) + 3 * ((xyN i).2 : Int)) = ((2 * (xyN i).1 + 3 * (xyN i).2 : Nat) : Int) := by omega
      rw [e0]
      generalize 2 * (xyN i).1 + 3 * (xyN i).2 = m
      omega
    · rw [show ((i : Int) + 1).toNat = i + 1 from by omega, show (M : Int) / 2 % 64 = ((M / 2 % 64 : Nat) : Int) from by omega, ← hM]
      rfl
  · simp only [decide_eq_false_iff_not] at h
    have hi : i = 24 := by omega
    subst hi
    rfl
theorem ok212 : SpecOk (base.with sp211) 212 (mkF ct212) := spec_ct (fn := Tryz.f212) (c := bodyOf Tryz.f212) (k := Tryz.f212.ntmps - ct212.ps.length) (ct := ct212) c211 Tryz.func212 (by kernel_rfl) ann212 (by kernel_rfl) (fun vs w _ => Tryz.call212 vs w) (by rw [e212]; exact vc212)
theorem c212 : (base.with sp212).Ok := addS_ok c211 ok212
theorem vc213 : P213 := by
  intro s hs _
  refine ⟨⟨⟨rfl, by omega, by omega, rfl⟩, trivial⟩, ?_⟩
  rintro n s' z t _ _ _ ⟨rfl, h0, h1, rfl⟩
  obtain ⟨i, rfl⟩ : ∃ i : Nat, n = i := ⟨n.toNat, by omega⟩
  refine condI (fun h => ?_) fun h => ?_
  · simp only [decide_eq_true_eq] at h
    simp only [Nat.mul_one, Int.toNat_natCast]
    have e1 : ((i : Int) - (i : Int) % 5 + ((i : Int) + 2) % 5).toNat = i - i % 5 + (i + 2) % 5 := by omega
    have e2 : ((i : Int) - (i : Int) % 5 + ((i : Int) + 1) % 5).toNat = i - i % 5 + (i + 1) % 5 := by omega
    rw [e1, e2]
    refine ⟨by omega, by omega, by omega, by omega, by omega, by omega, by omega, by omega, by omega, by omega, by omega, by omega, by omega, by omega, by omega, by omega, by omega, ⟨by trivial, by omega, by omega, ?_⟩, by omega⟩
    rw [show ((i : Int) + 1).toNat = i + 1 from by omega]
    rfl
  · simp only [decide_eq_false_iff_not] at h
    have hi : i = 25 := by omega
    subst hi
    rw [show ((25 : Nat) : Int).toNat = 25 from rfl]
    rfl
theorem ok213 : SpecOk (base.with sp212) 213 (mkF ct213) := spec_ct (fn := Tryz.f213) (c := bodyOf Tryz.f213) (k := Tryz.f213.ntmps - ct213.ps.length) (ct := ct213) c212 Tryz.func213 (by kernel_rfl) ann213 (by kernel_rfl) (fun vs w _ => Tryz.call213 vs w) (by rw [e213]; exact vc213)
theorem c213 : (base.with sp213).Ok := addS_ok c212 ok213
theorem vc187 : P187 := by
  intro s r hs _
  exact ⟨trivial, trivial, trivial, by omega, by omega, trivial, by omega, by omega, rfl⟩
theorem ok187 : SpecOk (base.with sp213) 187 (mkF ct187) := spec_ct (fn := Tryz.f187) (c := bodyOf Tryz.f187) (k := Tryz.f187.ntmps - ct187.ps.length) (ct := ct187) c213 Tryz.func187 (by kernel_rfl) noAnn (by kernel_rfl) (fun vs w _ => Tryz.call187 vs w) (by rw [e187]; exact vc187)
theorem c187 : (base.with sp187).Ok := addS_ok c213 ok187
theorem vc147 : P147 := by
  intro s hs _
  refine ⟨⟨⟨by omega, by omega, rfl⟩, trivial⟩, ?_⟩
  rintro n t z _ _ ⟨h0, h1, rfl⟩
  obtain ⟨i, rfl⟩ : ∃ i : Nat, n = i := ⟨n.toNat, by omega⟩
  refine condI (fun h => ?_) fun h => ?_
  · simp only [decide_eq_true_eq] at h
    refine ⟨trivial, by omega, ⟨by omega, by omega, ?_⟩, by omega⟩
    rw [show ((i : Int) + 1).toNat = i + 1 from by omega]
    rfl
  · simp only [decide_eq_false_iff_not] at h
    have hi : i = 24 := by omega
    subst hi
    rw [perm_eq]; rfl
theorem ok147 : SpecOk (base.with sp187) 147 (mkF ct147) := spec_ct (fn := Tryz.f147) (c := bodyOf Tryz.f147) (k := Tryz.f147.ntmps - ct147.ps.length) (ct := ct147) c187 Tryz.func147 (by kernel_rfl) ann147 (by kernel_rfl) (fun vs w _ => Tryz.call147 vs w) (by rw [e147]; exact vc147)
theorem c147 : (base.with sp147).Ok := addS_ok c187 ok147
end Go.Proofs.YteiecapbaeajdaaGreatDoor
namespace Go.Proofs.YteiecapbaeajdaaGreatDoor
open Go.Avc
set_option linter.unusedVariables false
def flip1 (m r : Int) : Int := if r / m % 2 = 1 then r - m else r + m
def msL : List Int := [64, 32, 16, 1]
def flN (r : Int) : Nat → Int
  | 0 => r
  | j + 1 => flip1 (msL.getD j 0) (flN r j)
def lfs (r : Int) : Int := if 256 ≤ r * 2 then flN (r * 2 - 256) 4 else r * 2
def lfN : Nat → Int
  | 0 => 1
  | n + 1 => lfs (lfN n)
def rcB (t : Nat) : Bool := decide (lfN t % 2 = 1)
def cbN (r : Nat) : Nat → List Bool
  | 0 => List.replicate 64 false
  | j + 1 => (cbN r j).set (2 ^ j - 1) (rcB (j + 7 * r))
def cbits (r : Int) : List Bool := if r < 0 ∨ 23 < r then List.replicate 64 false else cbN r.toNat 7
def ct239 : Ct := { ps := [i64], bs := [], pre := fun | [.i t] => 0 ≤ t ∧ t ≤ 1000 | _ => False, res := fun | [.i t] => .ret .bool [] [.b (rcB t.toNat)] | _ => noRes }
def sl239 : List (Nat × Pat) := [(0, i64), (3, i64), (4, i64), (18, .rd [.int .i64]), (19, i64), (20, i64)]
def ann239 : List Dat → Ann
  | [.i t] => ⟨[], [(3, [la 39 [(0, i64), (3, i64), (4, i64)] [] (fun | [.i t', .i r, .i i] => t' = t ∧ 0 ≤ i ∧ i ≤ t ∧ r = lfN i.toNat | _ => False) (fun | [.i t', _, .i i] => (t' - i).toNat | _ => 0)])],
      [(9, [la 39 sl239 [] (fun _ => True) (fun _ => 0)], fun | [.i t0, .i r0, .i i0, .r l0, .i n0, .i _] => [la 39 sl239 []
        (fun | [.i t', .i r, .i i, .r l, .i n, .i j] => t' = t0 ∧ i = i0 ∧ l = l0 ∧ n = n0 ∧ 0 ≤ j ∧ j ≤ 4 ∧ r = flN r0 j.toNat | _ => False) (fun | [_, _, _, _, _, .i j] => (4 - j).toNat | _ => 0)] | _ => [])]⟩
  | _ => { cut := [], loop := [] }
abbrev b64 : Pat := .agg [.arrB 64]
abbrev q27 : BPat := .cells 341 [.arrB 64]
def ct224 : Ct := { ps := [i64], bs := [], pre := fun _ => True, res := fun | [.i r] => .ret b64 [] [.lb (cbits r)] | _ => noRes }
def ann224 : List Dat → Ann
  | [.i r] => ⟨[], [(6, [la 29 [(0, i64), (2, .ptr 0 0), (3, .ptr 1 0), (4, i64), (5, i64)] [q27, q27] (fun | [.i r', .i p, .i j, .lb z, .lb c] => r' = r ∧ 0 ≤ r ∧ r ≤ 23 ∧ 0 ≤ j ∧ j ≤ 7 ∧ p = 2 ^ j.toNat ∧ c = cbN r.toNat j.toNat | _ => False) (fun | [_, _, .i j, _, _] => (7 - j).toNat | _ => 0)])], []⟩
  | _ => { cut := [], loop := [] }
end Go.Proofs.YteiecapbaeajdaaGreatDoor
namespace Go.Proofs.YteiecapbaeajdaaGreatDoor
open Go Go.Avc Go.Proofs
set_option linter.unusedVariables false
set_option maxRecDepth 100000
def P239 : Prop :=
 ∀ (n : Int),
 (0 : Int) ≤ n ∧ n ≤ (1000 : Int) →
 ((n = n ∧ (0 : Int) ≤ (0 : Int) ∧ (0 : Int) ≤ n ∧ (1 : Int) = lfN (0 : Nat)) ∧ True) ∧
 ∀ (n_1 n_2 n_3 : Int),
 n_1 = n ∧ (0 : Int) ≤ n_3 ∧ n_3 ≤ n ∧ n_2 = lfN n_3.toNat →
 bif decide (n_3 < n_1) then
 ((-9223372036854775808 : Int) ≤ n_2 * (2 : Int) ∧ n_2 * (2 : Int) ≤ (9223372036854775807 : Int)) ∧
 bif decide ((256 : Int) ≤ n_2 * (2 : Int)) then
 ((-9223372036854775808 : Int) ≤ n_2 * (2 : Int) - (256 : Int) ∧ n_2 * (2 : Int) - (256 : Int) ≤ (9223372036854775807 : Int)) ∧
 ((4 : Nat) ≤ (9223372036854775807 : Nat) →
 ((n_1 = n_1 ∧
 n_3 = n_3 ∧
 [[CD.int (64 : Int)], [CD.int (32 : Int)], [CD.int (16 : Int)], [CD.int (1 : Int)]] =
 [[CD.int (64 : Int)], [CD.int (32 : Int)], [CD.int (16 : Int)], [CD.int (1 : Int)]] ∧
 (↑(4 : Nat) : Int) = (↑(4 : Nat) : Int) ∧
 (0 : Int) ≤ (0 : Int) ∧
 (0 : Int) ≤ (4 : Int) ∧ n_2 * (2 : Int) - (256 : Int) = flN (n_2 * (2 : Int) - (256 : Int)) (0 : Nat)) ∧
 True) ∧
 ∀ (n_4 n_5 n_6 : Int) (l : List (List CD)) (n_7 n_8 : Int),
 l.length ≤ (9223372036854775807 : Nat) →
 n_4 = n_1 ∧
 n_6 = n_3 ∧
 l = [[CD.int (64 : Int)], [CD.int (32 : Int)], [CD.int (16 : Int)], [CD.int (1 : Int)]] ∧
 n_7 = (↑(4 : Nat) : Int) ∧
 (0 : Int) ≤ n_8 ∧ n_8 ≤ (4 : Int) ∧ n_5 = flN (n_2 * (2 : Int) - (256 : Int)) n_8.toNat →
 bif decide (n_8 < n_7) then
 ((0 : Int) ≤ n_8 ∧ n_8 < (↑l.length : Int)) ∧
 n_8.toNat < l.length ∧
 ((0 : Int) ≤ n_5 ∧ (0 : Int) < ((l.getD n_8.toNat []).getD (0 : Nat) (CD.int (0 : Int))).toInt ∧ n_5 ≤ Go.IntKind.i64.max) ∧
 ((0 : Int) ≤ n_5 / ((l.getD n_8.toNat []).getD (0 : Nat) (CD.int (0 : Int))).toInt ∧ (0 : Int) < (2 : Int)) ∧
 bif decide (n_5 / ((l.getD n_8.toNat []).getD (0 : Nat) (CD.int (0 : Int))).toInt % (2 : Int) = (1 : Int)) then
 ((-9223372036854775808 : Int) ≤ n_5 - ((l.getD n_8.toNat []).getD (0 : Nat) (CD.int (0 : Int))).toInt ∧
 n_5 - ((l.getD n_8.toNat []).getD (0 : Nat) (CD.int (0 : Int))).toInt ≤ (9223372036854775807 : Int)) ∧
 ((-9223372036854775808 : Int) ≤ n_8 + (1 : Int) ∧ n_8 + (1 : Int) ≤ (9223372036854775807 : Int)) ∧
 (n_4 = n_1 ∧
 n_6 = n_3 ∧
 l = [[CD.int (64 : Int)], [CD.int (32 : Int)], [CD.int (16 : Int)], [CD.int (1 : Int)]] ∧
 n_7 = (↑(4 : Nat) : Int) ∧
 (0 : Int) ≤ n_8 + (1 : Int) ∧
 n_8 + (1 : Int) ≤ (4 : Int) ∧
 n_5 - ((l.getD n_8.toNat []).getD (0 : Nat) (CD.int (0 : Int))).toInt =
 flN (n_2 * (2 : Int) - (256 : Int)) (n_8 + (1 : Int)).toNat) ∧
 ((4 : Int) - (n_8 + (1 : Int))).toNat < ((4 : Int) - n_8).toNat
 else
 ((-9223372036854775808 : Int) ≤ n_5 + ((l.getD n_8.toNat []).getD (0 : Nat) (CD.int (0 : Int))).toInt ∧
 n_5 + ((l.getD n_8.toNat []).getD (0 : Nat) (CD.int (0 : Int))).toInt ≤ (9223372036854775807 : Int)) ∧
 ((-9223372036854775808 : Int) ≤ n_8 + (1 : Int) ∧ n_8 + (1 : Int) ≤ (9223372036854775807 : Int)) ∧
 (n_4 = n_1 ∧
 n_6 = n_3 ∧
 l = [[CD.int (64 : Int)], [CD.int (32 : Int)], [CD.int (16 : Int)], [CD.int (1 : Int)]] ∧
 n_7 = (↑(4 : Nat) : Int) ∧
 (0 : Int) ≤ n_8 + (1 : Int) ∧
 n_8 + (1 : Int) ≤ (4 : Int) ∧
 n_5 + ((l.getD n_8.toNat []).getD (0 : Nat) (CD.int (0 : Int))).toInt =
 flN (n_2 * (2 : Int) - (256 : Int)) (n_8 + (1 : Int)).toNat) ∧
 ((4 : Int) - (n_8 + (1 : Int))).toNat < ((4 : Int) - n_8).toNat
 else
 ((-9223372036854775808 : Int) ≤ n_6 + (1 : Int) ∧ n_6 + (1 : Int) ≤ (9223372036854775807 : Int)) ∧
 (n_4 = n ∧ (0 : Int) ≤ n_6 + (1 : Int) ∧ n_6 + (1 : Int) ≤ n ∧ n_5 = lfN (n_6 + (1 : Int)).toNat) ∧
 (n_4 - (n_6 + (1 : Int))).toNat < (n_1 - n_3).toNat)
 else
 ((-9223372036854775808 : Int) ≤ n_3 + (1 : Int) ∧ n_3 + (1 : Int) ≤ (9223372036854775807 : Int)) ∧
 (n_1 = n ∧ (0 : Int) ≤ n_3 + (1 : Int) ∧ n_3 + (1 : Int) ≤ n ∧ n_2 * (2 : Int) = lfN (n_3 + (1 : Int)).toNat) ∧
 (n_1 - (n_3 + (1 : Int))).toNat < (n_1 - n_3).toNat
 else ((0 : Int) ≤ n_2 ∧ (0 : Int) < (2 : Int)) ∧ decide (n_2 % (2 : Int) = (1 : Int)) = rcB n.toNat
theorem e239 : ct239.VC (base.with sp147) Tryz.f239.results.toList Tryz.f239.ntmps (Tryz.f239.ntmps - ct239.ps.length) (bodyOf Tryz.f239) ann239 = P239 := by kernel_rfl
noncomputable def sp239 : SpecT := addS sp147 239 (mkF ct239)
def P224 : Prop :=
 ∀ (n : Int),
 True →
 bif decide (n < (0 : Int)) || decide ((23 : Int) < n) then List.replicate (64 : Nat) false = cbits n
 else
 ((n = n ∧
 (0 : Int) ≤ n ∧
 n ≤ (23 : Int) ∧
 (0 : Int) ≤ (0 : Int) ∧
 (0 : Int) ≤ (7 : Int) ∧ (1 : Int) = (2 : Int) ^ (0 : Nat) ∧ List.replicate (64 : Nat) false = cbN n.toNat (0 : Nat)) ∧
 True) ∧
 ∀ (n_1 n_2 n_3 : Int) (l l_1 : List Bool),
 l.length = (64 : Nat) →
 l_1.length = (64 : Nat) →
 n_1 = n ∧
 (0 : Int) ≤ n ∧
 n ≤ (23 : Int) ∧ (0 : Int) ≤ n_3 ∧ n_3 ≤ (7 : Int) ∧ n_2 = (2 : Int) ^ n_3.toNat ∧ l_1 = cbN n.toNat n_3.toNat →
 bif decide (n_3 < (7 : Int)) then
 ((-9223372036854775808 : Int) ≤ n_2 - (1 : Int) ∧ n_2 - (1 : Int) ≤ (9223372036854775807 : Int)) ∧
 ((-9223372036854775808 : Int) ≤ (7 : Int) * n_1 ∧ (7 : Int) * n_1 ≤ (9223372036854775807 : Int)) ∧
 ((-9223372036854775808 : Int) ≤ n_3 + (7 : Int) * n_1 ∧ n_3 + (7 : Int) * n_1 ≤ (9223372036854775807 : Int)) ∧
 ((0 : Int) ≤ n_3 + (7 : Int) * n_1 ∧ n_3 + (7 : Int) * n_1 ≤ (1000 : Int)) ∧
 ((0 : Int) ≤ n_2 - (1 : Int) ∧ n_2 - (1 : Int) < (↑(64 : Nat) : Int)) ∧
 (n_2 - (1 : Int)).toNat * (1 : Nat) < (64 : Nat) ∧
 ((-9223372036854775808 : Int) ≤ n_2 * (2 : Int) ∧ n_2 * (2 : Int) ≤ (9223372036854775807 : Int)) ∧
 ((-9223372036854775808 : Int) ≤ n_3 + (1 : Int) ∧ n_3 + (1 : Int) ≤ (9223372036854775807 : Int)) ∧
 (n_1 = n ∧
 (0 : Int) ≤ n ∧
 n ≤ (23 : Int) ∧
 (0 : Int) ≤ n_3 + (1 : Int) ∧
 n_3 + (1 : Int) ≤ (7 : Int) ∧
 n_2 * (2 : Int) = (2 : Int) ^ (n_3 + (1 : Int)).toNat ∧
 l_1.set ((n_2 - (1 : Int)).toNat * (1 : Nat)) (rcB (n_3 + (7 : Int) * n_1).toNat) =
 cbN n.toNat (n_3 + (1 : Int)).toNat) ∧
 ((7 : Int) - (n_3 + (1 : Int))).toNat < ((7 : Int) - n_3).toNat
 else l_1 = cbits n
theorem e224 : ct224.VC (base.with sp239) Tryz.f224.results.toList Tryz.f224.ntmps (Tryz.f224.ntmps - ct224.ps.length) (bodyOf Tryz.f224) ann224 = P224 := by kernel_rfl
noncomputable def sp224 : SpecT := addS sp239 224 (mkF ct224)
end Go.Proofs.YteiecapbaeajdaaGreatDoor
namespace Go.Proofs.YteiecapbaeajdaaGreatDoor
open Go Go.Avc Go.Proofs
set_option linter.unusedVariables false
set_option linter.unusedSimpArgs false
set_option maxRecDepth 100000
theorem lfs_bd : ∀ r : Fin 256, 0 ≤ lfs (r.val : Int) ∧ lfs (r.val : Int) ≤ 255 := by decide +kernel
theorem lf_bd (n : Nat) : 0 ≤ lfN n ∧ lfN n ≤ 255 := by
  induction n with
  | zero => decide
  | succ n ih =>
    have := lfs_bd ⟨(lfN n).toNat, by omega⟩
    rw [show (((⟨(lfN n).toNat, by omega⟩ : Fin 256).val : Nat) : Int) = lfN n from by show (((lfN n).toNat : Nat) : Int) = _; omega] at this
    exact this
theorem fl_bd0 : ∀ r : Fin 128, ∀ j : Fin 5, 0 ≤ flN (2 * (r.val : Int)) j.val ∧ flN (2 * (r.val : Int)) j.val ≤ 255 := by decide +kernel
theorem fl_bd {r : Int} {j : Nat} (h0 : 256 ≤ r * 2) (h1 : r ≤ 255) (hj : j ≤ 4) : 0 ≤ flN (r * 2 - 256) j ∧ flN (r * 2 - 256) j ≤ 255 := by
  have := fl_bd0 ⟨(r - 128).toNat, by omega⟩ ⟨j, by omega⟩
  rw [show 2 * (((⟨(r - 128).toNat, by omega⟩ : Fin 128).val : Nat) : Int) = r * 2 - 256 from by show 2 * (((r - 128).toNat : Nat) : Int) = _; omega] at this
  exact this
theorem ms_get : ∀ j : Fin 4, (((([[CD.int 64], [CD.int 32], [CD.int 16], [CD.int 1]] : List (List CD)).getD j.val []).getD 0 (CD.int 0)).toInt = msL.getD j.val 0) ∧ 0 < msL.getD j.val 0 ∧ msL.getD j.val 0 ≤ 64 := by decide
theorem vc239 : P239 := by
  rintro t ⟨ht0, ht1⟩
  refine ⟨⟨⟨rfl, by omega, ht0, rfl⟩, trivial⟩, ?_⟩
  rintro t' r i ⟨e1, h0, h1, e2⟩
  subst e1 e2
  obtain ⟨b0, b1⟩ := lf_bd i.toNat
  generalize hr : lfN i.toNat = r at *
  have emax : IntKind.max .i64 = 9223372036854775807 := by decide
  refine condI (fun h => ⟨⟨by omega, by omega⟩, condI (fun h2 => ?_) fun h2 => ?_⟩) fun h => ?_
  · simp only [decide_eq_true_eq] at h h2
    refine ⟨⟨by omega, by omega⟩, fun _ => ⟨⟨⟨rfl, rfl, rfl, rfl, by omega, by omega, rfl⟩, trivial⟩, ?_⟩⟩
    rintro t2 q i2 l n j _ ⟨e1, e2, e3, e4, h3, h4, e5⟩
    subst e1 e2 e3 e4 e5
    obtain ⟨k, rfl⟩ : ∃ k : Nat, j = k := ⟨j.toNat, by omega⟩
    rw [Int.toNat_natCast]
    obtain ⟨c0, c1⟩ := fl_bd h2 b1 (show k ≤ 4 by omega)
    refine condI (fun h5 => ?_) fun h5 => ?_
    · simp only [decide_eq_true_eq] at h5
      have hk : k < 4 := by omega
      obtain ⟨m1, m2, m3⟩ := ms_get ⟨k, hk⟩
      simp only at m1 m2 m3
      rw [m1, emax, show ((k : Int) + 1).toNat = k + 1 from by omega]
      have fs : flN (r * 2 - 256) (k + 1) = flip1 (msL.getD k 0) (flN (r * 2 - 256) k) := rfl
      have hd : 0 ≤ flN (r * 2 - 256) k / msL.getD k 0 := Int.ediv_nonneg c0 (by omega)
      refine ⟨⟨by omega, by show (k : Int) < 4; omega⟩, hk, ⟨c0, m2, by omega⟩, ⟨hd, by omega⟩, condI (fun h6 => ?_) fun h6 => ?_⟩
      · refine ⟨⟨by omega, by omega⟩, ⟨by omega, by omega⟩, ⟨rfl, rfl, rfl, rfl, by omega, by omega, ?_⟩, by omega⟩
        rw [fs, flip1, if_pos (of_decide_eq_true h6)]
      · refine ⟨⟨by omega, by omega⟩, ⟨by omega, by omega⟩, ⟨rfl, rfl, rfl, rfl, by omega, by omega, ?_⟩, by omega⟩
        rw [fs, flip1, if_neg (of_decide_eq_false h6)]
    · simp only [decide_eq_false_iff_not] at h5
      have hk : k = 4 := by omega
      subst hk
      refine ⟨⟨by omega, by omega⟩, ⟨rfl, by omega, by omega, ?_⟩, by omega⟩
      rw [show (i2 + 1).toNat = i2.toNat + 1 from by omega, lfN, hr, lfs, if_pos h2]
  · simp only [decide_eq_true_eq, decide_eq_false_iff_not] at h h2
    refine ⟨⟨by omega, by omega⟩, ⟨rfl, by omega, by omega, ?_⟩, by omega⟩
    rw [show (i + 1).toNat = i.toNat + 1 from by omega, lfN, hr, lfs, if_neg h2]
  · simp only [decide_eq_false_iff_not] at h
    refine ⟨⟨b0, by omega⟩, ?_⟩
    unfold rcB
    rw [← hr, show i = t' from by omega]
theorem ok239 : SpecOk (base.with sp147) 239 (mkF ct239) := spec_ct (fn := Tryz.f239) (c := bodyOf Tryz.f239) (k := Tryz.f239.ntmps - ct239.ps.length) (ct := ct239) c147 Tryz.func239 (by kernel_rfl) ann239 (by kernel_rfl) (fun vs w _ => Tryz.call239 vs w) (by rw [e239]; exact vc239)
theorem c239 : (base.with sp239).Ok := addS_ok c147 ok239
theorem vc224 : P224 := by
  intro r _
  refine condI (fun h => ?_) fun h => ?_
  · simp only [Bool.or_eq_true, decide_eq_true_eq] at h
    unfold cbits
    rw [if_pos h]; try rfl
  · simp only [Bool.or_eq_false_iff, decide_eq_false_iff_not] at h
    refine ⟨⟨⟨rfl, by omega, by omega, by omega, by omega, rfl, rfl⟩, trivial⟩, ?_⟩
    rintro r' p n z c _ _ ⟨e1, h0, h1, h2, h3, e2, e3⟩
    subst e1 e2 e3
    obtain ⟨j, rfl⟩ : ∃ j : Nat, n = j := ⟨n.toNat, by omega⟩
    rw [Int.toNat_natCast]
    refine condI (fun h5 => ?_) fun h5 => ?_
    · simp only [decide_eq_true_eq] at h5
      have hj : j < 7 := by omega
      have hp : ∀ j : Fin 7, (1 : Int) ≤ 2 ^ j.val ∧ (2 : Int) ^ j.val ≤ 64 ∧ ((2 : Int) ^ j.val - 1).toNat = 2 ^ j.val - 1 ∧ (2 : Int) ^ (j.val + 1) = 2 ^ j.val * 2 := by decide
      obtain ⟨p1, p2, p3, p4⟩ := hp ⟨j, hj⟩
      simp only at p1 p2 p3 p4
      rw [show ((j : Int) + 1).toNat = j + 1 from by omega, p3, Nat.mul_one]
      refine ⟨by omega, by omega, by omega, by omega, by omega, by omega, by omega, by omega, ⟨rfl, by omega, by omega, by omega, by omega, p4.symm, ?_⟩, by omega⟩
      rw [cbN, show ((j : Int) + 7 * r').toNat = j + 7 * r'.toNat from by omega]
    · simp only [decide_eq_false_iff_not] at h5
      have hj : j = 7 := by omega
      subst hj
      unfold cbits
      rw [if_neg (by omega)]
theorem ok224 : SpecOk (base.with sp239) 224 (mkF ct224) := spec_ct (fn := Tryz.f224) (c := bodyOf Tryz.f224) (k := Tryz.f224.ntmps - ct224.ps.length) (ct := ct224) c239 Tryz.func224 (by kernel_rfl) ann224 (by kernel_rfl) (fun vs w _ => Tryz.call224 vs w) (by rw [e224]; exact vc224)
theorem c224 : (base.with sp224).Ok := addS_ok c239 ok224
end Go.Proofs.YteiecapbaeajdaaGreatDoor
namespace Go.Proofs.YteiecapbaeajdaaGreatDoor
open Go Go.Avc Go.Proofs
set_option linter.unusedVariables false
set_option maxRecDepth 100000
/-- Bit z of a word. -/
def bt (w : Int) (z : Nat) : Bool := w.toNat.testBit z
/-- A word is one. -/
def isW (w : Int) : Prop := 0 ≤ w ∧ w < 18446744073709551616
theorem wrap_u64' (n : Int) : IntKind.u64.wrap n = n % 18446744073709551616 := by
  simp [IntKind.wrap, IntKind.signed, IntKind.bits]
theorem bv_w (v : BitVec 64) : IntKind.u64.wrap (v.toNat : Int) = (v.toNat : Int) := by
  have := v.isLt
  rw [wrap_u64']
  omega
theorem bv_isW (v : BitVec 64) : isW (IntKind.u64.wrap (v.toNat : Int)) := by
  have := v.isLt
  rw [bv_w]
  exact ⟨by omega, by omega⟩
theorem or_isW (a b : Int) : isW (bOr .u64 a b) := bv_isW (BitVec.ofInt 64 a ||| BitVec.ofInt 64 b)
end Go.Proofs.YteiecapbaeajdaaGreatDoor
namespace Go.Proofs.YteiecapbaeajdaaGreatDoor
open Go.Avc
set_option linter.unusedVariables false
abbrev s30 : Pat := .agg [.arrB 1600]
abbrev q30 : BPat := .cells 344 [.arrB 1600]
abbrev q23 : BPat := .cells 211 [a25]
abbrev q28 : BPat := .cells 342 [.arrB 320]
/-- What nobody is to reckon out. -/
noncomputable def hid {α : Type} (x : α) : α := Classical.choose (⟨x, rfl⟩ : ∃ y : α, y = x)
theorem hid_eq {α : Type} (x : α) : hid x = x := Classical.choose_spec (⟨x, rfl⟩ : ∃ y : α, y = x)
/-- Places are written one behind the other. -/
def fillN (f : Nat → Nat) (g : Nat → Bool) (l : List Bool) : Nat → List Bool
  | 0 => l
  | n + 1 => (fillN f g l n).set (f n) (g n)
def fill2 (f : Nat → Nat → Nat) (g : Nat → Nat → Bool) (m : Nat) (l : List Bool) : Nat → List Bool
  | 0 => l
  | n + 1 => fillN (f n) (g n) (fill2 f g m l n) m
def fill3 (f : Nat → Nat → Nat → Nat) (g : Nat → Nat → Nat → Bool) (k m : Nat) (l : List Bool) : Nat → List Bool
  | 0 => l
  | n + 1 => fill2 (f n) (g n) m (fill3 f g k m l n) k
def zB : List Bool := List.replicate 1600 false
def at3 (x y z : Nat) : Nat := x * 320 + y * 64 + z
def gb (a : List Bool) (k : Nat) : Bool := a.getD k false
/-! chi -/
def chV (a : List Bool) (x y z : Nat) : Bool := gb a (at3 x y z) != (!gb a (at3 ((x + 1) % 5) y z) && gb a (at3 ((x + 2) % 5) y z))
def chiB (a : List Bool) : List Bool := fill3 at3 (chV a) 5 64 zB 5
/-! pi -/
def lanes (t l : List Bool) (i : Nat) : List Bool := t.take i ++ l ++ t.drop (i + 64)
def lane (a : List Bool) (i : Nat) : List Bool := (a.drop i).take 64
def piY (a : List Bool) (x : Nat) (t : List Bool) : Nat → List Bool
  | 0 => t
  | n + 1 => lanes (piY a x t n) (lane a (x * 320 + n * 64)) (n * 320 + (2 * x + 3 * n) % 5 * 64)
def piX (a : List Bool) (t : List Bool) : Nat → List Bool
  | 0 => t
  | n + 1 => piY a n (piX a t n) 5
def piB (a : List Bool) : List Bool := piX a zB 5
/-! rho -/
def rhZ (a : List Bool) (t : Nat) (l : List Bool) (n : Nat) : List Bool :=
  fillN (fun z => at3 (xyN t).1 (xyN t).2 ((z + (t + 1) * (t + 2) / 2) % 64)) (fun z => gb a (at3 (xyN t).1 (xyN t).2 z)) l n
def rhN (a : List Bool) : Nat → List Bool
  | 0 => lanes zB (lane a 0) 0
  | n + 1 => rhZ a n (rhN a n) 64
def rhoB (a : List Bool) : List Bool := rhN a 24
/-! theta -/
def cntK (a : List Bool) (x z : Nat) : Nat → Int
  | 0 => 0
  | n + 1 => if gb a (at3 x n z) = true then cntK a x z n + 1 else cntK a x z n
def parB (a : List Bool) : List Bool := fill2 (fun x z => x * 64 + z) (fun x z => decide (cntK a x z 5 % 2 = 1)) 64 (List.replicate 320 false) 5
def thV (a p : List Bool) (x y z : Nat) : Bool := gb a (at3 x y z) != (gb p ((x + 4) % 5 * 64 + z) != gb p ((x + 1) % 5 * 64 + (z + 63) % 64))
def thetaB (a : List Bool) : List Bool := fill3 at3 (thV a (parB a)) 5 64 zB 5
/-! a round -/
def addC (a c : List Bool) : Nat → List Bool
  | 0 => a
  | n + 1 => (addC a c n).set n (gb (addC a c n) n != gb c n)
def roundB (a : List Bool) (r : Int) : List Bool := addC (chiB (piB (rhoB (thetaB a)))) (cbits r) 64
def ofW (s : List Int) : List Bool := fill2 (fun i z => at3 (i % 5) (i / 5) z) (fun i z => bt (s.getD i 0) z) 64 zB 25
def wv (a : List Bool) (i : Nat) : Nat → Nat
  | 0 => 0
  | n + 1 => 2 * wv a i n + (if gb a (at3 (i % 5) (i / 5) (63 - n)) = true then 1 else 0)
def wdN (a : List Bool) : Nat → List Int
  | 0 => List.replicate 25 0
  | n + 1 => (wdN a n).set n (wv a n 64 : Nat)
noncomputable def toW (a : List Bool) : List Int := hid (wdN a 25)
def permB (a : List Bool) : Nat → List Bool
  | 0 => a
  | n + 1 => roundB (permB a n) n
noncomputable def permR (s : List Int) : List Int := hid (toW (permB (ofW s) 24))
/-- All are words. -/
def areW (s : List Int) : Prop := ∀ j, isW (s.getD j 0)
/-! ### Contracts -/
def sl90003 : List (Nat × Pat) := [(1, .ptr 0 0), (2, .ptr 1 0), (3, .ptr 2 0), (4, i64)]
def anyR : List Dat → Prop := fun _ => True
def noM : List Dat → Nat := fun _ => 0
def ct220 : Ct := { ps := [s30], bs := [], pre := fun _ => True, res := fun | [.lb a] => .ret s30 [] [.lb (chiB a)] | _ => noRes }
def ann220 : List Dat → Ann
  | [.lb a] => ⟨[], [(3, [la 56 sl90003 [q30, q30, q30] (fun | [.i x, .lb a', .lb _, .lb t] => a' = a ∧ 0 ≤ x ∧ x ≤ 5 ∧ t = fill3 at3 (chV a) 5 64 zB x.toNat | _ => False) (fun | [.i x, _, _, _] => (5 - x).toNat | _ => 0)])],
    [(6, [la 56 (sl90003 ++ [(5, i64)]) [q30, q30, q30] anyR noM], fun | [.i x0, .i _, .lb a0, .lb _, .lb t0] => [la 56 (sl90003 ++ [(5, i64)]) [q30, q30, q30]
      (fun | [.i x, .i y, .lb a', .lb _, .lb t] => x = x0 ∧ a' = a0 ∧ 0 ≤ y ∧ y ≤ 5 ∧ t = fill2 (at3 x0.toNat) (chV a0 x0.toNat) 64 t0 y.toNat | _ => False) (fun | [_, .i y, _, _, _] => (5 - y).toNat | _ => 0)] | _ => []),
     (9, [la 56 (sl90003 ++ [(5, i64), (6, i64)]) [q30, q30, q30] anyR noM], fun | [.i x0, .i y0, .i _, .lb a0, .lb _, .lb t0] => [la 56 (sl90003 ++ [(5, i64), (6, i64)]) [q30, q30, q30]
      (fun | [.i x, .i y, .i z, .lb a', .lb _, .lb t] => x = x0 ∧ y = y0 ∧ a' = a0 ∧ 0 ≤ z ∧ z ≤ 64 ∧ t = fillN (at3 x0.toNat y0.toNat) (chV a0 x0.toNat y0.toNat) t0 z.toNat | _ => False) (fun | [_, _, .i z, _, _, _] => (64 - z).toNat | _ => 0)] | _ => [])]⟩
  | _ => { cut := [], loop := [] }
def ct221 : Ct := { ps := [s30], bs := [], pre := fun _ => True, res := fun | [.lb a] => .ret s30 [] [.lb (piB a)] | _ => noRes }
def ann221 : List Dat → Ann
  | [.lb a] => ⟨[], [(3, [la 30 sl90003 [q30, q30, q30] (fun | [.i x, .lb a', .lb _, .lb t] => a' = a ∧ 0 ≤ x ∧ x ≤ 5 ∧ t = piX a zB x.toNat | _ => False) (fun | [.i x, _, _, _] => (5 - x).toNat | _ => 0)])],
    [(6, [la 30 (sl90003 ++ [(5, i64)]) [q30, q30, q30] anyR noM], fun | [.i x0, .i _, .lb a0, .lb _, .lb t0] => [la 30 (sl90003 ++ [(5, i64)]) [q30, q30, q30]
      (fun | [.i x, .i y, .lb a', .lb _, .lb t] => x = x0 ∧ a' = a0 ∧ 0 ≤ y ∧ y ≤ 5 ∧ t = piY a0 x0.toNat t0 y.toNat | _ => False) (fun | [_, .i y, _, _, _] => (5 - y).toNat | _ => 0)] | _ => [])]⟩
  | _ => { cut := [], loop := [] }
def ct222 : Ct := { ps := [s30], bs := [], pre := fun _ => True, res := fun | [.lb a] => .ret s30 [] [.lb (rhoB a)] | _ => noRes }
def ann222 : List Dat → Ann
  | [.lb a] => ⟨[], [(5, [la 51 (sl90003 ++ [(5, i64), (6, i64)]) [q30, q30, q30] (fun | [.i x, .i y, .i t, .lb a', .lb _, .lb l] => a' = a ∧ 0 ≤ t ∧ t ≤ 24 ∧ x = (xyN t.toNat).1 ∧ y = (xyN t.toNat).2 ∧ l = rhN a t.toNat | _ => False) (fun | [_, _, .i t, _, _, _] => (24 - t).toNat | _ => 0)])],
    [(8, [la 51 (sl90003 ++ [(5, i64), (6, i64), (7, i64)]) [q30, q30, q30] anyR noM], fun | [.i x0, .i y0, .i t0, .i _, .lb a0, .lb _, .lb l0] => [la 51 (sl90003 ++ [(5, i64), (6, i64), (7, i64)]) [q30, q30, q30]
      (fun | [.i x, .i y, .i t, .i z, .lb a', .lb _, .lb l] => x = x0 ∧ y = y0 ∧ t = t0 ∧ a' = a0 ∧ 0 ≤ z ∧ z ≤ 64 ∧ l = rhZ a0 t0.toNat l0 z.toNat | _ => False) (fun | [_, _, _, .i z, _, _, _] => (64 - z).toNat | _ => 0)] | _ => [])]⟩
  | _ => { cut := [], loop := [] }
def ct223 : Ct := { ps := [s30], bs := [], pre := fun _ => True, res := fun | [.lb a] => .ret s30 [] [.lb (thetaB a)] | _ => noRes }
def sl223 : List (Nat × Pat) := [(1, .ptr 0 0), (2, .ptr 1 0), (3, .ptr 2 0), (8, .ptr 3 0), (9, i64)]
def ann223 : List Dat → Ann
  | [.lb a] => ⟨[], [(3, [la 88 sl90003 [q30, q30, q28] (fun | [.i x, .lb a', .lb _, .lb p] => a' = a ∧ 0 ≤ x ∧ x ≤ 5 ∧ p = fill2 (fun x z => x * 64 + z) (fun x z => decide (cntK a x z 5 % 2 = 1)) 64 (List.replicate 320 false) x.toNat | _ => False) (fun | [.i x, _, _, _] => (5 - x).toNat | _ => 0)]),
     (17, [la 88 sl223 [q30, q30, q28, q30] (fun | [.i x, .lb a', .lb _, .lb p, .lb t] => a' = a ∧ p = parB a ∧ 0 ≤ x ∧ x ≤ 5 ∧ t = fill3 at3 (thV a p) 5 64 zB x.toNat | _ => False) (fun | [.i x, _, _, _, _] => (5 - x).toNat | _ => 0)])],
    [(6, [la 88 (sl90003 ++ [(5, i64)]) [q30, q30, q28] anyR noM], fun | [.i x0, .i _, .lb a0, .lb _, .lb p0] => [la 88 (sl90003 ++ [(5, i64)]) [q30, q30, q28]
      (fun | [.i x, .i z, .lb a', .lb _, .lb p] => x = x0 ∧ a' = a0 ∧ 0 ≤ z ∧ z ≤ 64 ∧ p = fillN (fun z => x0.toNat * 64 + z) (fun z => decide (cntK a0 x0.toNat z 5 % 2 = 1)) p0 z.toNat | _ => False) (fun | [_, .i z, _, _, _] => (64 - z).toNat | _ => 0)] | _ => []),
     (10, [la 88 (sl90003 ++ [(5, i64), (6, i64), (7, i64)]) [q30, q30, q28] anyR noM], fun | [.i x0, .i z0, .i _, .i _, .lb a0, .lb _, .lb p0] => [la 88 (sl90003 ++ [(5, i64), (6, i64), (7, i64)]) [q30, q30, q28]
      (fun | [.i x, .i z, .i n, .i y, .lb a', .lb _, .lb p] => x = x0 ∧ z = z0 ∧ a' = a0 ∧ p = p0 ∧ 0 ≤ y ∧ y ≤ 5 ∧ n = cntK a0 x0.toNat z0.toNat y.toNat ∧ 0 ≤ n ∧ n ≤ y | _ => False) (fun | [_, _, _, .i y, _, _, _] => (5 - y).toNat | _ => 0)] | _ => []),
     (20, [la 88 (sl223 ++ [(10, i64)]) [q30, q30, q28, q30] anyR noM], fun | [.i x0, .i _, .lb a0, .lb _, .lb p0, .lb t0] => [la 88 (sl223 ++ [(10, i64)]) [q30, q30, q28, q30]
      (fun | [.i x, .i y, .lb a', .lb _, .lb p, .lb t] => x = x0 ∧ a' = a0 ∧ p = p0 ∧ 0 ≤ y ∧ y ≤ 5 ∧ t = fill2 (at3 x0.toNat) (thV a0 p0 x0.toNat) 64 t0 y.toNat | _ => False) (fun | [_, .i y, _, _, _, _] => (5 - y).toNat | _ => 0)] | _ => []),
     (23, [la 88 (sl223 ++ [(10, i64), (11, i64)]) [q30, q30, q28, q30] anyR noM], fun | [.i x0, .i y0, .i _, .lb a0, .lb _, .lb p0, .lb t0] => [la 88 (sl223 ++ [(10, i64), (11, i64)]) [q30, q30, q28, q30]
      (fun | [.i x, .i y, .i z, .lb a', .lb _, .lb p, .lb t] => x = x0 ∧ y = y0 ∧ a' = a0 ∧ p = p0 ∧ 0 ≤ z ∧ z ≤ 64 ∧ t = fillN (at3 x0.toNat y0.toNat) (thV a0 p0 x0.toNat y0.toNat) t0 z.toNat | _ => False) (fun | [_, _, .i z, _, _, _, _] => (64 - z).toNat | _ => 0)] | _ => [])]⟩
  | _ => { cut := [], loop := [] }
def ct195 : Ct := { ps := [s30, i64], bs := [], pre := fun _ => True, res := fun | [.lb a, .i r] => .ret s30 [] [.lb (roundB a r)] | _ => noRes }
def ann195 : List Dat → Ann
  | [.lb a, .i r] => ⟨[], [(4, [la 32 [(2, .ptr 0 0), (4, .ptr 1 0), (5, .ptr 2 0), (6, i64)] [q30, q30, q27] (fun | [.i z, .lb t, .lb _, .lb c] => c = cbits r ∧ 0 ≤ z ∧ z ≤ 64 ∧ t = addC (chiB (piB (rhoB (thetaB a)))) (cbits r) z.toNat | _ => False) (fun | [.i z, _, _, _] => (64 - z).toNat | _ => 0)])], []⟩
  | _ => { cut := [], loop := [] }
def ct194 : Ct := { ps := [st], bs := [], pre := fun | [.li s] => areW s | _ => False, res := fun | [.li s] => .ret s30 [] [.lb (ofW s)] | _ => noRes }
def ann194 : List Dat → Ann
  | [.li s] => ⟨[], [(3, [la 33 sl90003 [q23, q30, q30] (fun | [.i i, .li s', .lb _, .lb t] => s' = s ∧ 0 ≤ i ∧ i ≤ 25 ∧ t = fill2 (fun i z => at3 (i % 5) (i / 5) z) (fun i z => bt (s.getD i 0) z) 64 zB i.toNat | _ => False) (fun | [.i i, _, _, _] => (25 - i).toNat | _ => 0)])],
    [(7, [la 33 (sl90003 ++ [(5, u64), (6, i64)]) [q23, q30, q30] anyR noM], fun | [.i i0, .i v0, .i _, .li s0, .lb _, .lb t0] => [la 33 (sl90003 ++ [(5, u64), (6, i64)]) [q23, q30, q30]
      (fun | [.i i, .i v, .i z, .li s, .lb _, .lb t] => i = i0 ∧ s = s0 ∧ 0 ≤ z ∧ z ≤ 64 ∧ v = v0 / 2 ^ z.toNat ∧ t = fillN (fun z => at3 (i0.toNat % 5) (i0.toNat / 5) z) (fun z => bt v0 z) t0 z.toNat | _ => False) (fun | [_, _, .i z, _, _, _] => (64 - z).toNat | _ => 0)] | _ => [])]⟩
  | _ => { cut := [], loop := [] }
noncomputable def ct196 : Ct := { ps := [s30], bs := [], pre := fun _ => True, res := fun | [.lb a] => .ret st [] [.li (toW a)] | _ => noRes }
def ann196 : List Dat → Ann
  | [.lb a] => ⟨[], [(3, [la 33 sl90003 [q30, q23, q23] (fun | [.i i, .lb a', .li _, .li t] => a' = a ∧ 0 ≤ i ∧ i ≤ 25 ∧ t = wdN a i.toNat | _ => False) (fun | [.i i, _, _, _] => (25 - i).toNat | _ => 0)])],
    [(7, [la 33 (sl90003 ++ [(5, u64), (6, i64)]) [q30, q23, q23] anyR noM], fun | [.i i0, .i _, .i _, .lb a0, .li _, .li t0] => [la 33 (sl90003 ++ [(5, u64), (6, i64)]) [q30, q23, q23]
      (fun | [.i i, .i v, .i z, .lb a, .li _, .li t] => i = i0 ∧ a = a0 ∧ t = t0 ∧ -1 ≤ z ∧ z ≤ 63 ∧ v = (wv a0 i0.toNat (63 - z).toNat : Nat) | _ => False) (fun | [_, _, .i z, _, _, _] => (z + 1).toNat | _ => 0)] | _ => [])]⟩
  | _ => { cut := [], loop := [] }
noncomputable def ct156 : Ct := { ps := [st], bs := [], pre := fun | [.li s] => areW s | _ => False, res := fun | [.li s] => .ret st [] [.li (permR s)] | _ => noRes }
def ann156 : List Dat → Ann
  | [.li s] => ⟨[], [(3, [la 16 sl90003 [q23, q23, q30] (fun | [.i i, .li _, .li _, .lb t] => 0 ≤ i ∧ i ≤ 24 ∧ t = permB (ofW s) i.toNat | _ => False) (fun | [.i i, _, _, _] => (24 - i).toNat | _ => 0)])], []⟩
  | _ => { cut := [], loop := [] }
end Go.Proofs.YteiecapbaeajdaaGreatDoor
namespace Go.Proofs.YteiecapbaeajdaaGreatDoor
open Go Go.Avc Go.Proofs
set_option linter.unusedVariables false
set_option maxRecDepth 100000
def P220 : Prop :=
 ∀ (l : List Bool),
 l.length = (1600 : Nat) →
 True →
 ((l = l ∧
 (0 : Int) ≤ (0 : Int) ∧
 (0 : Int) ≤ (5 : Int) ∧
 List.replicate (1600 : Nat) false =
 fill3 at3 (chV l) (5 : Nat) (64 : Nat)
 (List.replicate (1600 : Nat) false) (0 : Nat)) ∧
 True) ∧
 ∀ (n : Int) (l_1 l_2 l_3 : List Bool),
 l_1.length = (1600 : Nat) →
 l_2.length = (1600 : Nat) →
 l_3.length = (1600 : Nat) →
 l_1 = l ∧
 (0 : Int) ≤ n ∧
 n ≤ (5 : Int) ∧
 l_3 =
 fill3 at3 (chV l) (5 : Nat) (64 : Nat)
 (List.replicate (1600 : Nat) false) n.toNat →
 bif decide (n < (5 : Int)) then
 ((n = n ∧
 l_1 = l_1 ∧
 (0 : Int) ≤ (0 : Int) ∧
 (0 : Int) ≤ (5 : Int) ∧
 l_3 =
 fill2 (at3 n.toNat) (chV l_1 n.toNat)
 (64 : Nat) l_3 (0 : Nat)) ∧
 True) ∧
 ∀ (n_1 n_2 : Int) (l_4 l_5 l_6 : List Bool),
 l_4.length = (1600 : Nat) →
 l_5.length = (1600 : Nat) →
 l_6.length = (1600 : Nat) →
 n_1 = n ∧
 l_4 = l_1 ∧
 (0 : Int) ≤ n_2 ∧
 n_2 ≤ (5 : Int) ∧
 l_6 =
 fill2 (at3 n.toNat)
 (chV l_1 n.toNat) (64 : Nat) l_3 n_2.toNat →
 bif decide (n_2 < (5 : Int)) then
 ((n_1 = n_1 ∧
 n_2 = n_2 ∧
 l_4 = l_4 ∧
 (0 : Int) ≤ (0 : Int) ∧
 (0 : Int) ≤ (64 : Int) ∧
 l_6 =
 fillN (at3 n_1.toNat n_2.toNat)
 (chV l_4 n_1.toNat n_2.toNat) l_6 (0 : Nat)) ∧
 True) ∧
 ∀ (n_3 n_4 n_5 : Int) (l l_7 l_8 : List Bool),
 l.length = (1600 : Nat) →
 l_7.length = (1600 : Nat) →
 l_8.length = (1600 : Nat) →
 n_3 = n_1 ∧
 n_4 = n_2 ∧
 l = l_4 ∧
 (0 : Int) ≤ n_5 ∧
 n_5 ≤ (64 : Int) ∧
 l_8 =
 fillN (at3 n_1.toNat n_2.toNat)
 (chV l_4 n_1.toNat n_2.toNat) l_6 n_5.toNat →
 bif decide (n_5 < (64 : Int)) then
 ((0 : Int) ≤ n_3 ∧ n_3 < (↑(5 : Nat) : Int)) ∧
 ((0 : Int) ≤ n_4 ∧ n_4 < (↑(5 : Nat) : Int)) ∧
 ((0 : Int) ≤ n_5 ∧ n_5 < (↑(64 : Nat) : Int)) ∧
 n_3.toNat * (320 : Nat) + n_4.toNat * (64 : Nat) + n_5.toNat * (1 : Nat) < (1600 : Nat) ∧
 ((-9223372036854775808 : Int) ≤ n_3 + (1 : Int) ∧ n_3 + (1 : Int) ≤ (9223372036854775807 : Int)) ∧
 ((0 : Int) ≤ n_3 + (1 : Int) ∧ (0 : Int) < (5 : Int)) ∧
 ((0 : Int) ≤ (n_3 + (1 : Int)) % (5 : Int) ∧ (n_3 + (1 : Int)) % (5 : Int) < (↑(5 : Nat) : Int)) ∧
 ((0 : Int) ≤ n_4 ∧ n_4 < (↑(5 : Nat) : Int)) ∧
 ((0 : Int) ≤ n_5 ∧ n_5 < (↑(64 : Nat) : Int)) ∧
 ((n_3 + (1 : Int)) % (5 : Int)).toNat * (320 : Nat) + n_4.toNat * (64 : Nat) + n_5.toNat * (1 : Nat) <
 (1600 : Nat) ∧
 ((!l.getD (((n_3 + (1 : Int)) % (5 : Int)).toNat * (320 : Nat) + n_4.toNat * (64 : Nat) + n_5.toNat * (1 : Nat))
 false) =
 true →
 (-9223372036854775808 : Int) ≤ n_3 + (2 : Int) ∧ n_3 + (2 : Int) ≤ (9223372036854775807 : Int)) ∧
 ((!l.getD
 (((n_3 + (1 : Int)) % (5 : Int)).toNat * (320 : Nat) + n_4.toNat * (64 : Nat) +
 n_5.toNat * (1 : Nat))
 false) =
 true →
 (0 : Int) ≤ n_3 + (2 : Int) ∧ (0 : Int) < (5 : Int)) ∧
 ((!l.getD
 (((n_3 + (1 : Int)) % (5 : Int)).toNat * (320 : Nat) + n_4.toNat * (64 : Nat) +
 n_5.toNat * (1 : Nat))
 false) =
 true →
 (0 : Int) ≤ (n_3 + (2 : Int)) % (5 : Int) ∧ (n_3 + (2 : Int)) % (5 : Int) < (↑(5 : Nat) : Int)) ∧
 ((!l.getD
 (((n_3 + (1 : Int)) % (5 : Int)).toNat * (320 : Nat) + n_4.toNat * (64 : Nat) +
 n_5.toNat * (1 : Nat))
 false) =
 true →
 (0 : Int) ≤ n_4 ∧ n_4 < (↑(5 : Nat) : Int)) ∧
 ((!l.getD
 (((n_3 + (1 : Int)) % (5 : Int)).toNat * (320 : Nat) + n_4.toNat * (64 : Nat) +
 n_5.toNat * (1 : Nat))
 false) =
 true →
 (0 : Int) ≤ n_5 ∧ n_5 < (↑(64 : Nat) : Int)) ∧
 ((!l.getD
 (((n_3 + (1 : Int)) % (5 : Int)).toNat * (320 : Nat) + n_4.toNat * (64 : Nat) +
 n_5.toNat * (1 : Nat))
 false) =
 true →
 ((n_3 + (2 : Int)) % (5 : Int)).toNat * (320 : Nat) + n_4.toNat * (64 : Nat) +
 n_5.toNat * (1 : Nat) <
 (1600 : Nat)) ∧
 ((0 : Int) ≤ n_3 ∧ n_3 < (↑(5 : Nat) : Int)) ∧
 ((0 : Int) ≤ n_4 ∧ n_4 < (↑(5 : Nat) : Int)) ∧
 ((0 : Int) ≤ n_5 ∧ n_5 < (↑(64 : Nat) : Int)) ∧
 n_3.toNat * (320 : Nat) + n_4.toNat * (64 : Nat) + n_5.toNat * (1 : Nat) < (1600 : Nat) ∧
 ((-9223372036854775808 : Int) ≤ n_5 + (1 : Int) ∧
 n_5 + (1 : Int) ≤ (9223372036854775807 : Int)) ∧
 (n_3 = n_1 ∧
 n_4 = n_2 ∧
 l = l_4 ∧
 (0 : Int) ≤ n_5 + (1 : Int) ∧
 n_5 + (1 : Int) ≤ (64 : Int) ∧
 l_8.set
 (n_3.toNat * (320 : Nat) + n_4.toNat * (64 : Nat) + n_5.toNat * (1 : Nat))
 (l.getD
 (n_3.toNat * (320 : Nat) + n_4.toNat * (64 : Nat) +
 n_5.toNat * (1 : Nat))
 false !=
 (!l.getD
 (((n_3 + (1 : Int)) % (5 : Int)).toNat * (320 : Nat) +
 n_4.toNat * (64 : Nat) +
 n_5.toNat * (1 : Nat))
 false &&
 l.getD
 (((n_3 + (2 : Int)) % (5 : Int)).toNat * (320 : Nat) +
 n_4.toNat * (64 : Nat) +
 n_5.toNat * (1 : Nat))
 false)) =
 fillN
 (at3 n_1.toNat n_2.toNat)
 (chV l_4 n_1.toNat n_2.toNat) l_6
 (n_5 + (1 : Int)).toNat) ∧
 ((64 : Int) - (n_5 + (1 : Int))).toNat < ((64 : Int) - n_5).toNat
 else
 ((-9223372036854775808 : Int) ≤ n_4 + (1 : Int) ∧ n_4 + (1 : Int) ≤ (9223372036854775807 : Int)) ∧
 (n_3 = n ∧
 l = l_1 ∧
 (0 : Int) ≤ n_4 + (1 : Int) ∧
 n_4 + (1 : Int) ≤ (5 : Int) ∧
 l_8 =
 fill2 (at3 n.toNat)
 (chV l_1 n.toNat) (64 : Nat) l_3 (n_4 + (1 : Int)).toNat) ∧
 ((5 : Int) - (n_4 + (1 : Int))).toNat < ((5 : Int) - n_2).toNat
 else
 ((-9223372036854775808 : Int) ≤ n_1 + (1 : Int) ∧ n_1 + (1 : Int) ≤ (9223372036854775807 : Int)) ∧
 (l_4 = l ∧
 (0 : Int) ≤ n_1 + (1 : Int) ∧
 n_1 + (1 : Int) ≤ (5 : Int) ∧
 l_6 =
 fill3 at3 (chV l)
 (5 : Nat) (64 : Nat) (List.replicate (1600 : Nat) false) (n_1 + (1 : Int)).toNat) ∧
 ((5 : Int) - (n_1 + (1 : Int))).toNat < ((5 : Int) - n).toNat
 else l_3 = chiB l
theorem e220 : ct220.VC (base.with sp224) Tryz.f220.results.toList Tryz.f220.ntmps (Tryz.f220.ntmps - ct220.ps.length) (bodyOf Tryz.f220) ann220 = P220 := by kernel_rfl
noncomputable def sp220 : SpecT := addS sp224 220 (mkF ct220)
def P221 : Prop :=
 ∀ (l : List Bool),
 l.length = (1600 : Nat) →
 True →
 ((l = l ∧
 (0 : Int) ≤ (0 : Int) ∧
 (0 : Int) ≤ (5 : Int) ∧ List.replicate (1600 : Nat) false = piX l (List.replicate (1600 : Nat) false) (0 : Nat)) ∧
 True) ∧
 ∀ (n : Int) (l_1 l_2 l_3 : List Bool),
 l_1.length = (1600 : Nat) →
 l_2.length = (1600 : Nat) →
 l_3.length = (1600 : Nat) →
 l_1 = l ∧ (0 : Int) ≤ n ∧ n ≤ (5 : Int) ∧ l_3 = piX l (List.replicate (1600 : Nat) false) n.toNat →
 bif decide (n < (5 : Int)) then
 ((n = n ∧ l_1 = l_1 ∧ (0 : Int) ≤ (0 : Int) ∧ (0 : Int) ≤ (5 : Int) ∧ l_3 = piY l_1 n.toNat l_3 (0 : Nat)) ∧ True) ∧
 ∀ (n_1 n_2 : Int) (l_4 l_5 l_6 : List Bool),
 l_4.length = (1600 : Nat) →
 l_5.length = (1600 : Nat) →
 l_6.length = (1600 : Nat) →
 n_1 = n ∧ l_4 = l_1 ∧ (0 : Int) ≤ n_2 ∧ n_2 ≤ (5 : Int) ∧ l_6 = piY l_1 n.toNat l_3 n_2.toNat →
 bif decide (n_2 < (5 : Int)) then
 ((-9223372036854775808 : Int) ≤ (2 : Int) * n_1 ∧ (2 : Int) * n_1 ≤ (9223372036854775807 : Int)) ∧
 ((-9223372036854775808 : Int) ≤ (3 : Int) * n_2 ∧ (3 : Int) * n_2 ≤ (9223372036854775807 : Int)) ∧
 ((-9223372036854775808 : Int) ≤ (2 : Int) * n_1 + (3 : Int) * n_2 ∧ (2 : Int) * n_1 + (3 : Int) * n_2 ≤ (9223372036854775807 : Int)) ∧
 ((0 : Int) ≤ (2 : Int) * n_1 + (3 : Int) * n_2 ∧ (0 : Int) < (5 : Int)) ∧
 ((0 : Int) ≤ n_1 ∧ n_1 < (↑(5 : Nat) : Int)) ∧
 ((0 : Int) ≤ n_2 ∧ n_2 < (↑(5 : Nat) : Int)) ∧
 n_1.toNat * (320 : Nat) + n_2.toNat * (64 : Nat) + (64 : Nat) ≤ (1600 : Nat) ∧
 ((0 : Int) ≤ n_2 ∧ n_2 < (↑(5 : Nat) : Int)) ∧
 ((0 : Int) ≤ ((2 : Int) * n_1 + (3 : Int) * n_2) % (5 : Int) ∧
 ((2 : Int) * n_1 + (3 : Int) * n_2) % (5 : Int) < (↑(5 : Nat) : Int)) ∧
 n_2.toNat * (320 : Nat) + (((2 : Int) * n_1 + (3 : Int) * n_2) % (5 : Int)).toNat * (64 : Nat) + (64 : Nat) ≤ (1600 : Nat) ∧
 ((-9223372036854775808 : Int) ≤ n_2 + (1 : Int) ∧ n_2 + (1 : Int) ≤ (9223372036854775807 : Int)) ∧
 (n_1 = n ∧
 l_4 = l_1 ∧
 (0 : Int) ≤ n_2 + (1 : Int) ∧
 n_2 + (1 : Int) ≤ (5 : Int) ∧
 List.take (n_2.toNat * (320 : Nat) + (((2 : Int) * n_1 + (3 : Int) * n_2) % (5 : Int)).toNat * (64 : Nat)) l_6 ++
 List.take (64 : Nat) (List.drop (n_1.toNat * (320 : Nat) + n_2.toNat * (64 : Nat)) l_4) ++
 List.drop
 (n_2.toNat * (320 : Nat) + (((2 : Int) * n_1 + (3 : Int) * n_2) % (5 : Int)).toNat * (64 : Nat) +
 (64 : Nat))
 l_6 =
 piY l_1 n.toNat l_3 (n_2 + (1 : Int)).toNat) ∧
 ((5 : Int) - (n_2 + (1 : Int))).toNat < ((5 : Int) - n_2).toNat
 else
 ((-9223372036854775808 : Int) ≤ n_1 + (1 : Int) ∧ n_1 + (1 : Int) ≤ (9223372036854775807 : Int)) ∧
 (l_4 = l ∧
 (0 : Int) ≤ n_1 + (1 : Int) ∧
 n_1 + (1 : Int) ≤ (5 : Int) ∧
 l_6 = piX l (List.replicate (1600 : Nat) false) (n_1 + (1 : Int)).toNat) ∧
 ((5 : Int) - (n_1 + (1 : Int))).toNat < ((5 : Int) - n).toNat
 else l_3 = piB l
theorem e221 : ct221.VC (base.with sp220) Tryz.f221.results.toList Tryz.f221.ntmps (Tryz.f221.ntmps - ct221.ps.length) (bodyOf Tryz.f221) ann221 = P221 := by kernel_rfl
noncomputable def sp221 : SpecT := addS sp220 221 (mkF ct221)
def P222 : Prop :=
 ∀ (l : List Bool),
 l.length = (1600 : Nat) →
 True →
 ((0 : Int) ≤ (0 : Int) ∧ (0 : Int) < (↑(5 : Nat) : Int)) ∧
 ((0 : Int) ≤ (0 : Int) ∧ (0 : Int) < (↑(5 : Nat) : Int)) ∧
 (64 : Nat) ≤ (1600 : Nat) ∧
 ((0 : Int) ≤ (0 : Int) ∧ (0 : Int) < (↑(5 : Nat) : Int)) ∧
 ((0 : Int) ≤ (0 : Int) ∧ (0 : Int) < (↑(5 : Nat) : Int)) ∧
 (64 : Nat) ≤ (1600 : Nat) ∧
 ((l = l ∧
 (0 : Int) ≤ (0 : Int) ∧
 (0 : Int) ≤ (24 : Int) ∧
 (1 : Int) = (↑(1 : Nat) : Int) ∧
 (0 : Int) = (↑(0 : Nat) : Int) ∧
 [] ++ List.take (64 : Nat) (List.drop (0 : Nat) l) ++ List.replicate 1536 false = rhN l (0 : Nat)) ∧
 True) ∧
 ∀ (n n_1 n_2 : Int) (l_1 l_2 l_3 : List Bool),
 l_1.length = (1600 : Nat) →
 l_2.length = (1600 : Nat) →
 l_3.length = (1600 : Nat) →
 l_1 = l ∧
 (0 : Int) ≤ n_2 ∧
 n_2 ≤ (24 : Int) ∧
 n = (↑(xyN n_2.toNat).fst : Int) ∧
 n_1 = (↑(xyN n_2.toNat).snd : Int) ∧ l_3 = rhN l n_2.toNat →
 bif decide (n_2 < (24 : Int)) then
 ((n = n ∧
 n_1 = n_1 ∧
 n_2 = n_2 ∧
 l_1 = l_1 ∧ (0 : Int) ≤ (0 : Int) ∧ (0 : Int) ≤ (64 : Int) ∧ l_3 = rhZ l_1 n_2.toNat l_3 (0 : Nat)) ∧
 True) ∧
 ∀ (n_3 n_4 n_5 n_6 : Int) (l_4 l_5 l_6 : List Bool),
 l_4.length = (1600 : Nat) →
 l_5.length = (1600 : Nat) →
 l_6.length = (1600 : Nat) →
 n_3 = n ∧
 n_4 = n_1 ∧
 n_5 = n_2 ∧
 l_4 = l_1 ∧ (0 : Int) ≤ n_6 ∧ n_6 ≤ (64 : Int) ∧ l_6 = rhZ l_1 n_2.toNat l_3 n_6.toNat →
 bif decide (n_6 < (64 : Int)) then
 ((-9223372036854775808 : Int) ≤ n_5 + (1 : Int) ∧ n_5 + (1 : Int) ≤ (9223372036854775807 : Int)) ∧
 ((-9223372036854775808 : Int) ≤ n_5 + (2 : Int) ∧ n_5 + (2 : Int) ≤ (9223372036854775807 : Int)) ∧
 ((-9223372036854775808 : Int) ≤ (n_5 + (1 : Int)) * (n_5 + (2 : Int)) ∧
 (n_5 + (1 : Int)) * (n_5 + (2 : Int)) ≤ (9223372036854775807 : Int)) ∧
 ((0 : Int) ≤ (n_5 + (1 : Int)) * (n_5 + (2 : Int)) ∧
 (0 : Int) < (2 : Int) ∧ (n_5 + (1 : Int)) * (n_5 + (2 : Int)) ≤ Go.IntKind.i64.max) ∧
 ((-9223372036854775808 : Int) ≤ n_6 + (n_5 + (1 : Int)) * (n_5 + (2 : Int)) / (2 : Int) ∧
 n_6 + (n_5 + (1 : Int)) * (n_5 + (2 : Int)) / (2 : Int) ≤ (9223372036854775807 : Int)) ∧
 ((0 : Int) ≤ n_6 + (n_5 + (1 : Int)) * (n_5 + (2 : Int)) / (2 : Int) ∧ (0 : Int) < (64 : Int)) ∧
 ((0 : Int) ≤ n_3 ∧ n_3 < (↑(5 : Nat) : Int)) ∧
 ((0 : Int) ≤ n_4 ∧ n_4 < (↑(5 : Nat) : Int)) ∧
 ((0 : Int) ≤ n_6 ∧ n_6 < (↑(64 : Nat) : Int)) ∧
 n_3.toNat * (320 : Nat) + n_4.toNat * (64 : Nat) + n_6.toNat * (1 : Nat) < (1600 : Nat) ∧
 ((0 : Int) ≤ n_3 ∧ n_3 < (↑(5 : Nat) : Int)) ∧
 ((0 : Int) ≤ n_4 ∧ n_4 < (↑(5 : Nat) : Int)) ∧
 ((0 : Int) ≤ (n_6 + (n_5 + (1 : Int)) * (n_5 + (2 : Int)) / (2 : Int)) % (64 : Int) ∧
 (n_6 + (n_5 + (1 : Int)) * (n_5 + (2 : Int)) / (2 : Int)) % (64 : Int) < (↑(64 : Nat) : Int)) ∧
 n_3.toNat * (320 : Nat) + n_4.toNat * (64 : Nat) +
 ((n_6 + (n_5 + (1 : Int)) * (n_5 + (2 : Int)) / (2 : Int)) % (64 : Int)).toNat * (1 : Nat) <
 (1600 : Nat) ∧
 ((-9223372036854775808 : Int) ≤ n_6 + (1 : Int) ∧ n_6 + (1 : Int) ≤ (9223372036854775807 : Int)) ∧
 (n_3 = n ∧
 n_4 = n_1 ∧
 n_5 = n_2 ∧
 l_4 = l_1 ∧
 (0 : Int) ≤ n_6 + (1 : Int) ∧
 n_6 + (1 : Int) ≤ (64 : Int) ∧
 l_6.set
 (n_3.toNat * (320 : Nat) + n_4.toNat * (64 : Nat) +
 ((n_6 + (n_5 + (1 : Int)) * (n_5 + (2 : Int)) / (2 : Int)) % (64 : Int)).toNat *
 (1 : Nat))
 (l_4.getD (n_3.toNat * (320 : Nat) + n_4.toNat * (64 : Nat) + n_6.toNat * (1 : Nat))
 false) =
 rhZ l_1 n_2.toNat l_3 (n_6 + (1 : Int)).toNat) ∧
 ((64 : Int) - (n_6 + (1 : Int))).toNat < ((64 : Int) - n_6).toNat
 else
 ((-9223372036854775808 : Int) ≤ (2 : Int) * n_3 ∧ (2 : Int) * n_3 ≤ (9223372036854775807 : Int)) ∧
 ((-9223372036854775808 : Int) ≤ (3 : Int) * n_4 ∧ (3 : Int) * n_4 ≤ (9223372036854775807 : Int)) ∧
 ((-9223372036854775808 : Int) ≤ (2 : Int) * n_3 + (3 : Int) * n_4 ∧
 (2 : Int) * n_3 + (3 : Int) * n_4 ≤ (9223372036854775807 : Int)) ∧
 ((0 : Int) ≤ (2 : Int) * n_3 + (3 : Int) * n_4 ∧ (0 : Int) < (5 : Int)) ∧
 ((-9223372036854775808 : Int) ≤ n_5 + (1 : Int) ∧ n_5 + (1 : Int) ≤ (9223372036854775807 : Int)) ∧
 (l_4 = l ∧
 (0 : Int) ≤ n_5 + (1 : Int) ∧
 n_5 + (1 : Int) ≤ (24 : Int) ∧
 n_4 = (↑(xyN (n_5 + (1 : Int)).toNat).fst : Int) ∧
 ((2 : Int) * n_3 + (3 : Int) * n_4) % (5 : Int) =
 (↑(xyN (n_5 + (1 : Int)).toNat).snd : Int) ∧
 l_6 = rhN l (n_5 + (1 : Int)).toNat) ∧
 ((24 : Int) - (n_5 + (1 : Int))).toNat < ((24 : Int) - n_2).toNat
 else l_3 = rhoB l
theorem e222 : ct222.VC (base.with sp221) Tryz.f222.results.toList Tryz.f222.ntmps (Tryz.f222.ntmps - ct222.ps.length) (bodyOf Tryz.f222) ann222 = P222 := by kernel_rfl
noncomputable def sp222 : SpecT := addS sp221 222 (mkF ct222)
def P223 : Prop :=
 ∀ (l : List Bool),
 l.length = (1600 : Nat) →
 True →
 ((l = l ∧
 (0 : Int) ≤ (0 : Int) ∧
 (0 : Int) ≤ (5 : Int) ∧
 List.replicate (320 : Nat) false =
 fill2 (fun x z => x * (64 : Nat) + z)
 (fun x z => decide (cntK l x z (5 : Nat) % (2 : Int) = (1 : Int))) (64 : Nat) (List.replicate (320 : Nat) false)
 (0 : Nat)) ∧
 True) ∧
 ∀ (n : Int) (l_1 l_2 l_3 : List Bool),
 l_1.length = (1600 : Nat) →
 l_2.length = (1600 : Nat) →
 l_3.length = (320 : Nat) →
 l_1 = l ∧
 (0 : Int) ≤ n ∧
 n ≤ (5 : Int) ∧
 l_3 =
 fill2 (fun x z => x * (64 : Nat) + z)
 (fun x z => decide (cntK l x z (5 : Nat) % (2 : Int) = (1 : Int))) (64 : Nat) (List.replicate (320 : Nat) false)
 n.toNat →
 bif decide (n < (5 : Int)) then
 ((n = n ∧
 l_1 = l_1 ∧
 (0 : Int) ≤ (0 : Int) ∧
 (0 : Int) ≤ (64 : Int) ∧
 l_3 =
 fillN (fun z => n.toNat * (64 : Nat) + z)
 (fun z => decide (cntK l_1 n.toNat z (5 : Nat) % (2 : Int) = (1 : Int))) l_3 (0 : Nat)) ∧
 True) ∧
 ∀ (n_1 n_2 : Int) (l_4 l_5 l_6 : List Bool),
 l_4.length = (1600 : Nat) →
 l_5.length = (1600 : Nat) →
 l_6.length = (320 : Nat) →
 n_1 = n ∧
 l_4 = l_1 ∧
 (0 : Int) ≤ n_2 ∧
 n_2 ≤ (64 : Int) ∧
 l_6 =
 fillN (fun z => n.toNat * (64 : Nat) + z)
 (fun z => decide (cntK l_1 n.toNat z (5 : Nat) % (2 : Int) = (1 : Int))) l_3 n_2.toNat →
 bif decide (n_2 < (64 : Int)) then
 ((n_1 = n_1 ∧
 n_2 = n_2 ∧
 l_4 = l_4 ∧
 l_6 = l_6 ∧
 (0 : Int) ≤ (0 : Int) ∧
 (0 : Int) ≤ (5 : Int) ∧
 (0 : Int) = cntK l_4 n_1.toNat n_2.toNat (0 : Nat) ∧
 (0 : Int) ≤ (0 : Int) ∧ (0 : Int) ≤ (0 : Int)) ∧
 True) ∧
 ∀ (n_3 n_4 n_5 n_6 : Int) (l l_7 l_8 : List Bool),
 l.length = (1600 : Nat) →
 l_7.length = (1600 : Nat) →
 l_8.length = (320 : Nat) →
 n_3 = n_1 ∧
 n_4 = n_2 ∧
 l = l_4 ∧
 l_8 = l_6 ∧
 (0 : Int) ≤ n_6 ∧
 n_6 ≤ (5 : Int) ∧
 n_5 = cntK l_4 n_1.toNat n_2.toNat n_6.toNat ∧ (0 : Int) ≤ n_5 ∧ n_5 ≤ n_6 →
 bif decide (n_6 < (5 : Int)) then
 ((0 : Int) ≤ n_3 ∧ n_3 < (↑(5 : Nat) : Int)) ∧
 ((0 : Int) ≤ n_6 ∧ n_6 < (↑(5 : Nat) : Int)) ∧
 ((0 : Int) ≤ n_4 ∧ n_4 < (↑(64 : Nat) : Int)) ∧
 n_3.toNat * (320 : Nat) + n_6.toNat * (64 : Nat) + n_4.toNat * (1 : Nat) < (1600 : Nat) ∧
 bif l.getD (n_3.toNat * (320 : Nat) + n_6.toNat * (64 : Nat) + n_4.toNat * (1 : Nat)) false then
 ((-9223372036854775808 : Int) ≤ n_5 + (1 : Int) ∧ n_5 + (1 : Int) ≤ (9223372036854775807 : Int)) ∧
 ((-9223372036854775808 : Int) ≤ n_6 + (1 : Int) ∧ n_6 + (1 : Int) ≤ (9223372036854775807 : Int)) ∧
 (n_3 = n_1 ∧
 n_4 = n_2 ∧
 l = l_4 ∧
 l_8 = l_6 ∧
 (0 : Int) ≤ n_6 + (1 : Int) ∧
 n_6 + (1 : Int) ≤ (5 : Int) ∧
 n_5 + (1 : Int) =
 cntK l_4 n_1.toNat n_2.toNat (n_6 + (1 : Int)).toNat ∧
 (0 : Int) ≤ n_5 + (1 : Int) ∧ n_5 + (1 : Int) ≤ n_6 + (1 : Int)) ∧
 ((5 : Int) - (n_6 + (1 : Int))).toNat < ((5 : Int) - n_6).toNat
 else
 ((-9223372036854775808 : Int) ≤ n_6 + (1 : Int) ∧ n_6 + (1 : Int) ≤ (9223372036854775807 : Int)) ∧
 (n_3 = n_1 ∧
 n_4 = n_2 ∧
 l = l_4 ∧
 l_8 = l_6 ∧
 (0 : Int) ≤ n_6 + (1 : Int) ∧
 n_6 + (1 : Int) ≤ (5 : Int) ∧
 n_5 = cntK l_4 n_1.toNat n_2.toNat (n_6 + (1 : Int)).toNat ∧
 (0 : Int) ≤ n_5 ∧ n_5 ≤ n_6 + (1 : Int)) ∧
 ((5 : Int) - (n_6 + (1 : Int))).toNat < ((5 : Int) - n_6).toNat
 else
 ((0 : Int) ≤ n_5 ∧ (0 : Int) < (2 : Int)) ∧
 ((0 : Int) ≤ n_3 ∧ n_3 < (↑(5 : Nat) : Int)) ∧
 ((0 : Int) ≤ n_4 ∧ n_4 < (↑(64 : Nat) : Int)) ∧
 n_3.toNat * (64 : Nat) + n_4.toNat * (1 : Nat) < (320 : Nat) ∧
 ((-9223372036854775808 : Int) ≤ n_4 + (1 : Int) ∧ n_4 + (1 : Int) ≤ (9223372036854775807 : Int)) ∧
 (n_3 = n ∧
 l = l_1 ∧
 (0 : Int) ≤ n_4 + (1 : Int) ∧
 n_4 + (1 : Int) ≤ (64 : Int) ∧
 l_8.set (n_3.toNat * (64 : Nat) + n_4.toNat * (1 : Nat)) (decide (n_5 % (2 : Int) = (1 : Int))) =
 fillN (fun z => n.toNat * (64 : Nat) + z)
 (fun z => decide (cntK l_1 n.toNat z (5 : Nat) % (2 : Int) = (1 : Int)))
 l_3 (n_4 + (1 : Int)).toNat) ∧
 ((64 : Int) - (n_4 + (1 : Int))).toNat < ((64 : Int) - n_2).toNat
 else
 ((-9223372036854775808 : Int) ≤ n_1 + (1 : Int) ∧ n_1 + (1 : Int) ≤ (9223372036854775807 : Int)) ∧
 (l_4 = l ∧
 (0 : Int) ≤ n_1 + (1 : Int) ∧
 n_1 + (1 : Int) ≤ (5 : Int) ∧
 l_6 =
 fill2 (fun x z => x * (64 : Nat) + z)
 (fun x z => decide (cntK l x z (5 : Nat) % (2 : Int) = (1 : Int))) (64 : Nat)
 (List.replicate (320 : Nat) false) (n_1 + (1 : Int)).toNat) ∧
 ((5 : Int) - (n_1 + (1 : Int))).toNat < ((5 : Int) - n).toNat
 else
 ((l_1 = l ∧
 l_3 = parB l ∧
 (0 : Int) ≤ (0 : Int) ∧
 (0 : Int) ≤ (5 : Int) ∧
 List.replicate (1600 : Nat) false =
 fill3 at3 (thV l l_3) (5 : Nat)
 (64 : Nat) (List.replicate (1600 : Nat) false) (0 : Nat)) ∧
 True) ∧
 ∀ (n : Int) (l_4 l_5 l_6 l_7 : List Bool),
 l_4.length = (1600 : Nat) →
 l_5.length = (1600 : Nat) →
 l_6.length = (320 : Nat) →
 l_7.length = (1600 : Nat) →
 l_4 = l ∧
 l_6 = parB l ∧
 (0 : Int) ≤ n ∧
 n ≤ (5 : Int) ∧
 l_7 =
 fill3 at3 (thV l l_6)
 (5 : Nat) (64 : Nat) (List.replicate (1600 : Nat) false) n.toNat →
 bif decide (n < (5 : Int)) then
 ((n = n ∧
 l_4 = l_4 ∧
 l_6 = l_6 ∧
 (0 : Int) ≤ (0 : Int) ∧
 (0 : Int) ≤ (5 : Int) ∧
 l_7 =
 fill2 (at3 n.toNat)
 (thV l_4 l_6 n.toNat) (64 : Nat) l_7 (0 : Nat)) ∧
 True) ∧
 ∀ (n_1 n_2 : Int) (l_8 l_9 l_10 l_11 : List Bool),
 l_8.length = (1600 : Nat) →
 l_9.length = (1600 : Nat) →
 l_10.length = (320 : Nat) →
 l_11.length = (1600 : Nat) →
 n_1 = n ∧
 l_8 = l_4 ∧
 l_10 = l_6 ∧
 (0 : Int) ≤ n_2 ∧
 n_2 ≤ (5 : Int) ∧
 l_11 =
 fill2 (at3 n.toNat)
 (thV l_4 l_6 n.toNat) (64 : Nat) l_7 n_2.toNat →
 bif decide (n_2 < (5 : Int)) then
 ((n_1 = n_1 ∧
 n_2 = n_2 ∧
 l_8 = l_8 ∧
 l_10 = l_10 ∧
 (0 : Int) ≤ (0 : Int) ∧
 (0 : Int) ≤ (64 : Int) ∧
 l_11 =
 fillN (at3 n_1.toNat n_2.toNat)
 (thV l_8 l_10 n_1.toNat n_2.toNat) l_11 (0 : Nat)) ∧
 True) ∧
 ∀ (n_3 n_4 n_5 : Int) (l l_12 l_13 l_14 : List Bool),
 l.length = (1600 : Nat) →
 l_12.length = (1600 : Nat) →
 l_13.length = (320 : Nat) →
 l_14.length = (1600 : Nat) →
 n_3 = n_1 ∧
 n_4 = n_2 ∧
 l = l_8 ∧
 l_13 = l_10 ∧
 (0 : Int) ≤ n_5 ∧
 n_5 ≤ (64 : Int) ∧
 l_14 =
 fillN
 (at3 n_1.toNat n_2.toNat)
 (thV l_8 l_10 n_1.toNat n_2.toNat) l_11 n_5.toNat →
 bif decide (n_5 < (64 : Int)) then
 ((-9223372036854775808 : Int) ≤ n_3 + (4 : Int) ∧ n_3 + (4 : Int) ≤ (9223372036854775807 : Int)) ∧
 ((0 : Int) ≤ n_3 + (4 : Int) ∧ (0 : Int) < (5 : Int)) ∧
 ((0 : Int) ≤ (n_3 + (4 : Int)) % (5 : Int) ∧ (n_3 + (4 : Int)) % (5 : Int) < (↑(5 : Nat) : Int)) ∧
 ((0 : Int) ≤ n_5 ∧ n_5 < (↑(64 : Nat) : Int)) ∧
 ((n_3 + (4 : Int)) % (5 : Int)).toNat * (64 : Nat) + n_5.toNat * (1 : Nat) < (320 : Nat) ∧
 ((-9223372036854775808 : Int) ≤ n_3 + (1 : Int) ∧ n_3 + (1 : Int) ≤ (9223372036854775807 : Int)) ∧
 ((0 : Int) ≤ n_3 + (1 : Int) ∧ (0 : Int) < (5 : Int)) ∧
 ((-9223372036854775808 : Int) ≤ n_5 + (63 : Int) ∧
 n_5 + (63 : Int) ≤ (9223372036854775807 : Int)) ∧
 ((0 : Int) ≤ n_5 + (63 : Int) ∧ (0 : Int) < (64 : Int)) ∧
 ((0 : Int) ≤ (n_3 + (1 : Int)) % (5 : Int) ∧
 (n_3 + (1 : Int)) % (5 : Int) < (↑(5 : Nat) : Int)) ∧
 ((0 : Int) ≤ (n_5 + (63 : Int)) % (64 : Int) ∧
 (n_5 + (63 : Int)) % (64 : Int) < (↑(64 : Nat) : Int)) ∧
 ((n_3 + (1 : Int)) % (5 : Int)).toNat * (64 : Nat) +
 ((n_5 + (63 : Int)) % (64 : Int)).toNat * (1 : Nat) <
 (320 : Nat) ∧
 ((0 : Int) ≤ n_3 ∧ n_3 < (↑(5 : Nat) : Int)) ∧
 ((0 : Int) ≤ n_4 ∧ n_4 < (↑(5 : Nat) : Int)) ∧
 ((0 : Int) ≤ n_5 ∧ n_5 < (↑(64 : Nat) : Int)) ∧
 n_3.toNat * (320 : Nat) + n_4.toNat * (64 : Nat) + n_5.toNat * (1 : Nat) <
 (1600 : Nat) ∧
 ((0 : Int) ≤ n_3 ∧ n_3 < (↑(5 : Nat) : Int)) ∧
 ((0 : Int) ≤ n_4 ∧ n_4 < (↑(5 : Nat) : Int)) ∧
 ((0 : Int) ≤ n_5 ∧ n_5 < (↑(64 : Nat) : Int)) ∧
 n_3.toNat * (320 : Nat) + n_4.toNat * (64 : Nat) + n_5.toNat * (1 : Nat) <
 (1600 : Nat) ∧
 ((-9223372036854775808 : Int) ≤ n_5 + (1 : Int) ∧
 n_5 + (1 : Int) ≤ (9223372036854775807 : Int)) ∧
 (n_3 = n_1 ∧
 n_4 = n_2 ∧
 l = l_8 ∧
 l_13 = l_10 ∧
 (0 : Int) ≤ n_5 + (1 : Int) ∧
 n_5 + (1 : Int) ≤ (64 : Int) ∧
 l_14.set
 (n_3.toNat * (320 : Nat) + n_4.toNat * (64 : Nat) +
 n_5.toNat * (1 : Nat))
 (l.getD
 (n_3.toNat * (320 : Nat) +
 n_4.toNat * (64 : Nat) +
 n_5.toNat * (1 : Nat))
 false !=
 (l_13.getD
 (((n_3 + (4 : Int)) % (5 : Int)).toNat *
 (64 : Nat) +
 n_5.toNat * (1 : Nat))
 false !=
 l_13.getD
 (((n_3 + (1 : Int)) % (5 : Int)).toNat *
 (64 : Nat) +
 ((n_5 + (63 : Int)) % (64 : Int)).toNat *
 (1 : Nat))
 false)) =
 fillN
 (at3 n_1.toNat
 n_2.toNat)
 (thV l_8 l_10
 n_1.toNat n_2.toNat)
 l_11 (n_5 + (1 : Int)).toNat) ∧
 ((64 : Int) - (n_5 + (1 : Int))).toNat < ((64 : Int) - n_5).toNat
 else
 ((-9223372036854775808 : Int) ≤ n_4 + (1 : Int) ∧ n_4 + (1 : Int) ≤ (9223372036854775807 : Int)) ∧
 (n_3 = n ∧
 l = l_4 ∧
 l_13 = l_6 ∧
 (0 : Int) ≤ n_4 + (1 : Int) ∧
 n_4 + (1 : Int) ≤ (5 : Int) ∧
 l_14 =
 fill2 (at3 n.toNat)
 (thV l_4 l_6 n.toNat) (64 : Nat) l_7
 (n_4 + (1 : Int)).toNat) ∧
 ((5 : Int) - (n_4 + (1 : Int))).toNat < ((5 : Int) - n_2).toNat
 else
 ((-9223372036854775808 : Int) ≤ n_1 + (1 : Int) ∧ n_1 + (1 : Int) ≤ (9223372036854775807 : Int)) ∧
 (l_8 = l ∧
 l_10 = parB l ∧
 (0 : Int) ≤ n_1 + (1 : Int) ∧
 n_1 + (1 : Int) ≤ (5 : Int) ∧
 l_11 =
 fill3 at3
 (thV l l_10) (5 : Nat) (64 : Nat) (List.replicate (1600 : Nat) false)
 (n_1 + (1 : Int)).toNat) ∧
 ((5 : Int) - (n_1 + (1 : Int))).toNat < ((5 : Int) - n).toNat
 else l_7 = thetaB l
theorem e223 : ct223.VC (base.with sp222) Tryz.f223.results.toList Tryz.f223.ntmps (Tryz.f223.ntmps - ct223.ps.length) (bodyOf Tryz.f223) ann223 = P223 := by kernel_rfl
noncomputable def sp223 : SpecT := addS sp222 223 (mkF ct223)
def P195 : Prop :=
 ∀ (l : List Bool) (n : Int),
 l.length = (1600 : Nat) →
 True →
 True ∧
 True ∧
 True ∧
 True ∧
 True ∧
 ((cbits n = cbits n ∧
 (0 : Int) ≤ (0 : Int) ∧
 (0 : Int) ≤ (64 : Int) ∧
 chiB
 (piB (rhoB (thetaB l))) =
 addC
 (chiB
 (piB (rhoB (thetaB l))))
 (cbits n) (0 : Nat)) ∧
 True) ∧
 ∀ (n_1 : Int) (l_1 l_2 l_3 : List Bool),
 l_1.length = (1600 : Nat) →
 l_2.length = (1600 : Nat) →
 l_3.length = (64 : Nat) →
 l_3 = cbits n ∧
 (0 : Int) ≤ n_1 ∧
 n_1 ≤ (64 : Int) ∧
 l_1 =
 addC
 (chiB
 (piB (rhoB (thetaB l))))
 (cbits n) n_1.toNat →
 bif decide (n_1 < (64 : Int)) then
 ((0 : Int) ≤ (0 : Int) ∧ (0 : Int) < (↑(5 : Nat) : Int)) ∧
 ((0 : Int) ≤ (0 : Int) ∧ (0 : Int) < (↑(5 : Nat) : Int)) ∧
 ((0 : Int) ≤ n_1 ∧ n_1 < (↑(64 : Nat) : Int)) ∧
 (0 : Nat) + n_1.toNat * (1 : Nat) < (1600 : Nat) ∧
 ((0 : Int) ≤ n_1 ∧ n_1 < (↑(64 : Nat) : Int)) ∧
 n_1.toNat * (1 : Nat) < (64 : Nat) ∧
 ((0 : Int) ≤ (0 : Int) ∧ (0 : Int) < (↑(5 : Nat) : Int)) ∧
 ((0 : Int) ≤ (0 : Int) ∧ (0 : Int) < (↑(5 : Nat) : Int)) ∧
 ((0 : Int) ≤ n_1 ∧ n_1 < (↑(64 : Nat) : Int)) ∧
 (0 : Nat) + n_1.toNat * (1 : Nat) < (1600 : Nat) ∧
 ((-9223372036854775808 : Int) ≤ n_1 + (1 : Int) ∧ n_1 + (1 : Int) ≤ (9223372036854775807 : Int)) ∧
 (l_3 = cbits n ∧
 (0 : Int) ≤ n_1 + (1 : Int) ∧
 n_1 + (1 : Int) ≤ (64 : Int) ∧
 l_1.set ((0 : Nat) + n_1.toNat * (1 : Nat))
 (l_1.getD ((0 : Nat) + n_1.toNat * (1 : Nat)) false != l_3.getD (n_1.toNat * (1 : Nat)) false) =
 addC
 (chiB
 (piB
 (rhoB (thetaB l))))
 (cbits n) (n_1 + (1 : Int)).toNat) ∧
 ((64 : Int) - (n_1 + (1 : Int))).toNat < ((64 : Int) - n_1).toNat
 else l_1 = roundB l n
theorem e195 : ct195.VC (base.with sp223) Tryz.f195.results.toList Tryz.f195.ntmps (Tryz.f195.ntmps - ct195.ps.length) (bodyOf Tryz.f195) ann195 = P195 := by kernel_rfl
noncomputable def sp195 : SpecT := addS sp223 195 (mkF ct195)
def P194 : Prop :=
 ∀ (l : List Int),
 l.length = (25 : Nat) →
 areW l →
 ((l = l ∧
 (0 : Int) ≤ (0 : Int) ∧
 (0 : Int) ≤ (25 : Int) ∧
 List.replicate (1600 : Nat) false =
 fill2 (fun i z => at3 (i % (5 : Nat)) (i / (5 : Nat)) z)
 (fun i z => bt (l.getD i (0 : Int)) z) (64 : Nat) (List.replicate (1600 : Nat) false) (0 : Nat)) ∧
 True) ∧
 ∀ (n : Int) (l_1 : List Int) (l_2 l_3 : List Bool),
 l_1.length = (25 : Nat) →
 l_2.length = (1600 : Nat) →
 l_3.length = (1600 : Nat) →
 l_1 = l ∧
 (0 : Int) ≤ n ∧
 n ≤ (25 : Int) ∧
 l_3 =
 fill2 (fun i z => at3 (i % (5 : Nat)) (i / (5 : Nat)) z)
 (fun i z => bt (l.getD i (0 : Int)) z) (64 : Nat) (List.replicate (1600 : Nat) false) n.toNat →
 bif decide (n < (25 : Int)) then
 ((0 : Int) ≤ n ∧ n < (↑(25 : Nat) : Int)) ∧
 n.toNat * (1 : Nat) < (25 : Nat) ∧
 ((n = n ∧
 l_1 = l_1 ∧
 (0 : Int) ≤ (0 : Int) ∧
 (0 : Int) ≤ (64 : Int) ∧
 l_1.getD (n.toNat * (1 : Nat)) (0 : Int) = l_1.getD (n.toNat * (1 : Nat)) (0 : Int) / (2 : Int) ^ (0 : Nat) ∧
 l_3 =
 fillN (fun z => at3 (n.toNat % (5 : Nat)) (n.toNat / (5 : Nat)) z)
 (fun z => bt (l_1.getD (n.toNat * (1 : Nat)) (0 : Int)) z) l_3 (0 : Nat)) ∧
 True) ∧
 ∀ (n_1 n_2 n_3 : Int) (l_4 : List Int) (l_5 l_6 : List Bool),
 l_4.length = (25 : Nat) →
 l_5.length = (1600 : Nat) →
 l_6.length = (1600 : Nat) →
 n_1 = n ∧
 l_4 = l_1 ∧
 (0 : Int) ≤ n_3 ∧
 n_3 ≤ (64 : Int) ∧
 n_2 = l_1.getD (n.toNat * (1 : Nat)) (0 : Int) / (2 : Int) ^ n_3.toNat ∧
 l_6 =
 fillN
 (fun z => at3 (n.toNat % (5 : Nat)) (n.toNat / (5 : Nat)) z)
 (fun z => bt (l_1.getD (n.toNat * (1 : Nat)) (0 : Int)) z) l_3 n_3.toNat →
 bif decide (n_3 < (64 : Int)) then
 ((0 : Int) ≤ n_1 ∧ (0 : Int) < (5 : Int)) ∧
 ((0 : Int) ≤ n_1 ∧ (0 : Int) < (5 : Int) ∧ n_1 ≤ Go.IntKind.i64.max) ∧
 ((0 : Int) ≤ n_2 ∧ (0 : Int) < (2 : Int)) ∧
 ((0 : Int) ≤ n_1 % (5 : Int) ∧ n_1 % (5 : Int) < (↑(5 : Nat) : Int)) ∧
 ((0 : Int) ≤ n_1 / (5 : Int) ∧ n_1 / (5 : Int) < (↑(5 : Nat) : Int)) ∧
 ((0 : Int) ≤ n_3 ∧ n_3 < (↑(64 : Nat) : Int)) ∧
 (n_1 % (5 : Int)).toNat * (320 : Nat) + (n_1 / (5 : Int)).toNat * (64 : Nat) + n_3.toNat * (1 : Nat) < (1600 : Nat) ∧
 ((0 : Int) ≤ n_2 ∧ (0 : Int) < (2 : Int) ∧ n_2 ≤ Go.IntKind.u64.max) ∧
 ((-9223372036854775808 : Int) ≤ n_3 + (1 : Int) ∧ n_3 + (1 : Int) ≤ (9223372036854775807 : Int)) ∧
 (n_1 = n ∧
 l_4 = l_1 ∧
 (0 : Int) ≤ n_3 + (1 : Int) ∧
 n_3 + (1 : Int) ≤ (64 : Int) ∧
 n_2 / (2 : Int) = l_1.getD (n.toNat * (1 : Nat)) (0 : Int) / (2 : Int) ^ (n_3 + (1 : Int)).toNat ∧
 l_6.set ((n_1 % (5 : Int)).toNat * (320 : Nat) + (n_1 / (5 : Int)).toNat * (64 : Nat) + n_3.toNat * (1 : Nat))
 (decide (n_2 % (2 : Int) = (1 : Int))) =
 fillN
 (fun z => at3 (n.toNat % (5 : Nat)) (n.toNat / (5 : Nat)) z)
 (fun z => bt (l_1.getD (n.toNat * (1 : Nat)) (0 : Int)) z) l_3
 (n_3 + (1 : Int)).toNat) ∧
 ((64 : Int) - (n_3 + (1 : Int))).toNat < ((64 : Int) - n_3).toNat
 else
 ((-9223372036854775808 : Int) ≤ n_1 + (1 : Int) ∧ n_1 + (1 : Int) ≤ (9223372036854775807 : Int)) ∧
 (l_4 = l ∧
 (0 : Int) ≤ n_1 + (1 : Int) ∧
 n_1 + (1 : Int) ≤ (25 : Int) ∧
 l_6 =
 fill2 (fun i z => at3 (i % (5 : Nat)) (i / (5 : Nat)) z)
 (fun i z => bt (l.getD i (0 : Int)) z) (64 : Nat) (List.replicate (1600 : Nat) false)
 (n_1 + (1 : Int)).toNat) ∧
 ((25 : Int) - (n_1 + (1 : Int))).toNat < ((25 : Int) - n).toNat
 else l_3 = ofW l
theorem e194 : ct194.VC (base.with sp195) Tryz.f194.results.toList Tryz.f194.ntmps (Tryz.f194.ntmps - ct194.ps.length) (bodyOf Tryz.f194) ann194 = P194 := by kernel_rfl
noncomputable def sp194 : SpecT := addS sp195 194 (mkF ct194)
def P196 : Prop :=
 ∀ (l : List Bool),
 l.length = (1600 : Nat) →
 True →
 ((l = l ∧
 (0 : Int) ≤ (0 : Int) ∧
 (0 : Int) ≤ (25 : Int) ∧
 [(0 : Int), (0 : Int), (0 : Int), (0 : Int), (0 : Int), (0 : Int), (0 : Int), (0 : Int), (0 : Int), (0 : Int), (0 : Int), (0 : Int), (0 : Int), (0 : Int),
 (0 : Int), (0 : Int), (0 : Int), (0 : Int), (0 : Int), (0 : Int), (0 : Int), (0 : Int), (0 : Int), (0 : Int), (0 : Int)] =
 wdN l (0 : Nat)) ∧
 True) ∧
 ∀ (n : Int) (l_1 : List Bool) (l_2 l_3 : List Int),
 l_1.length = (1600 : Nat) →
 l_2.length = (25 : Nat) →
 l_3.length = (25 : Nat) →
 l_1 = l ∧ (0 : Int) ≤ n ∧ n ≤ (25 : Int) ∧ l_3 = wdN l n.toNat →
 bif decide (n < (25 : Int)) then
 ((n = n ∧ l_1 = l_1 ∧ l_3 = l_3 ∧ (-1 : Int) ≤ (63 : Int) ∧ (63 : Int) ≤ (63 : Int) ∧ (0 : Int) = (↑(0 : Nat) : Int)) ∧ True) ∧
 ∀ (n_1 n_2 n_3 : Int) (l_4 : List Bool) (l_5 l_6 : List Int),
 l_4.length = (1600 : Nat) →
 l_5.length = (25 : Nat) →
 l_6.length = (25 : Nat) →
 n_1 = n ∧
 l_4 = l_1 ∧
 l_6 = l_3 ∧ (-1 : Int) ≤ n_3 ∧ n_3 ≤ (63 : Int) ∧ n_2 = (↑(wv l_1 n.toNat ((63 : Int) - n_3).toNat) : Int) →
 bif decide ((0 : Int) ≤ n_3) then
 ((0 : Int) ≤ n_1 ∧ (0 : Int) < (5 : Int)) ∧
 ((0 : Int) ≤ n_1 ∧ (0 : Int) < (5 : Int) ∧ n_1 ≤ Go.IntKind.i64.max) ∧
 ((0 : Int) ≤ n_1 % (5 : Int) ∧ n_1 % (5 : Int) < (↑(5 : Nat) : Int)) ∧
 ((0 : Int) ≤ n_1 / (5 : Int) ∧ n_1 / (5 : Int) < (↑(5 : Nat) : Int)) ∧
 ((0 : Int) ≤ n_3 ∧ n_3 < (↑(64 : Nat) : Int)) ∧
 (n_1 % (5 : Int)).toNat * (320 : Nat) + (n_1 / (5 : Int)).toNat * (64 : Nat) + n_3.toNat * (1 : Nat) < (1600 : Nat) ∧
 bif l_4.getD ((n_1 % (5 : Int)).toNat * (320 : Nat) + (n_1 / (5 : Int)).toNat * (64 : Nat) + n_3.toNat * (1 : Nat)) false then
 ((-9223372036854775808 : Int) ≤ n_3 - (1 : Int) ∧ n_3 - (1 : Int) ≤ (9223372036854775807 : Int)) ∧
 (n_1 = n ∧
 l_4 = l_1 ∧
 l_6 = l_3 ∧
 (-1 : Int) ≤ n_3 - (1 : Int) ∧
 n_3 - (1 : Int) ≤ (63 : Int) ∧
 Go.IntKind.u64.wrap (Go.IntKind.u64.wrap (n_2 * (2 : Int)) + (1 : Int)) =
 (↑(wv l_1 n.toNat ((63 : Int) - (n_3 - (1 : Int))).toNat) : Int)) ∧
 (n_3 - (1 : Int) + (1 : Int)).toNat < (n_3 + (1 : Int)).toNat
 else
 ((-9223372036854775808 : Int) ≤ n_3 - (1 : Int) ∧ n_3 - (1 : Int) ≤ (9223372036854775807 : Int)) ∧
 (n_1 = n ∧
 l_4 = l_1 ∧
 l_6 = l_3 ∧
 (-1 : Int) ≤ n_3 - (1 : Int) ∧
 n_3 - (1 : Int) ≤ (63 : Int) ∧
 Go.IntKind.u64.wrap (n_2 * (2 : Int)) =
 (↑(wv l_1 n.toNat ((63 : Int) - (n_3 - (1 : Int))).toNat) : Int)) ∧
 (n_3 - (1 : Int) + (1 : Int)).toNat < (n_3 + (1 : Int)).toNat
 else
 ((0 : Int) ≤ n_1 ∧ n_1 < (↑(25 : Nat) : Int)) ∧
 n_1.toNat * (1 : Nat) < (25 : Nat) ∧
 ((-9223372036854775808 : Int) ≤ n_1 + (1 : Int) ∧ n_1 + (1 : Int) ≤ (9223372036854775807 : Int)) ∧
 (l_4 = l ∧
 (0 : Int) ≤ n_1 + (1 : Int) ∧
 n_1 + (1 : Int) ≤ (25 : Int) ∧
 l_6.set (n_1.toNat * (1 : Nat)) n_2 = wdN l (n_1 + (1 : Int)).toNat) ∧
 ((25 : Int) - (n_1 + (1 : Int))).toNat < ((25 : Int) - n).toNat
 else l_3 = toW l
theorem e196 : ct196.VC (base.with sp194) Tryz.f196.results.toList Tryz.f196.ntmps (Tryz.f196.ntmps - ct196.ps.length) (bodyOf Tryz.f196) ann196 = P196 := by kernel_rfl
noncomputable def sp196 : SpecT := addS sp194 196 (mkF ct196)
def P156 : Prop :=
 ∀ (l : List Int),
 l.length = (25 : Nat) →
 areW l →
 areW l ∧
 (((0 : Int) ≤ (0 : Int) ∧
 (0 : Int) ≤ (24 : Int) ∧
 ofW l = permB (ofW l) (0 : Nat)) ∧
 True) ∧
 ∀ (n : Int) (l_1 l_2 : List Int) (l_3 : List Bool),
 l_1.length = (25 : Nat) →
 l_2.length = (25 : Nat) →
 l_3.length = (1600 : Nat) →
 (0 : Int) ≤ n ∧ n ≤ (24 : Int) ∧ l_3 = permB (ofW l) n.toNat →
 bif decide (n < (24 : Int)) then
 True ∧
 ((-9223372036854775808 : Int) ≤ n + (1 : Int) ∧ n + (1 : Int) ≤ (9223372036854775807 : Int)) ∧
 ((0 : Int) ≤ n + (1 : Int) ∧
 n + (1 : Int) ≤ (24 : Int) ∧
 roundB l_3 n =
 permB (ofW l) (n + (1 : Int)).toNat) ∧
 ((24 : Int) - (n + (1 : Int))).toNat < ((24 : Int) - n).toNat
 else True ∧ toW l_3 = permR l
theorem e156 : ct156.VC (base.with sp196) Tryz.f156.results.toList Tryz.f156.ntmps (Tryz.f156.ntmps - ct156.ps.length) (bodyOf Tryz.f156) ann156 = P156 := by kernel_rfl
noncomputable def sp156 : SpecT := addS sp196 156 (mkF ct156)
end Go.Proofs.YteiecapbaeajdaaGreatDoor
namespace Go.Proofs.YteiecapbaeajdaaGreatDoor
open Go Go.Avc Go.Proofs
set_option linter.unusedVariables false
set_option linter.unusedSimpArgs false
set_option maxRecDepth 100000
theorem ex_nat {n : Int} (h : 0 ≤ n) : ∃ i : Nat, n = i := ⟨n.toNat, by omega⟩
theorem suc_nat (i : Nat) : ((i : Int) + 1).toNat = i + 1 := by omega
theorem m5 (x k : Nat) : (((x : Int) + (k : Int)) % 5).toNat = (x + k) % 5 := by omega
theorem vc220 : P220 := by
  intro a ha _
  refine ⟨⟨⟨rfl, by omega, by omega, rfl⟩, trivial⟩, ?_⟩
  rintro x' a1 _ t _ _ _ ⟨rfl, h0, h1, ht⟩
  obtain ⟨x, rfl⟩ := ex_nat h0
  rw [Int.toNat_natCast] at ht
  refine condI (fun h => ?_) fun h => ?_
  · simp only [decide_eq_true_eq] at h
    refine ⟨⟨⟨rfl, rfl, by omega, by omega, rfl⟩, trivial⟩, ?_⟩
    rintro x' y' a2 _ t1 _ _ _ ⟨rfl, rfl, h2, h3, ht1⟩
    obtain ⟨y, rfl⟩ := ex_nat h2
    rw [Int.toNat_natCast, Int.toNat_natCast] at ht1
    refine condI (fun h4 => ?_) fun h4 => ?_
    · simp only [decide_eq_true_eq] at h4
      refine ⟨⟨⟨rfl, rfl, rfl, by omega, by omega, rfl⟩, trivial⟩, ?_⟩
      rintro x' y' z' a3 _ t2 _ _ _ ⟨rfl, rfl, rfl, h5, h6, ht2⟩
      obtain ⟨z, rfl⟩ := ex_nat h5
      simp only [Int.toNat_natCast] at ht2
      refine condI (fun h7 => ?_) fun h7 => ?_
      · simp only [decide_eq_true_eq] at h7
        have e1 : (((x : Int) + 1) % 5).toNat = (x + 1) % 5 := m5 x 1
        have e2 : (((x : Int) + 2) % 5).toNat = (x + 2) % 5 := m5 x 2
        simp only [Int.toNat_natCast, e1, e2, suc_nat, Nat.mul_one]
        refine ⟨by omega, by omega, by omega, by omega, by omega, by omega, by omega, by omega, by omega, by omega, fun _ => by omega, fun _ => by omega, fun _ => by omega, fun _ => by omega, fun _ => by omega, fun _ => by omega, by omega, by omega, by omega, by omega, by omega, ⟨by trivial, by trivial, by trivial, by omega, by omega, ?_⟩, by omega⟩
        rw [ht2]; rfl
      · simp only [decide_eq_false_iff_not] at h7
        have hz : z = 64 := by omega
        subst hz
        refine ⟨by omega, ⟨by trivial, by trivial, by omega, by omega, ?_⟩, by omega⟩
        rw [suc_nat, ht2, ht1]; rfl
    · simp only [decide_eq_false_iff_not] at h4
      have hy : y = 5 := by omega
      subst hy
      refine ⟨by omega, ⟨by trivial, by omega, by omega, ?_⟩, by omega⟩
      rw [suc_nat, ht1, ht]; rfl
  · simp only [decide_eq_false_iff_not] at h
    have hx : x = 5 := by omega
    subst hx
    rw [ht]; rfl
theorem ok220 : SpecOk (base.with sp224) 220 (mkF ct220) := spec_ct (fn := Tryz.f220) (c := bodyOf Tryz.f220) (k := Tryz.f220.ntmps - ct220.ps.length) (ct := ct220) c224 Tryz.func220 (by kernel_rfl) ann220 (by kernel_rfl) (fun vs w _ => Tryz.call220 vs w) (by rw [e220]; exact vc220)
theorem c220 : (base.with sp220).Ok := addS_ok c224 ok220
theorem xy5 (x y : Nat) : ((2 * (x : Int) + 3 * (y : Int)) % 5).toNat = (2 * x + 3 * y) % 5 := by
  have : 2 * (x : Int) + 3 * (y : Int) = ((2 * x + 3 * y : Nat) : Int) := by omega
  rw [this]
  generalize 2 * x + 3 * y = m
  omega
theorem vc221 : P221 := by
  intro a ha _
  refine ⟨⟨⟨rfl, by omega, by omega, rfl⟩, trivial⟩, ?_⟩
  rintro x' a1 _ t _ _ _ ⟨rfl, h0, h1, ht⟩
  obtain ⟨x, rfl⟩ := ex_nat h0
  rw [Int.toNat_natCast] at ht
  refine condI (fun h => ?_) fun h => ?_
  · simp only [decide_eq_true_eq] at h
    refine ⟨⟨⟨rfl, rfl, by omega, by omega, rfl⟩, trivial⟩, ?_⟩
    rintro x' y' a2 _ t1 _ _ _ ⟨rfl, rfl, h2, h3, ht1⟩
    obtain ⟨y, rfl⟩ := ex_nat h2
    rw [Int.toNat_natCast, Int.toNat_natCast] at ht1
    refine condI (fun h4 => ?_) fun h4 => ?_
    · simp only [decide_eq_true_eq] at h4
      have e1 := xy5 x y
      have e2 : (2 * x + 3 * y) % 5 < 5 := Nat.mod_lt _ (by decide)
      simp only [Int.toNat_natCast, e1, suc_nat, Nat.mul_one]
      refine ⟨by omega, by omega, by omega, by omega, by omega, by omega, by omega, by omega, by omega, by omega, by omega, ⟨by trivial, by trivial, by omega, by omega, ?_⟩, by omega⟩
      rw [ht1]; rfl
    · simp only [decide_eq_false_iff_not] at h4
      have hy : y = 5 := by omega
      subst hy
      refine ⟨by omega, ⟨by trivial, by omega, by omega, ?_⟩, by omega⟩
      rw [suc_nat, ht1, ht]; rfl
  · simp only [decide_eq_false_iff_not] at h
    have hx : x = 5 := by omega
    subst hx
    rw [ht]; rfl
theorem ok221 : SpecOk (base.with sp220) 221 (mkF ct221) := spec_ct (fn := Tryz.f221) (c := bodyOf Tryz.f221) (k := Tryz.f221.ntmps - ct221.ps.length) (ct := ct221) c220 Tryz.func221 (by kernel_rfl) ann221 (by kernel_rfl) (fun vs w _ => Tryz.call221 vs w) (by rw [e221]; exact vc221)
theorem c221 : (base.with sp221).Ok := addS_ok c220 ok221
theorem vc222 : P222 := by
  intro a ha _
  refine ⟨by omega, by omega, by omega, by omega, by omega, by omega, ⟨⟨rfl, by omega, by omega, rfl, rfl, rfl⟩, trivial⟩, ?_⟩
  rintro x' y' t' a1 _ l1 _ _ _ ⟨rfl, h0, h1, rfl, rfl, hl⟩
  obtain ⟨t, rfl⟩ := ex_nat h0
  rw [Int.toNat_natCast] at *
  refine condI (fun h => ?_) fun h => ?_
  · simp only [decide_eq_true_eq] at h
    refine ⟨⟨⟨rfl, rfl, rfl, rfl, by omega, by omega, rfl⟩, trivial⟩, ?_⟩
    rintro x' y' t' z' a2 _ l2 _ _ _ ⟨rfl, rfl, rfl, rfl, h2, h3, hl2⟩
    obtain ⟨z, rfl⟩ := ex_nat h2
    obtain ⟨hx, hy⟩ := xy_lt t
    simp only [Int.toNat_natCast] at hl2
    refine condI (fun h4 => ?_) fun h4 => ?_
    · simp only [decide_eq_true_eq] at h4
      have hm : (t + 1) * (t + 2) ≤ 24 * 25 := Nat.mul_le_mul (by omega) (by omega)
      have em : ((t : Int) + 1) * ((t : Int) + 2) = (((t + 1) * (t + 2) : Nat) : Int) := by simp
      have eq0 : ((z : Int) + (((t + 1) * (t + 2) : Nat) : Int) / 2) % 64 = (((z + (t + 1) * (t + 2) / 2) % 64 : Nat) : Int) := by omega
      have emax : IntKind.max .i64 = 9223372036854775807 := by decide
      rw [em, eq0, emax]
      simp only [Int.toNat_natCast, suc_nat, Nat.mul_one]
      have hlt : (z + (t + 1) * (t + 2) / 2) % 64 < 64 := Nat.mod_lt _ (by decide)
      refine ⟨by omega, by omega, by omega, by omega, by omega, by omega, by omega, by omega, by omega, by omega, by omega, by omega, by omega, by omega, by omega, ⟨by trivial, by trivial, by trivial, by trivial, by omega, by omega, ?_⟩, by omega⟩
      rw [hl2]; rfl
    · simp only [decide_eq_false_iff_not] at h4
      have hz : z = 64 := by omega
      subst hz
      have e1 := xy5 (xyN t).1 (xyN t).2
      refine ⟨by omega, by omega, by omega, by omega, by omega, ⟨by trivial, by omega, by omega, ?_, ?_, ?_⟩, by omega⟩
      · rw [suc_nat]; rfl
      · rw [suc_nat]
        show _ = (((2 * (xyN t).1 + 3 * (xyN t).2) % 5 : Nat) : Int)
        rw [← e1]
        omega
      · rw [suc_nat, hl2, hl]; rfl
  · simp only [decide_eq_false_iff_not] at h
    have ht : t = 24 := by omega
    subst ht
    rw [hl]; rfl
theorem ok222 : SpecOk (base.with sp221) 222 (mkF ct222) := spec_ct (fn := Tryz.f222) (c := bodyOf Tryz.f222) (k := Tryz.f222.ntmps - ct222.ps.length) (ct := ct222) c221 Tryz.func222 (by kernel_rfl) ann222 (by kernel_rfl) (fun vs w _ => Tryz.call222 vs w) (by rw [e222]; exact vc222)
theorem c222 : (base.with sp222).Ok := addS_ok c221 ok222
theorem vc223 : P223 := by
  intro a ha _
  refine ⟨⟨⟨rfl, by omega, by omega, rfl⟩, trivial⟩, ?_⟩
  rintro x' a1 _ p _ _ _ ⟨rfl, h0, h1, ht⟩
  obtain ⟨x, rfl⟩ := ex_nat h0
  rw [Int.toNat_natCast] at ht
  refine condI (fun h => ?_) fun h => ?_
  · simp only [decide_eq_true_eq] at h
    refine ⟨⟨⟨rfl, rfl, by omega, by omega, rfl⟩, trivial⟩, ?_⟩
    rintro x' z' a2 _ p1 _ _ _ ⟨rfl, rfl, h2, h3, ht1⟩
    obtain ⟨z, rfl⟩ := ex_nat h2
    rw [Int.toNat_natCast, Int.toNat_natCast] at ht1
    refine condI (fun h4 => ?_) fun h4 => ?_
    · simp only [decide_eq_true_eq] at h4
      refine ⟨⟨⟨rfl, rfl, rfl, rfl, by omega, by omega, rfl, by omega, by omega⟩, trivial⟩, ?_⟩
      rintro x' z' n' y' a3 _ p2 _ _ _ ⟨rfl, rfl, rfl, rfl, h5, h6, hn, h8, h9⟩
      obtain ⟨y, rfl⟩ := ex_nat h5
      simp only [Int.toNat_natCast] at hn
      refine condI (fun h7 => ?_) fun h7 => ?_
      · simp only [decide_eq_true_eq] at h7
        simp only [Int.toNat_natCast, suc_nat, Nat.mul_one]
        refine ⟨by omega, by omega, by omega, by omega, ?_⟩
        refine condI (fun hb => ?_) fun hb => ?_
        · refine ⟨by omega, by omega, ⟨by trivial, by trivial, by trivial, by trivial, by omega, by omega, ?_, by omega, by omega⟩, by omega⟩
          rw [hn, cntK]
          exact (if_pos hb).symm
        · refine ⟨by omega, ⟨by trivial, by trivial, by trivial, by trivial, by omega, by omega, ?_, by omega, by omega⟩, by omega⟩
          rw [hn, cntK]
          exact (if_neg (by unfold gb at3; rw [hb]; decide)).symm
      · simp only [decide_eq_false_iff_not] at h7
        have hy : y = 5 := by omega
        subst hy
        simp only [Int.toNat_natCast, suc_nat, Nat.mul_one]
        refine ⟨by omega, by omega, by omega, by omega, by omega, ⟨by trivial, by trivial, by omega, by omega, ?_⟩, by omega⟩
        rw [ht1, hn]; rfl
    · simp only [decide_eq_false_iff_not] at h4
      have hz : z = 64 := by omega
      subst hz
      refine ⟨by omega, ⟨by trivial, by omega, by omega, ?_⟩, by omega⟩
      rw [suc_nat, ht1, ht]; rfl
  · simp only [decide_eq_false_iff_not] at h
    have hx : x = 5 := by omega
    subst hx
    refine ⟨⟨⟨by trivial, ht, by omega, by omega, rfl⟩, trivial⟩, ?_⟩
    clear ht h h1 h0
    rintro x' a2 _ p2 t _ _ _ _ ⟨rfl, hp, h0, h1, ht⟩
    obtain ⟨x, rfl⟩ := ex_nat h0
    rw [Int.toNat_natCast] at ht
    refine condI (fun h => ?_) fun h => ?_
    · simp only [decide_eq_true_eq] at h
      refine ⟨⟨⟨rfl, rfl, rfl, by omega, by omega, rfl⟩, trivial⟩, ?_⟩
      rintro x' y' a2 _ p3 t1 _ _ _ _ ⟨rfl, rfl, rfl, h2, h3, ht1⟩
      obtain ⟨y, rfl⟩ := ex_nat h2
      rw [Int.toNat_natCast, Int.toNat_natCast] at ht1
      refine condI (fun h4 => ?_) fun h4 => ?_
      · simp only [decide_eq_true_eq] at h4
        refine ⟨⟨⟨rfl, rfl, rfl, rfl, by omega, by omega, rfl⟩, trivial⟩, ?_⟩
        rintro x' y' z' a3 _ p3 t2 _ _ _ _ ⟨rfl, rfl, rfl, rfl, h5, h6, ht2⟩
        obtain ⟨z, rfl⟩ := ex_nat h5
        simp only [Int.toNat_natCast] at ht2
        refine condI (fun h7 => ?_) fun h7 => ?_
        · simp only [decide_eq_true_eq] at h7
          have e1 : (((x : Int) + 4) % 5).toNat = (x + 4) % 5 := m5 x 4
          have e2 : (((x : Int) + 1) % 5).toNat = (x + 1) % 5 := m5 x 1
          have e3 : (((z : Int) + 63) % 64).toNat = (z + 63) % 64 := by omega
          simp only [Int.toNat_natCast, e1, e2, e3, suc_nat, Nat.mul_one]
          refine ⟨by omega, by omega, by omega, by omega, by omega, by omega, by omega, by omega, by omega, by omega, by omega, by omega, by omega, by omega, by omega, by omega, by omega, by omega, by omega, by omega, by omega, ⟨by trivial, by trivial, by trivial, by trivial, by omega, by omega, ?_⟩, by omega⟩
          rw [ht2]; rfl
        · simp only [decide_eq_false_iff_not] at h7
          have hz : z = 64 := by omega
          subst hz
          refine ⟨by omega, ⟨by trivial, by trivial, by trivial, by omega, by omega, ?_⟩, by omega⟩
          rw [suc_nat, ht2, ht1]; rfl
      · simp only [decide_eq_false_iff_not] at h4
        have hy : y = 5 := by omega
        subst hy
        refine ⟨by omega, ⟨by trivial, hp, by omega, by omega, ?_⟩, by omega⟩
        rw [suc_nat, ht1, ht]; rfl
    · simp only [decide_eq_false_iff_not] at h
      have hx : x = 5 := by omega
      subst hx
      rw [ht, hp]; rfl
theorem ok223 : SpecOk (base.with sp222) 223 (mkF ct223) := spec_ct (fn := Tryz.f223) (c := bodyOf Tryz.f223) (k := Tryz.f223.ntmps - ct223.ps.length) (ct := ct223) c222 Tryz.func223 (by kernel_rfl) ann223 (by kernel_rfl) (fun vs w _ => Tryz.call223 vs w) (by rw [e223]; exact vc223)
theorem c223 : (base.with sp223).Ok := addS_ok c222 ok223
theorem vc195 : P195 := by
  intro a r ha _
  refine ⟨trivial, trivial, trivial, trivial, trivial, ⟨⟨rfl, by omega, by omega, rfl⟩, trivial⟩, ?_⟩
  rintro z' t _ c _ _ _ ⟨hc, h0, h1, ht⟩
  obtain ⟨z, rfl⟩ := ex_nat h0
  rw [Int.toNat_natCast] at ht
  refine condI (fun h => ?_) fun h => ?_
  · simp only [decide_eq_true_eq] at h
    simp only [Int.toNat_natCast, suc_nat, Nat.mul_one, Nat.zero_add]
    refine ⟨by omega, by omega, by omega, by omega, by omega, by omega, by omega, by omega, by omega, by omega, by omega, ⟨hc, by omega, by omega, ?_⟩, by omega⟩
    rw [ht, hc]; rfl
  · simp only [decide_eq_false_iff_not] at h
    have hz : z = 64 := by omega
    subst hz
    rw [ht]; rfl
theorem ok195 : SpecOk (base.with sp223) 195 (mkF ct195) := spec_ct (fn := Tryz.f195) (c := bodyOf Tryz.f195) (k := Tryz.f195.ntmps - ct195.ps.length) (ct := ct195) c223 Tryz.func195 (by kernel_rfl) ann195 (by kernel_rfl) (fun vs w _ => Tryz.call195 vs w) (by rw [e195]; exact vc195)
theorem c195 : (base.with sp195).Ok := addS_ok c223 ok195
theorem pow_half (n : Nat) (v : Int) : v / 2 ^ n / 2 = v / 2 ^ (n + 1) := by
  rw [Int.pow_succ, Int.ediv_ediv_of_nonneg (Int.le_of_lt (Int.pow_pos (by decide)))]
theorem bit_of {v : Int} (h : 0 ≤ v) (z : Nat) : decide (v / 2 ^ z % 2 = 1) = bt v z := by
  obtain ⟨n, rfl⟩ := ex_nat h
  unfold bt
  rw [Int.toNat_natCast, Nat.testBit_eq_decide_div_mod_eq, show (2 : Int) ^ z = ((2 ^ z : Nat) : Int) from by rw [Int.natCast_pow]; rfl]
  apply decide_eq_decide.2
  rw [← Int.natCast_ediv]
  omega
theorem vc194 : P194 := by
  intro s hs hw
  refine ⟨⟨⟨rfl, by omega, by omega, rfl⟩, trivial⟩, ?_⟩
  rintro i' s1 _ t _ _ _ ⟨rfl, h0, h1, ht⟩
  obtain ⟨i, rfl⟩ := ex_nat h0
  simp only [Int.toNat_natCast] at ht
  refine condI (fun h => ?_) fun h => ?_
  · simp only [decide_eq_true_eq] at h
    have hv := hw i
    simp only [Int.toNat_natCast, Nat.mul_one]
    refine ⟨by omega, by omega, ⟨⟨by trivial, by trivial, by omega, by omega, (Int.ediv_one _).symm, rfl⟩, trivial⟩, ?_⟩
    generalize hV : s1.getD i 0 = V at *
    rintro i' v z' s2 _ t1 _ _ _ ⟨rfl, rfl, h2, h3, rfl, ht1⟩
    obtain ⟨z, rfl⟩ := ex_nat h2
    simp only [Int.toNat_natCast] at ht1 ⊢
    have hp : (0 : Int) < 2 ^ z := Int.pow_pos (by decide)
    have hd : 0 ≤ V / 2 ^ z := Int.ediv_nonneg hv.1 (Int.le_of_lt hp)
    have hd2 : V / 2 ^ z ≤ V := Int.ediv_le_self _ hv.1
    have hd3 := hv.2
    refine condI (fun h4 => ?_) fun h4 => ?_
    · simp only [decide_eq_true_eq] at h4
      have emax : IntKind.max .i64 = 9223372036854775807 := by decide
      have emax2 : IntKind.max .u64 = 18446744073709551615 := by decide
      have e1 : ((i : Int) % 5).toNat = i % 5 := by omega
      have e2 : ((i : Int) / 5).toNat = i / 5 := by omega
      rw [emax, emax2, pow_half, bit_of hv.1]
      simp only [Int.toNat_natCast, e1, e2, suc_nat, Nat.mul_one]
      refine ⟨by omega, by omega, by omega, by omega, by omega, by omega, by omega, by omega, by omega, ⟨by trivial, by trivial, by omega, by omega, by trivial, ?_⟩, by omega⟩
      rw [ht1]; rfl
    · simp only [decide_eq_false_iff_not] at h4
      have hz : z = 64 := by omega
      subst hz
      refine ⟨by omega, ⟨by trivial, by omega, by omega, ?_⟩, by omega⟩
      rw [suc_nat, ht1, ht, ← hV]; rfl
  · simp only [decide_eq_false_iff_not] at h
    have hi : i = 25 := by omega
    subst hi
    rw [ht]; rfl
theorem ok194 : SpecOk (base.with sp195) 194 (mkF ct194) := spec_ct (fn := Tryz.f194) (c := bodyOf Tryz.f194) (k := Tryz.f194.ntmps - ct194.ps.length) (ct := ct194) c195 Tryz.func194 (by kernel_rfl) ann194 (by kernel_rfl) (fun vs w _ => Tryz.call194 vs w) (by rw [e194]; exact vc194)
theorem c194 : (base.with sp194).Ok := addS_ok c195 ok194
theorem wv_lt (a : List Bool) (i : Nat) : ∀ n, wv a i n < 2 ^ n
  | 0 => Nat.one_pos
  | n + 1 => by
    have := wv_lt a i n
    rw [wv, Nat.pow_succ]
    split <;> omega
theorem vc196 : P196 := by
  intro a ha _
  refine ⟨⟨⟨rfl, by omega, by omega, rfl⟩, trivial⟩, ?_⟩
  rintro i' a1 _ t _ _ _ ⟨rfl, h0, h1, ht⟩
  obtain ⟨i, rfl⟩ := ex_nat h0
  simp only [Int.toNat_natCast] at ht ⊢
  refine condI (fun h => ?_) fun h => ?_
  · simp only [decide_eq_true_eq] at h
    refine ⟨⟨⟨by trivial, by trivial, by trivial, by omega, by omega, by omega⟩, trivial⟩, ?_⟩
    rintro i' v z' a2 _ t1 _ _ _ ⟨rfl, rfl, rfl, h2, h3, rfl⟩
    refine condI (fun h4 => ?_) fun h4 => ?_
    · simp only [decide_eq_true_eq] at h4
      obtain ⟨z, rfl⟩ := ex_nat h4
      have emax : IntKind.max .i64 = 9223372036854775807 := by decide
      have e1 : ((i : Int) % 5).toNat = i % 5 := by omega
      have e2 : ((i : Int) / 5).toNat = i / 5 := by omega
      have e3 : ((63 : Int) - (z : Int)).toNat = 63 - z := by omega
      have e4 : ((63 : Int) - ((z : Int) - 1)).toNat = 63 - z + 1 := by omega
      have hw := wv_lt a2 i (63 - z)
      have hpow : 2 ^ (63 - z) ≤ 2 ^ 63 := Nat.pow_le_pow_right (by decide) (by omega)
      rw [emax]
      simp only [Int.toNat_natCast, e1, e2, e3, e4, Nat.mul_one]
      have hwu : ∀ b : Nat, b ≤ 1 → IntKind.u64.wrap ((wv a2 i (63 - z) : Int) * 2 + b) = ((2 * wv a2 i (63 - z) + b : Nat) : Int) := fun b hb => by rw [wrap_u64']; omega
      refine ⟨by omega, by omega, by omega, by omega, by omega, by omega, ?_⟩
      refine condI (fun hb => ?_) fun hb => ?_
      · refine ⟨by omega, ⟨by trivial, by trivial, by trivial, by omega, by omega, ?_⟩, by omega⟩
        have := hwu 0 (by omega)
        rw [Int.natCast_zero, Int.add_zero, Nat.add_zero] at this
        rw [this, wv, if_pos (by rw [show 63 - (63 - z) = z from by omega]; exact hb), wrap_u64']
        omega
      · refine ⟨by omega, ⟨by trivial, by trivial, by trivial, by omega, by omega, ?_⟩, by omega⟩
        have := hwu 0 (by omega)
        rw [Int.natCast_zero, Int.add_zero, Nat.add_zero] at this
        rw [this, wv, if_neg (by rw [show 63 - (63 - z) = z from by omega]; unfold gb at3; rw [hb]; decide)]
        omega
    · simp only [decide_eq_false_iff_not] at h4
      have hz : z' = -1 := by omega
      subst hz
      refine ⟨by omega, by omega, by omega, ⟨by trivial, by omega, by omega, ?_⟩, by omega⟩
      rw [suc_nat, ht, Int.toNat_natCast, Nat.mul_one]; rfl
  · simp only [decide_eq_false_iff_not] at h
    have hi : i = 25 := by omega
    subst hi
    rw [ht, toW, hid_eq]
theorem ok196 : SpecOk (base.with sp194) 196 (mkF ct196) := spec_ct (fn := Tryz.f196) (c := bodyOf Tryz.f196) (k := Tryz.f196.ntmps - ct196.ps.length) (ct := ct196) c194 Tryz.func196 (by kernel_rfl) ann196 (by kernel_rfl) (fun vs w _ => Tryz.call196 vs w) (by rw [e196]; exact vc196)
theorem c196 : (base.with sp196).Ok := addS_ok c194 ok196
theorem vc156 : P156 := by
  intro s hs hw
  refine ⟨hw, ⟨⟨by omega, by omega, rfl⟩, trivial⟩, ?_⟩
  rintro n _ _ t _ _ _ ⟨h0, h1, ht⟩
  obtain ⟨i, rfl⟩ := ex_nat h0
  rw [Int.toNat_natCast] at ht
  refine condI (fun h => ?_) fun h => ?_
  · simp only [decide_eq_true_eq] at h
    refine ⟨trivial, by omega, ⟨by omega, by omega, ?_⟩, by omega⟩
    rw [suc_nat, ht]; rfl
  · simp only [decide_eq_false_iff_not] at h
    have hi : i = 24 := by omega
    subst hi
    exact ⟨trivial, by rw [ht, permR, hid_eq]⟩
theorem ok156 : SpecOk (base.with sp196) 156 (mkF ct156) := spec_ct (fn := Tryz.f156) (c := bodyOf Tryz.f156) (k := Tryz.f156.ntmps - ct156.ps.length) (ct := ct156) c196 Tryz.func156 (by kernel_rfl) ann156 (by kernel_rfl) (fun vs w _ => Tryz.call156 vs w) (by rw [e156]; exact vc156)
theorem c156 : (base.with sp156).Ok := addS_ok c196 ok156
end Go.Proofs.YteiecapbaeajdaaGreatDoor
namespace Go.Proofs.YteiecapbaeajdaaGreatDoor
open Go Go.Avc
set_option linter.unusedVariables false
abbrev rb : Pat := .rd [.int .u8]
abbrev rw64 : Pat := .rd [.int .u64]
abbrev ob : BPat := .own 5 [.int .u8]
abbrev ow : BPat := .own 73 [.int .u64]
def row1 (n : Int) : List CD := [.int n]
/-- The number in a row. -/
def rv (l : List (List CD)) (i : Nat) : Int := ((l.getD i []).getD 0 .d0).toInt
def areR (l : List (List CD)) : Prop := ∀ i, isW (rv l i)
/-- All are bytes. -/
def areB (l : List (List CD)) : Prop := ∀ i, 0 ≤ rv l i ∧ rv l i < 256
/-- The bytes of a word. -/
def wb (w : Int) (k : Nat) : Int := w / 256 ^ k % 256
def wbN (w : Int) : Nat → List Int
  | 0 => []
  | n + 1 => wbN w n ++ [wb w n]
def bysN (f : Nat → Int) : Nat → List Int
  | 0 => []
  | n + 1 => bysN f n ++ wbN (f n) 8
noncomputable def bysL (s : List Int) : List Int := hid (bysN (fun i => s.getD i 0) 25)
theorem bysL_eq (s : List Int) : bysL s = bysN (fun i => s.getD i 0) 25 := hid_eq _
/-- The words of bytes, as the program makes them. -/
def wsN (l : List (List CD)) : Nat → List Int
  | 0 => List.replicate ((l.length + 7) / 8) 0
  | i + 1 => (wsN l i).set (i / 8) (bOr .u64 ((wsN l i).getD (i / 8) 0) (bShl .u64 (IntKind.u64.wrap (rv l i)) ((8 * (i % 8) : Nat) : Int)))
/-- The words of bytes, as the reference makes them. -/
def rbN (l : List (List CD)) : Nat → List Int
  | 0 => List.replicate 25 0
  | n + 1 => (rbN l n).set ((l.length - 1 - n) / 8) (IntKind.u64.wrap (IntKind.u64.wrap ((rbN l n).getD ((l.length - 1 - n) / 8) 0 * 256) + IntKind.u64.wrap (rv l (l.length - 1 - n))))
/-- The words of 200 bytes. -/
def wd (f : Nat → Int) : Nat → Int
  | 0 => 0
  | n + 1 => wd f n + f n * 256 ^ n
noncomputable def z25 : List Int := hid (List.replicate 25 0)
theorem z25_eq : z25 = List.replicate 25 0 := hid_eq _
/-! ### Contracts -/
def ct145 : Ct := { ps := [rb], bs := [], pre := fun | [.r l] => l.length ≤ 1000 ∧ areB l | _ => False, res := fun | [.r l] => .ret (.own 0) [ow] [.r ((wsN l l.length).map row1)] | _ => noRes }
def ann145 : List Dat → Ann
  | [.r l] => ⟨[], [(3, [la 33 [(3, .own 0), (11, rb), (12, i64), (13, i64)] [ow] (fun | [.r l', .i n, .i i, .r w] => l' = l ∧ n = l.length ∧ 0 ≤ i ∧ i ≤ n ∧ w = (wsN l i.toNat).map row1 | _ => False) (fun | [_, .i n, .i i, _] => (n - i).toNat | _ => 0)])], []⟩
  | _ => { cut := [], loop := [] }
def ct102 : Ct := { ps := [rw64], bs := [], pre := fun | [.r l] => l.length ≤ 1000 ∧ areR l | _ => False, res := fun | [.r l] => .ret (.own 0) [ob] [.r ((bysN (rv l) l.length).map row1)] | _ => noRes }
def sl102 : List (Nat × Pat) := [(3, .own 0), (6, rw64), (7, i64), (8, i64)]
def ann102 : List Dat → Ann
  | [.r l] => ⟨[], [(3, [la 24 sl102 [ob] (fun | [.r l', .i n, .i i, .r o] => l' = l ∧ n = l.length ∧ 0 ≤ i ∧ i ≤ n ∧ o = (bysN (rv l) i.toNat).map row1 | _ => False) (fun | [_, .i n, .i i, _] => (n - i).toNat | _ => 0)])],
    [(6, [la 24 (sl102 ++ [(5, u64), (12, i64)]) [ob] anyR noM], fun | [.i x0, .r l0, .i n0, .i i0, .i _, .r o0] => [la 24 (sl102 ++ [(5, u64), (12, i64)]) [ob]
      (fun | [.i x, .r l', .i n, .i i, .i k, .r o] => l' = l0 ∧ n = n0 ∧ i = i0 ∧ 0 ≤ k ∧ k ≤ 8 ∧ x = x0 / 256 ^ k.toNat ∧ o = o0 ++ (wbN x0 k.toNat).map row1 | _ => False) (fun | [_, _, _, _, .i k, _] => (8 - k).toNat | _ => 0)] | _ => [])]⟩
  | _ => { cut := [], loop := [] }
noncomputable def ct296 : Ct := { ps := [rb], bs := [], pre := fun | [.r l] => areB l | _ => False, res := fun | [.r l] => .ite (decide (l.length ≠ 200)) (.ret (.tup [st, i64]) [] [.li z25, .i 1]) (.ret (.tup [st, i64]) [] [.li (wsN l 200), .i 0]) | _ => noRes }
noncomputable def ct148 : Ct := { ps := [st], bs := [], pre := fun | [.li s] => areW s | _ => False, res := fun | [.li s] => .ret (.agg [.arrI 200 .u8]) [] [.li (bysL s)] | _ => noRes }
def ct157 : Ct := { ps := [rb], bs := [], pre := fun | [.r l] => l.length ≤ 200 ∧ areB l | _ => False, res := fun | [.r l] => .ret st [] [.li (rbN l l.length)] | _ => noRes }
def ann157 : List Dat → Ann
  | [.r l] => ⟨[], [(3, [la 28 [(0, rb), (2, .ptr 0 0), (3, .ptr 1 0), (4, i64)] [q23, q23] (fun | [.r l', .i i, .li _, .li w] => l' = l ∧ -1 ≤ i ∧ i < l.length ∧ w = rbN l (l.length - 1 - i).toNat | _ => False) (fun | [_, .i i, _, _] => (i + 1).toNat | _ => 0)])], []⟩
  | _ => { cut := [], loop := [] }
noncomputable def ct155 : Ct := { ps := [st], bs := [], pre := fun | [.li s] => areW s | _ => False, res := fun | [.li s] => .ret (.own 0) [ob] [.r ((bysL s).map row1)] | _ => noRes }
def sl155 : List (Nat × Pat) := [(1, .ptr 0 0), (3, .own 1), (4, i64)]
def ann155 : List Dat → Ann
  | [.li s] => ⟨[], [(3, [la 28 sl155 [q23, ob] (fun | [.i i, .li s', .r o] => s' = s ∧ 0 ≤ i ∧ i ≤ 25 ∧ o = (bysN (fun i => s.getD i 0) i.toNat).map row1 | _ => False) (fun | [.i i, _, _] => (25 - i).toNat | _ => 0)])],
    [(7, [la 28 (sl155 ++ [(5, u64), (6, i64)]) [q23, ob] anyR noM], fun | [.i i0, .i x0, .i _, .li s0, .r o0] => [la 28 (sl155 ++ [(5, u64), (6, i64)]) [q23, ob]
      (fun | [.i i, .i x, .i k, .li s, .r o] => i = i0 ∧ s = s0 ∧ 0 ≤ k ∧ k ≤ 8 ∧ x = x0 / 256 ^ k.toNat ∧ o = o0 ++ (wbN x0 k.toNat).map row1 | _ => False) (fun | [_, _, .i k, _, _] => (8 - k).toNat | _ => 0)] | _ => [])]⟩
  | _ => { cut := [], loop := [] }
end Go.Proofs.YteiecapbaeajdaaGreatDoor
