/-
  The conditions of the guard's functions, of looking in patterns, and of two laws, are met.
-/
import Derived.Test.YtfikklbaceidfaaDoorP6
namespace Go.Proofs.YtfikklbaceidfaaDoor
open Go Go.Avc Go.Proofs
set_option linter.unusedVariables false
set_option linter.unusedSimpArgs false
set_option maxRecDepth 100000

theorem vc6 : P6 := by
  intro l hl hp
  exact ⟨hp.1, condI (fun h => absurd hp.2 (of_decide_eq_true h)) fun _ => ⟨rfl, rfl, rfl, rfl⟩⟩
theorem ok6 : SpecOk (base.with sp5) 6 (mkF ct6) := spec_ct (fn := Tryd.f6) (c := bodyOf Tryd.f6) (k := Tryd.f6.ntmps - ct6.ps.length) (ct := ct6) c5 Tryd.func6 (by kernel_rfl) noAnn (by kernel_rfl) (fun vs w _ => Tryd.call6 vs w) (by rw [e6]; exact vc6)
theorem c6 : (base.with sp6).Ok := addS_ok c5 ok6
theorem vc23a : P23a := by
  intro n l k hl _
  refine condI (fun h => condI (fun h2 => ?_) fun _ => ⟨rfl, rfl, rfl, rfl⟩) fun h => condI (fun _ => ⟨rfl, rfl, rfl⟩) fun h2 => ?_
  · simp only [Bool.true_and, ne_eq, decide_not, Bool.not_eq_true', decide_eq_false_iff_not, decide_eq_true_eq] at h h2
    exact absurd h2 h
  · simp only [Bool.true_and, ne_eq, decide_not, Bool.not_eq_false', decide_eq_false_iff_not, decide_eq_true_eq] at h h2
    exact absurd h h2
theorem vc23b : P23b := fun _ _ _ _ _ _ => ⟨rfl, rfl, rfl, rfl⟩
theorem ok23a : SpecOk (base.with sp6) 23 (mkF ct23a) := spec_ct (fn := Tryd.f23) (c := bodyOf Tryd.f23) (k := Tryd.f23.ntmps - ct23a.ps.length) (ct := ct23a) c6 Tryd.func23 (by kernel_rfl) noAnn (by kernel_rfl) (fun vs w _ => Tryd.call23 vs w) (by rw [e23a]; exact vc23a)
theorem ok23b : SpecOk (base.with sp6) 23 (mkF ct23b) := spec_ct (fn := Tryd.f23) (c := bodyOf Tryd.f23) (k := Tryd.f23.ntmps - ct23b.ps.length) (ct := ct23b) c6 Tryd.func23 (by kernel_rfl) noAnn (by kernel_rfl) (fun vs w _ => Tryd.call23 vs w) (by rw [e23b]; exact vc23b)
theorem c23 : (base.with sp23).Ok := addS_ok c6 (alt_ok ok23a ok23b)
theorem vc15a : P15a := by
  intro b n l k hl hn
  refine condI (fun hb => ⟨trivial, condI (fun _ => ⟨rfl, rfl, rfl⟩) fun h => ?_⟩) fun hb => ⟨trivial, condI (fun h => absurd (of_decide_eq_true h) hn) fun _ => condI (fun h => ?_) fun _ => ⟨rfl, rfl, rfl, rfl⟩⟩
  · rw [hb] at h; cases h
  · rw [hb] at h; cases h
theorem vc15b : P15b := fun _ _ _ _ _ _ _ => condI (fun _ => ⟨trivial, rfl, rfl, rfl, rfl⟩) fun _ => ⟨trivial, rfl, rfl, rfl, rfl⟩
theorem ok15a : SpecOk (base.with sp23) 15 (mkF ct15a) := spec_ct (fn := Tryd.f15) (c := bodyOf Tryd.f15) (k := Tryd.f15.ntmps - ct15a.ps.length) (ct := ct15a) c23 Tryd.func15 (by kernel_rfl) noAnn (by kernel_rfl) (fun vs w _ => Tryd.call15 vs w) (by rw [e15a]; exact vc15a)
theorem ok15b : SpecOk (base.with sp23) 15 (mkF ct15b) := spec_ct (fn := Tryd.f15) (c := bodyOf Tryd.f15) (k := Tryd.f15.ntmps - ct15b.ps.length) (ct := ct15b) c23 Tryd.func15 (by kernel_rfl) noAnn (by kernel_rfl) (fun vs w _ => Tryd.call15 vs w) (by rw [e15b]; exact vc15b)
theorem c15 : (base.with sp15).Ok := addS_ok c23 (alt_ok ok15a ok15b)
theorem vc10a : P10a := by
  intro a b c l n hl hp
  obtain ⟨h0, h1⟩ := hp
  refine ⟨fun h => ⟨h0, of_decide_eq_true h⟩, fun h => by have := of_decide_eq_true h; omega, fun _ => trivial, by decide, condI (fun h => ⟨⟨by omega, by omega⟩, condI (fun _ => ⟨rfl, rfl, rfl⟩) fun h2 => ?_⟩) fun h => condI (fun h2 => ?_) fun _ => ⟨rfl, rfl, rfl, rfl⟩⟩
  · have h' : hit l n a b c = true := h
    rw [h'] at h2; cases h2
  · have h' : hit l n a b c = false := h
    rw [h'] at h2; cases h2
theorem vc10b : P10b := by
  intro a b c l n w hl hp
  obtain ⟨⟨h0, h1⟩, hw⟩ := hp
  exact ⟨fun h => ⟨h0, of_decide_eq_true h⟩, fun h => by have := of_decide_eq_true h; omega, fun _ => trivial, trivial, condI (fun h => absurd (of_decide_eq_true h) hw) fun _ => ⟨rfl, rfl, rfl, rfl⟩⟩
theorem ok10a : SpecOk (base.with sp15) 10 (mkF ct10a) := spec_ct (fn := Tryd.f10) (c := bodyOf Tryd.f10) (k := Tryd.f10.ntmps - ct10a.ps.length) (ct := ct10a) c15 Tryd.func10 (by kernel_rfl) noAnn (by kernel_rfl) (fun vs w _ => Tryd.call10 vs w) (by rw [e10a]; exact vc10a)
theorem ok10b : SpecOk (base.with sp15) 10 (mkF ct10b) := spec_ct (fn := Tryd.f10) (c := bodyOf Tryd.f10) (k := Tryd.f10.ntmps - ct10b.ps.length) (ct := ct10b) c15 Tryd.func10 (by kernel_rfl) noAnn (by kernel_rfl) (fun vs w _ => Tryd.call10 vs w) (by rw [e10b]; exact vc10b)
theorem c10 : (base.with sp10).Ok := addS_ok c15 (alt_ok ok10a ok10b)
theorem vc11a : P11a := by
  intro l n hl _
  refine ⟨by decide, condI (fun h => condI (fun _ => ⟨rfl, rfl, rfl⟩) fun h2 => ?_) fun h => condI (fun h2 => ?_) fun _ => ⟨rfl, rfl, rfl, rfl⟩⟩
  · rw [h] at h2; cases h2
  · rw [h] at h2; cases h2
theorem vc11b : P11b := fun _ _ _ _ _ => ⟨trivial, rfl, rfl, rfl, rfl⟩
theorem ok11a : SpecOk (base.with sp10) 11 (mkF ct11a) := spec_ct (fn := Tryd.f11) (c := bodyOf Tryd.f11) (k := Tryd.f11.ntmps - ct11a.ps.length) (ct := ct11a) c10 Tryd.func11 (by kernel_rfl) noAnn (by kernel_rfl) (fun vs w _ => Tryd.call11 vs w) (by rw [e11a]; exact vc11a)
theorem ok11b : SpecOk (base.with sp10) 11 (mkF ct11b) := spec_ct (fn := Tryd.f11) (c := bodyOf Tryd.f11) (k := Tryd.f11.ntmps - ct11b.ps.length) (ct := ct11b) c10 Tryd.func11 (by kernel_rfl) noAnn (by kernel_rfl) (fun vs w _ => Tryd.call11 vs w) (by rw [e11b]; exact vc11b)
theorem c11 : (base.with sp11).Ok := addS_ok c10 (alt_ok ok11a ok11b)
theorem vc4 : P4 := by
  intro _
  refine ⟨⟨⟨rfl, by decide⟩, by decide⟩, ?_⟩
  simp [pre10]
theorem ok4 : SpecOk (base.with sp11) 4 (mkF ct4) := spec_ct (fn := Tryd.f4) (c := bodyOf Tryd.f4) (k := Tryd.f4.ntmps - ct4.ps.length) (ct := ct4) c11 Tryd.func4 (by kernel_rfl) noAnn (by kernel_rfl) (fun vs w _ => Tryd.call4 vs w) (by rw [e4]; exact vc4)
theorem c4 : (base.with sp4).Ok := addS_ok c11 ok4
theorem vc8 : P8 := fun _ _ _ _ => ⟨rfl, rfl, rfl⟩
theorem ok8 : SpecOk (base.with sp4) 8 (mkF ct8) := spec_ct (fn := Tryd.f8) (c := bodyOf Tryd.f8) (k := Tryd.f8.ntmps - ct8.ps.length) (ct := ct8) c4 Tryd.func8 (by kernel_rfl) noAnn (by kernel_rfl) (fun vs w _ => Tryd.call8 vs w) (by rw [e8]; exact vc8)
theorem c8 : (base.with sp8).Ok := addS_ok c4 ok8
theorem vc9 : P9 := fun _ _ _ _ => ⟨rfl, rfl⟩
theorem ok9 : SpecOk (base.with sp8) 9 (mkF ct9) := spec_ct (fn := Tryd.f9) (c := bodyOf Tryd.f9) (k := Tryd.f9.ntmps - ct9.ps.length) (ct := ct9) c8 Tryd.func9 (by kernel_rfl) noAnn (by kernel_rfl) (fun vs w _ => Tryd.call9 vs w) (by rw [e9]; exact vc9)
theorem c9 : (base.with sp9).Ok := addS_ok c8 ok9
theorem vc7 : P7 := by
  rintro l n _ ⟨h0, h1⟩
  refine condI (fun h => ?_) fun h => ?_
  · simp only [Bool.not_true, Bool.false_or, decide_eq_true_eq] at h
    unfold lab
    rw [if_pos h, if_pos h]
    exact ⟨rfl, rfl, rfl, rfl⟩
  · simp only [Bool.not_true, Bool.false_or, decide_eq_false_iff_not] at h
    unfold lab
    rw [if_neg h, if_neg h]
    exact ⟨by omega, by omega, by omega, rfl, rfl, rfl, rfl⟩
theorem ok7 : SpecOk (base.with sp9) 7 (mkF ct7) := spec_ct (fn := Tryd.f7) (c := bodyOf Tryd.f7) (k := Tryd.f7.ntmps - ct7.ps.length) (ct := ct7) c9 Tryd.func7 (by kernel_rfl) noAnn (by kernel_rfl) (fun vs w _ => Tryd.call7 vs w) (by rw [e7]; exact vc7)
theorem c7 : (base.with sp7).Ok := addS_ok c9 ok7
theorem vc12 : P12 := fun _ _ _ _ => ⟨trivial, rfl, rfl, rfl⟩
theorem ok12 : SpecOk (base.with sp7) 12 (mkF ct12) := spec_ct (fn := Tryd.f12) (c := bodyOf Tryd.f12) (k := Tryd.f12.ntmps - ct12.ps.length) (ct := ct12) c7 Tryd.func12 (by kernel_rfl) noAnn (by kernel_rfl) (fun vs w _ => Tryd.call12 vs w) (by rw [e12]; exact vc12)
theorem c12 : (base.with sp12).Ok := addS_ok c7 ok12
theorem its_at {x : List (List CD)} {j : Nat} (h : j < x.length) : (rowsIt (itsOf x)).getD j [] = rowIt (itRow (x.getD j [])) := by
  unfold rowsIt itsOf
  rw [List.map_map, List.getD_eq_getElem?_getD, List.getElem?_map, List.getElem?_eq_getElem h, List.getD_eq_getElem?_getD, List.getElem?_eq_getElem h]
  rfl
theorem its_len (x : List (List CD)) : (rowsIt (itsOf x)).length = x.length := by unfold rowsIt itsOf; simp
theorem vc3 : P3 := by
  intro x hx _
  refine ⟨trivial, fun _ => condI (fun _ => ⟨trivial, rfl⟩) fun h => ?_⟩
  simp only [Bool.not_true, Bool.false_or, decide_eq_false_iff_not] at h
  refine ⟨by unfold preL; omega, condI (fun _ => rfl) fun h2 => ⟨⟨⟨rfl, by omega, Decidable.not_not.1 (of_decide_eq_false h2)⟩, rfl⟩, trivial⟩, ?_⟩
  clear h hx
  rintro x' l _ _ ⟨⟨rfl, hx, he⟩, rfl⟩
  have hps := prs_ser he
  rw [bytes_rows, hps]
  refine ⟨⟨⟨isB_rows _, by have := ser_len (itsOf x'); rw [rows_length]; omega⟩, by rw [bytes_rows, hps]⟩, fun _ => ⟨⟨⟨rfl, rfl, hx, rfl, by omega, by omega, rfl, rfl⟩, trivial⟩, ?_⟩⟩
  clear hps he hx
  rintro x z n i its k _ _ _ ⟨rfl, rfl, hx, rfl, h0, h1, rfl, rfl⟩
  obtain ⟨j, rfl⟩ : ∃ j : Nat, k = j := ⟨k.toNat, by omega⟩
  have hl := its_len z
  rw [Int.toNat_natCast]
  refine condI (fun h => ?_) fun h => ?_
  · simp only [decide_eq_true_eq] at h
    have hj : j < z.length := by omega
    have hn : ¬ ((j : Int) = ((rowsIt (itsOf z)).length : Int)) := by omega
    have hlab : lab (rowsIt (itsOf z)) (j : Int) = ((z.getD j []).getD 3 (CD.int 0)).toStr := by
      unfold lab
      rw [if_neg hn, Int.toNat_natCast, its_at hj]
      rfl
    have hhit : hit (rowsIt (itsOf z)) (j : Int) ((z.getD j []).getD 0 (CD.int 0)).toInt ((z.getD j []).getD 1 (CD.int 0)).toInt ((z.getD j []).getD 2 (CD.int 0)).toInt = true := by
      unfold hit
      rw [Int.toNat_natCast, its_at hj, decide_eq_true (show (j : Int) < ((rowsIt (itsOf z)).length : Int) by omega)]
      unfold sameB
      have e0 : (itRow (rowIt (itRow (z.getD j [])))).k = ((z.getD j []).getD 0 (CD.int 0)).toInt := rfl
      have e1 : (itRow (rowIt (itRow (z.getD j [])))).t = ((z.getD j []).getD 1 (CD.int 0)).toInt := rfl
      have e2 : (itRow (rowIt (itRow (z.getD j [])))).c = ((z.getD j []).getD 2 (CD.int 0)).toInt := rfl
      rw [decide_eq_true e0, decide_eq_true e1, decide_eq_true e2]
      rfl
    rw [if_neg hn, hlab]
    have ds : decide (((z.getD j []).getD 3 (CD.int 0)).toStr ≠ ((z.getD j []).getD 3 (CD.int 0)).toStr) = false := decide_eq_false fun h => h rfl
    have dj : decide ((j : Int) ≠ (j : Int)) = false := decide_eq_false fun h => h rfl
    rw [ds, dj]
    refine ⟨⟨h0, h⟩, hj, ⟨h0, by omega⟩, fun _ => trivial, fun _ => ⟨fun _ => trivial, fun _ => ⟨fun _ => ⟨h0, by omega⟩, condI (fun _ => ⟨fun _ => ⟨by omega, ⟨rfl, rfl, hx, rfl, by omega, by omega, rfl, rfl⟩, by omega⟩, fun h => absurd h (by decide)⟩) fun h5 => ?_⟩, fun h => absurd h (by decide)⟩, fun h => absurd h (by decide)⟩
    rw [hhit] at h5
    exact absurd h5 (by decide)
  · simp only [decide_eq_false_iff_not] at h
    have hn : (j : Int) = ((rowsIt (itsOf z)).length : Int) := by omega
    have hlab : lab (rowsIt (itsOf z)) (j : Int) = [] := by
      unfold lab
      rw [if_pos hn]
    rw [if_pos hn, hlab]
    have hz : decide ((j : Int) = (z.length : Int)) = true := decide_eq_true (by omega)
    rw [hz]
    refine ⟨⟨h0, by omega⟩, fun _ => trivial, fun _ _ => ⟨fun _ => trivial, condI (fun _ => ⟨fun _ => ⟨fun _ => trivial, fun _ => rfl, fun h => absurd h (by decide)⟩, fun h => absurd h (by decide)⟩) fun h5 => ?_⟩, fun h => absurd h (by decide)⟩
    simp only [decide_eq_false_iff_not] at h5
    exact absurd hn h5
theorem ok3 : SpecOk (base.with sp12) 3 (mkF ct3) := spec_ct (fn := Tryd.f3) (c := bodyOf Tryd.f3) (k := Tryd.f3.ntmps - ct3.ps.length) (ct := ct3) c12 Tryd.func3 (by kernel_rfl) ann3 (by kernel_rfl) (fun vs w _ => Tryd.call3 vs w) (by rw [e3]; exact vc3)
theorem c3 : (base.with sp3).Ok := addS_ok c12 ok3
end Go.Proofs.YtfikklbaceidfaaDoor
