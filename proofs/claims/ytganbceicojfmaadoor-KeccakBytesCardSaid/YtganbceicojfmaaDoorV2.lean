/-
  The conditions of the reference's constants are met.
-/
import Derived.Test.YtganbceicojfmaaDoorP2
namespace Go.Proofs.YtganbceicojfmaaDoor
open Go Go.Avc Go.Proofs
set_option linter.unusedVariables false
set_option linter.unusedSimpArgs false
set_option maxRecDepth 100000
theorem lfs_bd : ∀ r : Fin 256, 0 ≤ lfs (r.val : Int) ∧ lfs (r.val : Int) ≤ 255 := by decide +kernel
theorem lf_bd (n : Nat) : 0 ≤ lfN n ∧ lfN n ≤ 255 := by
  induction n with
  | zero => decide
  | succ n ih =>
    have := lfs_bd ⟨(lfN n).toNat, by omega⟩
    rw [show (((⟨(lfN n).toNat, by omega⟩ : Fin 256).val : Nat) : Int) = lfN n from by show (((lfN n).toNat : Nat) : Int) = _; omega] at this
    exact this
theorem fl_bd0 : ∀ r : Fin 128, ∀ j : Fin 5, 0 ≤ flN (2 * (r.val : Int)) j.val ∧ flN (2 * (r.val : Int)) j.val ≤ 255 := by decide +kernel
theorem fl_bd {r : Int} {j : Nat} (h0 : 256 ≤ r * 2) (h1 : r ≤ 255) (hj : j ≤ 4) : 0 ≤ flN (r * 2 - 256) j ∧ flN (r * 2 - 256) j ≤ 255 := by
  have := fl_bd0 ⟨(r - 128).toNat, by omega⟩ ⟨j, by omega⟩
  rw [show 2 * (((⟨(r - 128).toNat, by omega⟩ : Fin 128).val : Nat) : Int) = r * 2 - 256 from by show 2 * (((r - 128).toNat : Nat) : Int) = _; omega] at this
  exact this
theorem ms_get : ∀ j : Fin 4, (((([[CD.int 64], [CD.int 32], [CD.int 16], [CD.int 1]] : List (List CD)).getD j.val []).getD 0 (CD.int 0)).toInt = msL.getD j.val 0) ∧ 0 < msL.getD j.val 0 ∧ msL.getD j.val 0 ≤ 64 := by decide
theorem vc38 : P38 := by
  rintro t ⟨ht0, ht1⟩
  refine ⟨⟨⟨rfl, by omega, ht0, rfl⟩, trivial⟩, ?_⟩
  rintro t' r i ⟨e1, h0, h1, e2⟩
  subst e1 e2
  obtain ⟨b0, b1⟩ := lf_bd i.toNat
  generalize hr : lfN i.toNat = r at *
  have emax : IntKind.max .i64 = 9223372036854775807 := by decide
  refine condI (fun h => ⟨⟨by omega, by omega⟩, condI (fun h2 => ?_) fun h2 => ?_⟩) fun h => ?_
  · simp only [decide_eq_true_eq] at h h2
    refine ⟨⟨by omega, by omega⟩, fun _ => ⟨⟨⟨rfl, rfl, rfl, rfl, by omega, by omega, rfl⟩, trivial⟩, ?_⟩⟩
    rintro t2 q i2 l n j _ ⟨e1, e2, e3, e4, h3, h4, e5⟩
    subst e1 e2 e3 e4 e5
    obtain ⟨k, rfl⟩ : ∃ k : Nat, j = k := ⟨j.toNat, by omega⟩
    rw [Int.toNat_natCast]
    obtain ⟨c0, c1⟩ := fl_bd h2 b1 (show k ≤ 4 by omega)
    refine condI (fun h5 => ?_) fun h5 => ?_
    · simp only [decide_eq_true_eq] at h5
      have hk : k < 4 := by omega
      obtain ⟨m1, m2, m3⟩ := ms_get ⟨k, hk⟩
      simp only at m1 m2 m3
      rw [m1, emax, show ((k : Int) + 1).toNat = k + 1 from by omega]
      have fs : flN (r * 2 - 256) (k + 1) = flip1 (msL.getD k 0) (flN (r * 2 - 256) k) := rfl
      have hd : 0 ≤ flN (r * 2 - 256) k / msL.getD k 0 := Int.ediv_nonneg c0 (by omega)
      refine ⟨⟨by omega, by show (k : Int) < 4; omega⟩, hk, ⟨c0, m2, by omega⟩, ⟨hd, by omega⟩, condI (fun h6 => ?_) fun h6 => ?_⟩
      · refine ⟨⟨by omega, by omega⟩, ⟨by omega, by omega⟩, ⟨rfl, rfl, rfl, rfl, by omega, by omega, ?_⟩, by omega⟩
        rw [fs, flip1, if_pos (of_decide_eq_true h6)]
      · refine ⟨⟨by omega, by omega⟩, ⟨by omega, by omega⟩, ⟨rfl, rfl, rfl, rfl, by omega, by omega, ?_⟩, by omega⟩
        rw [fs, flip1, if_neg (of_decide_eq_false h6)]
    · simp only [decide_eq_false_iff_not] at h5
      have hk : k = 4 := by omega
      subst hk
      refine ⟨⟨by omega, by omega⟩, ⟨rfl, by omega, by omega, ?_⟩, by omega⟩
      rw [show (i2 + 1).toNat = i2.toNat + 1 from by omega, lfN, hr, lfs, if_pos h2]
  · simp only [decide_eq_true_eq, decide_eq_false_iff_not] at h h2
    refine ⟨⟨by omega, by omega⟩, ⟨rfl, by omega, by omega, ?_⟩, by omega⟩
    rw [show (i + 1).toNat = i.toNat + 1 from by omega, lfN, hr, lfs, if_neg h2]
  · simp only [decide_eq_false_iff_not] at h
    refine ⟨⟨b0, by omega⟩, ?_⟩
    unfold rcB
    rw [← hr, show i = t' from by omega]
theorem ok38 : SpecOk (base.with sp12) 38 (mkF ct38) := spec_ct (fn := Tryd.f38) (c := bodyOf Tryd.f38) (k := Tryd.f38.ntmps - ct38.ps.length) (ct := ct38) c12 Tryd.func38 (by kernel_rfl) ann38 (by kernel_rfl) (fun vs w _ => Tryd.call38 vs w) (e38.mpr vc38)
theorem c38 : (base.with sp38).Ok := addS_ok c12 ok38
theorem vc19 : P19 := by
  intro r _
  refine condI (fun h => ?_) fun h => ?_
  · simp only [Bool.or_eq_true, decide_eq_true_eq] at h
    unfold cbits
    rw [if_pos h]; rfl
  · simp only [Bool.or_eq_false_iff, decide_eq_false_iff_not] at h
    refine ⟨⟨⟨rfl, by omega, by omega, by omega, by omega, rfl, rfl⟩, trivial⟩, ?_⟩
    rintro r' p n z c _ _ ⟨e1, h0, h1, h2, h3, e2, e3⟩
    subst e1 e2 e3
    obtain ⟨j, rfl⟩ : ∃ j : Nat, n = j := ⟨n.toNat, by omega⟩
    rw [Int.toNat_natCast]
    refine condI (fun h5 => ?_) fun h5 => ?_
    · simp only [decide_eq_true_eq] at h5
      have hj : j < 7 := by omega
      have hp : ∀ j : Fin 7, (1 : Int) ≤ 2 ^ j.val ∧ (2 : Int) ^ j.val ≤ 64 ∧ ((2 : Int) ^ j.val - 1).toNat = 2 ^ j.val - 1 ∧ (2 : Int) ^ (j.val + 1) = 2 ^ j.val * 2 := by decide
      obtain ⟨p1, p2, p3, p4⟩ := hp ⟨j, hj⟩
      simp only at p1 p2 p3 p4
      rw [show ((j : Int) + 1).toNat = j + 1 from by omega, p3, Nat.mul_one]
      refine ⟨by omega, by omega, by omega, by omega, by omega, by omega, by omega, by omega, ⟨rfl, by omega, by omega, by omega, by omega, p4.symm, ?_⟩, by omega⟩
      rw [cbN, show ((j : Int) + 7 * r').toNat = j + 7 * r'.toNat from by omega]
    · simp only [decide_eq_false_iff_not] at h5
      have hj : j = 7 := by omega
      subst hj
      unfold cbits
      rw [if_neg (by omega)]
theorem ok19 : SpecOk (base.with sp38) 19 (mkF ct19) := spec_ct (fn := Tryd.f19) (c := bodyOf Tryd.f19) (k := Tryd.f19.ntmps - ct19.ps.length) (ct := ct19) c38 Tryd.func19 (by kernel_rfl) ann19 (by kernel_rfl) (fun vs w _ => Tryd.call19 vs w) (e19.mpr vc19)
theorem c19 : (base.with sp19).Ok := addS_ok c38 ok19
end Go.Proofs.YtganbceicojfmaaDoor
