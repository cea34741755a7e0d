/-
  The conditions of the reference's steps on bits are met.
-/
import Derived.Test.YtganbceicojfmaaDoorP3
namespace Go.Proofs.YtganbceicojfmaaDoor
open Go Go.Avc Go.Proofs
set_option linter.unusedVariables false
set_option linter.unusedSimpArgs false
set_option maxRecDepth 100000
theorem ex_nat {n : Int} (h : 0 ≤ n) : ∃ i : Nat, n = i := ⟨n.toNat, by omega⟩
theorem suc_nat (i : Nat) : ((i : Int) + 1).toNat = i + 1 := by omega
theorem m5 (x k : Nat) : (((x : Int) + (k : Int)) % 5).toNat = (x + k) % 5 := by omega
theorem vc31 : P31 := by
  intro a ha _
  refine ⟨⟨⟨rfl, by omega, by omega, rfl⟩, trivial⟩, ?_⟩
  rintro x' a1 _ t _ _ _ ⟨rfl, h0, h1, ht⟩
  obtain ⟨x, rfl⟩ := ex_nat h0
  rw [Int.toNat_natCast] at ht
  refine condI (fun h => ?_) fun h => ?_
  · simp only [decide_eq_true_eq] at h
    refine ⟨⟨⟨rfl, rfl, by omega, by omega, rfl⟩, trivial⟩, ?_⟩
    rintro x' y' a2 _ t1 _ _ _ ⟨rfl, rfl, h2, h3, ht1⟩
    obtain ⟨y, rfl⟩ := ex_nat h2
    rw [Int.toNat_natCast, Int.toNat_natCast] at ht1
    refine condI (fun h4 => ?_) fun h4 => ?_
    · simp only [decide_eq_true_eq] at h4
      refine ⟨⟨⟨rfl, rfl, rfl, by omega, by omega, rfl⟩, trivial⟩, ?_⟩
      rintro x' y' z' a3 _ t2 _ _ _ ⟨rfl, rfl, rfl, h5, h6, ht2⟩
      obtain ⟨z, rfl⟩ := ex_nat h5
      simp only [Int.toNat_natCast] at ht2
      refine condI (fun h7 => ?_) fun h7 => ?_
      · simp only [decide_eq_true_eq] at h7
        have e1 : (((x : Int) + 1) % 5).toNat = (x + 1) % 5 := m5 x 1
        have e2 : (((x : Int) + 2) % 5).toNat = (x + 2) % 5 := m5 x 2
        simp only [Int.toNat_natCast, e1, e2, suc_nat, Nat.mul_one]
        refine ⟨by omega, by omega, by omega, by omega, by omega, by omega, by omega, by omega, by omega, by omega, fun _ => by omega, fun _ => by omega, fun _ => by omega, fun _ => by omega, fun _ => by omega, fun _ => by omega, by omega, by omega, by omega, by omega, by omega, ⟨by trivial, by trivial, by trivial, by omega, by omega, ?_⟩, by omega⟩
        rw [ht2]; rfl
      · simp only [decide_eq_false_iff_not] at h7
        have hz : z = 64 := by omega
        subst hz
        refine ⟨by omega, ⟨by trivial, by trivial, by omega, by omega, ?_⟩, by omega⟩
        rw [suc_nat, ht2, ht1]; rfl
    · simp only [decide_eq_false_iff_not] at h4
      have hy : y = 5 := by omega
      subst hy
      refine ⟨by omega, ⟨by trivial, by omega, by omega, ?_⟩, by omega⟩
      rw [suc_nat, ht1, ht]; rfl
  · simp only [decide_eq_false_iff_not] at h
    have hx : x = 5 := by omega
    subst hx
    rw [ht]; rfl
theorem ok31 : SpecOk (base.with sp19) 31 (mkF ct31) := spec_ct (fn := Tryd.f31) (c := bodyOf Tryd.f31) (k := Tryd.f31.ntmps - ct31.ps.length) (ct := ct31) c19 Tryd.func31 (by kernel_rfl) ann31 (by kernel_rfl) (fun vs w _ => Tryd.call31 vs w) (e31.mpr vc31)
theorem c31 : (base.with sp31).Ok := addS_ok c19 ok31
theorem xy5 (x y : Nat) : ((2 * (x : Int) + 3 * (y : Int)) % 5).toNat = (2 * x + 3 * y) % 5 := by
  have : 2 * (x : Int) + 3 * (y : Int) = ((2 * x + 3 * y : Nat) : Int) := by omega
  rw [this]
  generalize 2 * x + 3 * y = m
  omega
theorem vc32 : P32 := by
  intro a ha _
  refine ⟨⟨⟨rfl, by omega, by omega, rfl⟩, trivial⟩, ?_⟩
  rintro x' a1 _ t _ _ _ ⟨rfl, h0, h1, ht⟩
  obtain ⟨x, rfl⟩ := ex_nat h0
  rw [Int.toNat_natCast] at ht
  refine condI (fun h => ?_) fun h => ?_
  · simp only [decide_eq_true_eq] at h
    refine ⟨⟨⟨rfl, rfl, by omega, by omega, rfl⟩, trivial⟩, ?_⟩
    rintro x' y' a2 _ t1 _ _ _ ⟨rfl, rfl, h2, h3, ht1⟩
    obtain ⟨y, rfl⟩ := ex_nat h2
    rw [Int.toNat_natCast, Int.toNat_natCast] at ht1
    refine condI (fun h4 => ?_) fun h4 => ?_
    · simp only [decide_eq_true_eq] at h4
      have e1 := xy5 x y
      have e2 : (2 * x + 3 * y) % 5 < 5 := Nat.mod_lt _ (by decide)
      simp only [Int.toNat_natCast, e1, suc_nat, Nat.mul_one]
      refine ⟨by omega, by omega, by omega, by omega, by omega, by omega, by omega, by omega, by omega, by omega, by omega, ⟨by trivial, by trivial, by omega, by omega, ?_⟩, by omega⟩
      rw [ht1]; rfl
    · simp only [decide_eq_false_iff_not] at h4
      have hy : y = 5 := by omega
      subst hy
      refine ⟨by omega, ⟨by trivial, by omega, by omega, ?_⟩, by omega⟩
      rw [suc_nat, ht1, ht]; rfl
  · simp only [decide_eq_false_iff_not] at h
    have hx : x = 5 := by omega
    subst hx
    rw [ht]; rfl
theorem ok32 : SpecOk (base.with sp31) 32 (mkF ct32) := spec_ct (fn := Tryd.f32) (c := bodyOf Tryd.f32) (k := Tryd.f32.ntmps - ct32.ps.length) (ct := ct32) c31 Tryd.func32 (by kernel_rfl) ann32 (by kernel_rfl) (fun vs w _ => Tryd.call32 vs w) (e32.mpr vc32)
theorem c32 : (base.with sp32).Ok := addS_ok c31 ok32
theorem vc33 : P33 := by
  intro a ha _
  refine ⟨by omega, by omega, by omega, by omega, by omega, by omega, ⟨⟨rfl, by omega, by omega, rfl, rfl, rfl⟩, trivial⟩, ?_⟩
  rintro x' y' t' a1 _ l1 _ _ _ ⟨rfl, h0, h1, rfl, rfl, hl⟩
  obtain ⟨t, rfl⟩ := ex_nat h0
  rw [Int.toNat_natCast] at *
  refine condI (fun h => ?_) fun h => ?_
  · simp only [decide_eq_true_eq] at h
    refine ⟨⟨⟨rfl, rfl, rfl, rfl, by omega, by omega, rfl⟩, trivial⟩, ?_⟩
    rintro x' y' t' z' a2 _ l2 _ _ _ ⟨rfl, rfl, rfl, rfl, h2, h3, hl2⟩
    obtain ⟨z, rfl⟩ := ex_nat h2
    obtain ⟨hx, hy⟩ := xy_lt t
    simp only [Int.toNat_natCast] at hl2
    refine condI (fun h4 => ?_) fun h4 => ?_
    · simp only [decide_eq_true_eq] at h4
      have hm : (t + 1) * (t + 2) ≤ 24 * 25 := Nat.mul_le_mul (by omega) (by omega)
      have em : ((t : Int) + 1) * ((t : Int) + 2) = (((t + 1) * (t + 2) : Nat) : Int) := by simp
      have eq0 : ((z : Int) + (((t + 1) * (t + 2) : Nat) : Int) / 2) % 64 = (((z + (t + 1) * (t + 2) / 2) % 64 : Nat) : Int) := by omega
      have emax : IntKind.max .i64 = 9223372036854775807 := by decide
      rw [em, eq0, emax]
      simp only [Int.toNat_natCast, suc_nat, Nat.mul_one]
      have hlt : (z + (t + 1) * (t + 2) / 2) % 64 < 64 := Nat.mod_lt _ (by decide)
      refine ⟨by omega, by omega, by omega, by omega, by omega, by omega, by omega, by omega, by omega, by omega, by omega, by omega, by omega, by omega, by omega, ⟨by trivial, by trivial, by trivial, by trivial, by omega, by omega, ?_⟩, by omega⟩
      rw [hl2]; rfl
    · simp only [decide_eq_false_iff_not] at h4
      have hz : z = 64 := by omega
      subst hz
      have e1 := xy5 (xyN t).1 (xyN t).2
      refine ⟨by omega, by omega, by omega, by omega, by omega, ⟨by trivial, by omega, by omega, ?_, ?_, ?_⟩, by omega⟩
      · rw [suc_nat]; rfl
      · rw [suc_nat]
        show _ = (((2 * (xyN t).1 + 3 * (xyN t).2) % 5 : Nat) : Int)
        rw [← e1]
        omega
      · rw [suc_nat, hl2, hl]; rfl
  · simp only [decide_eq_false_iff_not] at h
    have ht : t = 24 := by omega
    subst ht
    rw [hl]; rfl
theorem ok33 : SpecOk (base.with sp32) 33 (mkF ct33) := spec_ct (fn := Tryd.f33) (c := bodyOf Tryd.f33) (k := Tryd.f33.ntmps - ct33.ps.length) (ct := ct33) c32 Tryd.func33 (by kernel_rfl) ann33 (by kernel_rfl) (fun vs w _ => Tryd.call33 vs w) (e33.mpr vc33)
theorem c33 : (base.with sp33).Ok := addS_ok c32 ok33
theorem vc34 : P34 := by
  intro a ha _
  refine ⟨⟨⟨rfl, by omega, by omega, rfl⟩, trivial⟩, ?_⟩
  rintro x' a1 _ p _ _ _ ⟨rfl, h0, h1, ht⟩
  obtain ⟨x, rfl⟩ := ex_nat h0
  rw [Int.toNat_natCast] at ht
  refine condI (fun h => ?_) fun h => ?_
  · simp only [decide_eq_true_eq] at h
    refine ⟨⟨⟨rfl, rfl, by omega, by omega, rfl⟩, trivial⟩, ?_⟩
    rintro x' z' a2 _ p1 _ _ _ ⟨rfl, rfl, h2, h3, ht1⟩
    obtain ⟨z, rfl⟩ := ex_nat h2
    rw [Int.toNat_natCast, Int.toNat_natCast] at ht1
    refine condI (fun h4 => ?_) fun h4 => ?_
    · simp only [decide_eq_true_eq] at h4
      refine ⟨⟨⟨rfl, rfl, rfl, rfl, by omega, by omega, rfl, by omega, by omega⟩, trivial⟩, ?_⟩
      rintro x' z' n' y' a3 _ p2 _ _ _ ⟨rfl, rfl, rfl, rfl, h5, h6, hn, h8, h9⟩
      obtain ⟨y, rfl⟩ := ex_nat h5
      simp only [Int.toNat_natCast] at hn
      refine condI (fun h7 => ?_) fun h7 => ?_
      · simp only [decide_eq_true_eq] at h7
        simp only [Int.toNat_natCast, suc_nat, Nat.mul_one]
        refine ⟨by omega, by omega, by omega, by omega, ?_⟩
        refine condI (fun hb => ?_) fun hb => ?_
        · refine ⟨by omega, by omega, ⟨by trivial, by trivial, by trivial, by trivial, by omega, by omega, ?_, by omega, by omega⟩, by omega⟩
          rw [hn, cnt]
          exact (if_pos hb).symm
        · refine ⟨by omega, ⟨by trivial, by trivial, by trivial, by trivial, by omega, by omega, ?_, by omega, by omega⟩, by omega⟩
          rw [hn, cnt]
          exact (if_neg (by unfold gb at3; rw [hb]; decide)).symm
      · simp only [decide_eq_false_iff_not] at h7
        have hy : y = 5 := by omega
        subst hy
        simp only [Int.toNat_natCast, suc_nat, Nat.mul_one]
        refine ⟨by omega, by omega, by omega, by omega, by omega, ⟨by trivial, by trivial, by omega, by omega, ?_⟩, by omega⟩
        rw [ht1, hn]; rfl
    · simp only [decide_eq_false_iff_not] at h4
      have hz : z = 64 := by omega
      subst hz
      refine ⟨by omega, ⟨by trivial, by omega, by omega, ?_⟩, by omega⟩
      rw [suc_nat, ht1, ht]; rfl
  · simp only [decide_eq_false_iff_not] at h
    have hx : x = 5 := by omega
    subst hx
    refine ⟨⟨⟨by trivial, ht, by omega, by omega, rfl⟩, trivial⟩, ?_⟩
    clear ht h h1 h0
    rintro x' a2 _ p2 t _ _ _ _ ⟨rfl, hp, h0, h1, ht⟩
    obtain ⟨x, rfl⟩ := ex_nat h0
    rw [Int.toNat_natCast] at ht
    refine condI (fun h => ?_) fun h => ?_
    · simp only [decide_eq_true_eq] at h
      refine ⟨⟨⟨rfl, rfl, rfl, by omega, by omega, rfl⟩, trivial⟩, ?_⟩
      rintro x' y' a2 _ p3 t1 _ _ _ _ ⟨rfl, rfl, rfl, h2, h3, ht1⟩
      obtain ⟨y, rfl⟩ := ex_nat h2
      rw [Int.toNat_natCast, Int.toNat_natCast] at ht1
      refine condI (fun h4 => ?_) fun h4 => ?_
      · simp only [decide_eq_true_eq] at h4
        refine ⟨⟨⟨rfl, rfl, rfl, rfl, by omega, by omega, rfl⟩, trivial⟩, ?_⟩
        rintro x' y' z' a3 _ p3 t2 _ _ _ _ ⟨rfl, rfl, rfl, rfl, h5, h6, ht2⟩
        obtain ⟨z, rfl⟩ := ex_nat h5
        simp only [Int.toNat_natCast] at ht2
        refine condI (fun h7 => ?_) fun h7 => ?_
        · simp only [decide_eq_true_eq] at h7
          have e1 : (((x : Int) + 4) % 5).toNat = (x + 4) % 5 := m5 x 4
          have e2 : (((x : Int) + 1) % 5).toNat = (x + 1) % 5 := m5 x 1
          have e3 : (((z : Int) + 63) % 64).toNat = (z + 63) % 64 := by omega
          simp only [Int.toNat_natCast, e1, e2, e3, suc_nat, Nat.mul_one]
          refine ⟨by omega, by omega, by omega, by omega, by omega, by omega, by omega, by omega, by omega, by omega, by omega, by omega, by omega, by omega, by omega, by omega, by omega, by omega, by omega, by omega, by omega, ⟨by trivial, by trivial, by trivial, by trivial, by omega, by omega, ?_⟩, by omega⟩
          rw [ht2]; rfl
        · simp only [decide_eq_false_iff_not] at h7
          have hz : z = 64 := by omega
          subst hz
          refine ⟨by omega, ⟨by trivial, by trivial, by trivial, by omega, by omega, ?_⟩, by omega⟩
          rw [suc_nat, ht2, ht1]; rfl
      · simp only [decide_eq_false_iff_not] at h4
        have hy : y = 5 := by omega
        subst hy
        refine ⟨by omega, ⟨by trivial, hp, by omega, by omega, ?_⟩, by omega⟩
        rw [suc_nat, ht1, ht]; rfl
    · simp only [decide_eq_false_iff_not] at h
      have hx : x = 5 := by omega
      subst hx
      rw [ht, hp]; rfl
theorem ok34 : SpecOk (base.with sp33) 34 (mkF ct34) := spec_ct (fn := Tryd.f34) (c := bodyOf Tryd.f34) (k := Tryd.f34.ntmps - ct34.ps.length) (ct := ct34) c33 Tryd.func34 (by kernel_rfl) ann34 (by kernel_rfl) (fun vs w _ => Tryd.call34 vs w) (e34.mpr vc34)
theorem c34 : (base.with sp34).Ok := addS_ok c33 ok34
theorem vc14 : P14 := by
  intro a r ha _
  refine ⟨trivial, trivial, trivial, trivial, trivial, ⟨⟨rfl, by omega, by omega, rfl⟩, trivial⟩, ?_⟩
  rintro z' t _ c _ _ _ ⟨hc, h0, h1, ht⟩
  obtain ⟨z, rfl⟩ := ex_nat h0
  rw [Int.toNat_natCast] at ht
  refine condI (fun h => ?_) fun h => ?_
  · simp only [decide_eq_true_eq] at h
    simp only [Int.toNat_natCast, suc_nat, Nat.mul_one, Nat.zero_add]
    refine ⟨by omega, by omega, by omega, by omega, by omega, by omega, by omega, by omega, by omega, by omega, by omega, ⟨hc, by omega, by omega, ?_⟩, by omega⟩
    rw [ht, hc]; rfl
  · simp only [decide_eq_false_iff_not] at h
    have hz : z = 64 := by omega
    subst hz
    rw [ht]; rfl
theorem ok14 : SpecOk (base.with sp34) 14 (mkF ct14) := spec_ct (fn := Tryd.f14) (c := bodyOf Tryd.f14) (k := Tryd.f14.ntmps - ct14.ps.length) (ct := ct14) c34 Tryd.func14 (by kernel_rfl) ann14 (by kernel_rfl) (fun vs w _ => Tryd.call14 vs w) (e14.mpr vc14)
theorem c14 : (base.with sp14).Ok := addS_ok c34 ok14
theorem pow_half (n : Nat) (v : Int) : v / 2 ^ n / 2 = v / 2 ^ (n + 1) := by
  rw [Int.pow_succ, Int.ediv_ediv_of_nonneg (Int.le_of_lt (Int.pow_pos (by decide)))]
theorem bit_of {v : Int} (h : 0 ≤ v) (z : Nat) : decide (v / 2 ^ z % 2 = 1) = bt v z := by
  obtain ⟨n, rfl⟩ := ex_nat h
  unfold bt
  rw [Int.toNat_natCast, Nat.testBit_eq_decide_div_mod_eq, show (2 : Int) ^ z = ((2 ^ z : Nat) : Int) from by rw [Int.natCast_pow]; rfl]
  apply decide_eq_decide.2
  rw [← Int.natCast_ediv]
  omega
theorem vc15 : P15 := by
  intro s hs hw
  refine ⟨⟨⟨rfl, by omega, by omega, rfl⟩, trivial⟩, ?_⟩
  rintro i' s1 _ t _ _ _ ⟨rfl, h0, h1, ht⟩
  obtain ⟨i, rfl⟩ := ex_nat h0
  simp only [Int.toNat_natCast] at ht
  refine condI (fun h => ?_) fun h => ?_
  · simp only [decide_eq_true_eq] at h
    have hv := hw i
    simp only [Int.toNat_natCast, Nat.mul_one]
    refine ⟨by omega, by omega, ⟨⟨by trivial, by trivial, by omega, by omega, (Int.ediv_one _).symm, rfl⟩, trivial⟩, ?_⟩
    generalize hV : s1.getD i 0 = V at *
    rintro i' v z' s2 _ t1 _ _ _ ⟨rfl, rfl, h2, h3, rfl, ht1⟩
    obtain ⟨z, rfl⟩ := ex_nat h2
    simp only [Int.toNat_natCast] at ht1 ⊢
    have hp : (0 : Int) < 2 ^ z := Int.pow_pos (by decide)
    have hd : 0 ≤ V / 2 ^ z := Int.ediv_nonneg hv.1 (Int.le_of_lt hp)
    have hd2 : V / 2 ^ z ≤ V := Int.ediv_le_self _ hv.1
    have hd3 := hv.2
    refine condI (fun h4 => ?_) fun h4 => ?_
    · simp only [decide_eq_true_eq] at h4
      have emax : IntKind.max .i64 = 9223372036854775807 := by decide
      have emax2 : IntKind.max .u64 = 18446744073709551615 := by decide
      have e1 : ((i : Int) % 5).toNat = i % 5 := by omega
      have e2 : ((i : Int) / 5).toNat = i / 5 := by omega
      rw [emax, emax2, pow_half, bit_of hv.1]
      simp only [Int.toNat_natCast, e1, e2, suc_nat, Nat.mul_one]
      refine ⟨by omega, by omega, by omega, by omega, by omega, by omega, by omega, by omega, by omega, ⟨by trivial, by trivial, by omega, by omega, by trivial, ?_⟩, by omega⟩
      rw [ht1]; rfl
    · simp only [decide_eq_false_iff_not] at h4
      have hz : z = 64 := by omega
      subst hz
      refine ⟨by omega, ⟨by trivial, by omega, by omega, ?_⟩, by omega⟩
      rw [suc_nat, ht1, ht, ← hV]; rfl
  · simp only [decide_eq_false_iff_not] at h
    have hi : i = 25 := by omega
    subst hi
    rw [ht]; rfl
theorem ok15 : SpecOk (base.with sp14) 15 (mkF ct15) := spec_ct (fn := Tryd.f15) (c := bodyOf Tryd.f15) (k := Tryd.f15.ntmps - ct15.ps.length) (ct := ct15) c14 Tryd.func15 (by kernel_rfl) ann15 (by kernel_rfl) (fun vs w _ => Tryd.call15 vs w) (e15.mpr vc15)
theorem c15 : (base.with sp15).Ok := addS_ok c14 ok15
theorem wv_lt (a : List Bool) (i : Nat) : ∀ n, wv a i n < 2 ^ n
  | 0 => Nat.one_pos
  | n + 1 => by
    have := wv_lt a i n
    rw [wv, Nat.pow_succ]
    split <;> omega
theorem vc13 : P13 := by
  intro a ha _
  refine ⟨⟨⟨rfl, by omega, by omega, rfl⟩, trivial⟩, ?_⟩
  rintro i' a1 _ t _ _ _ ⟨rfl, h0, h1, ht⟩
  obtain ⟨i, rfl⟩ := ex_nat h0
  simp only [Int.toNat_natCast] at ht ⊢
  refine condI (fun h => ?_) fun h => ?_
  · simp only [decide_eq_true_eq] at h
    refine ⟨⟨⟨by trivial, by trivial, by trivial, by omega, by omega, by omega⟩, trivial⟩, ?_⟩
    rintro i' v z' a2 _ t1 _ _ _ ⟨rfl, rfl, rfl, h2, h3, rfl⟩
    refine condI (fun h4 => ?_) fun h4 => ?_
    · simp only [decide_eq_true_eq] at h4
      obtain ⟨z, rfl⟩ := ex_nat h4
      have emax : IntKind.max .i64 = 9223372036854775807 := by decide
      have e1 : ((i : Int) % 5).toNat = i % 5 := by omega
      have e2 : ((i : Int) / 5).toNat = i / 5 := by omega
      have e3 : ((63 : Int) - (z : Int)).toNat = 63 - z := by omega
      have e4 : ((63 : Int) - ((z : Int) - 1)).toNat = 63 - z + 1 := by omega
      have hw := wv_lt a2 i (63 - z)
      have hpow : 2 ^ (63 - z) ≤ 2 ^ 63 := Nat.pow_le_pow_right (by decide) (by omega)
      rw [emax]
      simp only [Int.toNat_natCast, e1, e2, e3, e4, Nat.mul_one]
      have hwu : ∀ b : Nat, b ≤ 1 → IntKind.u64.wrap ((wv a2 i (63 - z) : Int) * 2 + b) = ((2 * wv a2 i (63 - z) + b : Nat) : Int) := fun b hb => by rw [wrap_u64']; omega
      refine ⟨by omega, by omega, by omega, by omega, by omega, by omega, ?_⟩
      refine condI (fun hb => ?_) fun hb => ?_
      · refine ⟨by omega, ⟨by trivial, by trivial, by trivial, by omega, by omega, ?_⟩, by omega⟩
        have := hwu 0 (by omega)
        rw [Int.natCast_zero, Int.add_zero, Nat.add_zero] at this
        rw [this, wv, if_pos (by rw [show 63 - (63 - z) = z from by omega]; exact hb), wrap_u64']
        omega
      · refine ⟨by omega, ⟨by trivial, by trivial, by trivial, by omega, by omega, ?_⟩, by omega⟩
        have := hwu 0 (by omega)
        rw [Int.natCast_zero, Int.add_zero, Nat.add_zero] at this
        rw [this, wv, if_neg (by rw [show 63 - (63 - z) = z from by omega]; unfold gb at3; rw [hb]; decide)]
        omega
    · simp only [decide_eq_false_iff_not] at h4
      have hz : z' = -1 := by omega
      subst hz
      refine ⟨by omega, by omega, by omega, ⟨by trivial, by omega, by omega, ?_⟩, by omega⟩
      rw [suc_nat, ht, Int.toNat_natCast, Nat.mul_one]; rfl
  · simp only [decide_eq_false_iff_not] at h
    have hi : i = 25 := by omega
    subst hi
    rw [ht, toW, hid_eq]
theorem ok13 : SpecOk (base.with sp15) 13 (mkF ct13) := spec_ct (fn := Tryd.f13) (c := bodyOf Tryd.f13) (k := Tryd.f13.ntmps - ct13.ps.length) (ct := ct13) c15 Tryd.func13 (by kernel_rfl) ann13 (by kernel_rfl) (fun vs w _ => Tryd.call13 vs w) (e13.mpr vc13)
theorem c13 : (base.with sp13).Ok := addS_ok c15 ok13
theorem vc18 : P18 := by
  intro s hs hw
  refine ⟨hw, ⟨⟨by omega, by omega, rfl⟩, trivial⟩, ?_⟩
  rintro n _ _ t _ _ _ ⟨h0, h1, ht⟩
  obtain ⟨i, rfl⟩ := ex_nat h0
  rw [Int.toNat_natCast] at ht
  refine condI (fun h => ?_) fun h => ?_
  · simp only [decide_eq_true_eq] at h
    refine ⟨trivial, by omega, ⟨by omega, by omega, ?_⟩, by omega⟩
    rw [suc_nat, ht]; rfl
  · simp only [decide_eq_false_iff_not] at h
    have hi : i = 24 := by omega
    subst hi
    exact ⟨trivial, by rw [ht, permR, hid_eq]⟩
theorem ok18 : SpecOk (base.with sp13) 18 (mkF ct18) := spec_ct (fn := Tryd.f18) (c := bodyOf Tryd.f18) (k := Tryd.f18.ntmps - ct18.ps.length) (ct := ct18) c13 Tryd.func18 (by kernel_rfl) ann18 (by kernel_rfl) (fun vs w _ => Tryd.call18 vs w) (e18.mpr vc18)
theorem c18 : (base.with sp18).Ok := addS_ok c13 ok18
end Go.Proofs.YtganbceicojfmaaDoor
