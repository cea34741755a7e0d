/-
  The conditions of the functions on words are met.
-/
import Derived.Test.YtganbceicojfmaaDoorP1
import Derived.Test.YtganbceicojfmaaDoorL2
namespace Go.Proofs.YtganbceicojfmaaDoor
open Go Go.Avc Go.Proofs
set_option linter.unusedVariables false
set_option linter.unusedSimpArgs false
set_option maxRecDepth 100000
theorem condI {b : Bool} {X Y : Prop} (h : b = true → X) (k : b = false → Y) : bif b then X else Y := by
  cases b with
  | true => exact h rfl
  | false => exact k rfl
theorem c0 : (base.with spec0).Ok := base_ok
theorem wrap_u64 {n : Int} (h0 : 0 ≤ n) (h : n ≤ 18446744073709551615) : IntKind.u64.wrap n = n := by
  unfold IntKind.wrap
  simp [IntKind.signed, IntKind.bits]
  omega
theorem and63 {k : Nat} (h : k ≤ 1000) : bAnd .u64 (k : Int) 63 = ((k % 64 : Nat) : Int) := by
  unfold bAnd
  rw [BitVec.ofInt_natCast, show (63 : Int) = ((63 : Nat) : Int) from rfl, BitVec.ofInt_natCast, BitVec.toNat_and, BitVec.toNat_ofNat, BitVec.toNat_ofNat, show 2 ^ IntKind.bits .u64 = 18446744073709551616 from by decide, Nat.mod_eq_of_lt (by omega), Nat.mod_eq_of_lt (by omega)]
  have := Nat.and_two_pow_sub_one_eq_mod k 6
  rw [show (2 : Nat) ^ 6 - 1 = 63 from by decide, show (2 : Nat) ^ 6 = 64 from by decide] at this
  rw [this]
  exact wrap_u64 (by omega) (by omega)
theorem vc43 : P43 := by
  rintro x k ⟨h0, h1⟩
  obtain ⟨i, rfl⟩ : ∃ i : Nat, k = i := ⟨k.toNat, by omega⟩
  rw [wrap_u64 (by omega) (by omega), and63 (by omega), wrap_u64 (by omega) (by omega)]
  exact ⟨by omega, by omega, rfl⟩
theorem ok43 : SpecOk (base.with spec0) 43 (mkF ct43) := spec_ct (fn := Tryd.f43) (c := bodyOf Tryd.f43) (k := Tryd.f43.ntmps - ct43.ps.length) (ct := ct43) c0 Tryd.func43 (by kernel_rfl) noAnn (by kernel_rfl) (fun vs w _ => Tryd.call43 vs w) (e43.mpr vc43)
theorem c43 : (base.with sp43).Ok := addS_ok c0 ok43
theorem vc20 : P20 := by
  intro n _
  refine condI (fun h => ?_) fun h => ?_
  · simp only [Bool.or_eq_true, decide_eq_true_eq] at h
    unfold rcOf
    rw [if_pos h]
  · simp only [Bool.or_eq_false_iff, decide_eq_false_iff_not] at h
    refine ⟨⟨by omega, by omega, by omega⟩, by omega, ?_⟩
    unfold rcOf
    rw [if_neg (by omega), Nat.zero_add]
    obtain ⟨i, rfl⟩ : ∃ i : Nat, n = i := ⟨n.toNat, by omega⟩
    rw [Int.toNat_natCast]
    have hi : i < 24 := by omega
    clear h
    revert i
    decide
theorem ok20 : SpecOk (base.with sp43) 20 (mkF ct20) := spec_ct (fn := Tryd.f20) (c := bodyOf Tryd.f20) (k := Tryd.f20.ntmps - ct20.ps.length) (ct := ct20) c43 Tryd.func20 (by kernel_rfl) noAnn (by kernel_rfl) (fun vs w _ => Tryd.call20 vs w) (e20.mpr vc20)
theorem c20 : (base.with sp20).Ok := addS_ok c43 ok20
theorem vc35 : P35 := by
  intro s hs _
  refine ⟨⟨⟨rfl, rfl, by omega, by omega, rfl⟩, trivial⟩, ?_⟩
  rintro s' n s'' z c _ _ _ _ ⟨rfl, rfl, h0, h1, rfl⟩
  obtain ⟨i, rfl⟩ : ∃ i : Nat, n = i := ⟨n.toNat, by omega⟩
  refine condI (fun h => ?_) fun h => ?_
  · simp only [decide_eq_true_eq] at h
    simp only [Nat.mul_one, Int.toNat_natCast]
    have e : ((i : Int) % 5).toNat = i % 5 := by omega
    rw [e]
    refine ⟨⟨by omega, by omega, by omega⟩, ⟨by omega, by omega⟩, ⟨by omega, by omega⟩, by omega, ⟨by omega, by omega⟩, by omega, ⟨by omega, by omega⟩, ⟨by trivial, by trivial, by omega, by omega, ?_⟩, by omega⟩
    rw [show ((i : Int) + 1).toNat = i + 1 from by omega]
    rfl
  · simp only [decide_eq_false_iff_not] at h
    have hi : i = 25 := by omega
    subst hi
    rw [show ((25 : Nat) : Int).toNat = 25 from rfl]
    have z0 : ∀ c : List Int, thN c s'' 0 = s'' := fun c => by rw [thN]
    refine ⟨⟨⟨by omega, by omega, Eq.refl (cols s'' 25), (z0 _).symm⟩, trivial⟩, ?_⟩
    have fin : ∀ c t, c = cols s'' 25 → t = thN c s'' 25 → t = theta s'' := fun c t h1 h2 => by rw [h2, h1]; rfl
    generalize cols s'' 25 = cc at *
    rintro n t z c _ _ _ ⟨h0, h1, ec, et⟩
    subst ec et
    obtain ⟨i, rfl⟩ : ∃ i : Nat, n = i := ⟨n.toNat, by omega⟩
    refine condI (fun h => ?_) fun h => ?_
    · simp only [decide_eq_true_eq] at h
      simp only [Nat.mul_one, Int.toNat_natCast]
      have e1 : (((i : Int) % 5 + 4) % 5).toNat = (i % 5 + 4) % 5 := by omega
      have e2 : (((i : Int) % 5 + 1) % 5).toNat = (i % 5 + 1) % 5 := by omega
      rw [e1, e2]
      refine ⟨⟨by omega, by omega⟩, ⟨by omega, by omega⟩, by omega, ⟨by omega, by omega⟩, ⟨by omega, by omega⟩, ⟨by omega, by omega⟩, by omega, ⟨by omega, by omega⟩, ⟨by omega, by omega⟩, ⟨by omega, by omega⟩, by omega, ⟨by omega, by omega⟩, ⟨by omega, by omega⟩, by omega, ⟨by omega, by omega⟩, ⟨by omega, by omega, by trivial, ?_⟩, by omega⟩
      rw [show ((i : Int) + 1).toNat = i + 1 from by omega]
      rfl
    · simp only [decide_eq_false_iff_not] at h
      have hi : i = 25 := by omega
      subst hi
      exact fin _ _ rfl rfl
theorem ok35 : SpecOk (base.with sp20) 35 (mkF ct35) := spec_ct (fn := Tryd.f35) (c := bodyOf Tryd.f35) (k := Tryd.f35.ntmps - ct35.ps.length) (ct := ct35) c20 Tryd.func35 (by kernel_rfl) ann35 (by kernel_rfl) (fun vs w _ => Tryd.call35 vs w) (e35.mpr vc35)
theorem c35 : (base.with sp35).Ok := addS_ok c20 ok35
theorem xy_lt (i : Nat) : (xyN i).1 < 5 ∧ (xyN i).2 < 5 := by
  induction i with
  | zero => decide
  | succ i ih => simp only [xyN]; omega
theorem vc36 : P36 := by
  intro s hs _
  refine ⟨⟨by omega, by omega⟩, by omega, ⟨⟨rfl, by omega, by omega, rfl, rfl, rfl⟩, trivial⟩, ?_⟩
  rintro x y n s' z t _ _ _ ⟨rfl, h0, h1, rfl, rfl, rfl⟩
  obtain ⟨i, rfl⟩ : ∃ i : Nat, n = i := ⟨n.toNat, by omega⟩
  rw [Int.toNat_natCast]
  obtain ⟨hx, hy⟩ := xy_lt i
  refine condI (fun h => ?_) fun h => ?_
  · simp only [decide_eq_true_eq] at h
    have hm : (i + 1) * (i + 2) ≤ 24 * 25 := Nat.mul_le_mul (by omega) (by omega)
    have em : ((i : Int) + 1) * ((i : Int) + 2) = (((i + 1) * (i + 2) : Nat) : Int) := by simp
    rw [em]
    generalize hM : (i + 1) * (i + 2) = M at *
    have emax : IntKind.max .i64 = 9223372036854775807 := by decide
    rw [emax]
    simp only [Nat.mul_one]
    have e1 : (((xyN i).1 : Int) + 5 * ((xyN i).2 : Int)).toNat = (xyN i).1 + 5 * (xyN i).2 := by omega
    have e2 : (((xyN i).2 : Int) + 5 * ((2 * ((xyN i).1 : Int) + 3 * ((xyN i).2 : Int)) % 5)).toNat = (xyN i).2 + 5 * ((2 * (xyN i).1 + 3 * (xyN i).2) % 5) := by
      have e0 : (2 * ((xyN i).1 : Int) + 3 * ((xyN i).2 : Int)) = ((2 * (xyN i).1 + 3 * (xyN i).2 : Nat) : Int) := by omega
      rw [e0]
      generalize 2 * (xyN i).1 + 3 * (xyN i).2 = m at *
      omega
    rw [e1, e2]
    refine ⟨by omega, by omega, by omega, by omega, by omega, by omega, by omega, by omega, by omega, by omega, by omega, by omega, by omega, by omega, by omega, by omega, by omega, by omega, ⟨by trivial, by omega, by omega, ?_, ?_, ?_⟩, by omega⟩
    · rw [show ((i : Int) + 1).toNat = i + 1 from by omega]; rfl
    · rw [show ((i : Int) + 1).toNat = i + 1 from by omega]
      show _ = (((2 * (xyN i).1 + 3 * (xyN i).2) % 5 : Nat) : Int)
      have e0 : (2 * ((xyN i).1 : Int) + 3 * ((xyN i).2 : Int)) = ((2 * (xyN i).1 + 3 * (xyN i).2 : Nat) : Int) := by omega
      rw [e0]
      generalize 2 * (xyN i).1 + 3 * (xyN i).2 = m
      omega
    · rw [show ((i : Int) + 1).toNat = i + 1 from by omega, show (M : Int) / 2 % 64 = ((M / 2 % 64 : Nat) : Int) from by omega, ← hM]
      rfl
  · simp only [decide_eq_false_iff_not] at h
    have hi : i = 24 := by omega
    subst hi
    rfl
theorem ok36 : SpecOk (base.with sp35) 36 (mkF ct36) := spec_ct (fn := Tryd.f36) (c := bodyOf Tryd.f36) (k := Tryd.f36.ntmps - ct36.ps.length) (ct := ct36) c35 Tryd.func36 (by kernel_rfl) ann36 (by kernel_rfl) (fun vs w _ => Tryd.call36 vs w) (e36.mpr vc36)
theorem c36 : (base.with sp36).Ok := addS_ok c35 ok36
theorem vc37 : P37 := by
  intro s hs _
  refine ⟨⟨⟨rfl, by omega, by omega, rfl⟩, trivial⟩, ?_⟩
  rintro n s' z t _ _ _ ⟨rfl, h0, h1, rfl⟩
  obtain ⟨i, rfl⟩ : ∃ i : Nat, n = i := ⟨n.toNat, by omega⟩
  refine condI (fun h => ?_) fun h => ?_
  · simp only [decide_eq_true_eq] at h
    simp only [Nat.mul_one, Int.toNat_natCast]
    have e1 : ((i : Int) - (i : Int) % 5 + ((i : Int) + 2) % 5).toNat = i - i % 5 + (i + 2) % 5 := by omega
    have e2 : ((i : Int) - (i : Int) % 5 + ((i : Int) + 1) % 5).toNat = i - i % 5 + (i + 1) % 5 := by omega
    rw [e1, e2]
    refine ⟨by omega, by omega, by omega, by omega, by omega, by omega, by omega, by omega, by omega, by omega, by omega, by omega, by omega, by omega, by omega, by omega, by omega, ⟨by trivial, by omega, by omega, ?_⟩, by omega⟩
    rw [show ((i : Int) + 1).toNat = i + 1 from by omega]
    rfl
  · simp only [decide_eq_false_iff_not] at h
    have hi : i = 25 := by omega
    subst hi
    rw [show ((25 : Nat) : Int).toNat = 25 from rfl]
    rfl
theorem ok37 : SpecOk (base.with sp36) 37 (mkF ct37) := spec_ct (fn := Tryd.f37) (c := bodyOf Tryd.f37) (k := Tryd.f37.ntmps - ct37.ps.length) (ct := ct37) c36 Tryd.func37 (by kernel_rfl) ann37 (by kernel_rfl) (fun vs w _ => Tryd.call37 vs w) (e37.mpr vc37)
theorem c37 : (base.with sp37).Ok := addS_ok c36 ok37
theorem vc16 : P16 := by
  intro s r hs _
  exact ⟨trivial, trivial, trivial, by omega, by omega, trivial, by omega, by omega, rfl⟩
theorem ok16 : SpecOk (base.with sp37) 16 (mkF ct16) := spec_ct (fn := Tryd.f16) (c := bodyOf Tryd.f16) (k := Tryd.f16.ntmps - ct16.ps.length) (ct := ct16) c37 Tryd.func16 (by kernel_rfl) noAnn (by kernel_rfl) (fun vs w _ => Tryd.call16 vs w) (e16.mpr vc16)
theorem c16 : (base.with sp16).Ok := addS_ok c37 ok16
theorem vc17 : P17 := by
  intro s hs _
  refine ⟨⟨⟨by omega, by omega, rfl⟩, trivial⟩, ?_⟩
  rintro n t z _ _ ⟨h0, h1, rfl⟩
  obtain ⟨i, rfl⟩ : ∃ i : Nat, n = i := ⟨n.toNat, by omega⟩
  refine condI (fun h => ?_) fun h => ?_
  · simp only [decide_eq_true_eq] at h
    refine ⟨trivial, by omega, ⟨by omega, by omega, ?_⟩, by omega⟩
    rw [show ((i : Int) + 1).toNat = i + 1 from by omega]
    rfl
  · simp only [decide_eq_false_iff_not] at h
    have hi : i = 24 := by omega
    subst hi
    rw [perm_eq]; rfl
theorem ok17 : SpecOk (base.with sp16) 17 (mkF ct17) := spec_ct (fn := Tryd.f17) (c := bodyOf Tryd.f17) (k := Tryd.f17.ntmps - ct17.ps.length) (ct := ct17) c16 Tryd.func17 (by kernel_rfl) ann17 (by kernel_rfl) (fun vs w _ => Tryd.call17 vs w) (e17.mpr vc17)
theorem c17 : (base.with sp17).Ok := addS_ok c16 ok17
theorem vc12 : P12 := fun _ => ⟨trivial, by omega, decide_eq_true (by
  show (perm z0).getD 0 0 = _
  rw [perm_zero]
  rfl)⟩
theorem ok12 : SpecOk (base.with sp17) 12 (mkF ct12) := spec_ct (fn := Tryd.f12) (c := bodyOf Tryd.f12) (k := Tryd.f12.ntmps - ct12.ps.length) (ct := ct12) c17 Tryd.func12 (by kernel_rfl) noAnn (by kernel_rfl) (fun vs w _ => Tryd.call12 vs w) (e12.mpr vc12)
theorem c12 : (base.with sp12).Ok := addS_ok c17 ok12
end Go.Proofs.YtganbceicojfmaaDoor
