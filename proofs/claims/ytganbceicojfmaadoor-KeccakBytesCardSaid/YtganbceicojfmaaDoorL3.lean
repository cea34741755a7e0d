/-
  Words and their bits.
-/
import Derived.Test.YtganbceicojfmaaDoorV2
namespace Go.Proofs.YtganbceicojfmaaDoor
open Go Go.Avc Go.Proofs
set_option linter.unusedVariables false
set_option maxRecDepth 100000
/-- Bit z of a word. -/
def bt (w : Int) (z : Nat) : Bool := w.toNat.testBit z
def bitsW (w : Int) : List Bool := (List.range 64).map (bt w)
/-- A word is one. -/
def isW (w : Int) : Prop := 0 ≤ w ∧ w < 18446744073709551616
theorem cbits_in : ∀ r : Fin 24, cbits (r.val : Int) = bitsW (rcOf (r.val : Int)) := by decide +kernel
theorem cbits_rc (r : Int) : cbits r = bitsW (rcOf r) := by
  by_cases h : r < 0 ∨ 23 < r
  · unfold cbits rcOf
    rw [if_pos h, if_pos (by omega)]
    decide +kernel
  · have := cbits_in ⟨r.toNat, by omega⟩
    rw [show (((⟨r.toNat, by omega⟩ : Fin 24).val : Nat) : Int) = r from by show ((r.toNat : Nat) : Int) = r; omega] at this
    exact this
theorem wrap_u64' (n : Int) : IntKind.u64.wrap n = n % 18446744073709551616 := by
  simp [IntKind.wrap, IntKind.signed, IntKind.bits]
theorem ofInt_w {a : Int} (h : isW a) : (BitVec.ofInt 64 a).toNat = a.toNat := by
  obtain ⟨n, rfl⟩ : ∃ n : Nat, a = n := ⟨a.toNat, by have := h.1; omega⟩
  have := h.2
  rw [BitVec.ofInt_natCast, BitVec.toNat_ofNat, Int.toNat_natCast]
  exact Nat.mod_eq_of_lt (by omega)
theorem xr_w {a b : Int} (ha : isW a) (hb : isW b) : xr a b = ((a.toNat ^^^ b.toNat : Nat) : Int) := by
  have h1 : (BitVec.ofInt 64 a ^^^ BitVec.ofInt 64 b).toNat = a.toNat ^^^ b.toNat := by rw [BitVec.toNat_xor, ofInt_w ha, ofInt_w hb]
  have h2 := (BitVec.ofInt 64 a ^^^ BitVec.ofInt 64 b).isLt
  show IntKind.u64.wrap ((BitVec.ofInt 64 a ^^^ BitVec.ofInt 64 b).toNat : Int) = _
  rw [wrap_u64', h1]
  rw [h1] at h2
  omega
theorem xr_isW {a b : Int} (ha : isW a) (hb : isW b) : isW (xr a b) := by
  have h1 : (BitVec.ofInt 64 a ^^^ BitVec.ofInt 64 b).toNat = a.toNat ^^^ b.toNat := by rw [BitVec.toNat_xor, ofInt_w ha, ofInt_w hb]
  have h2 := (BitVec.ofInt 64 a ^^^ BitVec.ofInt 64 b).isLt
  rw [xr_w ha hb]
  rw [h1] at h2
  exact ⟨by omega, by omega⟩
theorem xr_bt {a b : Int} (ha : isW a) (hb : isW b) (z : Nat) : bt (xr a b) z = (bt a z != bt b z) := by
  unfold bt
  rw [xr_w ha hb, Int.toNat_natCast, Nat.testBit_xor]
theorem bv_w (v : BitVec 64) : IntKind.u64.wrap (v.toNat : Int) = (v.toNat : Int) := by
  have := v.isLt
  rw [wrap_u64']
  omega
theorem bv_isW (v : BitVec 64) : isW (IntKind.u64.wrap (v.toNat : Int)) := by
  have := v.isLt
  rw [bv_w]
  exact ⟨by omega, by omega⟩
theorem bv_bt (v : BitVec 64) (z : Nat) : bt (IntKind.u64.wrap (v.toNat : Int)) z = v.getLsbD z := by
  unfold bt
  rw [bv_w, Int.toNat_natCast, BitVec.testBit_toNat]
theorem ofInt_bt {a : Int} (h : isW a) (z : Nat) : (BitVec.ofInt 64 a).getLsbD z = bt a z := by
  unfold bt
  rw [← BitVec.testBit_toNat, ofInt_w h]
theorem andNot_isW (a b : Int) : isW (bAndNot .u64 a b) := bv_isW (BitVec.ofInt 64 a &&& ~~~BitVec.ofInt 64 b)
theorem andNot_bt {a b : Int} (ha : isW a) (hb : isW b) {z : Nat} (hz : z < 64) : bt (bAndNot .u64 a b) z = (bt a z && !bt b z) := by
  show bt (IntKind.u64.wrap ((BitVec.ofInt 64 a &&& ~~~BitVec.ofInt 64 b).toNat : Int)) z = _
  rw [bv_bt, BitVec.getLsbD_and, BitVec.getLsbD_not, ofInt_bt ha, ofInt_bt hb, decide_eq_true hz, Bool.true_and]
theorem or_isW (a b : Int) : isW (bOr .u64 a b) := bv_isW (BitVec.ofInt 64 a ||| BitVec.ofInt 64 b)
theorem or_bt {a b : Int} (ha : isW a) (hb : isW b) (z : Nat) : bt (bOr .u64 a b) z = (bt a z || bt b z) := by
  show bt (IntKind.u64.wrap ((BitVec.ofInt 64 a ||| BitVec.ofInt 64 b).toNat : Int)) z = _
  rw [bv_bt, BitVec.getLsbD_or, ofInt_bt ha, ofInt_bt hb]
theorem shl_w (n s : Nat) (hs : s ≤ 64) : bShl .u64 (n : Int) (s : Int) = ((n * 2 ^ s % 18446744073709551616 : Nat) : Int) := by
  unfold bShl
  rw [wrap_u64', show min (s : Int).toNat (IntKind.bits .u64) = s from by show min (s : Int).toNat 64 = s; omega]
  have : (n : Int) * 2 ^ s = ((n * 2 ^ s : Nat) : Int) := by rw [Int.natCast_mul, Int.natCast_pow]; rfl
  rw [this]
  rfl
theorem shr_w (n s : Nat) (hs : s ≤ 64) : bShr .u64 (n : Int) (s : Int) = ((n / 2 ^ s : Nat) : Int) := by
  unfold bShr
  rw [show min (s : Int).toNat (IntKind.bits .u64) = s from by show min (s : Int).toNat 64 = s; omega]
  have : (2 : Int) ^ s = ((2 ^ s : Nat) : Int) := by rw [Int.natCast_pow]; rfl
  rw [this, Int.fdiv_eq_ediv_of_nonneg _ (Int.natCast_nonneg _), Int.natCast_ediv]
theorem rot_isW (x s : Int) : isW (rotW x s) := or_isW _ _
theorem rot_bt {x : Int} (hx : isW x) {s z : Nat} (hs : s < 64) (hz : z < 64) : bt (rotW x (s : Int)) z = bt x ((z + (64 - s)) % 64) := by
  obtain ⟨n, rfl⟩ : ∃ n : Nat, x = n := ⟨x.toNat, by have := hx.1; omega⟩
  have hn : n < 2 ^ 64 := by have := hx.2; omega
  unfold rotW
  rw [shl_w n s (by omega), show (64 : Int) - (s : Int) = ((64 - s : Nat) : Int) from by omega, shr_w n (64 - s) (by omega)]
  have w1 : isW ((n * 2 ^ s % 18446744073709551616 : Nat) : Int) := by constructor <;> omega
  have hd : n / 2 ^ (64 - s) ≤ n := Nat.div_le_self _ _
  have w2 : isW ((n / 2 ^ (64 - s) : Nat) : Int) := ⟨Int.natCast_nonneg _, Int.ofNat_lt.2 (Nat.lt_of_le_of_lt hd hn)⟩
  rw [or_bt w1 w2]
  unfold bt
  rw [Int.toNat_natCast, Int.toNat_natCast, Int.toNat_natCast, show (18446744073709551616 : Nat) = 2 ^ 64 from by decide, Nat.testBit_mod_two_pow, decide_eq_true hz, Bool.true_and, ← Nat.shiftLeft_eq, Nat.testBit_shiftLeft, ← Nat.shiftRight_eq_div_pow, Nat.testBit_shiftRight]
  by_cases h : s ≤ z
  · have e : n.testBit (64 - s + z) = false := Nat.testBit_lt_two_pow (Nat.lt_of_lt_of_le hn (Nat.pow_le_pow_right (by decide) (by omega)))
    rw [decide_eq_true (show z ≥ s from h), e, Bool.true_and, Bool.or_false, show (z + (64 - s)) % 64 = z - s from by omega]
  · rw [decide_eq_false (show ¬ z ≥ s from h), Bool.false_and, Bool.false_or, show (z + (64 - s)) % 64 = 64 - s + z from by omega]
end Go.Proofs.YtganbceicojfmaaDoor
