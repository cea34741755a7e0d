/-
  The conditions of the functions that read and write items' bytes are met.
-/
import Derived.Test.YtfikklbaceidfaaDoorP3
namespace Go.Proofs.YtfikklbaceidfaaDoor
open Go Go.Avc Go.Proofs
set_option linter.unusedVariables false
set_option linter.unusedSimpArgs false
set_option maxRecDepth 100000

theorem vc16 : P16 := by
  intro a b c l a' b' c' l' _ _ _
  simp [sameB]
theorem ok16 : SpecOk (base.with sp31) 16 (mkF ct16) := spec_ct (fn := Tryd.f16) (c := bodyOf Tryd.f16) (k := Tryd.f16.ntmps - ct16.ps.length) (ct := ct16) c31 Tryd.func16 (by kernel_rfl) noAnn (by kernel_rfl) (fun vs w _ => Tryd.call16 vs w) (e16.mpr vc16)
theorem c16 : (base.with sp16).Ok := addS_ok c31 ok16

theorem i64_max : IntKind.i64.max = 9223372036854775807 := by decide
theorem wrap_i64 {n : Int} (h0 : -9223372036854775808 ≤ n) (h : n ≤ 9223372036854775807) : IntKind.i64.wrap n = n := wrap_in .i64 n rfl ⟨h0, h⟩
theorem div_le {n : Int} (k : Nat) (h0 : 0 ≤ n) : 0 ≤ n / 256 ^ k ∧ n / 256 ^ k ≤ n := by
  have hp : (0 : Int) < 256 ^ k := Int.pow_pos (by decide)
  exact ⟨Int.ediv_nonneg h0 (Int.le_of_lt hp), Int.ediv_le_self _ h0⟩
theorem vc21 : P21 := by
  rintro n w ⟨hn, hn2, hw0, hw8⟩
  refine ⟨⟨⟨by simp, rfl, by omega, hw0, by simp [numB, rowsOfBytes]⟩, trivial⟩, ?_⟩
  rintro n' w' i out hout ⟨rfl, rfl, h0, h1, rfl⟩
  have hd := div_le (n := n) i.toNat hn
  refine condI (fun h => ?_) fun h => ?_
  · simp only [decide_eq_true_eq] at h
    rw [i64_max]
    simp only [rows_length, numB_length, List.length_cons, List.length_nil]
    refine ⟨⟨by omega, by omega⟩, ⟨by omega, by omega⟩, ⟨by omega, by omega, by omega⟩, ⟨by omega, by omega⟩, ⟨?_, rfl, by omega, by omega, ?_⟩, by omega⟩
    · rw [show (i + 1).toNat = i.toNat + 1 from by omega, Int.ediv_ediv_of_nonneg (Int.le_of_lt (Int.pow_pos (by decide))), Int.pow_succ]
    · rw [show (i + 1).toNat = i.toNat + 1 from by omega, numB_succ, rows_append, wrap_u8, Int.emod_emod_of_dvd _ (Int.dvd_refl 256), ← byteAt_toNat]
      rfl
  · simp only [decide_eq_false_iff_not] at h
    rw [show i = w' from by omega]
theorem ok21 : SpecOk (base.with sp16) 21 (mkF ct21) := spec_ct (fn := Tryd.f21) (c := bodyOf Tryd.f21) (k := Tryd.f21.ntmps - ct21.ps.length) (ct := ct21) c16 Tryd.func21 (by kernel_rfl) ann21 (by kernel_rfl) (fun vs w _ => Tryd.call21 vs w) (e21.mpr vc21)
theorem c21 : (base.with sp21).Ok := addS_ok c16 ok21

theorem vc13 : P13 := by
  intro a b c l hl _
  refine ⟨trivial, condI (fun h => ?_) fun h => ?_⟩
  · simp only [ne_eq, decide_not, Bool.not_eq_true', decide_eq_false_iff_not] at h
    exact ⟨rfl, by rw [encR, if_neg h]⟩
  · simp only [ne_eq, decide_not, Bool.not_eq_false', decide_eq_true_eq] at h
    obtain ⟨h1, h2, h3, h4, h5, h6, _, _, _, _, h7⟩ := chk_zero h
    simp only [List.length_append, rows_length, numB_length, pre21]
    refine ⟨⟨by omega, by omega, by omega, by omega⟩, ⟨by omega, by omega, by omega, by omega⟩, ⟨by omega, by omega⟩, ⟨by omega, by omega, by omega, by omega⟩, ⟨by omega, by omega⟩, ⟨by omega, by omega, by omega, by omega⟩, ⟨by omega, by omega⟩, ⟨by omega, by omega⟩, h.symm, ?_⟩
    rw [encR, if_pos h, encB]
    simp only [rows_append]
theorem ok13 : SpecOk (base.with sp21) 13 (mkF ct13) := spec_ct (fn := Tryd.f13) (c := bodyOf Tryd.f13) (k := Tryd.f13.ntmps - ct13.ps.length) (ct := ct13) c21 Tryd.func13 (by kernel_rfl) noAnn (by kernel_rfl) (fun vs w _ => Tryd.call13 vs w) (e13.mpr vc13)
theorem c13 : (base.with sp13).Ok := addS_ok c21 ok13

/-! ### Bytes in rows -/
theorem leN_lt (b : List UInt8) : leN b < 256 ^ b.length := by
  induction b with
  | nil => simp [leN]
  | cons x b ih =>
    have := x.toNat_lt
    simp only [leN, List.length_cons, Nat.pow_succ]
    omega
theorem rows_get (b : List UInt8) {i : Nat} (h : i < b.length) : (((rowsOfBytes b).getD i []).getD 0 (CD.int 0)).toInt = ((b.getD i 0).toNat : Int) := by
  simp [rowsOfBytes, h, CD.toInt]
theorem rows_drop (b : List UInt8) (n : Nat) : (rowsOfBytes b).drop n = rowsOfBytes (b.drop n) := by simp [rowsOfBytes]
theorem rows_take (b : List UInt8) (n : Nat) : (rowsOfBytes b).take n = rowsOfBytes (b.take n) := by simp [rowsOfBytes]
theorem isB_rows (b : List UInt8) : isB (rowsOfBytes b) := by unfold isB; rw [bytes_rows]
theorem isB_ex {l : List (List CD)} (h : isB l) : ∃ b, l = rowsOfBytes b := ⟨_, h⟩
theorem byte_wrap (x : UInt8) : IntKind.i64.wrap ((x.toNat : Int)) = (x.toNat : Int) := by
  have := x.toNat_lt
  exact wrap_i64 (by omega) (by omega)
theorem pow_le7 {n : Nat} (h : n ≤ 7) : 256 ^ n ≤ 72057594037927936 := by
  have := Nat.pow_le_pow_right (show 0 < 256 by decide) h
  simpa using this
theorem pow_le6 {n : Nat} (h : n ≤ 6) : 256 ^ n ≤ 281474976710656 := by
  have := Nat.pow_le_pow_right (show 0 < 256 by decide) h
  simpa using this
theorem getD_eq {b : List UInt8} {i : Nat} (h : i < b.length) : b.getD i 0 = b[i] := by simp [h]

theorem vc32 : P32 := by
  intro l hl hp β hβ
  unfold pre32 at hp
  refine condI (fun h => (hβ h).symm) fun h => ⟨⟨by omega, by omega⟩, rfl⟩
theorem ok32 : SpecOk (base.with sp13) 32 (mkF ct32) := spec_ct (fn := Tryd.f32) (c := bodyOf Tryd.f32) (k := Tryd.f32.ntmps - ct32.ps.length) (ct := ct32) c13 Tryd.func32 (by kernel_rfl) noAnn (by kernel_rfl) (fun vs w _ => Tryd.call32 vs w) (e32.mpr vc32)
theorem c32 : (base.with sp32).Ok := addS_ok c13 ok32

theorem vc30 : P30 := by
  intro n l b hl hp _
  unfold pre30 at hp
  refine condI (fun h => ?_) fun h => ?_
  · simp only [decide_eq_true_eq] at h
    simp only [tkR, tkD, tkS, if_pos h, decide_eq_true h]
    refine ⟨by omega, by omega, by simp, by simp, rfl⟩
  · simp only [decide_eq_false_iff_not] at h
    simp only [tkR, tkD, tkS, if_neg h, decide_eq_false h]
    refine ⟨by omega, by omega, by simp, by simp, rfl⟩
theorem ok30 : SpecOk (base.with sp32) 30 (mkF ct30) := spec_ct (fn := Tryd.f30) (c := bodyOf Tryd.f30) (k := Tryd.f30.ntmps - ct30.ps.length) (ct := ct30) c32 Tryd.func30 (by kernel_rfl) noAnn (by kernel_rfl) (fun vs w _ => Tryd.call30 vs w) (e30.mpr vc30)
theorem c30 : (base.with sp30).Ok := addS_ok c32 ok30

theorem pow_cast (i : Nat) : ((256 ^ i : Nat) : Int) = (256 : Int) ^ i := by rw [Int.natCast_pow]; rfl
theorem or_add {a x i : Nat} (ha : a < 256 ^ i) (hx : x < 256) (hi : i < 7) : bOr .i64 (a : Int) (bShl .i64 (x : Int) (8 * (i : Int))) = ((a + x * 256 ^ i : Nat) : Int) := by
  have hp := pow_le6 (n := i) (by omega)
  have hxp : x * 256 ^ i ≤ 255 * 281474976710656 := Nat.mul_le_mul (by omega) hp
  have e1 : bShl .i64 (x : Int) (8 * (i : Int)) = ((x * 256 ^ i : Nat) : Int) := by
    unfold bShl
    have : min (8 * (i : Int)).toNat (IntKind.bits .i64) = 8 * i := by
      show min (8 * (i : Int)).toNat 64 = 8 * i
      omega
    rw [this, Int.pow_mul, show (2 : Int) ^ 8 = 256 from by decide, ← pow_cast, ← Int.natCast_mul]
    exact wrap_i64 (by omega) (by omega)
  rw [e1]
  unfold bOr
  have e3 : (BitVec.ofInt (IntKind.bits .i64) (a : Int) ||| BitVec.ofInt (IntKind.bits .i64) ((x * 256 ^ i : Nat) : Int)).toNat = a + x * 256 ^ i := by
    rw [BitVec.ofInt_natCast, BitVec.ofInt_natCast, BitVec.toNat_or, BitVec.toNat_ofNat, BitVec.toNat_ofNat]
    rw [show 2 ^ IntKind.bits .i64 = 18446744073709551616 from by decide, Nat.mod_eq_of_lt (by omega), Nat.mod_eq_of_lt (by omega)]
    have h8 : 256 ^ i = 2 ^ (8 * i) := by rw [Nat.pow_mul]
    rw [h8] at ha ⊢
    rw [Nat.or_comm, ← Nat.shiftLeft_eq, ← Nat.shiftLeft_add_eq_or_of_lt ha]
    omega
  rw [e3]
  exact wrap_i64 (by omega) (by omega)
theorem leN_snoc (b : List UInt8) (x : UInt8) : leN (b ++ [x]) = leN b + x.toNat * 256 ^ b.length := by
  induction b with
  | nil => simp [leN]
  | cons y b ih => simp only [List.cons_append, leN, ih, List.length_cons, Nat.pow_succ]; rw [Nat.mul_add, Nat.add_assoc, Nat.mul_left_comm, Nat.mul_comm 256 (256 ^ b.length)]
def tkRb (b : List UInt8) (n : Int) : List UInt8 := if (b.length : Int) < n then [] else b.take n.toNat
def tkDb (b : List UInt8) (n : Int) : List UInt8 := if (b.length : Int) < n then b else b.drop n.toNat
theorem tkR_rows (b : List UInt8) (n : Int) : tkR (rowsOfBytes b) n = rowsOfBytes (tkRb b n) := by
  unfold tkR tkRb
  rw [rows_length]
  split
  · rfl
  · rw [rows_take]
theorem tkD_rows (b : List UInt8) (n : Int) : tkD (rowsOfBytes b) n = rowsOfBytes (tkDb b n) := by
  unfold tkD tkDb
  rw [rows_length]
  split
  · rfl
  · rw [rows_drop]
theorem tkRb_le (b : List UInt8) (n : Int) (h : 0 ≤ n) : (tkRb b n).length ≤ n.toNat := by
  unfold tkRb
  split
  · simp
  · rw [List.length_take]; omega
theorem vc29 : P29 := by
  rintro n l sh hl ⟨h0, h7, hB⟩
  obtain ⟨b, rfl⟩ := isB_ex hB
  refine ⟨h0, fun _ => ⟨⟨⟨rfl, rfl, by omega, by omega, rfl, rfl, by simp [leN]⟩, trivial⟩, ?_⟩⟩
  rintro n' tk m i rest sh' htk ⟨rfl, rfl, h0', h1, rfl, rfl, h2⟩
  rw [tkR_rows, rows_length] at *
  rw [bytes_rows] at *
  have hle := tkRb_le b n h0
  generalize ht : tkRb b n = t at *
  refine condI (fun h => ?_) fun h => ?_
  · simp only [decide_eq_true_eq] at h
    have hlt : i.toNat < t.length := by omega
    rw [rows_get t hlt, byte_wrap, getD_eq hlt]
    have hx := t[i.toNat].toNat_lt
    have hn := leN_lt (t.take i.toNat)
    rw [List.length_take, Nat.min_eq_left (by omega)] at hn
    have e := or_add hn hx (by omega)
    rw [h2, show (8 : Int) * i = 8 * ((i.toNat : Nat) : Int) from by omega, e]
    refine ⟨⟨by omega, by omega⟩, hlt, by omega, by omega, by omega, ⟨by rw [tkR_rows, ht], by rw [rows_length], by omega, by omega, rfl, rfl, ?_⟩, by omega⟩
    rw [bytes_rows, show (i + 1).toNat = i.toNat + 1 from by omega, List.take_add_one, List.getElem?_eq_getElem hlt]
    simp only [Option.toList_some]
    rw [leN_snoc, List.length_take, Nat.min_eq_left (by omega)]
  · simp only [decide_eq_false_iff_not] at h
    refine ⟨?_, rfl, rfl⟩
    rw [h2, List.take_of_length_le (by omega)]
theorem ok29 : SpecOk (base.with sp30) 29 (mkF ct29) := spec_ct (fn := Tryd.f29) (c := bodyOf Tryd.f29) (k := Tryd.f29.ntmps - ct29.ps.length) (ct := ct29) c30 Tryd.func29 (by kernel_rfl) ann29 (by kernel_rfl) (fun vs w _ => Tryd.call29 vs w) (e29.mpr vc29)
theorem c29 : (base.with sp29).Ok := addS_ok c30 ok29

/-! ### Decode -/
def tkSb (b : List UInt8) (n : Int) (sh : Bool) : Bool := decide ((b.length : Int) < n) || sh
theorem tkS_rows (b : List UInt8) (n : Int) (sh : Bool) : tkS (rowsOfBytes b) n sh = tkSb b n sh := by unfold tkS tkSb; rw [rows_length]
theorem tkSb_true (b : List UInt8) (n : Int) : tkSb b n true = true := by simp [tkSb]
theorem tkDb_ge {b : List UInt8} {n : Nat} (h : n ≤ b.length) : tkDb b n = b.drop n := by
  unfold tkDb; rw [if_neg (by omega)]; simp
theorem tkRb_ge {b : List UInt8} {n : Nat} (h : n ≤ b.length) : tkRb b n = b.take n := by
  unfold tkRb; rw [if_neg (by omega)]; simp
theorem tkSb_lt {b : List UInt8} {n : Int} {sh : Bool} (h : (b.length : Int) < n) : tkSb b n sh = true := by simp [tkSb, h]
theorem tkSb_ge {b : List UInt8} {n : Int} {sh : Bool} (h : n ≤ (b.length : Int)) : tkSb b n sh = sh := by
  unfold tkSb; rw [decide_eq_false (by omega)]; rfl
/-- Whether bytes are too short for an item. -/
def shortB (b : List UInt8) : Bool :=
  tkSb (tkDb (tkDb (tkDb (tkDb b 1) 1) 4) 2) (leN (tkRb (tkDb (tkDb (tkDb b 1) 1) 4) 2) : Int) (tkSb (tkDb (tkDb (tkDb b 1) 1) 4) 2 (tkSb (tkDb (tkDb b 1) 1) 4 (tkSb (tkDb b 1) 1 (tkSb b 1 false))))
theorem dec_long {b : List UInt8} (h : 8 ≤ b.length) : tkDb b 1 = b.drop 1 ∧ tkDb (b.drop 1) 1 = b.drop 2 ∧ tkDb (b.drop 2) 4 = b.drop 6 ∧ tkDb (b.drop 6) 2 = b.drop 8 ∧
    tkRb b 1 = b.take 1 ∧ tkRb (b.drop 1) 1 = (b.drop 1).take 1 ∧ tkRb (b.drop 2) 4 = (b.drop 2).take 4 ∧ tkRb (b.drop 6) 2 = (b.drop 6).take 2 := by
  have d1 := tkDb_ge (b := b) (n := 1) (by omega)
  have d2 := tkDb_ge (b := b.drop 1) (n := 1) (by rw [List.length_drop]; omega)
  have d3 := tkDb_ge (b := b.drop 2) (n := 4) (by rw [List.length_drop]; omega)
  have d4 := tkDb_ge (b := b.drop 6) (n := 2) (by rw [List.length_drop]; omega)
  have r1 := tkRb_ge (b := b) (n := 1) (by omega)
  have r2 := tkRb_ge (b := b.drop 1) (n := 1) (by rw [List.length_drop]; omega)
  have r3 := tkRb_ge (b := b.drop 2) (n := 4) (by rw [List.length_drop]; omega)
  have r4 := tkRb_ge (b := b.drop 6) (n := 2) (by rw [List.length_drop]; omega)
  simp only [List.drop_drop] at d1 d2 d3 d4
  exact ⟨d1, d2, d3, d4, r1, r2, r3, r4⟩
theorem shortB_eq (b : List UInt8) : shortB b = decide (b.length < 8 ∨ b.length < 8 + leN ((b.drop 6).take 2)) := by
  unfold shortB
  rcases Nat.lt_or_ge b.length 8 with h | h
  · rw [decide_eq_true (.inl h)]
    rcases Nat.lt_or_ge b.length 1 with h1 | h1
    · rw [tkSb_lt (b := b) (by omega)]; simp only [tkSb_true]
    have d1 : tkDb b 1 = b.drop 1 := tkDb_ge (b := b) (n := 1) (by omega)
    rw [d1]
    rcases Nat.lt_or_ge b.length 2 with h2 | h2
    · rw [tkSb_lt (b := b.drop 1) (by rw [List.length_drop]; omega)]; simp only [tkSb_true]
    have d2 : tkDb (b.drop 1) 1 = b.drop 2 := by
      have := tkDb_ge (b := b.drop 1) (n := 1) (by rw [List.length_drop]; omega)
      rw [List.drop_drop] at this
      exact this
    rw [d2]
    rcases Nat.lt_or_ge b.length 6 with h3 | h3
    · rw [tkSb_lt (b := b.drop 2) (by rw [List.length_drop]; omega)]; simp only [tkSb_true]
    have d3 : tkDb (b.drop 2) 4 = b.drop 6 := by
      have := tkDb_ge (b := b.drop 2) (n := 4) (by rw [List.length_drop]; omega)
      rw [List.drop_drop] at this
      exact this
    rw [d3, tkSb_lt (b := b.drop 6) (by rw [List.length_drop]; omega)]
    simp only [tkSb_true]
  · obtain ⟨d1, d2, d3, d4, r1, r2, r3, r4⟩ := dec_long h
    rw [d1, d2, d3, d4, r4, tkSb_ge (b := b) (by omega), tkSb_ge (b := b.drop 1) (by rw [List.length_drop]; omega), tkSb_ge (b := b.drop 2) (by rw [List.length_drop]; omega), tkSb_ge (b := b.drop 6) (by rw [List.length_drop]; omega)]
    unfold tkSb
    rw [Bool.or_false, decide_eq_decide, List.length_drop]
    omega
theorem vc22 : P22 := by
  rintro l hl ⟨hB, hlen⟩
  obtain ⟨b, rfl⟩ := isB_ex hB
  simp only [tkD_rows, tkR_rows, tkS_rows, bytes_rows, rows_length] at *
  refine ⟨⟨by omega, by omega, isB_rows _⟩, ⟨by omega, by omega, isB_rows _⟩, ⟨by omega, by omega, isB_rows _⟩, ⟨by omega, by omega, isB_rows _⟩, by unfold pre30; omega, condI (fun h => ?_) fun h => ⟨trivial, ?_⟩⟩
  · have hs : shortB b = true := h
    rw [shortB_eq, decide_eq_true_eq] at hs
    have he : decE b = 2 := by unfold decE; rw [if_pos hs]
    unfold decI decR
    rw [he, if_neg (by decide), if_neg (by decide)]
    exact ⟨rfl, rfl, rfl, rfl, rfl, rfl⟩
  · have hs : shortB b = false := h
    rw [shortB_eq, decide_eq_false_iff_not] at hs
    have h8 : 8 ≤ b.length := by omega
    obtain ⟨d1, d2, d3, d4, r1, r2, r3, r4⟩ := dec_long h8
    rw [d1, d2, d3, d4, r1, r2, r3, r4]
    have r5 : tkRb (b.drop 8) (leN ((b.drop 6).take 2) : Int) = (b.drop 8).take (leN ((b.drop 6).take 2)) := tkRb_ge (by rw [List.length_drop]; omega)
    have d5 : tkDb (b.drop 8) (leN ((b.drop 6).take 2) : Int) = b.drop (8 + leN ((b.drop 6).take 2)) := by
      rw [tkDb_ge (by rw [List.length_drop]; omega), List.drop_drop]
    rw [r5, d5]
    have he : decE b = chk (leN (b.take 1)) (leN ((b.drop 1).take 1)) (leN ((b.drop 2).take 4)) ((b.drop 8).take (leN ((b.drop 6).take 2))) := by
      unfold decE; rw [if_neg hs]; rfl
    refine condI (fun h => ?_) fun h => ?_
    · simp only [ne_eq, decide_not, Bool.not_eq_true', decide_eq_false_iff_not] at h
      unfold decI decR
      rw [he, if_neg h, if_neg h]
      exact ⟨rfl, rfl, rfl, rfl, rfl, rfl⟩
    · simp only [ne_eq, decide_not, Bool.not_eq_false', decide_eq_true_eq] at h
      unfold decI decR
      rw [he, if_pos h, if_pos h]
      refine ⟨?_, rfl, rfl, rfl, rfl, h.symm, rfl⟩
      unfold pre32
      rw [rows_length, List.length_drop]; omega
theorem ok22 : SpecOk (base.with sp29) 22 (mkF ct22) := spec_ct (fn := Tryd.f22) (c := bodyOf Tryd.f22) (k := Tryd.f22.ntmps - ct22.ps.length) (ct := ct22) c29 Tryd.func22 (by kernel_rfl) noAnn (by kernel_rfl) (fun vs w _ => Tryd.call22 vs w) (e22.mpr vc22)
theorem c22 : (base.with sp22).Ok := addS_ok c29 ok22


theorem drop_take' (b : List UInt8) (i j : Nat) : (b.take (i + j)).drop i = (b.drop i).take j := by
  rw [List.drop_take]; congr 1; omega
theorem leN_one {b : List UInt8} {i : Nat} (h : i < b.length) : leN ((b.drop i).take 1) = (b.getD i 0).toNat := by
  rw [List.drop_eq_getElem_cons h, List.take_succ_cons, List.take_zero, getD_eq h]
  simp only [leN]
  omega
end Go.Proofs.YtfikklbaceidfaaDoor
