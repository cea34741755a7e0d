/-
  Lemmas for the conditions of the laws on items are met.
-/
import Derived.Test.YtfikklbaceidfaaDoorV3
namespace Go.Proofs.YtfikklbaceidfaaDoor
open Go Go.Avc Go.Proofs
set_option linter.unusedVariables false
set_option linter.unusedSimpArgs false
set_option maxRecDepth 100000

/-! ### Numbers and bytes -/
theorem byteAt_nat (n i : Nat) : (byteAt (n : Int) i).toNat = n / 256 ^ i % 256 := by
  have := byteAt_toNat (n : Int) i
  rw [← pow_cast] at this
  have h2 : ((n : Int) / ((256 ^ i : Nat) : Int) % 256) = ((n / 256 ^ i % 256 : Nat) : Int) := by
    rw [Int.natCast_emod, Int.natCast_ediv]; rfl
  rw [h2] at this
  exact Int.ofNat.inj this
theorem leN_numB (n w : Nat) : leN (numB (n : Int) w) = n % 256 ^ w := by
  induction w with
  | zero => simp [numB, leN, Nat.mod_one]
  | succ w ih => rw [numB_succ, leN_snoc, ih, numB_length, byteAt_nat, Nat.mod_pow_succ, Nat.mul_comm]
theorem numB_cons (n w : Nat) : numB (n : Int) (w + 1) = byteAt (n : Int) 0 :: numB ((n / 256 : Nat) : Int) w := by
  simp only [numB, List.range_succ_eq_map, List.map_cons, List.map_map]
  congr 1
  refine List.map_congr_left fun i _ => ?_
  apply UInt8.toNat_inj.1
  simp only [Function.comp_apply]
  rw [byteAt_nat, byteAt_nat, Nat.div_div_eq_div_mul, Nat.pow_succ, Nat.mul_comm]
theorem numB_leN (b : List UInt8) : numB (leN b : Int) b.length = b := by
  induction b with
  | nil => rfl
  | cons x b ih =>
    have hx := x.toNat_lt
    rw [List.length_cons, numB_cons]
    congr 1
    · apply UInt8.toNat_inj.1
      rw [byteAt_nat, leN]; omega
    · rw [show leN (x :: b) / 256 = leN b from by rw [leN]; omega, ih]
/-- What was encoded is decoded. -/
theorem dec_enc {a b c : Int} {l : List UInt8} (h : chk a b c l = 0) (more : List UInt8) : decE (encB a b c l ++ more) = 0 ∧ decX (encB a b c l ++ more) = ⟨a, b, c, l⟩ ∧ (encB a b c l ++ more).drop (8 + leN (((encB a b c l ++ more).drop 6).take 2)) = more := by
  obtain ⟨h1, h2, h3, h4, h5, h6, _, _, _, _, h7⟩ := chk_zero h
  obtain ⟨a, rfl⟩ : ∃ n : Nat, a = n := ⟨a.toNat, by omega⟩
  obtain ⟨b, rfl⟩ : ∃ n : Nat, b = n := ⟨b.toNat, by omega⟩
  obtain ⟨c, rfl⟩ : ∃ n : Nat, c = n := ⟨c.toNat, by omega⟩
  have e1 : ((encB a b c l ++ more).drop 6).take 2 = numB l.length 2 := rfl
  have e2 : (encB a b c l ++ more).take 1 = numB a 1 := rfl
  have e3 : ((encB a b c l ++ more).drop 1).take 1 = numB b 1 := rfl
  have e4 : ((encB a b c l ++ more).drop 2).take 4 = numB c 4 := rfl
  have e5 : (encB a b c l ++ more).drop 8 = l ++ more := rfl
  have m1 : leN (numB l.length 2) = l.length := by rw [leN_numB]; exact Nat.mod_eq_of_lt (by omega)
  have m2 : leN (numB a 1) = a := by rw [leN_numB]; exact Nat.mod_eq_of_lt (by omega)
  have m3 : leN (numB b 1) = b := by rw [leN_numB]; exact Nat.mod_eq_of_lt (by omega)
  have m4 : leN (numB c 4) = c := by rw [leN_numB]; exact Nat.mod_eq_of_lt (by omega)
  have eX : decX (encB a b c l ++ more) = ⟨a, b, c, l⟩ := by
    unfold decX
    rw [e1, e2, e3, e4, e5, m1, m2, m3, m4, List.take_left']
    rfl
  refine ⟨?_, eX, ?_⟩
  · unfold decE
    rw [eX, e1, m1, if_neg]
    · exact h
    · simp only [encB, List.length_append, numB_length]; omega
  · rw [e1, m1, ← List.drop_drop, e5, List.drop_left']
    rfl
/-- What was decoded is encoded. -/
theorem enc_dec {b : List UInt8} (h : decE b = 0) : chk (decX b).k (decX b).t (decX b).c (decX b).l = 0 ∧ encB (decX b).k (decX b).t (decX b).c (decX b).l ++ b.drop (8 + leN ((b.drop 6).take 2)) = b := by
  unfold decE at h
  split at h
  · cases h
  · rename_i hs
    refine ⟨h, ?_⟩
    have t1 : (b.take 1).length = 1 := by rw [List.length_take]; omega
    have t2 : ((b.drop 1).take 1).length = 1 := by rw [List.length_take, List.length_drop]; omega
    have t3 : ((b.drop 2).take 4).length = 4 := by rw [List.length_take, List.length_drop]; omega
    have t4 : ((b.drop 6).take 2).length = 2 := by rw [List.length_take, List.length_drop]; omega
    have t5 : ((b.drop 8).take (leN ((b.drop 6).take 2))).length = leN ((b.drop 6).take 2) := by rw [List.length_take, List.length_drop]; omega
    have n1 := numB_leN (b.take 1)
    have n2 := numB_leN ((b.drop 1).take 1)
    have n3 := numB_leN ((b.drop 2).take 4)
    have n4 := numB_leN ((b.drop 6).take 2)
    rw [t1] at n1; rw [t2] at n2; rw [t3] at n3; rw [t4] at n4
    simp only [encB, decX, t5]
    rw [n1, n2, n3, n4]
    have d1 : b.drop 1 = (b.drop 1).take 1 ++ b.drop 2 := by
      have := (List.take_append_drop 1 (b.drop 1)).symm; rwa [List.drop_drop] at this
    have d2 : b.drop 2 = (b.drop 2).take 4 ++ b.drop 6 := by
      have := (List.take_append_drop 4 (b.drop 2)).symm; rwa [List.drop_drop] at this
    have d3 : b.drop 6 = (b.drop 6).take 2 ++ b.drop 8 := by
      have := (List.take_append_drop 2 (b.drop 6)).symm; rwa [List.drop_drop] at this
    have d4 : b.drop 8 = (b.drop 8).take (leN ((b.drop 6).take 2)) ++ b.drop (8 + leN ((b.drop 6).take 2)) := by
      have := (List.take_append_drop (leN ((b.drop 6).take 2)) (b.drop 8)).symm; rwa [List.drop_drop] at this
    simp only [List.append_assoc]
    rw [← d4, ← d3, ← d2, ← d1, List.take_append_drop]
theorem encR_ok {a b c : Int} {l : List UInt8} (h : chk a b c l = 0) : encR a b c l = rowsOfBytes (encB a b c l) := if_pos h

theorem prefix_eq {x y : It} (hx : chk x.k x.t x.c x.l = 0) (hy : chk y.k y.t y.c y.l = 0) {r : List UInt8} (h : encB y.k y.t y.c y.l = encB x.k x.t x.c x.l ++ r) : x = y := by
  have h1 := (dec_enc hx r).2.1
  have h2 := (dec_enc hy []).2.1
  rw [List.append_nil, h] at h2
  rw [h1] at h2
  exact h2
end Go.Proofs.YtfikklbaceidfaaDoor
