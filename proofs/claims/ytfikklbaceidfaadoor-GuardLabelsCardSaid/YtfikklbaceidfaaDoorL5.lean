/-
  Writing and reading lists of items: plain laws.
-/
import Derived.Test.YtfikklbaceidfaaDoorS5
namespace Go.Proofs.YtfikklbaceidfaaDoor
open Go Go.Avc Go.Proofs
set_option linter.unusedVariables false
set_option linter.unusedSimpArgs false

def flat (l : List It) : List UInt8 := (l.map encIt).flatten
theorem flat_cons (x : It) (l : List It) : flat (x :: l) = encIt x ++ flat l := rfl
theorem enc_pos (x : It) : 8 ≤ (encIt x).length := by
  unfold encIt encB
  simp only [List.length_append, numB_length]
  omega
theorem enc_le {x : It} (h : chkIt x = 0) : (encIt x).length ≤ 263 := by
  obtain ⟨_, _, _, _, _, _, _, _, _, _, h7⟩ := chk_zero h
  unfold encIt encB
  simp only [List.length_append, numB_length]
  omega
theorem dec_enc' {x : It} (h : chkIt x = 0) (more : List UInt8) : decE (encIt x ++ more) = 0 ∧ decX (encIt x ++ more) = x ∧ decR (encIt x ++ more) = more := by
  obtain ⟨k1, k2, k3⟩ := dec_enc h more
  have k1' : decE (encIt x ++ more) = 0 := k1
  refine ⟨k1, k2, ?_⟩
  unfold decR
  rw [if_pos k1']
  exact k3
theorem enc_dec' {b : List UInt8} (h : decE b = 0) : chkIt (decX b) = 0 ∧ encIt (decX b) ++ decR b = b := by
  obtain ⟨k1, k2⟩ := enc_dec h
  refine ⟨k1, ?_⟩
  unfold decR
  rw [if_pos h]
  exact k2
theorem prsA_ok : ∀ (n : Nat) (acc : List It) (b : List UInt8), (prsA n acc b).2.2 = 0 → ∃ m, prsA n acc b = (acc ++ m, -1, 0) ∧ m.length ≤ n ∧ (∀ x ∈ m, chkIt x = 0) ∧ flat m = b
  | 0, acc, b, h => by
    unfold prsA at h ⊢
    by_cases hb : b.length = 0
    · rw [if_pos hb]
      exact ⟨[], by simp, Nat.le_refl _, (fun x hx => by cases hx), (List.length_eq_zero_iff.1 hb).symm⟩
    · rw [if_neg hb] at h; cases h
  | n + 1, acc, b, h => by
    unfold prsA at h ⊢
    by_cases hb : b.length = 0
    · rw [if_pos hb]
      exact ⟨[], by simp, Nat.zero_le _, (fun x hx => by cases hx), (List.length_eq_zero_iff.1 hb).symm⟩
    · rw [if_neg hb] at h ⊢
      by_cases hd : decE b = 0
      · rw [if_pos hd] at h ⊢
        obtain ⟨m, h1, h2, h3, h4⟩ := prsA_ok n _ _ h
        obtain ⟨k1, k2⟩ := enc_dec' hd
        refine ⟨decX b :: m, by rw [h1]; simp, by simp only [List.length_cons]; omega, fun x hx => ?_, ?_⟩
        · rcases List.mem_cons.1 hx with rfl | hx
          · exact k1
          · exact h3 x hx
        · rw [flat_cons, h4, k2]
      · rw [if_neg hd] at h; exact absurd h hd
theorem prsA_enc : ∀ (m : List It) (n : Nat) (acc : List It), (∀ x ∈ m, chkIt x = 0) → prsA n acc (flat m) = if m.length ≤ n then (acc ++ m, -1, 0) else ([], ((acc.length + n : Nat) : Int), 9)
  | [], n, acc, h => by
    cases n <;> simp [prsA, flat]
  | x :: m, 0, acc, h => by
    have := enc_pos x
    rw [if_neg (by simp), flat_cons]
    unfold prsA
    rw [if_neg (by rw [List.length_append]; omega)]
    rfl
  | x :: m, n + 1, acc, h => by
    have := enc_pos x
    obtain ⟨k1, k2, k3⟩ := dec_enc' (h x (List.mem_cons_self ..)) (flat m)
    rw [flat_cons]
    unfold prsA
    rw [if_neg (by rw [List.length_append]; omega), if_pos k1, k2, k3, prsA_enc m n _ fun y hy => h y (List.mem_cons_of_mem _ hy)]
    by_cases hm : m.length ≤ n
    · rw [if_pos hm, if_pos (by simp only [List.length_cons]; omega)]; simp
    · rw [if_neg hm, if_neg (by simp only [List.length_cons]; omega)]
      simp only [List.length_append, List.length_cons, List.length_nil]
      congr 2
      omega
theorem serA_all : ∀ (l : List It) (i : Nat) (acc : List UInt8), i ≤ 1024 → (∀ x ∈ l, chkIt x = 0) → serA i acc l = if i + l.length ≤ 1024 then (acc ++ flat l, -1, 0) else ([], 1024, 9)
  | [], i, acc, hi, h => by rw [if_pos (by simpa using hi)]; simp [serA, flat]
  | x :: l, i, acc, hi, h => by
    unfold serA
    by_cases h1 : i = 1024
    · rw [if_pos h1, if_neg (by simp only [List.length_cons]; omega), h1]; rfl
    · rw [if_neg h1, if_pos (h x (List.mem_cons_self ..)), serA_all l _ _ (by omega) fun y hy => h y (List.mem_cons_of_mem _ hy)]
      by_cases hm : i + 1 + l.length ≤ 1024
      · rw [if_pos hm, if_pos (by simp only [List.length_cons]; omega), flat_cons]; simp
      · rw [if_neg hm, if_neg (by simp only [List.length_cons]; omega)]
theorem serA_ok : ∀ (l : List It) (i : Nat) (acc : List UInt8), i ≤ 1024 → (serA i acc l).2.2 = 0 → serA i acc l = (acc ++ flat l, -1, 0) ∧ i + l.length ≤ 1024 ∧ ∀ x ∈ l, chkIt x = 0
  | [], i, acc, hi, h => ⟨by simp [serA, flat], by simpa using hi, fun x hx => by cases hx⟩
  | x :: l, i, acc, hi, h => by
    unfold serA at h ⊢
    by_cases h1 : i = 1024
    · rw [if_pos h1] at h; cases h
    · rw [if_neg h1] at h ⊢
      by_cases h2 : chkIt x = 0
      · rw [if_pos h2] at h ⊢
        obtain ⟨k1, k2, k3⟩ := serA_ok l _ _ (by omega) h
        refine ⟨by rw [k1, flat_cons]; simp, by simp only [List.length_cons]; omega, fun y hy => ?_⟩
        rcases List.mem_cons.1 hy with rfl | hy
        · exact h2
        · exact k3 y hy
      · rw [if_neg h2] at h; exact absurd h h2
theorem serA_len : ∀ (l : List It) (i : Nat) (acc : List UInt8), i ≤ 1024 → acc.length ≤ 263 * i → (serA i acc l).1.length ≤ 263 * 1024
  | [], i, acc, hi, h => by show acc.length ≤ _; omega
  | x :: l, i, acc, hi, h => by
    unfold serA
    by_cases h1 : i = 1024
    · rw [if_pos h1]; exact Nat.zero_le _
    · rw [if_neg h1]
      by_cases h2 : chkIt x = 0
      · rw [if_pos h2]
        have := enc_le h2
        exact serA_len l _ _ (by omega) (by rw [List.length_append]; omega)
      · rw [if_neg h2]; exact Nat.zero_le _
theorem ser_len (l : List It) : (ser l).1.length ≤ 263 * 1024 := serA_len l 0 [] (by omega) (by simp)
/-- What was read is written as it was. -/
theorem ser_prs {b : List UInt8} (h : (prs b).2.2 = 0) : ser (prs b).1 = (b, -1, 0) := by
  obtain ⟨m, h1, h2, h3, h4⟩ := prsA_ok 1024 [] b h
  unfold prs ser
  rw [h1, List.nil_append, serA_all m 0 [] (by omega) h3, if_pos (by omega), List.nil_append, h4]
/-- What was written is read as it was. -/
theorem prs_ser {l : List It} (h : (ser l).2.2 = 0) : prs (ser l).1 = (l, -1, 0) := by
  obtain ⟨h1, h2, h3⟩ := serA_ok l 0 [] (by omega) h
  unfold prs ser
  rw [h1, List.nil_append, prsA_enc l 1024 [] h3, if_pos (by omega), List.nil_append]
theorem prs_rep {x : It} (h : chkIt x = 0) (n : Nat) : prs (flat (List.replicate n x)) = if n ≤ 1024 then (List.replicate n x, -1, 0) else ([], 1024, 9) := by
  unfold prs
  rw [prsA_enc _ _ _ (fun y hy => by rw [List.eq_of_mem_replicate hy]; exact h), List.length_replicate]
  rfl
theorem ser_rep {x : It} (h : chkIt x = 0) (n : Nat) : ser (List.replicate n x) = if n ≤ 1024 then (flat (List.replicate n x), -1, 0) else ([], 1024, 9) := by
  unfold ser
  rw [serA_all _ _ _ (by omega) (fun y hy => by rw [List.eq_of_mem_replicate hy]; exact h), List.length_replicate]
  by_cases hn : n ≤ 1024
  · rw [if_pos hn, if_pos (by omega)]; rfl
  · rw [if_neg hn, if_neg (by omega)]
theorem reps_flat (n : Nat) (x : It) : reps n (encIt x) = flat (List.replicate n x) := by
  unfold reps flat; rw [List.map_replicate]
theorem its_rows (l : List It) : itsOf (rowsIt l) = l := by
  unfold itsOf rowsIt
  rw [List.map_map]
  exact (List.map_congr_left fun x _ => rfl).trans (List.map_id _)
theorem rowsIt_length (l : List It) : (rowsIt l).length = l.length := List.length_map ..
theorem itsOf_length (l : List (List CD)) : (itsOf l).length = l.length := List.length_map ..
theorem prs_at {b : List UInt8} (h : (prs b).2.2 = 0) : (prs b).2.1 = -1 := by
  obtain ⟨m, h1, h2, h3, h4⟩ := prsA_ok 1024 [] b h
  unfold prs; rw [h1]
end Go.Proofs.YtfikklbaceidfaaDoor
