/-
  The conditions of the functions on patterns, and of two laws, are met.
-/
import Derived.Test.YtfikklbaceidfaaDoorP5
import Derived.Test.YtfikklbaceidfaaDoorL5
namespace Go.Proofs.YtfikklbaceidfaaDoor
open Go Go.Avc Go.Proofs
set_option linter.unusedVariables false
set_option linter.unusedSimpArgs false
set_option maxRecDepth 100000

theorem its_drop {l : List (List CD)} {i : Nat} (h : i < l.length) : (itsOf l).drop i = itRow (l.getD i []) :: (itsOf l).drop (i + 1) := by
  have h' : i < (itsOf l).length := by rw [itsOf_length]; exact h
  rw [List.drop_eq_getElem_cons h']
  congr 1
  simp [itsOf, h]
theorem its_take {l : List (List CD)} {i : Nat} (h : i < l.length) : (itsOf l).take (i + 1) = (itsOf l).take i ++ [itRow (l.getD i [])] := by
  have h' : i < (itsOf l).length := by rw [itsOf_length]; exact h
  rw [List.take_add_one, List.getElem?_eq_getElem h']
  congr 1
  simp [itsOf, h]
theorem eqIt_dec (a b : It) : (decide (a.k = b.k) && (decide (a.t = b.t) && (decide (a.c = b.c) && (decide (a.l = b.l) && true)))) = decide (a = b) := by
  obtain ⟨a1, a2, a3, a4⟩ := a
  obtain ⟨b1, b2, b3, b4⟩ := b
  simp only [It.mk.injEq, Bool.and_true, Bool.decide_and]
theorem decI_ok {b : List UInt8} (h : decE b = 0) : decI b = decX b := if_pos h
theorem vc14 : P14 := by
  intro l hl hp
  refine ⟨⟨⟨hp, by omega, by omega, by simp, rfl, rfl⟩, trivial⟩, ?_⟩
  rintro l' n acc hl' hacc ⟨hp2, h0, h1, h2, h3, h4⟩ _
  obtain ⟨b, rfl⟩ := isB_ex hp2.1
  rw [bytes_rows] at h4 ⊢
  rw [rows_length] at *
  refine condI (fun h => ?_) fun h => ?_
  · simp only [decide_eq_true_eq] at h
    have hb : b.length ≠ 0 := by omega
    refine condI (fun h5 => ?_) fun h5 => ?_
    · simp only [decide_eq_true_eq] at h5
      rw [h4, show 1024 - acc.length = 0 from by omega, prsA, if_neg hb]
      exact ⟨by rw [itsOf_length]; exact h2, rfl, rfl⟩
    · simp only [decide_eq_false_iff_not] at h5
      obtain ⟨k, hk⟩ : ∃ k, 1024 - acc.length = k + 1 := ⟨1023 - acc.length, by omega⟩
      rw [hk, prsA, if_neg hb] at h4
      refine ⟨hp2, condI (fun h6 => ?_) fun h6 => ?_⟩
      · simp only [ne_eq, decide_not, Bool.not_eq_true', decide_eq_false_iff_not] at h6
        rw [h4, if_neg h6]
        exact ⟨by rw [itsOf_length]; exact h2, rfl, rfl⟩
      · simp only [ne_eq, decide_not, Bool.not_eq_false', decide_eq_true_eq] at h6
        rw [if_pos h6] at h4
        have hl2 := hp2.2
        rw [rows_length] at hl2
        have hd : (decR b).length ≤ b.length := by unfold decR; rw [if_pos h6, List.length_drop]; omega
        refine ⟨⟨by omega, by omega⟩, ⟨by omega, by omega⟩, ⟨⟨isB_rows _, by rw [rows_length]; omega⟩, by omega, by omega, by simp only [List.length_append, List.length_cons, List.length_nil]; omega, ?_, ?_⟩, by omega⟩
        · conv => lhs; rw [h3]
          simp only [itsOf, rowsIt, List.map_append, List.map_cons, List.map_nil]
          rfl
        · rw [h4, bytes_rows, List.length_append, List.length_cons, List.length_nil, show 1024 - (acc.length + (0 + 1)) = k from by omega, ← decI_ok h6]
          simp only [itsOf, List.map_append, List.map_cons, List.map_nil]
          rfl
  · simp only [decide_eq_false_iff_not] at h
    have hb : b.length = 0 := by omega
    have e : prs (bytesOfRows l) = (itsOf acc, -1, 0) := by
      rw [h4]
      cases 1024 - acc.length <;> rw [prsA, if_pos hb]
    rw [e]
    exact ⟨rfl, rfl, h3⟩
theorem ok14 : SpecOk (base.with sp22) 14 (mkF ct14) := spec_ct (fn := Tryd.f14) (c := bodyOf Tryd.f14) (k := Tryd.f14.ntmps - ct14.ps.length) (ct := ct14) c22 Tryd.func14 (by kernel_rfl) ann14 (by kernel_rfl) (fun vs w _ => Tryd.call14 vs w) (e14.mpr vc14)
theorem c14 : (base.with sp14).Ok := addS_ok c22 ok14




theorem isB_app {a b : List (List CD)} (h : isB a) (k : isB b) : isB (a ++ b) := by
  obtain ⟨x, rfl⟩ := isB_ex h
  obtain ⟨y, rfl⟩ := isB_ex k
  rw [← rows_append]
  exact isB_rows _
theorem ser_done {l : List (List CD)} {i : Nat} {acc : List UInt8} (h : ser (itsOf l) = serA i acc ((itsOf l).drop i)) (hi : l.length ≤ i) : ser (itsOf l) = (acc, -1, 0) := by
  rw [h, List.drop_eq_nil_of_le (by rw [itsOf_length]; exact hi)]
  cases i <;> rfl
theorem ser_many {l : List (List CD)} {acc : List UInt8} {i : Nat} (h : ser (itsOf l) = serA i acc ((itsOf l).drop i)) (hi : i < l.length) (h2 : i = 1024) : ser (itsOf l) = ([], 1024, 9) := by
  rw [h, its_drop hi, serA, if_pos h2, h2]; rfl
theorem ser_bad {l : List (List CD)} {acc : List UInt8} {i : Nat} (h : ser (itsOf l) = serA i acc ((itsOf l).drop i)) (hi : i < l.length) (h2 : i ≠ 1024) (h3 : chkIt (itRow (l.getD i [])) ≠ 0) : ser (itsOf l) = ([], (i : Int), chkIt (itRow (l.getD i []))) := by
  rw [h, its_drop hi, serA, if_neg h2, if_neg h3]
theorem ser_next {l : List (List CD)} {acc : List UInt8} {i : Nat} (h : ser (itsOf l) = serA i acc ((itsOf l).drop i)) (hi : i < l.length) (h2 : i ≠ 1024) (h3 : chkIt (itRow (l.getD i [])) = 0) : ser (itsOf l) = serA (i + 1) (acc ++ encIt (itRow (l.getD i []))) ((itsOf l).drop (i + 1)) := by
  rw [h, its_drop hi, serA, if_neg h2, if_pos h3]
theorem encR_it {x : It} (h : chkIt x = 0) : encR x.k x.t x.c x.l = rowsOfBytes (encIt x) := encR_ok h

theorem vc5 : P5 := by
  intro l hl hp
  unfold preL at hp
  refine ⟨⟨⟨rfl, rfl, by omega, by omega, by omega, by simp, rfl, rfl⟩, trivial⟩, ?_⟩
  rintro l' i acc hl' hacc ⟨rfl, h0, h1, h2, h3, h4, h5, h6⟩ _
  obtain ⟨a, rfl⟩ := isB_ex h5
  rw [bytes_rows] at h6
  rw [rows_length] at *
  refine condI (fun h => ?_) fun h => ?_
  · simp only [decide_eq_true_eq] at h
    have hlt : i.toNat < l'.length := by omega
    refine condI (fun h7 => ?_) fun h7 => ⟨⟨by omega, by omega⟩, hlt, trivial, condI (fun h8 => ?_) fun h8 => ?_⟩
    · simp only [decide_eq_true_eq] at h7
      rw [ser_many h6 hlt (by omega)]
      exact ⟨h7, rfl, rfl⟩
    · simp only [decide_eq_false_iff_not] at h7
      have h8' : chkIt (itRow (l'.getD i.toNat [])) ≠ 0 := of_decide_eq_true h8
      rw [ser_bad h6 hlt (by omega) h8']
      exact ⟨by show i = (i.toNat : Int); omega, rfl, rfl⟩
    · simp only [decide_eq_false_iff_not] at h7
      have h8' : chkIt (itRow (l'.getD i.toNat [])) = 0 := Decidable.not_not.1 (of_decide_eq_false h8)
      have e := encR_it h8'
      have k1 := enc_le h8'
      change encR ((l'.getD i.toNat []).getD 0 (CD.int 0)).toInt ((l'.getD i.toNat []).getD 1 (CD.int 0)).toInt ((l'.getD i.toNat []).getD 2 (CD.int 0)).toInt ((l'.getD i.toNat []).getD 3 (CD.int 0)).toStr = _ at e
      rw [e, rows_length]
      refine ⟨⟨by omega, by omega⟩, ⟨by omega, by omega⟩, ⟨rfl, rfl, by omega, by omega, by omega, ?_, ?_, ?_⟩, by omega⟩
      · rw [List.length_append, rows_length, rows_length]; omega
      · rw [← rows_append]; exact isB_rows _
      · rw [← rows_append, bytes_rows, show (i + 1).toNat = i.toNat + 1 from by omega, ser_next h6 hlt (by omega) h8']
  · simp only [decide_eq_false_iff_not] at h
    rw [ser_done h6 (by omega)]
    exact ⟨rfl, rfl, rfl⟩
theorem ok5 : SpecOk (base.with sp14) 5 (mkF ct5) := spec_ct (fn := Tryd.f5) (c := bodyOf Tryd.f5) (k := Tryd.f5.ntmps - ct5.ps.length) (ct := ct5) c14 Tryd.func5 (by kernel_rfl) ann5 (by kernel_rfl) (fun vs w _ => Tryd.call5 vs w) (e5.mpr vc5)
theorem c5 : (base.with sp5).Ok := addS_ok c14 ok5



theorem pref_step {x y : List (List CD)} {i : Nat} (h : i < y.length) (h2 : i < x.length) : prefIt ((itsOf x).drop i) ((itsOf y).drop i) = (sameIt (itRow (x.getD i [])) (itRow (y.getD i [])) && prefIt ((itsOf x).drop (i + 1)) ((itsOf y).drop (i + 1))) := by
  rw [its_drop h, its_drop h2, prefIt]
theorem pref_over {x y : List (List CD)} {i : Nat} (h : i < y.length) (h2 : x.length ≤ i) : prefIt ((itsOf x).drop i) ((itsOf y).drop i) = false := by
  rw [its_drop h, List.drop_eq_nil_of_le (by rw [itsOf_length]; exact h2), prefIt]
theorem pref_nil (x : List It) : prefIt x [] = true := by cases x <;> rfl


theorem prs_len (b : List UInt8) : (prs b).1.length ≤ 1024 := by
  suffices h : ∀ n acc b, acc.length + n ≤ 1024 → (prsA n acc b).1.length ≤ 1024 from h 1024 [] b (by simp)
  intro n
  induction n with
  | zero => intro acc b h; unfold prsA; split <;> simp_all
  | succ n ih =>
    intro acc b h
    unfold prsA
    split
    · show acc.length ≤ _; omega
    · split
      · exact ih _ _ (by simp only [List.length_append, List.length_cons, List.length_nil]; omega)
      · exact Nat.zero_le _

end Go.Proofs.YtfikklbaceidfaaDoor
