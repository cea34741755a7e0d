/-
  The conditions of the functions on patterns, and of two laws, are met.
-/
import Derived.Test.YtfikklbaceidfaaP5
import Derived.Test.YtfikklbaceidfaaL5
namespace Go.Proofs.Ytfikklbaceidfaa
open Go Go.Avc Go.Proofs
set_option linter.unusedVariables false
set_option linter.unusedSimpArgs false
set_option maxRecDepth 100000

theorem its_drop {l : List (List CD)} {i : Nat} (h : i < l.length) : (itsOf l).drop i = itRow (l.getD i []) :: (itsOf l).drop (i + 1) := by
  have h' : i < (itsOf l).length := by rw [itsOf_length]; exact h
  rw [List.drop_eq_getElem_cons h']
  congr 1
  simp [itsOf, h]
theorem its_take {l : List (List CD)} {i : Nat} (h : i < l.length) : (itsOf l).take (i + 1) = (itsOf l).take i ++ [itRow (l.getD i [])] := by
  have h' : i < (itsOf l).length := by rw [itsOf_length]; exact h
  rw [List.take_add_one, List.getElem?_eq_getElem h']
  congr 1
  simp [itsOf, h]
theorem eqIt_dec (a b : It) : (decide (a.k = b.k) && (decide (a.t = b.t) && (decide (a.c = b.c) && (decide (a.l = b.l) && true)))) = decide (a = b) := by
  obtain ⟨a1, a2, a3, a4⟩ := a
  obtain ⟨b1, b2, b3, b4⟩ := b
  simp only [It.mk.injEq, Bool.and_true, Bool.decide_and]
theorem decI_ok {b : List UInt8} (h : decE b = 0) : decI b = decX b := if_pos h
theorem c6 : (base.with sp6).Ok := addS_ok c5 ok6
theorem vc24 : P24 := by
  intro l hl hp
  refine ⟨⟨⟨hp, by omega, by omega, by simp, rfl, rfl⟩, trivial⟩, ?_⟩
  rintro l' n acc hl' hacc ⟨hp2, h0, h1, h2, h3, h4⟩ _
  obtain ⟨b, rfl⟩ := isB_ex hp2.1
  rw [bytes_rows] at h4 ⊢
  rw [rows_length] at *
  refine condI (fun h => ?_) fun h => ?_
  · simp only [decide_eq_true_eq] at h
    have hb : b.length ≠ 0 := by omega
    refine condI (fun h5 => ?_) fun h5 => ?_
    · simp only [decide_eq_true_eq] at h5
      rw [h4, show 1024 - acc.length = 0 from by omega, prsA, if_neg hb]
      exact ⟨by rw [itsOf_length]; exact h2, rfl, rfl⟩
    · simp only [decide_eq_false_iff_not] at h5
      obtain ⟨k, hk⟩ : ∃ k, 1024 - acc.length = k + 1 := ⟨1023 - acc.length, by omega⟩
      rw [hk, prsA, if_neg hb] at h4
      refine ⟨hp2, condI (fun h6 => ?_) fun h6 => ?_⟩
      · simp only [ne_eq, decide_not, Bool.not_eq_true', decide_eq_false_iff_not] at h6
        rw [h4, if_neg h6]
        exact ⟨by rw [itsOf_length]; exact h2, rfl, rfl⟩
      · simp only [ne_eq, decide_not, Bool.not_eq_false', decide_eq_true_eq] at h6
        rw [if_pos h6] at h4
        have hl2 := hp2.2
        rw [rows_length] at hl2
        have hd : (decR b).length ≤ b.length := by unfold decR; rw [if_pos h6, List.length_drop]; omega
        refine ⟨⟨by simp only [List.length_cons, List.length_nil]; omega, by simp only [List.length_cons, List.length_nil]; omega⟩, ⟨by omega, by omega⟩, ⟨⟨isB_rows _, by rw [rows_length]; omega⟩, by omega, by omega, by simp only [List.length_append, List.length_cons, List.length_nil]; omega, ?_, ?_⟩, by omega⟩
        · conv => lhs; rw [h3]
          simp only [itsOf, rowsIt, List.map_append, List.map_cons, List.map_nil]
          rfl
        · rw [h4, bytes_rows, List.length_append, List.length_cons, List.length_nil, show 1024 - (acc.length + (0 + 1)) = k from by omega, ← decI_ok h6]
          simp only [itsOf, List.map_append, List.map_cons, List.map_nil]
          rfl
  · simp only [decide_eq_false_iff_not] at h
    have hb : b.length = 0 := by omega
    have e : prs (bytesOfRows l) = (itsOf acc, -1, 0) := by
      rw [h4]
      cases 1024 - acc.length <;> rw [prsA, if_pos hb]
    rw [e]
    exact ⟨rfl, rfl, h3⟩
theorem ok24 : SpecOk (base.with sp6) 24 (mkF ct24) := spec_ct (fn := Try.f24) (c := bodyOf Try.f24) (k := Try.f24.ntmps - ct24.ps.length) (ct := ct24) c6 Try.func24 (by kernel_rfl) ann24 (by kernel_rfl) (fun vs w _ => Try.call24 vs w) (e24.mpr vc24)
theorem c24 : (base.with sp24).Ok := addS_ok c6 ok24

theorem vc25 : P25 := by
  intro l hl hp
  refine ⟨⟨⟨hp, by simp, rfl, rfl⟩, trivial⟩, ?_⟩
  rintro l' acc hl' hacc ⟨hp2, h1, h3, h4⟩ _
  obtain ⟨b, rfl⟩ := isB_ex hp2.1
  rw [bytes_rows] at h4 ⊢
  rw [rows_length] at *
  refine condI (fun h _ => ?_) fun h => ?_
  · simp only [decide_eq_true_eq] at h
    have hb : b.length ≠ 0 := by omega
    refine condI (fun h5 _ => ?_) fun h5 => ?_
    · simp only [decide_eq_true_eq] at h5
      rw [h4, show 1024 - acc.length = 0 from by omega, prsA, if_neg hb]
      exact ⟨by rw [itsOf_length], rfl, rfl⟩
    · simp only [decide_eq_false_iff_not] at h5
      obtain ⟨k, hk⟩ : ∃ k, 1024 - acc.length = k + 1 := ⟨1023 - acc.length, by omega⟩
      rw [hk, prsA, if_neg hb] at h4
      refine ⟨hp2, condI (fun h6 _ => ?_) fun h6 => ?_⟩
      · simp only [ne_eq, decide_not, Bool.not_eq_true', decide_eq_false_iff_not] at h6
        rw [h4, if_neg h6]
        exact ⟨by rw [itsOf_length], rfl, rfl⟩
      · simp only [ne_eq, decide_not, Bool.not_eq_false', decide_eq_true_eq] at h6
        rw [if_pos h6] at h4
        have hl2 := hp2.2
        rw [rows_length] at hl2
        have hd : (decR b).length ≤ b.length := by unfold decR; rw [if_pos h6, List.length_drop]; omega
        refine ⟨⟨by simp only [List.length_cons, List.length_nil]; omega, by simp only [List.length_cons, List.length_nil]; omega⟩, ⟨⟨isB_rows _, by rw [rows_length]; omega⟩, by simp only [List.length_append, List.length_cons, List.length_nil]; omega, ?_, ?_⟩, ?_⟩
        · conv => lhs; rw [h3]
          simp only [itsOf, rowsIt, List.map_append, List.map_cons, List.map_nil]
          rfl
        · rw [h4, bytes_rows, List.length_append, List.length_cons, List.length_nil, show 1024 - (acc.length + (0 + 1)) = k from by omega, ← decI_ok h6]
          simp only [itsOf, List.map_append, List.map_cons, List.map_nil]
          rfl
        · simp only [List.length_append, List.length_cons, List.length_nil]
          show 1025 - (acc.length + (0 + 1)) < 1025 - acc.length
          omega
  · simp only [decide_eq_false_iff_not] at h
    have hb : b.length = 0 := by omega
    have e : prs (bytesOfRows l) = (itsOf acc, -1, 0) := by
      rw [h4]
      cases 1024 - acc.length <;> rw [prsA, if_pos hb]
    rw [e]
    exact ⟨rfl, rfl, h3⟩
theorem ok25 : SpecOk (base.with sp24) 25 (mkF ct25) := spec_ct (fn := Try.f25) (c := bodyOf Try.f25) (k := Try.f25.ntmps - ct25.ps.length) (ct := ct25) c24 Try.func25 (by kernel_rfl) ann25 (by kernel_rfl) (fun vs w _ => Try.call25 vs w) (e25.mpr vc25)
theorem c25 : (base.with sp25).Ok := addS_ok c24 ok25

theorem vc26 : P26 := by
  intro x y hx hy _ _ _
  refine condI (fun h => ?_) fun h => ?_
  · simp only [ne_eq, decide_not, Bool.not_eq_true', decide_eq_false_iff_not] at h
    refine (decide_eq_false fun e => h ?_).symm
    have := congrArg List.length e
    rw [itsOf_length, itsOf_length] at this
    omega
  · simp only [ne_eq, decide_not, Bool.not_eq_false', decide_eq_true_eq] at h
    refine ⟨⟨⟨rfl, rfl, by omega, by omega, by omega, by simp⟩, trivial⟩, ?_⟩
    rintro x' y' n _ _ ⟨rfl, rfl, h1, h2, h3, h4⟩ _
    refine condI (fun h5 => ?_) fun h5 => ?_
    · simp only [decide_eq_true_eq] at h5
      have hlt : n.toNat < x'.length := by omega
      have hlt2 : n.toNat < y'.length := by omega
      refine ⟨⟨by omega, by omega⟩, hlt, ⟨by omega, by omega⟩, hlt2, condI (fun h6 => ?_) fun h6 => ?_⟩
      · have h6' : (!decide (itRow (x'.getD n.toNat []) = itRow (y'.getD n.toNat []))) = true := by rw [← eqIt_dec]; exact h6
        simp only [Bool.not_eq_true', decide_eq_false_iff_not] at h6'
        refine (decide_eq_false fun e => h6' ?_).symm
        have := its_drop hlt
        rw [e, its_drop hlt2] at this
        exact (List.cons.inj this).1.symm
      · have h6' : (!decide (itRow (x'.getD n.toNat []) = itRow (y'.getD n.toNat []))) = false := by rw [← eqIt_dec]; exact h6
        simp only [Bool.not_eq_false', decide_eq_true_eq] at h6'
        refine ⟨⟨by omega, by omega⟩, ⟨rfl, rfl, h1, by omega, by omega, ?_⟩, by omega⟩
        rw [show (n + 1).toNat = n.toNat + 1 from by omega, its_take hlt, its_take hlt2, h4, h6']
    · simp only [decide_eq_false_iff_not] at h5
      refine (decide_eq_true ?_).symm
      rw [List.take_of_length_le (by rw [itsOf_length]; omega), List.take_of_length_le (by rw [itsOf_length]; omega)] at h4
      exact h4
theorem ok26 : SpecOk (base.with sp25) 26 (mkF ct26) := spec_ct (fn := Try.f26) (c := bodyOf Try.f26) (k := Try.f26.ntmps - ct26.ps.length) (ct := ct26) c25 Try.func26 (by kernel_rfl) ann26 (by kernel_rfl) (fun vs w _ => Try.call26 vs w) (e26.mpr vc26)
theorem c26 : (base.with sp26).Ok := addS_ok c25 ok26

theorem vc27 : P27 := by
  intro l hl hp _
  unfold preL at hp
  refine ⟨⟨⟨rfl, rfl, by omega, by omega, by simp [rowsIt]⟩, trivial⟩, ?_⟩
  rintro l' n i acc hl' hacc ⟨rfl, rfl, h1, h2, h3⟩
  refine condI (fun h => ?_) fun h => ?_
  · simp only [decide_eq_true_eq] at h
    have hlt : i.toNat < l'.length := by omega
    have hlen : acc.length = i.toNat := by rw [h3, rowsIt_length, List.length_take, itsOf_length]; omega
    refine ⟨⟨by omega, by omega⟩, hlt, trivial, ⟨by simp only [List.length_cons, List.length_nil]; omega, by simp only [List.length_cons, List.length_nil]; omega⟩, ⟨by omega, by omega⟩, ⟨rfl, rfl, by omega, by omega, ?_⟩, by omega⟩
    rw [show (i + 1).toNat = i.toNat + 1 from by omega, its_take hlt, h3]
    simp only [rowsIt, List.map_append, List.map_cons, List.map_nil]
    rfl
  · simp only [decide_eq_false_iff_not] at h
    rw [h3, List.take_of_length_le (by rw [itsOf_length]; omega)]
theorem ok27 : SpecOk (base.with sp26) 27 (mkF ct27) := spec_ct (fn := Try.f27) (c := bodyOf Try.f27) (k := Try.f27.ntmps - ct27.ps.length) (ct := ct27) c26 Try.func27 (by kernel_rfl) ann27 (by kernel_rfl) (fun vs w _ => Try.call27 vs w) (e27.mpr vc27)
theorem c27 : (base.with sp27).Ok := addS_ok c26 ok27

theorem isB_app {a b : List (List CD)} (h : isB a) (k : isB b) : isB (a ++ b) := by
  obtain ⟨x, rfl⟩ := isB_ex h
  obtain ⟨y, rfl⟩ := isB_ex k
  rw [← rows_append]
  exact isB_rows _
theorem ser_done {l : List (List CD)} {i : Nat} {acc : List UInt8} (h : ser (itsOf l) = serA i acc ((itsOf l).drop i)) (hi : l.length ≤ i) : ser (itsOf l) = (acc, -1, 0) := by
  rw [h, List.drop_eq_nil_of_le (by rw [itsOf_length]; exact hi)]
  cases i <;> rfl
theorem ser_many {l : List (List CD)} {acc : List UInt8} {i : Nat} (h : ser (itsOf l) = serA i acc ((itsOf l).drop i)) (hi : i < l.length) (h2 : i = 1024) : ser (itsOf l) = ([], 1024, 9) := by
  rw [h, its_drop hi, serA, if_pos h2, h2]; rfl
theorem ser_bad {l : List (List CD)} {acc : List UInt8} {i : Nat} (h : ser (itsOf l) = serA i acc ((itsOf l).drop i)) (hi : i < l.length) (h2 : i ≠ 1024) (h3 : chkIt (itRow (l.getD i [])) ≠ 0) : ser (itsOf l) = ([], (i : Int), chkIt (itRow (l.getD i []))) := by
  rw [h, its_drop hi, serA, if_neg h2, if_neg h3]
theorem ser_next {l : List (List CD)} {acc : List UInt8} {i : Nat} (h : ser (itsOf l) = serA i acc ((itsOf l).drop i)) (hi : i < l.length) (h2 : i ≠ 1024) (h3 : chkIt (itRow (l.getD i [])) = 0) : ser (itsOf l) = serA (i + 1) (acc ++ encIt (itRow (l.getD i []))) ((itsOf l).drop (i + 1)) := by
  rw [h, its_drop hi, serA, if_neg h2, if_pos h3]
theorem encR_it {x : It} (h : chkIt x = 0) : encR x.k x.t x.c x.l = rowsOfBytes (encIt x) := encR_ok h
theorem vc28 : P28 := by
  intro l hl hp _
  unfold preL at hp
  refine ⟨⟨⟨rfl, rfl, by omega, by omega, by omega, by simp, rfl, rfl⟩, trivial⟩, ?_⟩
  rintro l' n i acc hl' hacc ⟨rfl, rfl, h1, h2, h3, h4, h5, h6⟩
  obtain ⟨a, rfl⟩ := isB_ex h5
  rw [bytes_rows] at h6
  rw [rows_length] at *
  refine condI (fun h => ?_) fun h => ?_
  · simp only [decide_eq_true_eq] at h
    have hlt : i.toNat < l'.length := by omega
    refine ⟨⟨by omega, by omega⟩, hlt, condI (fun h7 => ?_) fun h7 => ⟨trivial, condI (fun h8 => ?_) fun h8 => ?_⟩⟩
    · simp only [decide_eq_true_eq] at h7
      rw [ser_many h6 hlt (by omega)]
      exact ⟨h7, rfl, rfl⟩
    · simp only [decide_eq_false_iff_not] at h7
      have h8' : chkIt (itRow (l'.getD i.toNat [])) ≠ 0 := of_decide_eq_true h8
      rw [ser_bad h6 hlt (by omega) h8']
      exact ⟨by show i = (i.toNat : Int); omega, rfl, rfl⟩
    · simp only [decide_eq_false_iff_not] at h7
      have h8' : chkIt (itRow (l'.getD i.toNat [])) = 0 := Decidable.not_not.1 (of_decide_eq_false h8)
      have e := encR_it h8'
      have k1 := enc_le h8'
      change encR ((l'.getD i.toNat []).getD 0 (CD.int 0)).toInt ((l'.getD i.toNat []).getD 1 (CD.int 0)).toInt ((l'.getD i.toNat []).getD 2 (CD.int 0)).toInt ((l'.getD i.toNat []).getD 3 (CD.int 0)).toStr = _ at e
      rw [e, rows_length]
      refine ⟨⟨by omega, by omega⟩, ⟨by omega, by omega⟩, ⟨rfl, rfl, by omega, by omega, by omega, ?_, ?_, ?_⟩, by omega⟩
      · rw [List.length_append, rows_length, rows_length]; omega
      · rw [← rows_append]; exact isB_rows _
      · rw [← rows_append, bytes_rows, show (i + 1).toNat = i.toNat + 1 from by omega, ser_next h6 hlt (by omega) h8']
  · simp only [decide_eq_false_iff_not] at h
    rw [ser_done h6 (by omega)]
    exact ⟨rfl, rfl, rfl⟩
theorem ok28 : SpecOk (base.with sp27) 28 (mkF ct28) := spec_ct (fn := Try.f28) (c := bodyOf Try.f28) (k := Try.f28.ntmps - ct28.ps.length) (ct := ct28) c27 Try.func28 (by kernel_rfl) ann28 (by kernel_rfl) (fun vs w _ => Try.call28 vs w) (e28.mpr vc28)
theorem c28 : (base.with sp28).Ok := addS_ok c27 ok28

theorem vc30 : P30 := by
  intro l hl hp
  unfold preL at hp
  refine ⟨⟨⟨rfl, rfl, by omega, by omega, by omega, by simp, rfl, rfl⟩, trivial⟩, ?_⟩
  rintro l' i acc hl' hacc ⟨rfl, h0, h1, h2, h3, h4, h5, h6⟩ _
  obtain ⟨a, rfl⟩ := isB_ex h5
  rw [bytes_rows] at h6
  rw [rows_length] at *
  refine condI (fun h => ?_) fun h => ?_
  · simp only [decide_eq_true_eq] at h
    have hlt : i.toNat < l'.length := by omega
    refine condI (fun h7 => ?_) fun h7 => ⟨⟨by omega, by omega⟩, hlt, trivial, condI (fun h8 => ?_) fun h8 => ?_⟩
    · simp only [decide_eq_true_eq] at h7
      rw [ser_many h6 hlt (by omega)]
      exact ⟨h7, rfl, rfl⟩
    · simp only [decide_eq_false_iff_not] at h7
      have h8' : chkIt (itRow (l'.getD i.toNat [])) ≠ 0 := of_decide_eq_true h8
      rw [ser_bad h6 hlt (by omega) h8']
      exact ⟨by show i = (i.toNat : Int); omega, rfl, rfl⟩
    · simp only [decide_eq_false_iff_not] at h7
      have h8' : chkIt (itRow (l'.getD i.toNat [])) = 0 := Decidable.not_not.1 (of_decide_eq_false h8)
      have e := encR_it h8'
      have k1 := enc_le h8'
      change encR ((l'.getD i.toNat []).getD 0 (CD.int 0)).toInt ((l'.getD i.toNat []).getD 1 (CD.int 0)).toInt ((l'.getD i.toNat []).getD 2 (CD.int 0)).toInt ((l'.getD i.toNat []).getD 3 (CD.int 0)).toStr = _ at e
      rw [e, rows_length]
      refine ⟨⟨by omega, by omega⟩, ⟨by omega, by omega⟩, ⟨rfl, rfl, by omega, by omega, by omega, ?_, ?_, ?_⟩, by omega⟩
      · rw [List.length_append, rows_length, rows_length]; omega
      · rw [← rows_append]; exact isB_rows _
      · rw [← rows_append, bytes_rows, show (i + 1).toNat = i.toNat + 1 from by omega, ser_next h6 hlt (by omega) h8']
  · simp only [decide_eq_false_iff_not] at h
    rw [ser_done h6 (by omega)]
    exact ⟨rfl, rfl, rfl⟩
theorem ok30 : SpecOk (base.with sp28) 30 (mkF ct30) := spec_ct (fn := Try.f30) (c := bodyOf Try.f30) (k := Try.f30.ntmps - ct30.ps.length) (ct := ct30) c28 Try.func30 (by kernel_rfl) ann30 (by kernel_rfl) (fun vs w _ => Try.call30 vs w) (e30.mpr vc30)
theorem c30 : (base.with sp30).Ok := addS_ok c28 ok30

theorem vc35 : P35 := by
  intro l hl hp _
  unfold preL at hp
  refine ⟨⟨⟨rfl, rfl, by omega, by omega, by simp [rowsIt]⟩, trivial⟩, ?_⟩
  rintro l' n i acc hl' hacc ⟨rfl, rfl, h1, h2, h3⟩
  refine condI (fun h => ?_) fun h => ?_
  · simp only [decide_eq_true_eq] at h
    have hlt : i.toNat < l'.length := by omega
    have hlen : acc.length = i.toNat := by rw [h3, rowsIt_length, List.length_take, itsOf_length]; omega
    refine ⟨⟨by omega, by omega⟩, hlt, trivial, ⟨by simp only [List.length_cons, List.length_nil]; omega, by simp only [List.length_cons, List.length_nil]; omega⟩, ⟨by omega, by omega⟩, ⟨rfl, rfl, by omega, by omega, ?_⟩, by omega⟩
    rw [show (i + 1).toNat = i.toNat + 1 from by omega, its_take hlt, h3]
    simp only [rowsIt, List.map_append, List.map_cons, List.map_nil]
    rfl
  · simp only [decide_eq_false_iff_not] at h
    rw [h3, List.take_of_length_le (by rw [itsOf_length]; omega)]
theorem ok35 : SpecOk (base.with sp30) 35 (mkF ct35) := spec_ct (fn := Try.f35) (c := bodyOf Try.f35) (k := Try.f35.ntmps - ct35.ps.length) (ct := ct35) c30 Try.func35 (by kernel_rfl) ann35 (by kernel_rfl) (fun vs w _ => Try.call35 vs w) (e35.mpr vc35)
theorem c35 : (base.with sp35).Ok := addS_ok c30 ok35

theorem vc49 : P49 := by
  intro a b c l a' b' c' l' _ _ _
  simp [sameB, Bool.and_assoc]
theorem ok49 : SpecOk (base.with sp35) 49 (mkF ct49) := spec_ct (fn := Try.f49) (c := bodyOf Try.f49) (k := Try.f49.ntmps - ct49.ps.length) (ct := ct49) c35 Try.func49 (by kernel_rfl) noAnn (by kernel_rfl) (fun vs w _ => Try.call49 vs w) (e49.mpr vc49)
theorem c49 : (base.with sp49).Ok := addS_ok c35 ok49

theorem pref_step {x y : List (List CD)} {i : Nat} (h : i < y.length) (h2 : i < x.length) : prefIt ((itsOf x).drop i) ((itsOf y).drop i) = (sameIt (itRow (x.getD i [])) (itRow (y.getD i [])) && prefIt ((itsOf x).drop (i + 1)) ((itsOf y).drop (i + 1))) := by
  rw [its_drop h, its_drop h2, prefIt]
theorem pref_over {x y : List (List CD)} {i : Nat} (h : i < y.length) (h2 : x.length ≤ i) : prefIt ((itsOf x).drop i) ((itsOf y).drop i) = false := by
  rw [its_drop h, List.drop_eq_nil_of_le (by rw [itsOf_length]; exact h2), prefIt]
theorem pref_nil (x : List It) : prefIt x [] = true := by cases x <;> rfl
theorem vc32 : P32 := by
  intro x y hx hy _
  refine ⟨⟨⟨rfl, rfl, by omega, by omega, by omega, rfl⟩, trivial⟩, ?_⟩
  rintro x' y' n _ _ ⟨rfl, rfl, h1, h2, h3, h4⟩ _
  refine condI (fun h5 => ?_) fun h5 => ?_
  · simp only [decide_eq_true_eq] at h5
    have hlt : n.toNat < y'.length := by omega
    simp only [Bool.not_eq_true', decide_eq_false_iff_not]
    refine ⟨fun _ => ⟨by omega, by omega⟩, fun _ => by omega, fun _ => ⟨by omega, by omega⟩, fun _ => hlt, fun _ => trivial, condI (fun h6 => ?_) fun h6 => ?_⟩
    · rw [h4]
      rcases Nat.lt_or_ge n.toNat x'.length with hx2 | hx2
      · rw [pref_step hlt hx2]
        have h6' : (decide ((x'.length : Int) ≤ n) || !sameIt (itRow (x'.getD n.toNat [])) (itRow (y'.getD n.toNat []))) = true := h6
        rw [decide_eq_false (by omega)] at h6'
        simp only [Bool.false_or, Bool.not_eq_true'] at h6'
        rw [h6']; rfl
      · rw [pref_over hlt hx2]
    · have h6' : (decide ((x'.length : Int) ≤ n) || !sameIt (itRow (x'.getD n.toNat [])) (itRow (y'.getD n.toNat []))) = false := h6
      simp only [Bool.or_eq_false_iff, decide_eq_false_iff_not, Bool.not_eq_false'] at h6'
      refine ⟨⟨by omega, by omega⟩, ⟨rfl, rfl, by omega, by omega, by omega, ?_⟩, by omega⟩
      rw [h4, pref_step hlt (by omega), h6'.2, show (n + 1).toNat = n.toNat + 1 from by omega]; rfl
  · simp only [decide_eq_false_iff_not] at h5
    have hn : (itsOf y').drop n.toNat = [] := List.drop_eq_nil_of_le (by rw [itsOf_length]; omega)
    rw [h4, hn, pref_nil]
theorem ok32 : SpecOk (base.with sp49) 32 (mkF ct32) := spec_ct (fn := Try.f32) (c := bodyOf Try.f32) (k := Try.f32.ntmps - ct32.ps.length) (ct := ct32) c49 Try.func32 (by kernel_rfl) ann32 (by kernel_rfl) (fun vs w _ => Try.call32 vs w) (e32.mpr vc32)
theorem c32 : (base.with sp32).Ok := addS_ok c49 ok32

theorem vc23 : P23 := by
  have e1 : prs (bytesOfRows []) = ([], -1, 0) := by decide
  have e2 : prs (bytesOfRows [[CD.int 3], [CD.int 0], [CD.int 1], [CD.int 0], [CD.int 0], [CD.int 0], [CD.int 0], [CD.int 0]]) = ([⟨3, 0, 1, []⟩], -1, 0) := by decide
  intro _
  rw [e1, e2]
  exact ⟨⟨rfl, by decide⟩, ⟨rfl, by decide⟩, fun _ _ => by decide⟩
theorem ok23 : SpecOk (base.with sp32) 23 (mkF ct23) := spec_ct (fn := Try.f23) (c := bodyOf Try.f23) (k := Try.f23.ntmps - ct23.ps.length) (ct := ct23) c32 Try.func23 (by kernel_rfl) noAnn (by kernel_rfl) (fun vs w _ => Try.call23 vs w) (e23.mpr vc23)
theorem c23 : (base.with sp23).Ok := addS_ok c32 ok23

theorem prs_len (b : List UInt8) : (prs b).1.length ≤ 1024 := by
  suffices h : ∀ n acc b, acc.length + n ≤ 1024 → (prsA n acc b).1.length ≤ 1024 from h 1024 [] b (by simp)
  intro n
  induction n with
  | zero => intro acc b h; unfold prsA; split <;> simp_all
  | succ n ih =>
    intro acc b h
    unfold prsA
    split
    · show acc.length ≤ _; omega
    · split
      · exact ih _ _ (by simp only [List.length_append, List.length_cons, List.length_nil]; omega)
      · exact Nat.zero_le _
theorem vc7 : P7 := by
  intro l hl hB
  refine ⟨trivial, fun _ => condI (fun h => ⟨trivial, rfl⟩) fun h => ?_⟩
  obtain ⟨b, rfl⟩ := isB_ex hB
  simp only [its_rows, bytes_rows]
  rw [rows_length] at h
  simp only [Bool.not_true, Bool.false_or, decide_eq_false_iff_not] at h
  have hp : pre20 (rowsOfBytes b) := ⟨hB, by rw [rows_length]; omega⟩
  have hL : preL (rowsIt (prs b).1) := by
    have := prs_len b
    unfold preL; rw [rowsIt_length]; omega
  refine ⟨hp, hp, fun _ => hL, fun _ => ⟨fun _ => trivial, condI (fun h => by simp at h) fun _ => condI (fun _ => trivial) fun h2 => ⟨hL, ?_⟩⟩, fun h => by simp at h⟩
  simp only [ne_eq, decide_not, Bool.not_eq_false', decide_eq_true_eq] at h2
  rw [ser_prs h2]
  simp
theorem ok7 : SpecOk (base.with sp23) 7 (mkF ct7) := spec_ct (fn := Try.f7) (c := bodyOf Try.f7) (k := Try.f7.ntmps - ct7.ps.length) (ct := ct7) c23 Try.func7 (by kernel_rfl) noAnn (by kernel_rfl) (fun vs w _ => Try.call7 vs w) (e7.mpr vc7)
theorem c7 : (base.with sp7).Ok := addS_ok c23 ok7

theorem vc8 : P8 := by
  rintro a b c l k hl ⟨hk0, hk1⟩
  refine ⟨trivial, fun _ => trivial, fun _ => condI (fun _ => ⟨trivial, rfl⟩) fun h => ?_⟩
  simp only [Bool.not_true, Bool.false_or, Bool.or_eq_false_iff, ne_eq, decide_not, Bool.not_eq_false', decide_eq_true_eq, decide_eq_false_iff_not] at h
  rw [wrap_i64 (by omega) (by omega)]
  have hx : chkIt ⟨a, b, c, l⟩ = 0 := h.1
  have hxl : (encB a b c l).length = 8 + l.length := by simp only [encB, List.length_append, numB_length]
  refine ⟨⟨hk0, by omega⟩, trivial, ⟨⟨rfl, rfl, rfl, rfl, h.1, by omega, rfl, rfl, by omega, by omega, rfl, rfl, rfl⟩, trivial⟩, ?_⟩
  rintro n l6 n' i a' b' c' l' l8 l9 _ _ _ _ ⟨rfl, rfl, rfl, rfl, _, hl20, rfl, rfl, h0, h1, rfl, rfl, rfl⟩
  have er : reps i.toNat (encB a' b' c' l') = flat (List.replicate i.toNat ⟨a', b', c', l'⟩) := reps_flat _ ⟨a', b', c', l'⟩
  have hrl : (reps i.toNat (encB a' b' c' l')).length = i.toNat * (8 + l'.length) := by
    unfold reps
    rw [List.length_flatten, List.map_replicate, List.sum_replicate_nat, hxl]
  have hb : i.toNat * (8 + l'.length) ≤ 1100 * 28 := Nat.mul_le_mul (by omega) (by omega)
  rw [encR_ok h.1]
  simp only [rows_length, rowsIt_length, List.length_replicate, hrl, hxl]
  refine condI (fun h2 => ?_) fun h2 => ?_
  · simp only [decide_eq_true_eq] at h2
    refine ⟨⟨by omega, by omega⟩, trivial, ⟨by simp only [List.length_cons, List.length_nil]; omega, by simp only [List.length_cons, List.length_nil]; omega⟩, ⟨by omega, by omega⟩, ⟨rfl, rfl, rfl, rfl, h.1, hl20, rfl, rfl, by omega, by omega, (encR_ok h.1).symm, ?_, ?_⟩, by omega⟩
    · rw [← rows_append, show (i + 1).toNat = i.toNat + 1 from by omega]
      unfold reps
      rw [List.replicate_succ', List.flatten_append]
      simp
    · rw [show (i + 1).toNat = i.toNat + 1 from by omega, List.replicate_succ']
      simp only [rowsIt, List.map_append, List.map_cons, List.map_nil]
      rfl
  · simp only [decide_eq_false_iff_not] at h2
    have hi : i.toNat = (k % 1100).toNat := by omega
    have hprs := prs_rep hx i.toNat
    have hser := ser_rep hx i.toNat
    rw [bytes_rows, its_rows, er, hprs, hser]
    refine ⟨⟨isB_rows _, by rw [rows_length, ← er, hrl]; omega⟩, by unfold preL; rw [rowsIt_length, List.length_replicate]; omega, condI (fun h3 _ _ => ?_) fun h3 _ => ?_⟩
    · simp only [decide_eq_true_eq] at h3
      rw [if_neg (by omega), if_neg (by omega)]
      rfl
    · simp only [decide_eq_false_iff_not] at h3
      rw [if_pos (by omega), if_pos (by omega), bytes_rows]
      simp only [List.length_replicate]
      simp
      omega
theorem ok8 : SpecOk (base.with sp7) 8 (mkF ct8) := spec_ct (fn := Try.f8) (c := bodyOf Try.f8) (k := Try.f8.ntmps - ct8.ps.length) (ct := ct8) c7 Try.func8 (by kernel_rfl) ann8 (by kernel_rfl) (fun vs w _ => Try.call8 vs w) (e8.mpr vc8)
theorem c8 : (base.with sp8).Ok := addS_ok c7 ok8
end Go.Proofs.Ytfikklbaceidfaa
