/-
  The conditions of keccak's laws are met.
-/
import Derived.Test.YtganbceicojfmaaDoorP5
namespace Go.Proofs.YtganbceicojfmaaDoor
open Go Go.Avc Go.Proofs
set_option linter.unusedVariables false
set_option linter.unusedSimpArgs false
set_option maxRecDepth 100000
theorem dec_self {α : Type} [DecidableEq α] (a : α) : decide (a = a) = true := decide_eq_true rfl
theorem vc3 : P3 := by
  intro s r h hw
  refine ⟨trivial, hw, trivial, trivial, trivial, fun _ => trivial, fun _ => hw, ?_⟩
  rw [round_is h hw, permR_is h hw, dec_self, dec_self]; rfl
theorem ok3 : SpecOk (base.with sp24) 3 (mkF ct3) := spec_ct (fn := Tryd.f3) (c := bodyOf Tryd.f3) (k := Tryd.f3.ntmps - ct3.ps.length) (ct := ct3) c24 Tryd.func3 (by kernel_rfl) noAnn (by kernel_rfl) (fun vs w _ => Tryd.call3 vs w) (e3.mpr vc3)
theorem c3 : (base.with sp3).Ok := addS_ok c24 ok3
theorem lanes0 (w : Int) : [] ++ cbits w ++ List.replicate 1536 false = lanes zB (bitsW (rcOf w)) 0 := by
  rw [cbits_rc]
  unfold lanes zB
  rw [List.drop_replicate, List.take_zero]
theorem vc4 : P4 := by
  intro r _
  refine ⟨trivial, fun _ => ⟨⟨⟨rfl, rfl, by omega, by omega⟩, trivial⟩, ?_⟩⟩
  rintro l n i _ ⟨hl, rfl, h0, h1⟩
  refine condI (fun h => ?_) fun h => rfl
  simp only [decide_eq_true_eq] at h
  refine ⟨by omega, by omega, trivial, by omega, by omega, by omega, trivial, trivial, by omega, ?_⟩
  rw [rv_def, lanes0, first_word _ (rcOf_w _)]
  refine condI (fun h2 => ?_) fun _ => ⟨by omega, ⟨hl, rfl, by omega, by omega⟩, by omega⟩
  simp only [decide_eq_true_eq] at h2
  exact absurd rfl h2
theorem ok4 : SpecOk (base.with sp3) 4 (mkF ct4) := spec_ct (fn := Tryd.f4) (c := bodyOf Tryd.f4) (k := Tryd.f4.ntmps - ct4.ps.length) (ct := ct4) c3 Tryd.func4 (by kernel_rfl) ann4 (by kernel_rfl) (fun vs w _ => Tryd.call4 vs w) (e4.mpr vc4)
theorem c4 : (base.with sp4).Ok := addS_ok c3 ok4
theorem vc5 : P5 := by
  rintro s t hs ht ⟨ws, wt⟩
  refine ⟨trivial, ⟨⟨rfl, rfl, by omega, by omega, rfl, rfl⟩, trivial⟩, ?_⟩
  rintro i' s2 t2 a b _ _ _ _ ⟨rfl, rfl, h0, h1, ha, hb⟩
  obtain ⟨i, rfl⟩ := ex_nat h0
  rw [Int.toNat_natCast] at ha hb
  obtain ⟨a1, a2⟩ := permN_ok hs ws i
  obtain ⟨b1, b2⟩ := permN_ok ht wt i
  rw [← ha] at a1 a2
  rw [← hb] at b1 b2
  refine condI (fun h => ?_) fun h => ?_
  · simp only [decide_eq_true_eq] at h
    have key : decide (round a (i : Int) = round b (i : Int)) = decide (s2 = t2) := by
      apply decide_eq_decide.2
      constructor
      · intro e
        have := round_inj a1 b1 a2 b2 _ e
        rw [ha, hb] at this
        exact permN_inj hs ht ws wt i this
      · intro e
        rw [ha, hb, e]
    refine ⟨trivial, trivial, ?_⟩
    rw [key]
    refine condI (fun h2 => ?_) fun _ => ⟨by omega, ⟨rfl, rfl, by omega, by omega, ?_, ?_⟩, by omega⟩
    · cases hd : decide (s2 = t2) <;> rw [hd] at h2 <;> exact absurd h2 (by decide)
    · rw [suc_nat, permN_s, ha]
    · rw [suc_nat, permN_s, hb]
  · simp only [decide_eq_false_iff_not] at h
    have hi : i = 24 := by omega
    subst hi
    refine ⟨trivial, fun _ => trivial, ?_⟩
    rw [perm_eq, perm_eq, ha, hb, dec_self, dec_self]; rfl
theorem ok5 : SpecOk (base.with sp4) 5 (mkF ct5) := spec_ct (fn := Tryd.f5) (c := bodyOf Tryd.f5) (k := Tryd.f5.ntmps - ct5.ps.length) (ct := ct5) c4 Tryd.func5 (by kernel_rfl) ann5 (by kernel_rfl) (fun vs w _ => Tryd.call5 vs w) (e5.mpr vc5)
theorem c5 : (base.with sp5).Ok := addS_ok c4 ok5
theorem rows_row1 (l : List Int) : List.map (fun x => [CD.int x]) l = l.map row1 := rfl
theorem vc6 : P6 := by
  intro l _ hb
  refine ⟨trivial, fun _ => condI (fun _ => ⟨trivial, rfl⟩) fun h => ⟨hb, condI (fun h2 => ?_) fun h2 => ?_⟩⟩
  · simp only [decide_eq_true_eq] at h2
    refine fun _ => condI (fun _ => ?_) fun h3 => ?_
    · rw [z25_eq]; decide
    · simp only [decide_eq_false_iff_not] at h3
      omega
  · simp only [decide_eq_false_iff_not] at h2
    have hl : l.length = 200 := by omega
    refine fun _ => condI (fun h3 => ?_) fun h3 => ?_
    · simp only [decide_eq_true_eq] at h3
      omega
    · rw [hl, wsN_is hl hb, rbN_is hl hb, List.drop_zero, List.take_of_length_le (by rw [bysL_len]; exact Nat.le_refl _), rows_row1, text_is hl hb, dec_self, dec_self, dec_self]
      have hw := wdsL_w hb
      refine ⟨hw, fun _ => ⟨by omega, hb⟩, fun _ => by omega, fun _ => by omega, fun _ => hw, fun _ => rfl, fun h4 => ?_⟩
      exact absurd h4 (by decide)
theorem ok6 : SpecOk (base.with sp5) 6 (mkF ct6) := spec_ct (fn := Tryd.f6) (c := bodyOf Tryd.f6) (k := Tryd.f6.ntmps - ct6.ps.length) (ct := ct6) c5 Tryd.func6 (by kernel_rfl) noAnn (by kernel_rfl) (fun vs w _ => Tryd.call6 vs w) (e6.mpr vc6)
theorem c6 : (base.with sp6).Ok := addS_ok c5 ok6
theorem vc7 : P7 := by
  intro s r hs hw
  rw [List.drop_zero, List.take_of_length_le (by rw [bysL_len]; exact Nat.le_refl _), rows_row1]
  have hB := bysL_areB s
  have hl : ((bysL s).map row1).length = 200 := by rw [List.length_map, bysL_len]
  refine ⟨trivial, trivial, by omega, by omega, trivial, by omega, by omega, hw, by omega, hB, condI (fun h => ?_) fun _ => ⟨trivial, ?_⟩⟩
  · simp only [decide_eq_true_eq] at h
    exact absurd hl h
  · have e1 : (round s 24).set 0 (bXor .u64 ((round s 24).getD 0 0) (rcOf r)) = round s r := by
      unfold round
      have lc := chi_len (rhoPi_len (theta s))
      have wc := chi_w (rhoPi_len (theta s))
      generalize chi (rhoPi (theta s)) = c at *
      have r0 : rcOf 24 = 0 := by decide
      have x0 : xr (c.getD 0 0) 0 = c.getD 0 0 := by
        refine eqW (xr_any _ _) (wc 0) fun z _ => ?_
        rw [xr_bt (wc 0) isW0]
        have : bt 0 z = false := by simp [bt]
        rw [this, Bool.bne_false]
      rw [r0, x0, set_get _ _ _ _ (by omega), if_pos rfl, List.set_set]
      rfl
    rw [e1, wsN_is hl hB, wdsL_bysL hs hw, dec_self, dec_self, dec_self]; rfl
theorem ok7 : SpecOk (base.with sp6) 7 (mkF ct7) := spec_ct (fn := Tryd.f7) (c := bodyOf Tryd.f7) (k := Tryd.f7.ntmps - ct7.ps.length) (ct := ct7) c6 Tryd.func7 (by kernel_rfl) noAnn (by kernel_rfl) (fun vs w _ => Tryd.call7 vs w) (e7.mpr vc7)
theorem c7 : (base.with sp7).Ok := addS_ok c6 ok7
end Go.Proofs.YtganbceicojfmaaDoor
