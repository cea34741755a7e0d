/-
  The conditions of the guard's functions, of looking in patterns, and of two laws, are met.
-/
import Derived.Test.YtfikklbaceidfaaP6
namespace Go.Proofs.Ytfikklbaceidfaa
open Go Go.Avc Go.Proofs
set_option linter.unusedVariables false
set_option linter.unusedSimpArgs false
set_option maxRecDepth 100000

theorem vc31 : P31 := by
  intro l hl hp
  exact ⟨hp.1, condI (fun h => absurd hp.2 (of_decide_eq_true h)) fun _ => ⟨rfl, rfl, rfl, rfl⟩⟩
theorem ok31 : SpecOk (base.with sp8) 31 (mkF ct31) := spec_ct (fn := Try.f31) (c := bodyOf Try.f31) (k := Try.f31.ntmps - ct31.ps.length) (ct := ct31) c8 Try.func31 (by kernel_rfl) noAnn (by kernel_rfl) (fun vs w _ => Try.call31 vs w) (e31.mpr vc31)
theorem c31 : (base.with sp31).Ok := addS_ok c8 ok31
theorem vc55a : P55a := by
  intro n l k hl _
  refine condI (fun h => condI (fun h2 => ?_) fun _ => ⟨rfl, rfl, rfl, rfl⟩) fun h => condI (fun _ => ⟨rfl, rfl, rfl⟩) fun h2 => ?_
  · simp only [Bool.true_and, ne_eq, decide_not, Bool.not_eq_true', decide_eq_false_iff_not, decide_eq_true_eq] at h h2
    exact absurd h2 h
  · simp only [Bool.true_and, ne_eq, decide_not, Bool.not_eq_false', decide_eq_false_iff_not, decide_eq_true_eq] at h h2
    exact absurd h h2
theorem vc55b : P55b := fun _ _ _ _ _ _ => ⟨rfl, rfl, rfl, rfl⟩
theorem ok55a : SpecOk (base.with sp31) 55 (mkF ct55a) := spec_ct (fn := Try.f55) (c := bodyOf Try.f55) (k := Try.f55.ntmps - ct55a.ps.length) (ct := ct55a) c31 Try.func55 (by kernel_rfl) noAnn (by kernel_rfl) (fun vs w _ => Try.call55 vs w) (e55a.mpr vc55a)
theorem ok55b : SpecOk (base.with sp31) 55 (mkF ct55b) := spec_ct (fn := Try.f55) (c := bodyOf Try.f55) (k := Try.f55.ntmps - ct55b.ps.length) (ct := ct55b) c31 Try.func55 (by kernel_rfl) noAnn (by kernel_rfl) (fun vs w _ => Try.call55 vs w) (e55b.mpr vc55b)
theorem c55 : (base.with sp55).Ok := addS_ok c31 (alt_ok ok55a ok55b)
theorem vc50a : P50a := by
  intro b n l k hl hn
  refine condI (fun hb => ⟨trivial, condI (fun _ => ⟨rfl, rfl, rfl⟩) fun h => ?_⟩) fun hb => ⟨trivial, condI (fun h => absurd (of_decide_eq_true h) hn) fun _ => condI (fun h => ?_) fun _ => ⟨rfl, rfl, rfl, rfl⟩⟩
  · rw [hb] at h; cases h
  · rw [hb] at h; cases h
theorem vc50b : P50b := fun _ _ _ _ _ _ _ => condI (fun _ => ⟨trivial, rfl, rfl, rfl, rfl⟩) fun _ => ⟨trivial, rfl, rfl, rfl, rfl⟩
theorem ok50a : SpecOk (base.with sp55) 50 (mkF ct50a) := spec_ct (fn := Try.f50) (c := bodyOf Try.f50) (k := Try.f50.ntmps - ct50a.ps.length) (ct := ct50a) c55 Try.func50 (by kernel_rfl) noAnn (by kernel_rfl) (fun vs w _ => Try.call50 vs w) (e50a.mpr vc50a)
theorem ok50b : SpecOk (base.with sp55) 50 (mkF ct50b) := spec_ct (fn := Try.f50) (c := bodyOf Try.f50) (k := Try.f50.ntmps - ct50b.ps.length) (ct := ct50b) c55 Try.func50 (by kernel_rfl) noAnn (by kernel_rfl) (fun vs w _ => Try.call50 vs w) (e50b.mpr vc50b)
theorem c50 : (base.with sp50).Ok := addS_ok c55 (alt_ok ok50a ok50b)
theorem vc33a : P33a := by
  intro a b c l n hl hp
  obtain ⟨h0, h1⟩ := hp
  refine ⟨fun h => ⟨h0, of_decide_eq_true h⟩, fun h => by have := of_decide_eq_true h; omega, fun _ => trivial, by decide, condI (fun h => ⟨⟨by omega, by omega⟩, condI (fun _ => ⟨rfl, rfl, rfl⟩) fun h2 => ?_⟩) fun h => condI (fun h2 => ?_) fun _ => ⟨rfl, rfl, rfl, rfl⟩⟩
  · have h' : hit l n a b c = true := h
    rw [h'] at h2; cases h2
  · have h' : hit l n a b c = false := h
    rw [h'] at h2; cases h2
theorem vc33b : P33b := by
  intro a b c l n w hl hp
  obtain ⟨⟨h0, h1⟩, hw⟩ := hp
  exact ⟨fun h => ⟨h0, of_decide_eq_true h⟩, fun h => by have := of_decide_eq_true h; omega, fun _ => trivial, trivial, condI (fun h => absurd (of_decide_eq_true h) hw) fun _ => ⟨rfl, rfl, rfl, rfl⟩⟩
theorem ok33a : SpecOk (base.with sp50) 33 (mkF ct33a) := spec_ct (fn := Try.f33) (c := bodyOf Try.f33) (k := Try.f33.ntmps - ct33a.ps.length) (ct := ct33a) c50 Try.func33 (by kernel_rfl) noAnn (by kernel_rfl) (fun vs w _ => Try.call33 vs w) (e33a.mpr vc33a)
theorem ok33b : SpecOk (base.with sp50) 33 (mkF ct33b) := spec_ct (fn := Try.f33) (c := bodyOf Try.f33) (k := Try.f33.ntmps - ct33b.ps.length) (ct := ct33b) c50 Try.func33 (by kernel_rfl) noAnn (by kernel_rfl) (fun vs w _ => Try.call33 vs w) (e33b.mpr vc33b)
theorem c33 : (base.with sp33).Ok := addS_ok c50 (alt_ok ok33a ok33b)
theorem vc34a : P34a := by
  intro l n hl _
  refine ⟨by decide, condI (fun h => condI (fun _ => ⟨rfl, rfl, rfl⟩) fun h2 => ?_) fun h => condI (fun h2 => ?_) fun _ => ⟨rfl, rfl, rfl, rfl⟩⟩
  · rw [h] at h2; cases h2
  · rw [h] at h2; cases h2
theorem vc34b : P34b := fun _ _ _ _ _ => ⟨trivial, rfl, rfl, rfl, rfl⟩
theorem ok34a : SpecOk (base.with sp33) 34 (mkF ct34a) := spec_ct (fn := Try.f34) (c := bodyOf Try.f34) (k := Try.f34.ntmps - ct34a.ps.length) (ct := ct34a) c33 Try.func34 (by kernel_rfl) noAnn (by kernel_rfl) (fun vs w _ => Try.call34 vs w) (e34a.mpr vc34a)
theorem ok34b : SpecOk (base.with sp33) 34 (mkF ct34b) := spec_ct (fn := Try.f34) (c := bodyOf Try.f34) (k := Try.f34.ntmps - ct34b.ps.length) (ct := ct34b) c33 Try.func34 (by kernel_rfl) noAnn (by kernel_rfl) (fun vs w _ => Try.call34 vs w) (e34b.mpr vc34b)
theorem c34 : (base.with sp34).Ok := addS_ok c33 (alt_ok ok34a ok34b)
theorem vc29 : P29 := by
  intro _
  refine ⟨⟨⟨rfl, by decide⟩, by decide⟩, ?_⟩
  simp [pre33]
theorem ok29 : SpecOk (base.with sp34) 29 (mkF ct29) := spec_ct (fn := Try.f29) (c := bodyOf Try.f29) (k := Try.f29.ntmps - ct29.ps.length) (ct := ct29) c34 Try.func29 (by kernel_rfl) noAnn (by kernel_rfl) (fun vs w _ => Try.call29 vs w) (e29.mpr vc29)
theorem c29 : (base.with sp29).Ok := addS_ok c34 ok29

/-! ### The guard's law -/
def hd (l : List It) (r : It) : Bool := match l with | [] => false | z :: _ => sameIt z r
theorem pref_snoc (a : It) : ∀ (ys xs : List It), prefIt xs (ys ++ [a]) = (prefIt xs ys && hd (xs.drop ys.length) a)
  | [], [] => rfl
  | [], x :: xs => by simp [prefIt, hd, pref_nil]
  | y :: ys, [] => rfl
  | y :: ys, x :: xs => by
    have := pref_snoc a ys xs
    simp only [List.cons_append, prefIt, this, List.length_cons, List.drop_succ_cons, Bool.and_assoc]
theorem its_slice (l : List (List CD)) (m : Nat) : itsOf (List.drop 0 (List.take m l)) = (itsOf l).take m := by
  rw [List.drop_zero, itsOf, itsOf, List.map_take]
theorem hit_its (x : List (List CD)) (r : List CD) {i : Int} (h0 : 0 ≤ i) : hit (rowsIt (itsOf x)) i (itRow r).k (itRow r).t (itRow r).c = hd ((itsOf x).drop i.toNat) (itRow r) := by
  unfold hit
  rw [rowsIt_length, itsOf_length]
  rcases Nat.lt_or_ge i.toNat x.length with h | h
  · have h1 := its_drop h
    have h2 := its_drop (l := rowsIt (itsOf x)) (i := i.toNat) (by rw [rowsIt_length, itsOf_length]; exact h)
    rw [its_rows, h1] at h2
    have h3 := (List.cons.inj h2).1
    rw [decide_eq_true (by omega), h1, ← h3]
    rfl
  · rw [decide_eq_false (by omega), List.drop_eq_nil_of_le (by rw [itsOf_length]; exact h)]
    rfl
theorem hd_lt {x : List (List CD)} {i : Nat} {r : It} (h : hd ((itsOf x).drop i) r = true) : i < x.length := by
  rcases Nat.lt_or_ge i x.length with h2 | h2
  · exact h2
  · rw [List.drop_eq_nil_of_le (by rw [itsOf_length]; exact h2)] at h
    cases h
theorem pref_next {x y : List (List CD)} {i : Int} (h0 : 0 ≤ i) (h : i < y.length) : prefIt (itsOf x) (itsOf (List.drop 0 (List.take (i + 1).toNat y))) = (prefIt (itsOf x) ((itsOf y).take i.toNat) && hd ((itsOf x).drop i.toNat) (itRow (y.getD i.toNat []))) := by
  rw [its_slice, show (i + 1).toNat = i.toNat + 1 from by omega, its_take (by omega), pref_snoc, List.length_take, itsOf_length, Nat.min_eq_left (by omega)]
theorem vc9 : P9 := by
  intro x y hx hy _
  refine ⟨trivial, fun _ _ => condI (fun _ => ⟨trivial, rfl⟩) fun h => ?_⟩
  simp only [Bool.not_true, Bool.false_or, Bool.or_eq_false_iff, decide_eq_false_iff_not] at h
  refine ⟨by unfold preL; omega, condI (fun _ => rfl) fun h2 => ⟨⟨rfl, rfl, by omega, by omega, Decidable.not_not.1 (of_decide_eq_false h2), rfl⟩, trivial⟩, ?_⟩
  clear h hx hy
  rintro x' y' l _ _ _ ⟨rfl, rfl, hx, hy, he, rfl⟩
  have hps := prs_ser he
  rw [bytes_rows, hps]
  refine ⟨⟨⟨isB_rows _, by have := ser_len (itsOf x'); rw [rows_length]; omega⟩, by rw [bytes_rows, hps]⟩, fun _ => ⟨⟨⟨rfl, rfl, rfl, hx, hy, rfl, by omega, by omega, rfl, rfl, by omega, pref_nil _⟩, trivial⟩, ?_, ?_⟩⟩
  · rintro x y z n i its k _ _ _ _ ⟨rfl, rfl, rfl, _, _, rfl, h0, h1, rfl, rfl, h2, h3⟩
    refine condI (fun h => ?_) fun h _ _ => ?_
    · simp only [decide_eq_true_eq] at h
      have e1 := pref_next (x := x) (y := z) h0 h
      rw [h3, Bool.true_and] at e1
      have e2 := hit_its x (z.getD k.toNat []) h0
      refine ⟨⟨h0, h⟩, by omega, ⟨by omega, by omega⟩, ⟨by omega, by omega, by omega⟩, trivial, ⟨h0, by omega⟩, condI (fun h4 => ?_) fun h4 => ?_⟩
      · have h4' : hd ((itsOf x).drop k.toNat) (itRow (z.getD k.toNat [])) = true := by rw [← e2]; exact h4
        rw [e1, h4']
        refine condI (fun h => by simp at h) fun _ => ⟨⟨by omega, by omega⟩, ⟨rfl, rfl, rfl, hx, hy, rfl, by omega, by omega, rfl, rfl, ?_, ?_⟩, by omega⟩
        · have := hd_lt h4'; omega
        · rw [← its_slice, e1, h4']
      · have h4' : hd ((itsOf x).drop k.toNat) (itRow (z.getD k.toNat [])) = false := by rw [← e2]; exact h4
        rw [e1, h4']
        refine condI (fun h => by simp at h) fun _ => ⟨⟨by omega, by omega⟩, ⟨rfl, rfl, rfl, hx, hy, rfl, by omega, by omega, rfl, by omega, by omega, by decide, ?_⟩, by omega⟩
        rw [← its_slice, e1, h4']
    · simp only [decide_eq_false_iff_not] at h
      rw [List.take_of_length_le (by rw [itsOf_length]; omega)] at h3
      rw [rowsIt_length, itsOf_length, h3]
      refine ⟨fun _ => trivial, trivial, condI (fun h5 => ?_) fun h5 => ?_⟩
      · simp only [decide_eq_true_eq] at h5
        rw [decide_eq_true (p := (z.length : Int) = x.length) (by omega)]
        rfl
      · simp only [decide_eq_false_iff_not] at h5
        rw [decide_eq_false (p := (z.length : Int) = x.length) (by omega)]
        rfl
  · rintro x y z n i its k w _ _ _ _ ⟨rfl, rfl, rfl, _, _, rfl, h0, h1, rfl, hk0, hk1, hw, h3⟩
    refine condI (fun h => ?_) fun h _ _ => ?_
    · simp only [decide_eq_true_eq] at h
      have e1 := pref_next (x := x) (y := z) h0 h
      rw [h3, Bool.false_and] at e1
      rw [e1]
      refine ⟨⟨h0, h⟩, by omega, ⟨by omega, by omega⟩, ⟨by omega, by omega, by omega⟩, trivial, ⟨⟨hk0, by omega⟩, hw⟩, condI (fun h => ?_) fun _ => ⟨⟨by omega, by omega⟩, ⟨rfl, rfl, rfl, hx, hy, rfl, by omega, by omega, rfl, hk0, hk1, hw, ?_⟩, by omega⟩⟩
      · rw [decide_eq_false hw] at h; cases h
      · rw [← its_slice, e1]
    · simp only [decide_eq_false_iff_not] at h
      rw [List.take_of_length_le (by rw [itsOf_length]; omega)] at h3
      rw [h3, decide_eq_false hw, Bool.and_false]
      exact ⟨fun _ => trivial, trivial, rfl⟩
theorem ok9 : SpecOk (base.with sp29) 9 (mkF ct9) := spec_ct (fn := Try.f9) (c := bodyOf Try.f9) (k := Try.f9.ntmps - ct9.ps.length) (ct := ct9) c29 Try.func9 (by kernel_rfl) ann9 (by kernel_rfl) (fun vs w _ => Try.call9 vs w) (e9.mpr vc9)
theorem c9 : (base.with sp9).Ok := addS_ok c29 ok9

/-! ### Looking in patterns -/
theorem vc51 : P51 := by
  intro x y hx hy _ _ _
  refine condI (fun h => ?_) fun h _ => ?_
  · simp only [ne_eq, decide_not, Bool.not_eq_true', decide_eq_false_iff_not] at h
    unfold eqvIt
    rw [itsOf_length, itsOf_length, decide_eq_false (by omega)]
    rfl
  · simp only [ne_eq, decide_not, Bool.not_eq_false', decide_eq_true_eq] at h
    have hq : eqvIt (itsOf x) (itsOf y) = prefIt (itsOf x) (itsOf y) := by
      unfold eqvIt
      rw [itsOf_length, itsOf_length, decide_eq_true (by omega)]
      rfl
    rw [hq]
    refine ⟨⟨⟨rfl, rfl, rfl, by omega, by omega, by omega, rfl⟩, trivial⟩, ?_⟩
    rintro y' x' n i _ _ ⟨rfl, rfl, rfl, h1, h2, h3, h4⟩
    refine condI (fun h5 => ?_) fun h5 => ?_
    · simp only [decide_eq_true_eq] at h5
      have hlt : i.toNat < x'.length := by omega
      have hlt2 : i.toNat < y'.length := by omega
      refine ⟨⟨h2, h5⟩, hlt, ⟨h2, by omega⟩, hlt2, trivial, condI (fun h6 => ?_) fun h6 => ?_⟩
      · have h6' : sameIt (itRow (x'.getD i.toNat [])) (itRow (y'.getD i.toNat [])) = false := Bool.not_eq_true _ ▸ (fun h => by have : (!sameIt (itRow (x'.getD i.toNat [])) (itRow (y'.getD i.toNat []))) = true := h6; rw [h] at this; cases this)
        rw [h4, pref_step hlt2 hlt, h6']; rfl
      · have h6' : sameIt (itRow (x'.getD i.toNat [])) (itRow (y'.getD i.toNat [])) = true := Bool.not_eq_false _ ▸ (fun h => by have : (!sameIt (itRow (x'.getD i.toNat [])) (itRow (y'.getD i.toNat []))) = false := h6; rw [h] at this; cases this)
        refine ⟨⟨by omega, by omega⟩, ⟨rfl, rfl, rfl, h1, by omega, by omega, ?_⟩, by omega⟩
        rw [h4, pref_step hlt2 hlt, h6', show (i + 1).toNat = i.toNat + 1 from by omega]; rfl
    · simp only [decide_eq_false_iff_not] at h5
      have hn : (itsOf y').drop i.toNat = [] := List.drop_eq_nil_of_le (by rw [itsOf_length]; omega)
      rw [h4, hn, pref_nil]
theorem ok51 : SpecOk (base.with sp9) 51 (mkF ct51) := spec_ct (fn := Try.f51) (c := bodyOf Try.f51) (k := Try.f51.ntmps - ct51.ps.length) (ct := ct51) c9 Try.func51 (by kernel_rfl) ann51 (by kernel_rfl) (fun vs w _ => Try.call51 vs w) (e51.mpr vc51)
theorem c51 : (base.with sp51).Ok := addS_ok c9 ok51
theorem pref_eqv : ∀ (ys xs : List It), (decide (ys.length ≤ xs.length) && eqvIt (xs.take ys.length) ys) = prefIt xs ys
  | [], xs => by simp [eqvIt, pref_nil]
  | y :: ys, [] => rfl
  | y :: ys, x :: xs => by
    have := pref_eqv ys xs
    simp only [prefIt, ← this, eqvIt, List.length_cons, List.take_succ_cons, Nat.add_le_add_iff_right, Nat.add_right_cancel_iff]
    cases sameIt x y <;> simp
theorem vc36 : P36 := by
  intro x y hx hy _ _ _ _
  simp only [decide_eq_true_eq]
  refine ⟨fun h => ⟨by omega, by omega, h⟩, fun _ => trivial, ?_⟩
  have := pref_eqv (itsOf y) (itsOf x)
  rw [itsOf_length, itsOf_length] at this
  rw [its_slice, Int.toNat_natCast, ← this]
  congr 1
  rw [decide_eq_decide]
  omega
theorem ok36 : SpecOk (base.with sp51) 36 (mkF ct36) := spec_ct (fn := Try.f36) (c := bodyOf Try.f36) (k := Try.f36.ntmps - ct36.ps.length) (ct := ct36) c51 Try.func36 (by kernel_rfl) noAnn (by kernel_rfl) (fun vs w _ => Try.call36 vs w) (e36.mpr vc36)
theorem c36 : (base.with sp36).Ok := addS_ok c51 ok36
theorem vc53 : P53 := fun _ _ _ _ _ _ _ _ => ⟨rfl, rfl⟩
theorem ok53 : SpecOk (base.with sp36) 53 (mkF ct53) := spec_ct (fn := Try.f53) (c := bodyOf Try.f53) (k := Try.f53.ntmps - ct53.ps.length) (ct := ct53) c36 Try.func53 (by kernel_rfl) noAnn (by kernel_rfl) (fun vs w _ => Try.call53 vs w) (e53.mpr vc53)
theorem c53 : (base.with sp53).Ok := addS_ok c36 ok53
theorem idxL_none {k : List UInt8} : ∀ {l : List It}, (∀ x ∈ l, x.l ≠ k) → idxL l k = -1
  | [], h => rfl
  | x :: l, h => by
    rw [idxL, if_neg (h x (List.mem_cons_self ..)), idxL_none fun y hy => h y (List.mem_cons_of_mem _ hy)]
    rfl
theorem idxL_hit {k : List UInt8} {z : It} {rest : List It} : ∀ {l : List It} {i : Nat}, l.drop i = z :: rest → z.l = k → (∀ x ∈ l.take i, x.l ≠ k) → idxL l k = i
  | [], i, h, _, _ => by simp at h
  | x :: l, 0, h, hz, _ => by
    simp only [List.drop_zero, List.cons.injEq] at h
    rw [idxL, if_pos (by rw [h.1]; exact hz)]; rfl
  | x :: l, i + 1, h, hz, hn => by
    rw [List.drop_succ_cons] at h
    rw [List.take_succ_cons] at hn
    have ih := idxL_hit h hz fun y hy => hn y (List.mem_cons_of_mem _ hy)
    rw [idxL, if_neg (hn x (List.mem_cons_self ..)), ih, if_neg (by omega)]
    omega
theorem none_next {l : List (List CD)} {k : List UInt8} {i : Nat} (h : ∀ x ∈ (itsOf l).take i, x.l ≠ k) (hi : i < l.length) (hk : (itRow (l.getD i [])).l ≠ k) : ∀ x ∈ (itsOf l).take (i + 1), x.l ≠ k := by
  rw [its_take hi]
  intro x hx
  rcases List.mem_append.1 hx with hx | hx
  · exact h x hx
  · rw [List.mem_singleton.1 hx]; exact hk
theorem vc52 : P52 := by
  intro l k hl hk _ _
  refine ⟨⟨⟨rfl, rfl, rfl, by omega, by omega, by simp⟩, trivial⟩, ?_⟩
  rintro l' n i k' _ _ ⟨rfl, rfl, rfl, h0, h1, h2⟩
  refine condI (fun h => ?_) fun h => ?_
  · simp only [decide_eq_true_eq] at h
    have hlt : i.toNat < l'.length := by omega
    refine ⟨⟨h0, h⟩, hlt, trivial, condI (fun h3 => ?_) fun h3 => ?_⟩
    · have h3' : (itRow (l'.getD i.toNat [])).l = k' := of_decide_eq_true h3
      rw [idxL_hit (its_drop hlt) h3' h2]
      exact ⟨by omega, rfl⟩
    · have h3' : (itRow (l'.getD i.toNat [])).l ≠ k' := of_decide_eq_false h3
      refine ⟨⟨by omega, by omega⟩, ⟨rfl, rfl, rfl, by omega, by omega, ?_⟩, by omega⟩
      rw [show (i + 1).toNat = i.toNat + 1 from by omega]
      exact none_next h2 hlt h3'
  · simp only [decide_eq_false_iff_not] at h
    rw [List.take_of_length_le (by rw [itsOf_length]; omega)] at h2
    rw [idxL_none h2]
    exact ⟨rfl, rfl⟩
theorem ok52 : SpecOk (base.with sp53) 52 (mkF ct52) := spec_ct (fn := Try.f52) (c := bodyOf Try.f52) (k := Try.f52.ntmps - ct52.ps.length) (ct := ct52) c53 Try.func52 (by kernel_rfl) ann52 (by kernel_rfl) (fun vs w _ => Try.call52 vs w) (e52.mpr vc52)
theorem c52 : (base.with sp52).Ok := addS_ok c53 ok52
theorem vc38 : P38 := by
  intro l k hl hk _
  unfold fnd
  refine ⟨trivial, condI (fun h => ?_) fun h => ?_⟩
  · rw [if_pos (of_decide_eq_true h)]; exact ⟨rfl, rfl⟩
  · rw [if_neg (of_decide_eq_false h)]; exact ⟨rfl, rfl⟩
theorem ok38 : SpecOk (base.with sp52) 38 (mkF ct38) := spec_ct (fn := Try.f38) (c := bodyOf Try.f38) (k := Try.f38.ntmps - ct38.ps.length) (ct := ct38) c52 Try.func38 (by kernel_rfl) noAnn (by kernel_rfl) (fun vs w _ => Try.call38 vs w) (e38.mpr vc38)
theorem c38 : (base.with sp38).Ok := addS_ok c52 ok38
theorem vc39 : P39 := by
  intro l k hl hk _
  refine ⟨⟨⟨rfl, rfl, rfl, by omega, by omega, by simp⟩, trivial⟩, ?_⟩
  rintro l' k' i _ _ ⟨rfl, rfl, _, h0, h1, h2⟩ _
  unfold fnd
  refine condI (fun h => ?_) fun h => ?_
  · simp only [decide_eq_true_eq] at h
    have hlt : i.toNat < l'.length := by omega
    refine ⟨⟨h0, h⟩, hlt, hlt, condI (fun h3 => ?_) fun h3 => ?_⟩
    · have h3' : (itRow (l'.getD i.toNat [])).l = k' := of_decide_eq_true h3
      rw [idxL_hit (its_drop hlt) h3' h2, if_neg (by omega)]
      exact ⟨by show i = (i.toNat : Int); omega, rfl⟩
    · have h3' : (itRow (l'.getD i.toNat [])).l ≠ k' := of_decide_eq_false h3
      refine ⟨⟨by omega, by omega⟩, ⟨rfl, rfl, rfl, by omega, by omega, ?_⟩, by omega⟩
      rw [show (i + 1).toNat = i.toNat + 1 from by omega]
      exact none_next h2 hlt h3'
  · simp only [decide_eq_false_iff_not] at h
    rw [List.take_of_length_le (by rw [itsOf_length]; omega)] at h2
    rw [idxL_none h2]
    exact ⟨rfl, rfl⟩
theorem ok39 : SpecOk (base.with sp38) 39 (mkF ct39) := spec_ct (fn := Try.f39) (c := bodyOf Try.f39) (k := Try.f39.ntmps - ct39.ps.length) (ct := ct39) c38 Try.func39 (by kernel_rfl) ann39 (by kernel_rfl) (fun vs w _ => Try.call39 vs w) (e39.mpr vc39)
theorem c39 : (base.with sp39).Ok := addS_ok c38 ok39
theorem cnt_pos {x : It} {k : Int} (h : x.k = k ∧ 0 < x.c ∧ x.c ≤ 1048576) : cnt k x = x.c := if_pos h
theorem vc40 : P40 := by
  intro l k hl hp
  unfold preL at hp
  refine ⟨⟨⟨rfl, rfl, by omega, by omega, by omega, by omega, by rw [Int.toNat_zero, List.drop_zero]; omega⟩, trivial⟩, ?_⟩
  rintro l' k' t i _ ⟨rfl, rfl, h0, h1, h2, h3, h4⟩ _
  refine condI (fun h => ?_) fun h => ?_
  · simp only [decide_eq_true_eq] at h
    have hlt : i.toNat < l'.length := by omega
    have e : tot ((itsOf l').drop i.toNat) k' = cnt k' (itRow (l'.getD i.toNat [])) + tot ((itsOf l').drop (i + 1).toNat) k' := by
      rw [its_drop hlt, tot, show (i + 1).toNat = i.toNat + 1 from by omega]
    rw [e] at h4
    refine ⟨⟨h0, h⟩, hlt, hlt, fun _ => ⟨h0, h⟩, fun _ => hlt, fun _ => hlt, fun _ => ⟨h0, h⟩, fun _ => hlt, fun _ => hlt, condI (fun h5 => ?_) fun h5 => ?_⟩
    · have h5' : (decide ((itRow (l'.getD i.toNat [])).k = k') && decide (0 < (itRow (l'.getD i.toNat [])).c) && decide ((itRow (l'.getD i.toNat [])).c ≤ 1048576)) = true := h5
      simp only [Bool.and_eq_true, decide_eq_true_eq] at h5'
      obtain ⟨⟨g1, g2⟩, g3⟩ := h5'
      rw [cnt_pos ⟨g1, g2, g3⟩] at h4
      refine ⟨⟨h0, h⟩, hlt, hlt, ?_, ⟨by omega, by omega⟩, ?_, by omega⟩
      · show -9223372036854775808 ≤ t + (itRow (l'.getD i.toNat [])).c ∧ t + (itRow (l'.getD i.toNat [])).c ≤ 9223372036854775807
        omega
      · show R40 l' k' l' k' (t + (itRow (l'.getD i.toNat [])).c) (i + 1)
        exact ⟨rfl, rfl, by omega, by omega, by omega, by omega, by omega⟩
    · have h5' : (decide ((itRow (l'.getD i.toNat [])).k = k') && decide (0 < (itRow (l'.getD i.toNat [])).c) && decide ((itRow (l'.getD i.toNat [])).c ≤ 1048576)) = false := h5
      have e2 : cnt k' (itRow (l'.getD i.toNat [])) = 0 := by
        refine if_neg fun hh => ?_
        rw [decide_eq_true hh.1, decide_eq_true hh.2.1, decide_eq_true hh.2.2] at h5'
        cases h5'
      rw [e2] at h4
      exact ⟨⟨by omega, by omega⟩, ⟨rfl, rfl, by omega, by omega, by omega, by omega, by omega⟩, by omega⟩
  · simp only [decide_eq_false_iff_not] at h
    rw [h4, List.drop_eq_nil_of_le (by rw [itsOf_length]; omega), tot]
    omega
theorem ok40 : SpecOk (base.with sp39) 40 (mkF ct40) := spec_ct (fn := Try.f40) (c := bodyOf Try.f40) (k := Try.f40.ntmps - ct40.ps.length) (ct := ct40) c39 Try.func40 (by kernel_rfl) ann40 (by kernel_rfl) (fun vs w _ => Try.call40 vs w) (e40.mpr vc40)
theorem c40 : (base.with sp40).Ok := addS_ok c39 ok40
theorem ser_inj {x y : List It} (hx : (ser x).2.2 = 0) (hy : (ser y).2.2 = 0) (h : (ser x).1 = (ser y).1) : x = y := by
  have h1 := prs_ser hx
  have h2 := prs_ser hy
  rw [h, h2] at h1
  exact (Prod.mk.inj h1).1.symm
theorem vc10 : P10 := by
  intro x y hx hy _
  refine ⟨trivial, fun _ _ => condI (fun _ => ⟨trivial, rfl⟩) fun h => ?_⟩
  simp only [Bool.not_true, Bool.false_or, Bool.or_eq_false_iff, decide_eq_false_iff_not] at h
  simp only [its_rows, bytes_rows]
  refine ⟨by unfold preL; omega, by unfold preL; omega, trivial, trivial, fun _ => trivial, fun _ => trivial, condI (fun h => by simp at h) fun _ => ⟨by unfold preL; rw [rowsIt_length, itsOf_length]; omega, by unfold preL; rw [rowsIt_length, itsOf_length]; omega, fun _ => trivial, ?_⟩⟩
  by_cases h1 : (ser (itsOf x)).2.2 = 0
  · by_cases h2 : (ser (itsOf y)).2.2 = 0
    · rw [decide_eq_false (not_not_intro h1), decide_eq_false (not_not_intro h2), Bool.false_or, Bool.false_or, beq_iff_eq, decide_eq_decide]
      exact ⟨ser_inj h1 h2, fun h => by rw [h]⟩
    · rw [decide_eq_true h2]; simp
  · rw [decide_eq_true h1]; simp
theorem ok10 : SpecOk (base.with sp40) 10 (mkF ct10) := spec_ct (fn := Try.f10) (c := bodyOf Try.f10) (k := Try.f10.ntmps - ct10.ps.length) (ct := ct10) c40 Try.func10 (by kernel_rfl) noAnn (by kernel_rfl) (fun vs w _ => Try.call10 vs w) (e10.mpr vc10)
theorem c10 : (base.with sp10).Ok := addS_ok c40 ok10
end Go.Proofs.Ytfikklbaceidfaa
