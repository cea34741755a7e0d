/-
  The conditions of the functions on bytes and words are met.
-/
import Derived.Test.YtganbceicojfmaaDoorP4
namespace Go.Proofs.YtganbceicojfmaaDoor
open Go Go.Avc Go.Proofs
set_option linter.unusedVariables false
set_option linter.unusedSimpArgs false
set_option maxRecDepth 100000
theorem row1_get {L : List Int} {i : Nat} (h : i < L.length) : (L.map row1).getD i [] = [.int (L.getD i 0)] := by
  rw [List.getD_eq_getElem?_getD, List.getElem?_map, List.getD_eq_getElem?_getD, List.getElem?_eq_getElem h]; rfl
theorem rv_row1 (L : List Int) (i : Nat) : rv (L.map row1) i = L.getD i 0 := by
  unfold rv
  rcases Nat.lt_or_ge i L.length with h | h
  · rw [row1_get h]; rfl
  · have e1 : (L.map row1).getD i [] = [] := by rw [List.getD_eq_getElem?_getD, List.getElem?_map, List.getElem?_eq_none h]; rfl
    have e2 : L.getD i 0 = 0 := by rw [List.getD_eq_getElem?_getD, List.getElem?_eq_none h]; rfl
    rw [e1, e2]; rfl
theorem row1_set (L : List Int) (i : Nat) (x : Int) : (L.map row1).set i [.int x] = (L.set i x).map row1 := by
  rw [List.map_set]; rfl
theorem row1_back (L : List Int) : (L.map row1).map (fun r => (r.getD 0 (CD.int 0)).toInt) = L := by
  rw [List.map_map]
  have : ((fun r : List CD => (r.getD 0 (CD.int 0)).toInt) ∘ row1) = id := by funext x; rfl
  rw [this, List.map_id]
theorem row1_whole {L : List Int} {n : Nat} (h : L.length = n) : List.map (fun r => (r.getD 0 (CD.int 0)).toInt) (List.take n (List.drop 0 (L.map row1))) = L := by
  rw [List.drop_zero, List.take_of_length_le (by simp [h]), row1_back]
theorem ws_len (l : List (List CD)) : ∀ n, (wsN l n).length = (l.length + 7) / 8
  | 0 => by rw [wsN, List.length_replicate]
  | n + 1 => by rw [wsN, List.length_set, ws_len l n]
theorem rb_len (l : List (List CD)) : ∀ n, (rbN l n).length = 25
  | 0 => by rw [rbN, List.length_replicate]
  | n + 1 => by rw [rbN, List.length_set, rb_len l n]
theorem wb_len (w : Int) : ∀ n, (wbN w n).length = n
  | 0 => rfl
  | n + 1 => by rw [wbN, List.length_append, wb_len w n]; rfl
theorem bys_len (f : Nat → Int) : ∀ n, (bysN f n).length = 8 * n
  | 0 => rfl
  | n + 1 => by rw [bysN, List.length_append, bys_len f n, wb_len]; omega
theorem pow_256 (n : Nat) (v : Int) : v / 256 ^ n / 256 = v / 256 ^ (n + 1) := by
  rw [Int.pow_succ, Int.ediv_ediv_of_nonneg (Int.le_of_lt (Int.pow_pos (by decide)))]
theorem wrap_u8 (n : Int) : IntKind.u8.wrap n = n % 256 := by
  simp [IntKind.wrap, IntKind.signed, IntKind.bits]
theorem shr8 (x : Int) : bShr .u64 x 8 = x / 256 := by
  unfold bShr
  rw [show (2 : Int) ^ min (8 : Int).toNat (IntKind.bits .u64) = 256 from by decide, Int.fdiv_eq_ediv_of_nonneg _ (by decide)]
theorem div_le {v : Int} (h : 0 ≤ v) (n : Nat) : 0 ≤ v / 256 ^ n ∧ v / 256 ^ n ≤ v :=
  ⟨Int.ediv_nonneg h (Int.le_of_lt (Int.pow_pos (by decide))), Int.ediv_le_self _ h⟩
theorem rv_def (l : List (List CD)) (i : Nat) : ((l.getD i []).getD 0 (CD.int 0)).toInt = rv l i := rfl
theorem i64max : IntKind.max .i64 = 9223372036854775807 := by decide
theorem u64max : IntKind.max .u64 = 18446744073709551615 := by decide
theorem vc39 : P39 := by
  rintro l _ ⟨hl, hb⟩ _
  have e0 : (((l.length : Int) + 7) / 8).toNat = (l.length + 7) / 8 := by omega
  rw [i64max, e0]
  refine ⟨by omega, by omega, by omega, fun _ => ⟨⟨⟨rfl, rfl, by omega, by omega, ?_⟩, trivial⟩, ?_⟩⟩
  · rw [wsN, List.map_replicate]; rfl
  rintro l1 n i' w _ _ ⟨rfl, rfl, h0, h1, hw⟩
  obtain ⟨i, rfl⟩ := ex_nat h0
  rw [Int.toNat_natCast] at hw
  have hwl : w.length = (l1.length + 7) / 8 := by rw [hw, List.length_map, ws_len]
  refine condI (fun h => ?_) fun h => ?_
  · simp only [decide_eq_true_eq] at h
    have e1 : ((i : Int) / 8).toNat = i / 8 := by omega
    simp only [Int.toNat_natCast, e1, suc_nat]
    have hi : i / 8 < (wsN l1 i).length := by rw [ws_len]; omega
    refine ⟨by omega, by omega, by omega, by omega, by omega, by omega, by omega, by omega, by omega, by omega, by omega, ⟨by trivial, by trivial, by omega, by omega, ?_⟩, by omega⟩
    rw [hw, row1_get hi]
    show ((wsN l1 i).map row1).set (i / 8) [CD.int _] = _
    rw [row1_set, wsN]
    have e2 : (8 : Int) * ((i : Int) % 8) = ((8 * (i % 8) : Nat) : Int) := by omega
    rw [e2]; rfl
  · simp only [decide_eq_false_iff_not] at h
    have hi : i = l1.length := by omega
    subst hi
    exact hw
theorem ok39 : SpecOk (base.with sp18) 39 (mkF ct39) := spec_ct (fn := Tryd.f39) (c := bodyOf Tryd.f39) (k := Tryd.f39.ntmps - ct39.ps.length) (ct := ct39) c18 Tryd.func39 (by kernel_rfl) ann39 (by kernel_rfl) (fun vs w _ => Tryd.call39 vs w) (e39.mpr vc39)
theorem c39 : (base.with sp39).Ok := addS_ok c18 ok39
theorem vc40 : P40 := by
  rintro l _ ⟨hl, hb⟩ _
  refine ⟨⟨⟨rfl, rfl, by omega, by omega, rfl⟩, trivial⟩, ?_⟩
  rintro l1 n i' o _ _ ⟨rfl, rfl, h0, h1, ho⟩
  obtain ⟨i, rfl⟩ := ex_nat h0
  simp only [Int.toNat_natCast] at ho ⊢
  rw [rv_def]
  have hol : o.length = 8 * i := by rw [ho, List.length_map, bys_len]
  have hx := hb i
  generalize hX : rv l1 i = X at *
  refine condI (fun h => ?_) fun h => ?_
  · simp only [decide_eq_true_eq] at h
    refine ⟨by omega, by omega, ⟨⟨by trivial, by trivial, by trivial, by omega, by omega, (Int.ediv_one _).symm, by rw [wbN]; simp⟩, trivial⟩, ?_⟩
    rintro x l2 n i' k' o2 _ _ ⟨rfl, rfl, rfl, h2, h3, rfl, ho2⟩
    obtain ⟨k, rfl⟩ := ex_nat h2
    simp only [Int.toNat_natCast] at ho2 ⊢
    have ho2l : o2.length = 8 * i + k := by rw [ho2, List.length_append, List.length_map, wb_len, hol]
    refine condI (fun h4 => ?_) fun h4 => ?_
    · simp only [decide_eq_true_eq] at h4
      rw [suc_nat]
      refine ⟨by omega, by omega, by omega, ⟨by trivial, by trivial, by trivial, by omega, by omega, by rw [shr8, pow_256], ?_⟩, by omega⟩
      rw [ho2, wbN, List.map_append, ← List.append_assoc, wrap_u8]; rfl
    · simp only [decide_eq_false_iff_not] at h4
      have hk : k = 8 := by omega
      subst hk
      refine ⟨by omega, ⟨by trivial, by trivial, by omega, by omega, ?_⟩, by omega⟩
      rw [suc_nat, bysN, List.map_append, ho2, ho, hX]
  · simp only [decide_eq_false_iff_not] at h
    have hi : i = l1.length := by omega
    subst hi
    exact ho
theorem ok40 : SpecOk (base.with sp39) 40 (mkF ct40) := spec_ct (fn := Tryd.f40) (c := bodyOf Tryd.f40) (k := Tryd.f40.ntmps - ct40.ps.length) (ct := ct40) c39 Tryd.func40 (by kernel_rfl) ann40 (by kernel_rfl) (fun vs w _ => Tryd.call40 vs w) (e40.mpr vc40)
theorem c40 : (base.with sp40).Ok := addS_ok c39 ok40
theorem vc21 : P21 := by
  rintro l _ hb _
  refine condI (fun h => ?_) fun h => ?_
  · simp only [decide_eq_true_eq] at h
    refine condI (fun _ => ⟨z25_eq.symm, rfl⟩) fun h2 => ?_
    simp only [decide_eq_false_iff_not] at h2
    omega
  · simp only [decide_eq_false_iff_not] at h
    have hl : l.length = 200 := by omega
    have hw : (wsN l l.length).length = 25 := by rw [ws_len, hl]
    refine ⟨⟨by omega, hb⟩, by rw [List.length_map]; omega, by rw [List.length_map]; omega, ?_⟩
    rw [row1_whole hw]
    refine condI (fun h2 => ?_) fun _ => ⟨by rw [hl], rfl⟩
    simp only [decide_eq_true_eq] at h2
    omega
theorem ok21 : SpecOk (base.with sp40) 21 (mkF ct21) := spec_ct (fn := Tryd.f21) (c := bodyOf Tryd.f21) (k := Tryd.f21.ntmps - ct21.ps.length) (ct := ct21) c40 Tryd.func21 (by kernel_rfl) noAnn (by kernel_rfl) (fun vs w _ => Tryd.call21 vs w) (e21.mpr vc21)
theorem c21 : (base.with sp21).Ok := addS_ok c40 ok21
theorem rv_map (s : List Int) : rv (List.map (fun x => [CD.int x]) s) = fun i => s.getD i 0 := by
  funext i; exact rv_row1 s i
theorem vc22 : P22 := by
  rintro s hs hw
  rw [List.drop_zero, List.take_of_length_le (by omega), rv_map, List.length_map, hs]
  have h8 : (bysN (fun i => s.getD i 0) 25).length = 200 := bys_len _ 25
  refine ⟨by omega, ⟨by omega, fun i => ?_⟩, by rw [List.length_map]; omega, by rw [List.length_map]; omega, (row1_whole h8).trans (bysL_eq s).symm⟩
  rw [rv_map]; exact hw i
theorem ok22 : SpecOk (base.with sp21) 22 (mkF ct22) := spec_ct (fn := Tryd.f22) (c := bodyOf Tryd.f22) (k := Tryd.f22.ntmps - ct22.ps.length) (ct := ct22) c21 Tryd.func22 (by kernel_rfl) noAnn (by kernel_rfl) (fun vs w _ => Tryd.call22 vs w) (e22.mpr vc22)
theorem c22 : (base.with sp22).Ok := addS_ok c21 ok22
theorem vc23 : P23 := by
  rintro l _ ⟨hl, hb⟩ _
  refine ⟨by omega, ⟨⟨rfl, by omega, by omega, ?_⟩, trivial⟩, ?_⟩
  · rw [show ((l.length : Int) - 1 - ((l.length : Int) - 1)).toNat = 0 from by omega]; rfl
  rintro l1 n _ w _ _ hwl ⟨rfl, h0, h1, hw⟩
  refine condI (fun h => ?_) fun h => ?_
  · simp only [decide_eq_true_eq] at h
    obtain ⟨i, rfl⟩ := ex_nat h
    have e1 : ((i : Int) / 8).toNat = i / 8 := by omega
    have e2 : ((l1.length : Int) - 1 - (i : Int)).toNat = l1.length - 1 - i := by omega
    have e3 : ((l1.length : Int) - 1 - ((i : Int) - 1)).toNat = (l1.length - 1 - i) + 1 := by omega
    rw [e2] at hw
    rw [i64max]
    simp only [Int.toNat_natCast, e1, e3, Nat.mul_one]
    refine ⟨by omega, by omega, by omega, by omega, by omega, by omega, by omega, by omega, by omega, ⟨by trivial, by omega, by omega, ?_⟩, by omega⟩
    rw [rv_def, rbN, show l1.length - 1 - (l1.length - 1 - i) = i from by omega, ← hw]
  · simp only [decide_eq_false_iff_not] at h
    have hn : n = -1 := by omega
    subst hn
    rw [hw]
    congr 1
    omega
theorem ok23 : SpecOk (base.with sp22) 23 (mkF ct23) := spec_ct (fn := Tryd.f23) (c := bodyOf Tryd.f23) (k := Tryd.f23.ntmps - ct23.ps.length) (ct := ct23) c22 Tryd.func23 (by kernel_rfl) ann23 (by kernel_rfl) (fun vs w _ => Tryd.call23 vs w) (e23.mpr vc23)
theorem c23 : (base.with sp23).Ok := addS_ok c22 ok23
theorem vc24 : P24 := by
  rintro s hs hw
  refine ⟨⟨⟨rfl, by omega, by omega, rfl⟩, trivial⟩, ?_⟩
  rintro i' s1 o _ _ ⟨rfl, h0, h1, ho⟩
  obtain ⟨i, rfl⟩ := ex_nat h0
  simp only [Int.toNat_natCast, Nat.mul_one] at ho ⊢
  have hol : o.length = 8 * i := by rw [ho, List.length_map, bys_len]
  have hx := hw i
  refine condI (fun h => ?_) fun h => ?_
  · simp only [decide_eq_true_eq] at h
    generalize hX : s1.getD i 0 = X at *
    refine ⟨by omega, by omega, ⟨⟨by trivial, by trivial, by omega, by omega, (Int.ediv_one _).symm, by rw [wbN]; simp⟩, trivial⟩, ?_⟩
    rintro i' x k' s2 o2 _ _ ⟨rfl, rfl, h2, h3, rfl, ho2⟩
    obtain ⟨k, rfl⟩ := ex_nat h2
    simp only [Int.toNat_natCast] at ho2 ⊢
    have ho2l : o2.length = 8 * i + k := by rw [ho2, List.length_append, List.length_map, wb_len, hol]
    have hd := div_le hx.1 k
    have hx2 := hx.2
    refine condI (fun h4 => ?_) fun h4 => ?_
    · simp only [decide_eq_true_eq] at h4
      rw [suc_nat, u64max]
      refine ⟨by omega, by omega, by omega, by omega, ⟨by trivial, by trivial, by omega, by omega, by rw [pow_256], ?_⟩, by omega⟩
      rw [ho2, wbN, List.map_append, ← List.append_assoc, wrap_u8, Int.emod_emod_of_dvd _ (Int.dvd_refl _)]; rfl
    · simp only [decide_eq_false_iff_not] at h4
      have hk : k = 8 := by omega
      subst hk
      refine ⟨by omega, ⟨by trivial, by omega, by omega, ?_⟩, by omega⟩
      rw [suc_nat, bysN, List.map_append, ho2, ho, hX]
  · simp only [decide_eq_false_iff_not] at h
    have hi : i = 25 := by omega
    subst hi
    rw [bysL_eq]; exact ho
theorem ok24 : SpecOk (base.with sp23) 24 (mkF ct24) := spec_ct (fn := Tryd.f24) (c := bodyOf Tryd.f24) (k := Tryd.f24.ntmps - ct24.ps.length) (ct := ct24) c23 Tryd.func24 (by kernel_rfl) ann24 (by kernel_rfl) (fun vs w _ => Tryd.call24 vs w) (e24.mpr vc24)
theorem c24 : (base.with sp24).Ok := addS_ok c23 ok24
end Go.Proofs.YtganbceicojfmaaDoor
