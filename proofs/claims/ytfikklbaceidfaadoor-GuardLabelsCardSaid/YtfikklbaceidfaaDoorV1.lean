/-
  The conditions of the functions on items are met.
-/
import Derived.Test.YtfikklbaceidfaaDoorP1
namespace Go.Proofs.YtfikklbaceidfaaDoor
open Go Go.Avc Go.Proofs
set_option linter.unusedVariables false
set_option linter.unusedSimpArgs false
set_option maxRecDepth 100000
theorem condI {b : Bool} {X Y : Prop} (h : b = true → X) (k : b = false → Y) : bif b then X else Y := by
  cases b with
  | true => exact h rfl
  | false => exact k rfl

theorem vc20 : P20 := by
  intro a b c l hl _
  unfold chk
  refine condI (fun h => ?_) fun h1 => condI (fun h => ?_) fun h2 => condI (fun h => ?_) fun h3 hl => condI (fun h => ?_) fun h4 => ?_
  all_goals simp only [Bool.or_eq_true, Bool.and_eq_true, decide_eq_true_eq, Bool.or_eq_false_iff, Bool.and_eq_false_iff, decide_eq_false_iff_not, ne_eq, Classical.not_not] at *
  all_goals repeat' split
  all_goals omega
theorem ok20 : SpecOk (base.with spec0) 20 (mkF ct20) := spec_ct (fn := Tryd.f20) (c := bodyOf Tryd.f20) (k := Tryd.f20.ntmps - ct20.ps.length) (ct := ct20) base_ok Tryd.func20 (by kernel_rfl) noAnn (by kernel_rfl) (fun vs w _ => Tryd.call20 vs w) (e20.mpr vc20)
theorem c20 : (base.with sp20).Ok := addS_ok base_ok ok20


theorem idxI_none : ∀ {l : List Int} {v : Int}, v ∉ l → idxI l v = -1
  | [], _, _ => rfl
  | x :: l, v, h => by
    have h1 : x ≠ v := fun e => h (by simp [e])
    have h2 := idxI_none (l := l) (v := v) fun e => h (by simp [e])
    simp [idxI, h1, h2]
theorem idxI_some : ∀ {l : List Int} {v : Int} {i : Nat}, v ∉ l.take i → l[i]? = some v → idxI l v = i
  | [], _, _, _, h => by simp at h
  | x :: l, v, 0, _, h => by simp at h; simp [idxI, h]
  | x :: l, v, i + 1, h, h' => by
    have h1 : x ≠ v := fun e => h (by simp [e])
    have h2 := idxI_some (l := l) (v := v) (i := i) (fun e => h (by simp [e])) (by simpa using h')
    simp only [idxI, if_neg h1, h2]
    rw [if_neg (by omega)]
    omega
theorem idxI_ge {l : List Int} {v : Int} : 0 ≤ idxI l v ↔ v ∈ l := by
  induction l with
  | nil => simp [idxI]
  | cons x l ih =>
    simp only [idxI, List.mem_cons]
    split
    · rename_i h; simp [h]
    · rename_i h
      have : v ≠ x := fun e => h e.symm
      rw [or_iff_right this, ← ih]
      split <;> omega
theorem intsOf_get {l : List (List CD)} {i : Nat} (h : i < l.length) : (intsOf l)[i]? = some ((l.getD i []).getD 0 .d0).toInt := by
  simp [intsOf, h]
theorem intsOf_length (l : List (List CD)) : (intsOf l).length = l.length := by simp [intsOf]
theorem vc40 : P40 := by
  intro l v hl _ _
  refine ⟨⟨⟨rfl, rfl, rfl, by omega, by omega, by simp⟩, trivial⟩, ?_⟩
  rintro l' v' n i hl' ⟨rfl, rfl, rfl, h0, h1, h2⟩
  refine condI (fun h => ?_) fun h => ?_
  · simp only [decide_eq_true_eq] at h
    have hlt : i.toNat < l'.length := by omega
    have hg := intsOf_get hlt
    refine ⟨⟨h0, h⟩, hlt, condI (fun he => ?_) fun he => ⟨by omega, ⟨rfl, rfl, rfl, by omega, by omega, ?_⟩, by omega⟩⟩
    · simp only [decide_eq_true_eq] at he
      rw [idxI_some h2 (by rw [hg, he])]
      omega
    · simp only [decide_eq_false_iff_not] at he
      rw [show (i + 1).toNat = i.toNat + 1 from by omega, List.take_add_one, hg]
      simp only [Option.toList_some, List.mem_append, List.mem_singleton, not_or]
      exact ⟨h2, he⟩
  · simp only [decide_eq_false_iff_not] at h
    rw [idxI_none]
    rw [List.take_of_length_le (by rw [intsOf_length]; omega)] at h2
    exact h2
theorem ok40 : SpecOk (base.with sp20) 40 (mkF ct40) := spec_ct (fn := Tryd.f40) (c := bodyOf Tryd.f40) (k := Tryd.f40.ntmps - ct40.ps.length) (ct := ct40) c20 Tryd.func40 (by kernel_rfl) ann40 (by kernel_rfl) (fun vs w _ => Tryd.call40 vs w) (e40.mpr vc40)
theorem c40 : (base.with sp40).Ok := addS_ok c20 ok40

theorem vc38 : P38 := fun l n _ _ => ⟨trivial, by rw [decide_eq_decide]; exact idxI_ge⟩
theorem ok38 : SpecOk (base.with sp40) 38 (mkF ct38) := spec_ct (fn := Tryd.f38) (c := bodyOf Tryd.f38) (k := Tryd.f38.ntmps - ct38.ps.length) (ct := ct38) c40 Tryd.func38 (by kernel_rfl) noAnn (by kernel_rfl) (fun vs w _ => Tryd.call38 vs w) (e38.mpr vc38)
theorem c38 : (base.with sp38).Ok := addS_ok c40 ok38

theorem vc37 : P37 := by
  intro a _
  refine condI (fun h => ?_) fun h1 => condI (fun h => ?_) fun h2 => condI (fun h => ?_) fun h3 => ?_
  all_goals simp only [decide_eq_true_eq, decide_eq_false_iff_not] at *
  all_goals simp [mostOf, typesOf, rowsI, *]
theorem ok37 : SpecOk (base.with sp38) 37 (mkF ct37) := spec_ct (fn := Tryd.f37) (c := bodyOf Tryd.f37) (k := Tryd.f37.ntmps - ct37.ps.length) (ct := ct37) c38 Tryd.func37 (by kernel_rfl) noAnn (by kernel_rfl) (fun vs w _ => Tryd.call37 vs w) (e37.mpr vc37)
theorem c37 : (base.with sp37).Ok := addS_ok c38 ok37

theorem ints_rows (l : List Int) : intsOf (rowsI l) = l := by simp [intsOf, rowsI, CD.toInt, Function.comp_def]
theorem rowsI_length (l : List Int) : (rowsI l).length = l.length := by simp [rowsI]
theorem vc31 : P31 := by
  intro a b c l hl _
  refine ⟨trivial, fun _ => ?_⟩
  rw [ints_rows, rowsI_length]
  have ht : a = 1 ∨ a = 2 ∨ a = 3 ∨ (a ≠ 1 ∧ a ≠ 2 ∧ a ≠ 3) := by omega
  have e1 : typesOf 1 = [1, 2, 3, 4] := rfl
  have e2 : typesOf 2 = [1, 3] := rfl
  have e3 : typesOf 3 = [0] := rfl
  have m1 : mostOf 1 = 1048576 := rfl
  have m2 : mostOf 2 = 1048576 := rfl
  have m3 : mostOf 3 = 1 := rfl
  rcases ht with rfl | rfl | rfl | ⟨h1, h2, h3⟩
  · rw [e1, m1]
    refine ⟨trivial, condI (fun h => ?_) fun h1 => condI (fun h => ?_) fun h2 hl => condI (fun h => ?_) fun h3 => ?_⟩
    all_goals simp only [Bool.not_eq_true', Bool.not_eq_false', decide_eq_true_eq, decide_eq_false_iff_not, Bool.or_eq_true, Bool.or_eq_false_iff, List.mem_cons, List.not_mem_nil, or_false] at *
    all_goals unfold chk
    all_goals repeat' split
    all_goals omega
  · rw [e2, m2]
    refine ⟨trivial, condI (fun h => ?_) fun h1 => condI (fun h => ?_) fun h2 hl => condI (fun h => ?_) fun h3 => ?_⟩
    all_goals simp only [Bool.not_eq_true', Bool.not_eq_false', decide_eq_true_eq, decide_eq_false_iff_not, Bool.or_eq_true, Bool.or_eq_false_iff, List.mem_cons, List.not_mem_nil, or_false] at *
    all_goals unfold chk
    all_goals repeat' split
    all_goals omega
  · rw [e3, m3]
    refine ⟨trivial, condI (fun h => ?_) fun h1 => condI (fun h => ?_) fun h2 hl => condI (fun h => ?_) fun h3 => ?_⟩
    all_goals simp only [Bool.not_eq_true', Bool.not_eq_false', decide_eq_true_eq, decide_eq_false_iff_not, Bool.or_eq_true, Bool.or_eq_false_iff, List.mem_cons, List.not_mem_nil, or_false] at *
    all_goals unfold chk
    all_goals repeat' split
    all_goals omega
  · have e : typesOf a = [] := by simp [typesOf, h1, h2, h3]
    rw [e]
    refine condI (fun h => ?_) fun h => by simp at h
    unfold chk
    rw [if_pos (by omega)]
theorem ok31 : SpecOk (base.with sp37) 31 (mkF ct31) := spec_ct (fn := Tryd.f31) (c := bodyOf Tryd.f31) (k := Tryd.f31.ntmps - ct31.ps.length) (ct := ct31) c37 Tryd.func31 (by kernel_rfl) noAnn (by kernel_rfl) (fun vs w _ => Tryd.call31 vs w) (e31.mpr vc31)
theorem c31 : (base.with sp31).Ok := addS_ok c37 ok31

theorem wrap_u8 (m : Int) : IntKind.u8.wrap m = m % 256 := by
  simp [IntKind.wrap, IntKind.signed, IntKind.bits]
theorem byteAt_toNat (n : Int) (i : Nat) : ((byteAt n i).toNat : Int) = n / 256 ^ i % 256 := by
  have h0 : 0 ≤ n / 256 ^ i % 256 := Int.emod_nonneg _ (by decide)
  have h1 : n / 256 ^ i % 256 < 256 := Int.emod_lt_of_pos _ (by decide)
  simp only [byteAt, UInt8.toNat_ofNat']
  omega
theorem shr_byte {n i : Int} (h0 : 0 ≤ i) (h : i < 8) : IntKind.u8.wrap (bShr .i64 n (8 * i)) = ((byteAt n i.toNat).toNat : Int) := by
  rw [wrap_u8, byteAt_toNat]
  obtain ⟨k, rfl⟩ : ∃ k : Nat, i = k := ⟨i.toNat, by omega⟩
  unfold bShr
  have e : min (8 * (k : Int)).toNat (IntKind.bits .i64) = 8 * k := by simp [IntKind.bits]; omega
  rw [e, Int.fdiv_eq_ediv_of_nonneg _ (by exact Int.le_of_lt (Int.pow_pos (by decide))), Int.pow_mul, Int.toNat_natCast]
  rfl
theorem numB_succ (n : Int) (i : Nat) : numB n (i + 1) = numB n i ++ [byteAt n i] := by simp [numB, List.range_succ]
theorem rows_append (a b : List UInt8) : rowsOfBytes (a ++ b) = rowsOfBytes a ++ rowsOfBytes b := by simp [rowsOfBytes]
theorem rows_length (a : List UInt8) : (rowsOfBytes a).length = a.length := by simp [rowsOfBytes]
theorem numB_length (n : Int) (w : Nat) : (numB n w).length = w := by simp [numB]
theorem bytes_rows (a : List UInt8) : bytesOfRows (rowsOfBytes a) = a := by
  simp only [bytesOfRows, rowsOfBytes, List.map_map]
  refine (List.map_congr_left fun x _ => ?_).trans (List.map_id a)
  simp [CD.toInt]

theorem chk_zero {a b c : Int} {l : List UInt8} (h : chk a b c l = 0) : 1 ≤ a ∧ a ≤ 3 ∧ 0 ≤ b ∧ b ≤ 4 ∧ 1 ≤ c ∧ c ≤ 1048576 ∧ (a = 3 → c = 1) ∧ (a = 1 → 1 ≤ b) ∧ (a = 2 → b = 1 ∨ b = 3) ∧ (a = 3 → b = 0) ∧ l.length ≤ 255 := by
  unfold chk at h
  repeat' split at h
  all_goals omega
theorem byte_row {a : Int} (h0 : 0 ≤ a) (h : a < 256) : [CD.int (IntKind.u8.wrap a)] = [CD.int ((byteAt a 0).toNat : Int)] := by
  rw [wrap_u8, byteAt_toNat]; simp

end Go.Proofs.YtfikklbaceidfaaDoor
