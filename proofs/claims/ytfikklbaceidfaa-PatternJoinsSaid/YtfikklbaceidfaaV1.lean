/-
  The conditions of the functions on items are met.
-/
import Derived.Test.YtfikklbaceidfaaP1
namespace Go.Proofs.Ytfikklbaceidfaa
open Go Go.Avc Go.Proofs
set_option linter.unusedVariables false
set_option linter.unusedSimpArgs false
set_option maxRecDepth 100000
theorem condI {b : Bool} {X Y : Prop} (h : b = true → X) (k : b = false → Y) : bif b then X else Y := by
  cases b with
  | true => exact h rfl
  | false => exact k rfl

theorem vc14 : P14 := by
  intro a b c l hl _
  unfold chk
  refine condI (fun h => ?_) fun h1 => condI (fun h => ?_) fun h2 => condI (fun h => ?_) fun h3 hl => condI (fun h => ?_) fun h4 => ?_
  all_goals simp only [Bool.or_eq_true, Bool.and_eq_true, decide_eq_true_eq, Bool.or_eq_false_iff, Bool.and_eq_false_iff, decide_eq_false_iff_not, ne_eq, Classical.not_not] at *
  all_goals repeat' split
  all_goals omega
theorem ok14 : SpecOk (base.with spec0) 14 (mkF ct14) := spec_ct (fn := Try.f14) (c := bodyOf Try.f14) (k := Try.f14.ntmps - ct14.ps.length) (ct := ct14) base_ok Try.func14 (by kernel_rfl) noAnn (by kernel_rfl) (fun vs w _ => Try.call14 vs w) (e14.mpr vc14)
theorem c14 : (base.with sp14).Ok := addS_ok base_ok ok14

theorem vc15 : P15 := fun _ _ _ _ _ _ => ⟨rfl, rfl, rfl, rfl⟩
theorem ok15 : SpecOk (base.with sp14) 15 (mkF ct15) := spec_ct (fn := Try.f15) (c := bodyOf Try.f15) (k := Try.f15.ntmps - ct15.ps.length) (ct := ct15) c14 Try.func15 (by kernel_rfl) noAnn (by kernel_rfl) (fun vs w _ => Try.call15 vs w) (e15.mpr vc15)
theorem c15 : (base.with sp15).Ok := addS_ok c14 ok15

theorem idxI_none : ∀ {l : List Int} {v : Int}, v ∉ l → idxI l v = -1
  | [], _, _ => rfl
  | x :: l, v, h => by
    have h1 : x ≠ v := fun e => h (by simp [e])
    have h2 := idxI_none (l := l) (v := v) fun e => h (by simp [e])
    simp [idxI, h1, h2]
theorem idxI_some : ∀ {l : List Int} {v : Int} {i : Nat}, v ∉ l.take i → l[i]? = some v → idxI l v = i
  | [], _, _, _, h => by simp at h
  | x :: l, v, 0, _, h => by simp at h; simp [idxI, h]
  | x :: l, v, i + 1, h, h' => by
    have h1 : x ≠ v := fun e => h (by simp [e])
    have h2 := idxI_some (l := l) (v := v) (i := i) (fun e => h (by simp [e])) (by simpa using h')
    simp only [idxI, if_neg h1, h2]
    rw [if_neg (by omega)]
    omega
theorem idxI_ge {l : List Int} {v : Int} : 0 ≤ idxI l v ↔ v ∈ l := by
  induction l with
  | nil => simp [idxI]
  | cons x l ih =>
    simp only [idxI, List.mem_cons]
    split
    · rename_i h; simp [h]
    · rename_i h
      have : v ≠ x := fun e => h e.symm
      rw [or_iff_right this, ← ih]
      split <;> omega
theorem intsOf_get {l : List (List CD)} {i : Nat} (h : i < l.length) : (intsOf l)[i]? = some ((l.getD i []).getD 0 .d0).toInt := by
  simp [intsOf, h]
theorem intsOf_length (l : List (List CD)) : (intsOf l).length = l.length := by simp [intsOf]
theorem vc54 : P54 := by
  intro l v hl _ _
  refine ⟨⟨⟨rfl, rfl, rfl, by omega, by omega, by simp⟩, trivial⟩, ?_⟩
  rintro l' v' n i hl' ⟨rfl, rfl, rfl, h0, h1, h2⟩
  refine condI (fun h => ?_) fun h => ?_
  · simp only [decide_eq_true_eq] at h
    have hlt : i.toNat < l'.length := by omega
    have hg := intsOf_get hlt
    refine ⟨⟨h0, h⟩, hlt, condI (fun he => ?_) fun he => ⟨by omega, ⟨rfl, rfl, rfl, by omega, by omega, ?_⟩, by omega⟩⟩
    · simp only [decide_eq_true_eq] at he
      rw [idxI_some h2 (by rw [hg, he])]
      omega
    · simp only [decide_eq_false_iff_not] at he
      rw [show (i + 1).toNat = i.toNat + 1 from by omega, List.take_add_one, hg]
      simp only [Option.toList_some, List.mem_append, List.mem_singleton, not_or]
      exact ⟨h2, he⟩
  · simp only [decide_eq_false_iff_not] at h
    rw [idxI_none]
    rw [List.take_of_length_le (by rw [intsOf_length]; omega)] at h2
    exact h2
theorem ok54 : SpecOk (base.with sp15) 54 (mkF ct54) := spec_ct (fn := Try.f54) (c := bodyOf Try.f54) (k := Try.f54.ntmps - ct54.ps.length) (ct := ct54) c15 Try.func54 (by kernel_rfl) ann54 (by kernel_rfl) (fun vs w _ => Try.call54 vs w) (e54.mpr vc54)
theorem c54 : (base.with sp54).Ok := addS_ok c15 ok54

theorem vc42 : P42 := fun l n _ _ => ⟨trivial, by rw [decide_eq_decide]; exact idxI_ge⟩
theorem ok42 : SpecOk (base.with sp54) 42 (mkF ct42) := spec_ct (fn := Try.f42) (c := bodyOf Try.f42) (k := Try.f42.ntmps - ct42.ps.length) (ct := ct42) c54 Try.func42 (by kernel_rfl) noAnn (by kernel_rfl) (fun vs w _ => Try.call42 vs w) (e42.mpr vc42)
theorem c42 : (base.with sp42).Ok := addS_ok c54 ok42

theorem vc41 : P41 := by
  intro a _
  refine condI (fun h => ?_) fun h1 => condI (fun h => ?_) fun h2 => condI (fun h => ?_) fun h3 => ?_
  all_goals simp only [decide_eq_true_eq, decide_eq_false_iff_not] at *
  all_goals simp [mostOf, typesOf, rowsI, *]
theorem ok41 : SpecOk (base.with sp42) 41 (mkF ct41) := spec_ct (fn := Try.f41) (c := bodyOf Try.f41) (k := Try.f41.ntmps - ct41.ps.length) (ct := ct41) c42 Try.func41 (by kernel_rfl) noAnn (by kernel_rfl) (fun vs w _ => Try.call41 vs w) (e41.mpr vc41)
theorem c41 : (base.with sp41).Ok := addS_ok c42 ok41

theorem ints_rows (l : List Int) : intsOf (rowsI l) = l := by simp [intsOf, rowsI, CD.toInt, Function.comp_def]
theorem rowsI_length (l : List Int) : (rowsI l).length = l.length := by simp [rowsI]
theorem vc16 : P16 := by
  intro a b c l hl _
  refine ⟨trivial, fun _ => ?_⟩
  rw [ints_rows, rowsI_length]
  have ht : a = 1 ∨ a = 2 ∨ a = 3 ∨ (a ≠ 1 ∧ a ≠ 2 ∧ a ≠ 3) := by omega
  have e1 : typesOf 1 = [1, 2, 3, 4] := rfl
  have e2 : typesOf 2 = [1, 3] := rfl
  have e3 : typesOf 3 = [0] := rfl
  have m1 : mostOf 1 = 1048576 := rfl
  have m2 : mostOf 2 = 1048576 := rfl
  have m3 : mostOf 3 = 1 := rfl
  rcases ht with rfl | rfl | rfl | ⟨h1, h2, h3⟩
  · rw [e1, m1]
    refine ⟨trivial, condI (fun h => ?_) fun h1 => condI (fun h => ?_) fun h2 hl => condI (fun h => ?_) fun h3 => ?_⟩
    all_goals simp only [Bool.not_eq_true', Bool.not_eq_false', decide_eq_true_eq, decide_eq_false_iff_not, Bool.or_eq_true, Bool.or_eq_false_iff, List.mem_cons, List.not_mem_nil, or_false] at *
    all_goals unfold chk
    all_goals repeat' split
    all_goals omega
  · rw [e2, m2]
    refine ⟨trivial, condI (fun h => ?_) fun h1 => condI (fun h => ?_) fun h2 hl => condI (fun h => ?_) fun h3 => ?_⟩
    all_goals simp only [Bool.not_eq_true', Bool.not_eq_false', decide_eq_true_eq, decide_eq_false_iff_not, Bool.or_eq_true, Bool.or_eq_false_iff, List.mem_cons, List.not_mem_nil, or_false] at *
    all_goals unfold chk
    all_goals repeat' split
    all_goals omega
  · rw [e3, m3]
    refine ⟨trivial, condI (fun h => ?_) fun h1 => condI (fun h => ?_) fun h2 hl => condI (fun h => ?_) fun h3 => ?_⟩
    all_goals simp only [Bool.not_eq_true', Bool.not_eq_false', decide_eq_true_eq, decide_eq_false_iff_not, Bool.or_eq_true, Bool.or_eq_false_iff, List.mem_cons, List.not_mem_nil, or_false] at *
    all_goals unfold chk
    all_goals repeat' split
    all_goals omega
  · have e : typesOf a = [] := by simp [typesOf, h1, h2, h3]
    rw [e]
    refine condI (fun h => ?_) fun h => by simp at h
    unfold chk
    rw [if_pos (by omega)]
theorem ok16 : SpecOk (base.with sp41) 16 (mkF ct16) := spec_ct (fn := Try.f16) (c := bodyOf Try.f16) (k := Try.f16.ntmps - ct16.ps.length) (ct := ct16) c41 Try.func16 (by kernel_rfl) noAnn (by kernel_rfl) (fun vs w _ => Try.call16 vs w) (e16.mpr vc16)
theorem c16 : (base.with sp16).Ok := addS_ok c41 ok16

theorem wrap_u8 (m : Int) : IntKind.u8.wrap m = m % 256 := by
  simp [IntKind.wrap, IntKind.signed, IntKind.bits]
theorem byteAt_toNat (n : Int) (i : Nat) : ((byteAt n i).toNat : Int) = n / 256 ^ i % 256 := by
  have h0 : 0 ≤ n / 256 ^ i % 256 := Int.emod_nonneg _ (by decide)
  have h1 : n / 256 ^ i % 256 < 256 := Int.emod_lt_of_pos _ (by decide)
  simp only [byteAt, UInt8.toNat_ofNat']
  omega
theorem shr_byte {n i : Int} (h0 : 0 ≤ i) (h : i < 8) : IntKind.u8.wrap (bShr .i64 n (8 * i)) = ((byteAt n i.toNat).toNat : Int) := by
  rw [wrap_u8, byteAt_toNat]
  obtain ⟨k, rfl⟩ : ∃ k : Nat, i = k := ⟨i.toNat, by omega⟩
  unfold bShr
  have e : min (8 * (k : Int)).toNat (IntKind.bits .i64) = 8 * k := by simp [IntKind.bits]; omega
  rw [e, Int.fdiv_eq_ediv_of_nonneg _ (by exact Int.le_of_lt (Int.pow_pos (by decide))), Int.pow_mul, Int.toNat_natCast]
  rfl
theorem numB_succ (n : Int) (i : Nat) : numB n (i + 1) = numB n i ++ [byteAt n i] := by simp [numB, List.range_succ]
theorem rows_append (a b : List UInt8) : rowsOfBytes (a ++ b) = rowsOfBytes a ++ rowsOfBytes b := by simp [rowsOfBytes]
theorem rows_length (a : List UInt8) : (rowsOfBytes a).length = a.length := by simp [rowsOfBytes]
theorem numB_length (n : Int) (w : Nat) : (numB n w).length = w := by simp [numB]
theorem bytes_rows (a : List UInt8) : bytesOfRows (rowsOfBytes a) = a := by
  simp only [bytesOfRows, rowsOfBytes, List.map_map]
  refine (List.map_congr_left fun x _ => ?_).trans (List.map_id a)
  simp [CD.toInt]
theorem vc43 : P43 := by
  rintro n w l hl ⟨hn, hw0, hw8, hlen⟩
  refine ⟨⟨⟨rfl, rfl, by omega, hw0, by simp [numB, rowsOfBytes]⟩, trivial⟩, ?_⟩
  rintro n' w' i out hout ⟨rfl, rfl, h0, h1, rfl⟩
  refine condI (fun h => ?_) fun h => ?_
  · simp only [decide_eq_true_eq] at h
    have hb : i.toNat ≤ 8 := by omega
    simp only [List.length_append, rows_length, numB_length, List.length_cons, List.length_nil] at *
    refine ⟨by omega, by omega, by omega, by omega, ⟨rfl, rfl, by omega, by omega, ?_⟩, by omega⟩
    rw [shr_byte h0 (by omega), show (i + 1).toNat = i.toNat + 1 from by omega, numB_succ, rows_append, List.append_assoc]
    rfl
  · simp only [decide_eq_false_iff_not] at h
    rw [show i = w' from by omega]
theorem ok43 : SpecOk (base.with sp16) 43 (mkF ct43) := spec_ct (fn := Try.f43) (c := bodyOf Try.f43) (k := Try.f43.ntmps - ct43.ps.length) (ct := ct43) c16 Try.func43 (by kernel_rfl) ann43 (by kernel_rfl) (fun vs w _ => Try.call43 vs w) (e43.mpr vc43)
theorem c43 : (base.with sp43).Ok := addS_ok c16 ok43

theorem chk_zero {a b c : Int} {l : List UInt8} (h : chk a b c l = 0) : 1 ≤ a ∧ a ≤ 3 ∧ 0 ≤ b ∧ b ≤ 4 ∧ 1 ≤ c ∧ c ≤ 1048576 ∧ (a = 3 → c = 1) ∧ (a = 1 → 1 ≤ b) ∧ (a = 2 → b = 1 ∨ b = 3) ∧ (a = 3 → b = 0) ∧ l.length ≤ 255 := by
  unfold chk at h
  repeat' split at h
  all_goals omega
theorem byte_row {a : Int} (h0 : 0 ≤ a) (h : a < 256) : [CD.int (IntKind.u8.wrap a)] = [CD.int ((byteAt a 0).toNat : Int)] := by
  rw [wrap_u8, byteAt_toNat]; simp
theorem vc17 : P17 := by
  intro a b c l hl hpre
  refine ⟨trivial, condI (fun h => ?_) fun h => ?_⟩
  · simp only [ne_eq, decide_not, Bool.not_eq_true', decide_eq_false_iff_not] at h
    exact ⟨rfl, by rw [encR, if_neg h]⟩
  · simp only [ne_eq, decide_not, Bool.not_eq_false', decide_eq_true_eq] at h
    obtain ⟨h1, h2, h3, h4, h5, h6, _, _, _, _, h7⟩ := chk_zero h
    simp only [List.length_append, rows_length, numB_length, List.length_cons, List.length_nil, pre43] at *
    refine ⟨⟨by omega, by omega, by omega, by omega⟩, ⟨by omega, by omega, by omega, by omega⟩, ⟨by omega, by omega⟩, h.symm, ?_⟩
    rw [encR, if_pos h, encB, byte_row (by omega) (by omega), byte_row (by omega) (by omega)]
    simp only [rows_append]
    rfl
theorem ok17 : SpecOk (base.with sp43) 17 (mkF ct17) := spec_ct (fn := Try.f17) (c := bodyOf Try.f17) (k := Try.f17.ntmps - ct17.ps.length) (ct := ct17) c43 Try.func17 (by kernel_rfl) noAnn (by kernel_rfl) (fun vs w _ => Try.call17 vs w) (e17.mpr vc17)
theorem c17 : (base.with sp17).Ok := addS_ok c43 ok17

theorem vc13 : P13 := by
  intro _
  refine ⟨trivial, fun _ => by decide, fun h => ?_⟩
  exact absurd h (by decide)
theorem ok13 : SpecOk (base.with sp17) 13 (mkF ct13) := spec_ct (fn := Try.f13) (c := bodyOf Try.f13) (k := Try.f13.ntmps - ct13.ps.length) (ct := ct13) c17 Try.func13 (by kernel_rfl) noAnn (by kernel_rfl) (fun vs w _ => Try.call13 vs w) (e13.mpr vc13)
theorem c13 : (base.with sp13).Ok := addS_ok c17 ok13
end Go.Proofs.Ytfikklbaceidfaa
