/-
  The conditions of the last two laws on patterns are met.
-/
import Derived.Test.YtfikklbaceidfaaP7
namespace Go.Proofs.Ytfikklbaceidfaa
open Go Go.Avc Go.Proofs
set_option linter.unusedVariables false
set_option linter.unusedSimpArgs false
set_option maxRecDepth 100000

theorem vc11 : P11 := by
  intro l k hl hk hw
  refine ⟨trivial, fun _ => condI (fun _ => ⟨trivial, rfl⟩) fun h _ => ?_⟩
  simp only [Bool.not_true, Bool.false_or, decide_eq_false_iff_not] at h
  refine ⟨⟨⟨rfl, rfl, rfl, by omega, rfl, by omega, by omega⟩, trivial⟩, ?_⟩
  rintro l' k' z n i _ _ _ ⟨e1, e2, e3, h1, e4, h2, h3⟩
  subst e1 e2 e3 e4
  refine condI (fun h4 => ?_) fun _ => ?_
  · simp only [decide_eq_true_eq] at h4
    exact ⟨⟨h2, h4⟩, by omega, fun _ => condI (fun _ => rfl) fun _ => ⟨⟨by omega, by omega⟩, ⟨rfl, rfl, rfl, h1, rfl, by omega, by omega⟩, by omega⟩⟩
  · simp only [its_rows]
    have hL : ∀ m : List (List CD), m.length ≤ 1100 → preL m := fun m hm => by unfold preL; omega
    refine ⟨hL _ h1, hL _ (by rw [rowsIt_length, itsOf_length]; exact h1), hL _ h1, condI (fun h5 => by simp at h5) fun _ => ⟨⟨hL _ (by rw [rowsIt_length, itsOf_length]; exact h1), by rw [its_rows]; exact hw⟩, trivial, trivial, hL _ h1, fun _ => hL _ h1, by simp⟩⟩
theorem ok11 : SpecOk (base.with sp37) 11 (mkF ct11) := spec_ct (fn := Try.f11) (c := bodyOf Try.f11) (k := Try.f11.ntmps - ct11.ps.length) (ct := ct11) c37 Try.func11 (by kernel_rfl) ann11 (by kernel_rfl) (fun vs w _ => Try.call11 vs w) (e11.mpr vc11)
theorem c11 : (base.with sp11).Ok := addS_ok c37 ok11
theorem flat_app (x y : List It) : flat (x ++ y) = flat x ++ flat y := by unfold flat; simp
theorem its_app (x y : List (List CD)) : itsOf (x ++ y) = itsOf x ++ itsOf y := by unfold itsOf; simp
theorem tot_app (q : Int) (y : List It) : ∀ x : List It, tot (x ++ y) q = tot x q + tot y q
  | [] => by simp [tot]
  | a :: x => by simp only [List.cons_append, tot, tot_app q y x]; omega
theorem tot_bd (q : Int) : ∀ x : List It, 0 ≤ tot x q ∧ tot x q ≤ 1048576 * x.length
  | [] => by simp [tot]
  | a :: x => by
    have := tot_bd q x
    have h : 0 ≤ cnt q a ∧ cnt q a ≤ 1048576 := by unfold cnt; split <;> omega
    simp only [tot, List.length_cons]
    omega
theorem same_self (x : It) : sameIt x x = true := by simp [sameIt, sameB]
theorem pref_app (y : List It) : ∀ x : List It, prefIt (x ++ y) x = true
  | [] => pref_nil _
  | a :: x => by simp only [List.cons_append, prefIt, same_self, pref_app y x, Bool.and_self]
theorem pref_take (x : List It) (n : Nat) : prefIt x (x.take n) = true := by
  have := pref_app (x.drop n) (x.take n)
  rwa [List.take_append_drop] at this
theorem vc12 : P12 := by
  rintro x y n hx hy ⟨hwx, hwy, hn0, hn1⟩
  refine ⟨trivial, fun _ _ => condI (fun _ => ⟨trivial, rfl⟩) fun h => ?_⟩
  simp only [Bool.not_true, Bool.false_or, Bool.or_eq_false_iff, decide_eq_false_iff_not] at h
  have hL : ∀ m : List (List CD), m.length ≤ 1100 → preL m := fun m hm => by unfold preL; omega
  have hrx : (rowsIt (itsOf x)).length ≤ 30 := by rw [rowsIt_length, itsOf_length]; omega
  have hry : (rowsIt (itsOf y)).length ≤ 30 := by rw [rowsIt_length, itsOf_length]; omega
  refine ⟨hL _ (by omega), hL _ (by omega), hL _ (by omega), hL _ (by omega), condI (fun _ => rfl) fun h2 => ?_⟩
  simp only [its_rows, ne_eq, decide_not, Bool.or_eq_false_iff, Bool.not_eq_false', decide_eq_true_eq] at h2
  obtain ⟨sx, _, cx⟩ := serA_ok (itsOf x) 0 [] (by omega) h2.1
  obtain ⟨sy, _, cy⟩ := serA_ok (itsOf y) 0 [] (by omega) h2.2
  rw [List.nil_append] at sx sy
  have ex : (ser (itsOf (rowsIt (itsOf x)))).1 = flat (itsOf x) := by rw [its_rows]; unfold ser; rw [sx]
  have ey : (ser (itsOf (rowsIt (itsOf y)))).1 = flat (itsOf y) := by rw [its_rows]; unfold ser; rw [sy]
  have lx : (flat (itsOf x)).length ≤ 263 * 1024 := by rw [← ex]; exact ser_len _
  have ly : (flat (itsOf y)).length ≤ 263 * 1024 := by rw [← ey]; exact ser_len _
  have eb : ([] : List (List CD)) ++ rowsOfBytes (flat (itsOf x)) ++ rowsOfBytes (flat (itsOf y)) = rowsOfBytes (flat (itsOf x ++ itsOf y)) := by rw [List.nil_append, ← rows_append, flat_app]
  have hp : prs (flat (itsOf x ++ itsOf y)) = (itsOf x ++ itsOf y, -1, 0) := by
    unfold prs
    rw [prsA_enc _ _ _ (fun z hz => (List.mem_append.1 hz).elim (cx z) (cy z)), if_pos (by rw [List.length_append, itsOf_length, itsOf_length]; omega), List.nil_append]
  rw [ex, ey, eb, bytes_rows, hp]
  have hwf : ∀ z ∈ itsOf x ++ itsOf y, wf64 z.k := fun z hz => (List.mem_append.1 hz).elim (hwx z) (hwy z)
  have hrz : (rowsIt (itsOf x ++ itsOf y)).length ≤ 60 := by rw [rowsIt_length, List.length_append, itsOf_length, itsOf_length]; omega
  simp only [its_rows, List.nil_append, rows_length, List.length_append]
  refine ⟨⟨by omega, by omega⟩, ⟨by omega, by omega⟩, ⟨isB_rows _, by rw [rows_length, flat_app, List.length_append]; omega⟩, ⟨by omega, by omega⟩, ⟨by omega, by omega⟩, fun _ => hL _ (by omega), fun _ => ⟨fun _ => trivial, condI (fun h3 => ?_) fun _ => ⟨hL _ (by omega), ⟨hL _ (by omega), by rw [its_rows]; exact hwx⟩, hL _ (by omega), ⟨hL _ (by omega), by rw [its_rows]; exact hwy⟩, ⟨⟨⟨hL _ (by omega), by rw [its_rows]; exact hwf⟩, ⟨rfl, rfl, by omega, by omega, rfl, rfl, rfl, rfl, rfl, rfl, rfl⟩, trivial⟩, ?_⟩⟩⟩, fun h3 => ?_⟩
  · rw [its_app] at h3; simp at h3
  · clear hp eb ex ey lx ly sx sy cx cy hL
    rintro x' n' z a1 a2 b1 b2 c1 c2 _ _ ⟨rfl, rfl, _, _, rfl, rfl, rfl, rfl, rfl, rfl, rfl⟩
    have ax := tot_bd 1 (itsOf x')
    have ay := tot_bd 1 (itsOf y)
    have bx := tot_bd 2 (itsOf x')
    have b_y := tot_bd 2 (itsOf y)
    rw [itsOf_length] at ax ay bx b_y
    rw [tot_app, tot_app, wrap_i64 (by omega) (by omega), its_slice, its_rows, pref_take, pref_app]
    have hm := Int.emod_nonneg n' (show ((rowsIt (itsOf x' ++ itsOf y)).length : Int) + 1 ≠ 0 by omega)
    have hm2 := Int.emod_lt_of_pos n' (show (0 : Int) < ((rowsIt (itsOf x' ++ itsOf y)).length : Int) + 1 by omega)
    exact ⟨⟨by omega, by omega⟩, fun _ => ⟨by omega, by omega⟩, fun _ => ⟨fun _ => ⟨by omega, by omega⟩, fun _ => ⟨hn0, by omega⟩, fun _ => ⟨by omega, hm, by omega⟩, fun _ => trivial, fun _ => by unfold preL; omega, fun _ => ⟨fun _ => trivial, rfl⟩, fun h => by simp at h⟩⟩
  · simp at h3
theorem ok12 : SpecOk (base.with sp11) 12 (mkF ct12) := spec_ct (fn := Try.f12) (c := bodyOf Try.f12) (k := Try.f12.ntmps - ct12.ps.length) (ct := ct12) c11 Try.func12 (by kernel_rfl) ann12 (by kernel_rfl) (fun vs w _ => Try.call12 vs w) (e12.mpr vc12)
theorem c12 : (base.with sp12).Ok := addS_ok c11 ok12
end Go.Proofs.Ytfikklbaceidfaa
