/-
  The words' functions, element by element.
-/
import Derived.Test.YtganbceicojfmaaDoorS1
namespace Go.Proofs.YtganbceicojfmaaDoor
open Go Go.Avc Go.Proofs
set_option linter.unusedVariables false
theorem set_get (l : List Int) (i j : Nat) (x : Int) (hj : j < l.length) : (l.set i x).getD j 0 = if i = j then x else l.getD j 0 := by
  rw [List.getD_eq_getElem?_getD, List.getD_eq_getElem?_getD, List.getElem?_set]
  by_cases h : i = j
  · subst h; simp [hj]
  · simp [h]
theorem th_len (c s : List Int) : ∀ n, (thN c s n).length = s.length
  | 0 => rfl
  | n + 1 => by rw [thN, List.length_set, th_len c s n]
theorem th_get (c s : List Int) : ∀ n j, j < s.length → (thN c s n).getD j 0 = if j < n then xr (s.getD j 0) (xr (c.getD ((j % 5 + 4) % 5) 0) (rotW (c.getD ((j % 5 + 1) % 5) 0) 1)) else s.getD j 0
  | 0, j, h => by rw [if_neg (by omega)]; rfl
  | n + 1, j, h => by
    rw [thN, set_get _ _ _ _ (by rw [th_len]; exact h)]
    by_cases e : n = j
    · subst e
      rw [if_pos rfl, if_pos (by omega), th_get c s n n h, if_neg (by omega)]
    · rw [if_neg e, th_get c s n j h]
      by_cases e2 : j < n
      · rw [if_pos e2, if_pos (by omega)]
      · rw [if_neg e2, if_neg (by omega)]
theorem ch_len (s : List Int) : ∀ n, (chN s n).length = s.length
  | 0 => rfl
  | n + 1 => by rw [chN, List.length_set, ch_len s n]
theorem ch_get (s : List Int) : ∀ n j, j < s.length → (chN s n).getD j 0 = if j < n then xr (s.getD j 0) (bAndNot .u64 (s.getD (j - j % 5 + (j + 2) % 5) 0) (s.getD (j - j % 5 + (j + 1) % 5) 0)) else s.getD j 0
  | 0, j, h => by rw [if_neg (by omega)]; rfl
  | n + 1, j, h => by
    rw [chN, set_get _ _ _ _ (by rw [ch_len]; exact h)]
    by_cases e : n = j
    · subst e
      rw [if_pos rfl, if_pos (by omega), ch_get s n n h, if_neg (by omega)]
    · rw [if_neg e, ch_get s n j h]
      by_cases e2 : j < n
      · rw [if_pos e2, if_pos (by omega)]
      · rw [if_neg e2, if_neg (by omega)]
theorem cols_len (s : List Int) : ∀ n, (cols s n).length = 5
  | 0 => rfl
  | n + 1 => by rw [cols, List.length_set, cols_len s n]
/-- One step of the sums of columns. -/
theorem cols_get (s : List Int) (n x : Nat) (h : x < 5) : (cols s (n + 1)).getD x 0 = if n % 5 = x then xr ((cols s n).getD x 0) (s.getD n 0) else (cols s n).getD x 0 := by
  rw [cols, set_get _ _ _ _ (by rw [cols_len]; exact h)]
  by_cases e : n % 5 = x
  · rw [if_pos e, if_pos e, e]
  · rw [if_neg e, if_neg e]
theorem cols_at (s : List Int) (x : Nat) (h : x < 5) : (cols s 25).getD x 0 = xr (xr (xr (xr (xr 0 (s.getD x 0)) (s.getD (x + 5) 0)) (s.getD (x + 10) 0)) (s.getD (x + 15) 0)) (s.getD (x + 20) 0) := by
  match x, h with
  | 0, _ => simp [cols]
  | 1, _ => simp [cols]
  | 2, _ => simp [cols]
  | 3, _ => simp [cols]
  | 4, _ => simp [cols]
/-- Moving and turning, written out. -/
theorem rp_eq (s : List Int) : rhoPi s = [s.getD 0 0, rotW (s.getD 6 0) 44, rotW (s.getD 12 0) 43, rotW (s.getD 18 0) 21, rotW (s.getD 24 0) 14, rotW (s.getD 3 0) 28, rotW (s.getD 9 0) 20, rotW (s.getD 10 0) 3, rotW (s.getD 16 0) 45, rotW (s.getD 22 0) 61, rotW (s.getD 1 0) 1, rotW (s.getD 7 0) 6, rotW (s.getD 13 0) 25, rotW (s.getD 19 0) 8, rotW (s.getD 20 0) 18, rotW (s.getD 4 0) 27, rotW (s.getD 5 0) 36, rotW (s.getD 11 0) 10, rotW (s.getD 17 0) 15, rotW (s.getD 23 0) 56, rotW (s.getD 2 0) 62, rotW (s.getD 8 0) 55, rotW (s.getD 14 0) 39, rotW (s.getD 15 0) 41, rotW (s.getD 21 0) 2] := by kernel_rfl
theorem list_ext {l : List Int} {n : Nat} {f : Nat → Int} (hl : l.length = n) (h : ∀ j, j < n → l.getD j 0 = f j) : l = (List.range n).map f := by
  apply List.ext_getElem
  · simp [hl]
  · intro i h1 h2
    have := h i (by omega)
    rw [List.getD_eq_getElem?_getD, List.getElem?_eq_getElem h1] at this
    simpa using this
def cAt (s : List Int) (x : Nat) : Int := xr (xr (xr (xr (xr 0 (s.getD x 0)) (s.getD (x + 5) 0)) (s.getD (x + 10) 0)) (s.getD (x + 15) 0)) (s.getD (x + 20) 0)
theorem theta_eq {s : List Int} (hs : s.length = 25) : theta s = (List.range 25).map fun j => xr (s.getD j 0) (xr (cAt s ((j % 5 + 4) % 5)) (rotW (cAt s ((j % 5 + 1) % 5)) 1)) := by
  refine list_ext (by unfold theta; rw [th_len, hs]) fun j hj => ?_
  unfold theta
  rw [th_get _ _ _ _ (by omega), if_pos hj, cols_at _ _ (by omega), cols_at _ _ (by omega)]
  rfl
theorem chi_eq {s : List Int} (hs : s.length = 25) : chi s = (List.range 25).map fun j => xr (s.getD j 0) (bAndNot .u64 (s.getD (j - j % 5 + (j + 2) % 5) 0) (s.getD (j - j % 5 + (j + 1) % 5) 0)) := by
  refine list_ext (by unfold chi; rw [ch_len, hs]) fun j hj => ?_
  unfold chi
  rw [ch_get _ _ _ (by omega), if_pos hj]
end Go.Proofs.YtganbceicojfmaaDoor
