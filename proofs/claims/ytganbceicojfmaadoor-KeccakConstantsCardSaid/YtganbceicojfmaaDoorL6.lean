/-
  Bytes and words tell each other. (No program in sight.)
-/
import Derived.Test.YtganbceicojfmaaDoorV4
import Derived.Test.YtganbceicojfmaaDoorL5
namespace Go.Proofs.YtganbceicojfmaaDoor
open Go Go.Avc Go.Proofs
set_option linter.unusedVariables false
set_option linter.unusedSimpArgs false
set_option maxRecDepth 100000
theorem wd_low (f : Nat → Int) : ∀ n, wd f (n + 1) = f 0 + 256 * wd (fun k => f (k + 1)) n
  | 0 => by simp [wd]
  | n + 1 => by
    rw [wd, wd_low f n, wd, Int.pow_succ]
    have : f (n + 1) * (256 ^ n * 256) = 256 * (f (n + 1) * 256 ^ n) := by rw [← Int.mul_assoc, Int.mul_comm]
    rw [this]
    omega
theorem wd_bd {f : Nat → Int} (h : ∀ k, 0 ≤ f k ∧ f k < 256) : ∀ n, 0 ≤ wd f n ∧ wd f n < 256 ^ n
  | 0 => ⟨by simp [wd], by simp [wd]⟩
  | n + 1 => by
    obtain ⟨h1, h2⟩ := wd_bd h n
    obtain ⟨k1, k2⟩ := h n
    have hp : (0 : Int) < 256 ^ n := Int.pow_pos (by decide)
    rw [wd, Int.pow_succ]
    constructor
    · have := Int.mul_nonneg k1 (Int.le_of_lt hp); omega
    · have h3 : f n * 256 ^ n ≤ 255 * 256 ^ n := Int.mul_le_mul_of_nonneg_right (by omega) (Int.le_of_lt hp)
      omega
theorem wb_wd {f : Nat → Int} (h : ∀ k, 0 ≤ f k ∧ f k < 256) : ∀ n k, k < n → wb (wd f n) k = f k
  | 0, k, hk => by omega
  | n + 1, 0, _ => by
    have := h 0
    unfold wb
    rw [wd_low, Int.pow_zero, Int.ediv_one]
    omega
  | n + 1, k + 1, hk => by
    have ih := wb_wd (f := fun k => f (k + 1)) (fun k => h (k + 1)) n k (by omega)
    have := h 0
    unfold wb at ih ⊢
    rw [wd_low, Int.pow_succ, Int.mul_comm (256 ^ k) 256, ← Int.ediv_ediv_of_nonneg (by decide), show (f 0 + 256 * wd (fun k => f (k + 1)) n) / 256 = wd (fun k => f (k + 1)) n from by omega]
    exact ih
theorem wd_wb : ∀ (n : Nat) (w : Int), 0 ≤ w → w < 256 ^ n → wd (wb w) n = w
  | 0, w, h1, h2 => by rw [Int.pow_zero] at h2; rw [wd]; omega
  | n + 1, w, h1, h2 => by
    rw [Int.pow_succ] at h2
    have ih := wd_wb n (w / 256) (by omega) (by omega)
    have e : (fun k => wb w (k + 1)) = wb (w / 256) := by
      funext k
      unfold wb
      rw [Int.pow_succ, Int.mul_comm (256 ^ k) 256, ← Int.ediv_ediv_of_nonneg (by decide)]
    rw [wd_low, e, ih]
    unfold wb
    rw [Int.pow_zero, Int.ediv_one]
    omega
theorem wd_lt {f g : Nat → Int} : ∀ n, (∀ k, k < n → f k = g k) → wd f n = wd g n
  | 0, _ => rfl
  | n + 1, h => by rw [wd, wd, wd_lt n (fun k hk => h k (by omega)), h n (by omega)]
theorem wb_rng (w : Int) (k : Nat) : 0 ≤ wb w k ∧ wb w k < 256 := by unfold wb; omega
theorem wd_w {w : Int} (h : isW w) : wd (wb w) 8 = w := wd_wb 8 w h.1 (by have := h.2; rw [show (256 : Int) ^ 8 = 18446744073709551616 from by decide]; exact this)
theorem wd_isW {f : Nat → Int} (h : ∀ k, 0 ≤ f k ∧ f k < 256) : isW (wd f 8) := by
  have := wd_bd h 8
  rw [show (256 : Int) ^ 8 = 18446744073709551616 from by decide] at this
  exact this
theorem wbN_get (w : Int) : ∀ n k, k < n → (wbN w n).getD k 0 = wb w k
  | 0, k, h => by omega
  | n + 1, k, h => by
    rw [wbN, List.getD_eq_getElem?_getD]
    rcases Nat.lt_or_ge k n with h2 | h2
    · rw [List.getElem?_append_left (by rw [wb_len]; exact h2), ← List.getD_eq_getElem?_getD, wbN_get w n k h2]
    · have : k = n := by omega
      subst this
      rw [List.getElem?_append_right (by rw [wb_len]; exact Nat.le_refl _), wb_len, Nat.sub_self]; rfl
theorem bysN_get (f : Nat → Int) : ∀ n p, p < 8 * n → (bysN f n).getD p 0 = wb (f (p / 8)) (p % 8)
  | 0, p, h => by omega
  | n + 1, p, h => by
    rw [bysN, List.getD_eq_getElem?_getD]
    rcases Nat.lt_or_ge p (8 * n) with h2 | h2
    · rw [List.getElem?_append_left (by rw [bys_len]; exact h2), ← List.getD_eq_getElem?_getD, bysN_get f n p h2]
    · rw [List.getElem?_append_right (by rw [bys_len]; exact h2), bys_len, ← List.getD_eq_getElem?_getD, wbN_get _ _ _ (by omega), show p / 8 = n from by omega, show p - 8 * n = p % 8 from by omega]
theorem bysL_len (s : List Int) : (bysL s).length = 200 := by rw [bysL_eq]; exact bys_len _ 25
theorem bysL_get (s : List Int) {p : Nat} (hp : p < 200) : (bysL s).getD p 0 = wb (s.getD (p / 8) 0) (p % 8) := by rw [bysL_eq]; exact bysN_get _ 25 p (by omega)
theorem bysL_rng (s : List Int) (p : Nat) : 0 ≤ (bysL s).getD p 0 ∧ (bysL s).getD p 0 < 256 := by
  rcases Nat.lt_or_ge p 200 with h | h
  · rw [bysL_get s h]; exact wb_rng _ _
  · rw [List.getD_eq_getElem?_getD, List.getElem?_eq_none (by rw [bysL_len]; exact h)]; exact ⟨by decide, by decide⟩
theorem bysL_areB (s : List Int) : areB ((bysL s).map row1) := fun i => by rw [rv_row1]; exact bysL_rng s i
theorem wdsL_len (l : List (List CD)) : (wdsL l).length = 25 := by unfold wdsL; simp
theorem wdsL_get (l : List (List CD)) {j : Nat} (h : j < 25) : (wdsL l).getD j 0 = wd (fun k => rv l (8 * j + k)) 8 := by unfold wdsL; rw [map_get h]
theorem wdsL_w {l : List (List CD)} (h : areB l) : areW (wdsL l) := fun j => by
  rcases Nat.lt_or_ge j 25 with hj | hj
  · rw [wdsL_get l hj]; exact wd_isW fun k => h _
  · rw [List.getD_eq_getElem?_getD, List.getElem?_eq_none (by rw [wdsL_len]; exact hj)]; exact isW0
/-- The bytes of the words of bytes. -/
theorem bysL_wdsL {l : List (List CD)} (h : areB l) {p : Nat} (hp : p < 200) : (bysL (wdsL l)).getD p 0 = rv l p := by
  rw [bysL_get _ hp, wdsL_get _ (by omega), wb_wd (fun k => h _) 8 _ (by omega), show 8 * (p / 8) + p % 8 = p from by omega]
/-- The words of the bytes of words. -/
theorem wdsL_bysL {s : List Int} (h : s.length = 25) (hs : areW s) : wdsL ((bysL s).map row1) = s := by
  refine list25 (wdsL_len _) h fun j hj => ?_
  rw [wdsL_get _ hj]
  rw [wd_lt (g := wb (s.getD j 0)) 8 fun k hk => ?_]
  · exact wd_w (hs j)
  · show rv ((bysL s).map row1) (8 * j + k) = _
    rw [rv_row1, bysL_get s (by omega), show (8 * j + k) / 8 = j from by omega, show (8 * j + k) % 8 = k from by omega]
theorem wrap_id {n : Int} (h : isW n) : IntKind.u64.wrap n = n := by rw [wrap_u64']; have := h.1; have := h.2; omega
theorem p256 (k : Nat) : (256 : Int) ^ k = ((2 ^ (8 * k) : Nat) : Int) := by
  rw [Nat.pow_mul, Int.natCast_pow]; rfl
/-- A byte is set above what is lower. -/
theorem or_shl {v b : Int} {k : Nat} (hk : k < 8) (hv : 0 ≤ v ∧ v < 256 ^ k) (hb : 0 ≤ b ∧ b < 256) : bOr .u64 v (bShl .u64 b ((8 * k : Nat) : Int)) = v + b * 256 ^ k := by
  obtain ⟨m, rfl⟩ := ex_nat hv.1
  obtain ⟨c, rfl⟩ := ex_nat hb.1
  have hm : m < 2 ^ (8 * k) := by have := hv.2; rw [p256] at this; exact Int.ofNat_lt.1 this
  have hc : c < 256 := by have := hb.2; omega
  have hpow : 2 ^ (8 * k) * 256 ≤ 2 ^ 64 := by
    rw [show (256 : Nat) = 2 ^ 8 from by decide, ← Nat.pow_add]
    exact Nat.pow_le_pow_right (by decide) (by omega)
  have hlt : m + c * 2 ^ (8 * k) < 18446744073709551616 := by
    have h3 : c * 2 ^ (8 * k) ≤ 255 * 2 ^ (8 * k) := Nat.mul_le_mul_right _ (by omega)
    rw [show (2 : Nat) ^ 64 = 18446744073709551616 from by decide] at hpow
    omega
  rw [shl_w c (8 * k) (by omega), Nat.mod_eq_of_lt (show c * 2 ^ (8 * k) < 18446744073709551616 from by omega), p256]
  have w1 : isW (m : Int) := ⟨by omega, by omega⟩
  have w2 : isW ((c * 2 ^ (8 * k) : Nat) : Int) := ⟨Int.natCast_nonneg _, by
    have h9 : c * 2 ^ (8 * k) < 18446744073709551616 := by omega
    omega⟩
  have e1 : (BitVec.ofInt 64 (m : Int) ||| BitVec.ofInt 64 ((c * 2 ^ (8 * k) : Nat) : Int)).toNat = m ||| (c * 2 ^ (8 * k)) := by
    rw [BitVec.toNat_or, ofInt_w w1, ofInt_w w2, Int.toNat_natCast, Int.toNat_natCast]
  show IntKind.u64.wrap ((BitVec.ofInt 64 (m : Int) ||| BitVec.ofInt 64 ((c * 2 ^ (8 * k) : Nat) : Int)).toNat : Int) = _
  have e2 : m ||| (c * 2 ^ (8 * k)) = m + c * 2 ^ (8 * k) := by
    rw [Nat.or_comm, Nat.mul_comm, ← Nat.two_pow_add_eq_or_of_lt hm, Nat.add_comm]
  rw [e1, e2, wrap_id ⟨Int.natCast_nonneg _, Int.ofNat_lt.2 hlt⟩, Int.natCast_add, Int.natCast_mul]
theorem ws_get {l : List (List CD)} (hl : l.length = 200) (hb : areB l) : ∀ n, n ≤ 200 → ∀ j, j < 25 → (wsN l n).getD j 0 = wd (fun k => rv l (8 * j + k)) (min 8 (n - 8 * j))
  | 0, _, j, hj => by
    rw [wsN, hl, show min 8 (0 - 8 * j) = 0 from by omega, wd, List.getD_eq_getElem?_getD, List.getElem?_replicate]
    split <;> rfl
  | n + 1, hn, j, hj => by
    have ih := ws_get hl hb n (by omega)
    rw [wsN, set_get _ _ _ _ (by rw [ws_len, hl]; omega)]
    by_cases e : n / 8 = j
    · subst e
      have hv := wd_bd (f := fun k => rv l (8 * (n / 8) + k)) (fun k => hb _) (n % 8)
      have hbn := hb n
      rw [if_pos rfl, ih _ hj, show min 8 (n - 8 * (n / 8)) = n % 8 from by omega, show min 8 (n + 1 - 8 * (n / 8)) = n % 8 + 1 from by omega, wrap_id ⟨hbn.1, by omega⟩, or_shl (by omega) hv hbn, wd, show 8 * (n / 8) + n % 8 = n from by omega]
    · rw [if_neg e, ih j hj]
      congr 1
      omega
theorem wsN_is {l : List (List CD)} (hl : l.length = 200) (hb : areB l) : wsN l 200 = wdsL l := by
  refine list25 (by rw [ws_len, hl]) (wdsL_len _) fun j hj => ?_
  rw [ws_get hl hb 200 (Nat.le_refl _) j hj, wdsL_get _ hj, show min 8 (200 - 8 * j) = 8 from by omega]
theorem wd_congr {f g : Nat → Int} (h : ∀ k, f k = g k) (n : Nat) : wd f n = wd g n := by rw [show f = g from funext h]
/-- The words as the reference makes them: from the last byte on. -/
theorem rb_get {l : List (List CD)} (hl : l.length = 200) (hb : areB l) : ∀ n, n ≤ 200 → ∀ j, j < 25 → (rbN l n).getD j 0 = wd (fun k => rv l (8 * j + (8 - min 8 (n - (192 - 8 * j))) + k)) (min 8 (n - (192 - 8 * j)))
  | 0, _, j, hj => by
    rw [rbN, show min 8 (0 - (192 - 8 * j)) = 0 from by omega, wd, List.getD_eq_getElem?_getD, List.getElem?_replicate]
    split <;> rfl
  | n + 1, hn, j, hj => by
    have ih := rb_get hl hb n (by omega)
    rw [rbN, set_get _ _ _ _ (by rw [rb_len]; exact hj), hl]
    by_cases e : (200 - 1 - n) / 8 = j
    · subst e
      have hc : min 8 (n - (192 - 8 * ((200 - 1 - n) / 8))) = n % 8 := by omega
      have hc1 : min 8 (n + 1 - (192 - 8 * ((200 - 1 - n) / 8))) = n % 8 + 1 := by omega
      have hih := ih _ hj
      rw [hc] at hih
      rw [if_pos rfl, hc1, hih, wd_low]
      have hv := wd_bd (f := fun k => rv l (8 * ((200 - 1 - n) / 8) + (8 - n % 8) + k)) (fun k => hb _) (n % 8)
      have hbn := hb (200 - 1 - n)
      have hpow : (256 : Int) ^ (n % 8) ≤ 256 ^ 7 := by
        rw [p256, p256]
        exact Int.ofNat_le.2 (Nat.pow_le_pow_right (by decide) (by omega))
      rw [show (256 : Int) ^ 7 = 72057594037927936 from by decide] at hpow
      generalize hV : wd (fun k => rv l (8 * ((200 - 1 - n) / 8) + (8 - n % 8) + k)) (n % 8) = V at *
      have hV2 : wd (fun k => rv l (8 * ((200 - 1 - n) / 8) + (8 - (n % 8 + 1)) + (k + 1))) (n % 8) = V := by
        rw [← hV]
        refine wd_congr (fun k => ?_) _
        congr 1; omega
      rw [hV2, show 8 * ((200 - 1 - n) / 8) + (8 - (n % 8 + 1)) + 0 = 200 - 1 - n from by omega]
      generalize rv l (200 - 1 - n) = b at *
      rw [wrap_id (n := V * 256) ⟨by omega, by omega⟩, wrap_id (n := b) ⟨by omega, by omega⟩, wrap_id ⟨by omega, by omega⟩]
      omega
    · rw [if_neg e, ih j hj]
      have : min 8 (n + 1 - (192 - 8 * j)) = min 8 (n - (192 - 8 * j)) := by omega
      rw [this]
theorem rbN_is {l : List (List CD)} (hl : l.length = 200) (hb : areB l) : rbN l 200 = wdsL l := by
  refine list25 (rb_len _ _) (wdsL_len _) fun j hj => ?_
  have h1 : min 8 (200 - (192 - 8 * j)) = 8 := by omega
  have := rb_get hl hb 200 (Nat.le_refl _) j hj
  rw [h1] at this
  rw [this, wdsL_get _ hj]
  refine wd_congr (fun k => ?_) _
  congr 1
theorem bor_range (l : List (List CD)) : bytesOfRows l = (List.range l.length).map fun i => UInt8.ofNat (rv l i).toNat := by
  unfold bytesOfRows
  apply List.ext_getElem
  · simp
  · intro i h1 h2
    simp only [List.getElem_map, List.getElem_range]
    unfold rv
    rw [List.length_map] at h1
    rw [List.getD_eq_getElem?_getD (l := l), List.getElem?_eq_getElem h1]
    rfl
/-- The text of the bytes of the words of bytes. -/
theorem text_is {l : List (List CD)} (hl : l.length = 200) (hb : areB l) : bytesOfRows ((bysL (wdsL l)).map row1) = bytesOfRows l := by
  rw [bor_range, bor_range, List.length_map, bysL_len, hl]
  apply List.map_congr_left
  intro i hi
  rw [rv_row1, bysL_wdsL hb (by simpa using hi)]
end Go.Proofs.YtganbceicojfmaaDoor
