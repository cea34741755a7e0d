/-
  The reference's round on bits is the program's round on words. (No program in sight.)
-/
import Derived.Test.YtganbceicojfmaaDoorK2
namespace Go.Proofs.YtganbceicojfmaaDoor
open Go Go.Avc Go.Proofs
set_option linter.unusedVariables false
set_option linter.unusedSimpArgs false
set_option maxRecDepth 100000
/-! ### Lists of bits -/
theorem gb_set (l : List Bool) (i k : Nat) (x : Bool) (h : k < l.length) : gb (l.set i x) k = if i = k then x else gb l k := by
  unfold gb
  rw [List.getD_eq_getElem?_getD, List.getD_eq_getElem?_getD, List.getElem?_set]
  by_cases e : i = k
  · subst e; simp [h]
  · simp [e]
theorem fillN_len (f : Nat → Nat) (g : Nat → Bool) (l : List Bool) : ∀ n, (fillN f g l n).length = l.length
  | 0 => rfl
  | n + 1 => by rw [fillN, List.length_set, fillN_len f g l n]
theorem fill2_len (f : Nat → Nat → Nat) (g : Nat → Nat → Bool) (m : Nat) (l : List Bool) : ∀ n, (fill2 f g m l n).length = l.length
  | 0 => rfl
  | n + 1 => by rw [fill2, fillN_len, fill2_len f g m l n]
theorem fill3_len (f : Nat → Nat → Nat → Nat) (g : Nat → Nat → Nat → Bool) (k m : Nat) (l : List Bool) : ∀ n, (fill3 f g k m l n).length = l.length
  | 0 => rfl
  | n + 1 => by rw [fill3, fill2_len, fill3_len f g k m l n]
theorem fillN_in {f : Nat → Nat} {b : Nat} (hf : ∀ z, f z = b + z) (g : Nat → Bool) (l : List Bool) (k : Nat) (hk : k < l.length) : ∀ n, gb (fillN f g l n) k = if b ≤ k ∧ k < b + n then g (k - b) else gb l k
  | 0 => by rw [if_neg (by omega)]; rfl
  | n + 1 => by
    rw [fillN, gb_set _ _ _ _ (by rw [fillN_len]; exact hk), fillN_in hf g l k hk n, hf]
    by_cases e : b + n = k
    · rw [if_pos e, if_pos (by omega), show k - b = n from by omega]
    · rw [if_neg e]
      by_cases e2 : b ≤ k ∧ k < b + n
      · rw [if_pos e2, if_pos (by omega)]
      · rw [if_neg e2, if_neg (by omega)]
theorem fill2_64 {f : Nat → Nat → Nat} {b : Nat} (hf : ∀ y z, f y z = b + y * 64 + z) (g : Nat → Nat → Bool) (l : List Bool) (k : Nat) (hk : k < l.length) : ∀ n, gb (fill2 f g 64 l n) k = if b ≤ k ∧ k < b + n * 64 then g ((k - b) / 64) ((k - b) % 64) else gb l k
  | 0 => by rw [if_neg (by omega)]; rfl
  | n + 1 => by
    rw [fill2, fillN_in (hf n) _ _ _ (by rw [fill2_len]; exact hk), fill2_64 hf g l k hk n]
    by_cases e : b + n * 64 ≤ k ∧ k < b + n * 64 + 64
    · rw [if_pos e, if_pos (by omega), show (k - b) / 64 = n from by omega, show (k - b) % 64 = k - (b + n * 64) from by omega]
    · rw [if_neg e]
      by_cases e2 : b ≤ k ∧ k < b + n * 64
      · rw [if_pos e2, if_pos (by omega)]
      · rw [if_neg e2, if_neg (by omega)]
theorem fill3_at (g : Nat → Nat → Nat → Bool) (l : List Bool) (k : Nat) (hk : k < l.length) : ∀ n, gb (fill3 at3 g 5 64 l n) k = if k < n * 320 then g (k / 320) (k % 320 / 64) (k % 64) else gb l k
  | 0 => by rw [if_neg (by omega)]; rfl
  | n + 1 => by
    rw [fill3, fill2_64 (f := at3 n) (b := n * 320) (fun y z => rfl) _ _ _ (by rw [fill3_len]; exact hk), fill3_at g l k hk n]
    by_cases e : n * 320 ≤ k ∧ k < n * 320 + 5 * 64
    · rw [if_pos e, if_pos (by omega), show k / 320 = n from by omega, show k % 320 / 64 = (k - n * 320) / 64 from by omega, show k % 64 = (k - n * 320) % 64 from by omega]
    · rw [if_neg e]
      by_cases e2 : k < n * 320
      · rw [if_pos e2, if_pos (by omega)]
      · rw [if_neg e2, if_neg (by omega)]
theorem zB_len : zB.length = 1600 := List.length_replicate
theorem at3_lt {x y z : Nat} (hx : x < 5) (hy : y < 5) (hz : z < 64) : at3 x y z < 1600 := by unfold at3; omega
/-- Two states of bits are the same if all bits are. -/
theorem ext16 {a b : List Bool} (ha : a.length = 1600) (hb : b.length = 1600) (h : ∀ x y z, x < 5 → y < 5 → z < 64 → gb a (at3 x y z) = gb b (at3 x y z)) : a = b := by
  apply List.ext_getElem (by rw [ha, hb])
  intro i h1 h2
  have := h (i / 320) (i % 320 / 64) (i % 64) (by omega) (by omega) (by omega)
  have e : at3 (i / 320) (i % 320 / 64) (i % 64) = i := by unfold at3; omega
  rw [e] at this
  unfold gb at this
  rw [List.getD_eq_getElem?_getD, List.getD_eq_getElem?_getD, List.getElem?_eq_getElem h1, List.getElem?_eq_getElem h2] at this
  simpa using this
theorem fill3_get {g : Nat → Nat → Nat → Bool} {x y z : Nat} (hx : x < 5) (hy : y < 5) (hz : z < 64) : gb (fill3 at3 g 5 64 zB 5) (at3 x y z) = g x y z := by
  have hk := at3_lt hx hy hz
  rw [fill3_at g zB _ (by rw [zB_len]; exact hk), if_pos (by omega)]
  have e1 : at3 x y z / 320 = x := by unfold at3; omega
  have e2 : at3 x y z % 320 / 64 = y := by unfold at3; omega
  have e3 : at3 x y z % 64 = z := by unfold at3; omega
  rw [e1, e2, e3]
/-! ### Bits of words -/
theorem ofW_len (s : List Int) : (ofW s).length = 1600 := by unfold ofW; rw [fill2_len, zB_len]
theorem ofW_get (s : List Int) {x y z : Nat} (hx : x < 5) (hy : y < 5) (hz : z < 64) : gb (ofW s) (at3 x y z) = bt (s.getD (x + 5 * y) 0) z := by
  have hk := at3_lt hx hy hz
  have gen : ∀ n, n ≤ 25 → gb (fill2 (fun i z => at3 (i % 5) (i / 5) z) (fun i z => bt (s.getD i 0) z) 64 zB n) (at3 x y z) = if x + 5 * y < n then bt (s.getD (x + 5 * y) 0) z else gb zB (at3 x y z) := by
    intro n
    induction n with
    | zero => intro _; rw [if_neg (by omega)]; rfl
    | succ n ih =>
      intro hn
      rw [fill2, fillN_in (f := fun z => at3 (n % 5) (n / 5) z) (b := n % 5 * 320 + n / 5 * 64) (fun z => rfl) _ _ _ (by rw [fill2_len, zB_len]; exact hk), ih (by omega)]
      by_cases e : n = x + 5 * y
      · have e1 : n % 5 * 320 + n / 5 * 64 = x * 320 + y * 64 := by omega
        rw [e1, if_pos (by unfold at3; omega), if_pos (by omega), show at3 x y z - (x * 320 + y * 64) = z from by unfold at3; omega, e]
      · rw [if_neg (by unfold at3; omega)]
        by_cases e2 : x + 5 * y < n
        · rw [if_pos e2, if_pos (by omega)]
        · rw [if_neg e2, if_neg (by omega)]
  unfold ofW
  rw [gen 25 (Nat.le_refl _), if_pos (by omega)]
theorem xr_any (a b : Int) : isW (xr a b) := bv_isW (BitVec.ofInt 64 a ^^^ BitVec.ofInt 64 b)
theorem isW0 : isW 0 := ⟨by omega, by omega⟩
/-! ### The steps -/
theorem cAt_isW (s : List Int) (x : Nat) : isW (cAt s x) := xr_any _ _
theorem cAt_bt {s : List Int} (hs : areW s) (x z : Nat) : bt (cAt s x) z = (bt (s.getD x 0) z != (bt (s.getD (x + 5) 0) z != (bt (s.getD (x + 10) 0) z != (bt (s.getD (x + 15) 0) z != bt (s.getD (x + 20) 0) z)))) := by
  unfold cAt
  have h0 : bt 0 z = false := by simp [bt]
  rw [xr_bt (xr_any _ _) (hs _), xr_bt (xr_any _ _) (hs _), xr_bt (xr_any _ _) (hs _), xr_bt (xr_any _ _) (hs _), xr_bt isW0 (hs _), h0]
  cases bt (s.getD x 0) z <;> cases bt (s.getD (x + 5) 0) z <;> cases bt (s.getD (x + 10) 0) z <;> cases bt (s.getD (x + 15) 0) z <;> cases bt (s.getD (x + 20) 0) z <;> rfl
def b2i (b : Bool) : Int := if b = true then 1 else 0
theorem cnt_s (a : List Bool) (x z n : Nat) : cnt a x z (n + 1) = cnt a x z n + b2i (gb a (at3 x n z)) := by
  rw [cnt]; unfold b2i; split <;> simp
theorem cnt5 (a : List Bool) (x z : Nat) : decide (cnt a x z 5 % 2 = 1) = (gb a (at3 x 0 z) != (gb a (at3 x 1 z) != (gb a (at3 x 2 z) != (gb a (at3 x 3 z) != gb a (at3 x 4 z))))) := by
  rw [cnt_s, cnt_s, cnt_s, cnt_s, cnt_s, show cnt a x z 0 = 0 from rfl]
  generalize gb a (at3 x 0 z) = b0
  generalize gb a (at3 x 1 z) = b1
  generalize gb a (at3 x 2 z) = b2
  generalize gb a (at3 x 3 z) = b3
  generalize gb a (at3 x 4 z) = b4
  revert b0 b1 b2 b3 b4
  decide
theorem par_get {s : List Int} (hs : areW s) {x z : Nat} (hx : x < 5) (hz : z < 64) : gb (parB (ofW s)) (x * 64 + z) = bt (cAt s x) z := by
  unfold parB
  rw [fill2_64 (b := 0) (fun y z => by omega) _ _ _ (by rw [List.length_replicate]; omega), if_pos (by omega), Nat.sub_zero, show (x * 64 + z) / 64 = x from by omega, show (x * 64 + z) % 64 = z from by omega, cnt5,
    ofW_get _ hx (by omega) hz, ofW_get _ hx (by omega) hz, ofW_get _ hx (by omega) hz, ofW_get _ hx (by omega) hz, ofW_get _ hx (by omega) hz, cAt_bt hs]
  rfl
theorem map_get {f : Nat → Int} {j : Nat} (h : j < 25) : ((List.range 25).map f).getD j 0 = f j := by
  rw [List.getD_eq_getElem?_getD, List.getElem?_map, List.getElem?_range h]; rfl
theorem theta_len {s : List Int} (h : s.length = 25) : (theta s).length = 25 := by rw [theta_eq h]; simp
theorem theta_w {s : List Int} (h : s.length = 25) : areW (theta s) := fun j => by
  rw [theta_eq h]
  rcases Nat.lt_or_ge j 25 with hj | hj
  · rw [map_get hj]; exact xr_any _ _
  · rw [List.getD_eq_getElem?_getD, List.getElem?_eq_none (by simpa using hj)]; exact isW0
theorem thetaB_w {s : List Int} (h : s.length = 25) (hs : areW s) : thetaB (ofW s) = ofW (theta s) := by
  refine ext16 (by unfold thetaB; rw [fill3_len, zB_len]) (ofW_len _) fun x y z hx hy hz => ?_
  unfold thetaB
  rw [fill3_get hx hy hz, ofW_get _ hx hy hz]
  unfold thV
  rw [par_get hs (by omega) hz, par_get hs (by omega) (by omega), ofW_get _ hx hy hz, theta_eq h, map_get (by omega), xr_bt (hs _) (xr_any _ _), xr_bt (cAt_isW _ _) (rot_isW _ _)]
  have := rot_bt (cAt_isW s (((x + 5 * y) % 5 + 1) % 5)) (s := 1) (by omega) hz
  rw [show ((1 : Nat) : Int) = 1 from rfl] at this
  rw [this, show (x + 5 * y) % 5 = x from by omega]
theorem lanes_get {t l : List Bool} {i k : Nat} (hl : l.length = 64) (hi : i + 64 ≤ t.length) : gb (lanes t l i) k = if i ≤ k ∧ k < i + 64 then gb l (k - i) else gb t k := by
  unfold gb lanes
  rw [List.getD_eq_getElem?_getD, List.append_assoc]
  have hti : (t.take i).length = i := by rw [List.length_take]; omega
  rcases Nat.lt_or_ge k i with h | h
  · rw [if_neg (by omega), List.getElem?_append_left (by omega), List.getElem?_take_of_lt h, List.getD_eq_getElem?_getD]
  · rw [List.getElem?_append_right (by omega), hti]
    rcases Nat.lt_or_ge (k - i) 64 with h2 | h2
    · rw [if_pos (by omega), List.getElem?_append_left (by omega), List.getD_eq_getElem?_getD]
    · rw [if_neg (by omega), List.getElem?_append_right (by omega), hl, List.getElem?_drop, List.getD_eq_getElem?_getD, show i + 64 + (k - i - 64) = k from by omega]
theorem lanes_len {t l : List Bool} {i : Nat} (hl : l.length = 64) (hi : i + 64 ≤ t.length) : (lanes t l i).length = t.length := by
  unfold lanes
  simp only [List.length_append, List.length_take, List.length_drop, hl]
  omega
theorem lane_len {a : List Bool} {i : Nat} (h : i + 64 ≤ a.length) : (lane a i).length = 64 := by
  unfold lane
  rw [List.length_take, List.length_drop]; omega
theorem lane_get {a : List Bool} {i z : Nat} (hz : z < 64) : gb (lane a i) z = gb a (i + z) := by
  unfold gb lane
  rw [List.getD_eq_getElem?_getD, List.getElem?_take_of_lt hz, List.getElem?_drop, List.getD_eq_getElem?_getD]
theorem piY_len {a : List Bool} (ha : a.length = 1600) {x : Nat} (hx : x < 5) {t : List Bool} (ht : t.length = 1600) : ∀ n, n ≤ 5 → (piY a x t n).length = 1600
  | 0, _ => ht
  | n + 1, hn => by
    rw [piY, lanes_len (lane_len (by omega)) (by rw [piY_len ha hx ht n (by omega)]; omega), piY_len ha hx ht n (by omega)]
theorem piY_get {a : List Bool} (ha : a.length = 1600) {x : Nat} (hx : x < 5) {t : List Bool} (ht : t.length = 1600) {X Y z : Nat} (hX : X < 5) (hY : Y < 5) (hz : z < 64) : ∀ n, n ≤ 5 →
    gb (piY a x t n) (at3 X Y z) = if X < n ∧ (2 * x + 3 * X) % 5 = Y then gb a (at3 x X z) else gb t (at3 X Y z)
  | 0, _ => by rw [if_neg (by omega)]; rfl
  | n + 1, hn => by
    have hl := piY_len ha hx ht n (by omega)
    rw [piY, lanes_get (lane_len (by omega)) (by rw [hl]; omega), piY_get ha hx ht hX hY hz n (by omega)]
    by_cases e : n = X ∧ (2 * x + 3 * n) % 5 = Y
    · obtain ⟨e1, e2⟩ := e
      subst e1
      rw [if_pos (by unfold at3; omega), if_pos ⟨by omega, e2⟩, lane_get (by unfold at3; omega)]
      congr 1
      unfold at3; omega
    · rw [if_neg (by unfold at3; omega)]
      by_cases e2 : X < n ∧ (2 * x + 3 * X) % 5 = Y
      · rw [if_pos e2, if_pos (by omega)]
      · rw [if_neg e2, if_neg (by
          rintro ⟨h1, h2⟩
          have : X = n := by omega
          subst this
          exact e ⟨rfl, h2⟩)]
theorem piX_len {a : List Bool} (ha : a.length = 1600) {t : List Bool} (ht : t.length = 1600) : ∀ n, n ≤ 5 → (piX a t n).length = 1600
  | 0, _ => ht
  | n + 1, hn => piY_len ha (by omega) (piX_len ha ht n (by omega)) 5 (Nat.le_refl _)
theorem piX_get {a : List Bool} (ha : a.length = 1600) {t : List Bool} (ht : t.length = 1600) {X Y z : Nat} (hX : X < 5) (hY : Y < 5) (hz : z < 64) : ∀ n, n ≤ 5 →
    gb (piX a t n) (at3 X Y z) = if (X + 3 * Y) % 5 < n then gb a (at3 ((X + 3 * Y) % 5) X z) else gb t (at3 X Y z)
  | 0, _ => by rw [if_neg (by omega)]; rfl
  | n + 1, hn => by
    rw [piX, piY_get ha (by omega) (piX_len ha ht n (by omega)) hX hY hz 5 (Nat.le_refl _), piX_get ha ht hX hY hz n (by omega)]
    by_cases e : n = (X + 3 * Y) % 5
    · rw [if_pos (by omega), if_pos (by omega), ← e]
    · rw [if_neg (by omega)]
      by_cases e2 : (X + 3 * Y) % 5 < n
      · rw [if_pos e2, if_pos (by omega)]
      · rw [if_neg e2, if_neg (by omega)]
/-! Turning, and moving: which step writes a lane. -/
def rIdx (x y : Nat) : Nat → Option Nat
  | 0 => none
  | n + 1 => if (xyN n).1 = x ∧ (xyN n).2 = y then some n else rIdx x y n
def offN (t : Nat) : Nat := (t + 1) * (t + 2) / 2
theorem xyl (i : Nat) : (xyN i).1 < 5 ∧ (xyN i).2 < 5 := by
  induction i with
  | zero => decide
  | succ i ih => simp only [xyN]; omega
theorem rhZ_len (a : List Bool) (t : Nat) (l : List Bool) (n : Nat) : (rhZ a t l n).length = l.length := fillN_len _ _ _ _
theorem rhN_len {a : List Bool} (ha : a.length = 1600) : ∀ n, (rhN a n).length = 1600
  | 0 => by rw [rhN, lanes_len (lane_len (by omega)) (by rw [zB_len]; omega), zB_len]
  | n + 1 => by rw [rhN, rhZ_len, rhN_len ha n]
theorem rhZ_get {a : List Bool} {t : Nat} {l : List Bool} (hl : l.length = 1600) {x y z : Nat} (hx : x < 5) (hy : y < 5) (hz : z < 64) : ∀ n, n ≤ 64 →
    gb (rhZ a t l n) (at3 x y z) = if ((xyN t).1 = x ∧ (xyN t).2 = y) ∧ (z + (64 - offN t % 64)) % 64 < n then gb a (at3 x y ((z + (64 - offN t % 64)) % 64)) else gb l (at3 x y z)
  | 0, _ => by rw [if_neg (by omega)]; rfl
  | n + 1, hn => by
    have ih := rhZ_get (a := a) (t := t) hl hx hy hz n (by omega)
    have hk := at3_lt hx hy hz
    obtain ⟨h1, h2⟩ := xyl t
    unfold rhZ at ih ⊢
    rw [fillN, gb_set _ _ _ _ (by rw [fillN_len, hl]; exact hk), ih]
    have hoff : offN t = (t + 1) * (t + 2) / 2 := rfl
    rw [← hoff]
    generalize offN t = o at *
    generalize hX : (xyN t).1 = X at *
    generalize hY : (xyN t).2 = Y at *
    by_cases e : X = x ∧ Y = y
    · obtain ⟨e1, e2⟩ := e
      subst e1 e2
      by_cases e3 : (z + (64 - o % 64)) % 64 = n
      · rw [if_pos (by unfold at3; omega), if_pos ⟨⟨rfl, rfl⟩, by omega⟩, e3]
      · rw [if_neg (by unfold at3; omega)]
        by_cases e4 : (z + (64 - o % 64)) % 64 < n
        · rw [if_pos ⟨⟨rfl, rfl⟩, e4⟩, if_pos ⟨⟨rfl, rfl⟩, by omega⟩]
        · rw [if_neg (fun h => e4 h.2), if_neg (fun h => by have := h.2; omega)]
    · rw [if_neg (fun h => e (by unfold at3 at h; omega)), if_neg (fun h => e h.1), if_neg (fun h => e h.1)]
theorem rhN_get {a : List Bool} (ha : a.length = 1600) {x y z : Nat} (hx : x < 5) (hy : y < 5) (hz : z < 64) : ∀ n,
    gb (rhN a n) (at3 x y z) = match rIdx x y n with | some t => gb a (at3 x y ((z + (64 - offN t % 64)) % 64)) | none => gb (rhN a 0) (at3 x y z)
  | 0 => rfl
  | n + 1 => by
    rw [show rhN a (n + 1) = rhZ a n (rhN a n) 64 from rfl, rhZ_get (rhN_len ha n) hx hy hz 64 (Nat.le_refl _), rhN_get ha hx hy hz n, rIdx]
    by_cases e : (xyN n).1 = x ∧ (xyN n).2 = y
    · rw [if_pos ⟨e, by omega⟩, if_pos e]
    · rw [if_neg (fun h => e h.1), if_neg e]
theorem rp_len (s : List Int) : ∀ n, (rpN s n).length = 25
  | 0 => by rw [rpN]; simp
  | n + 1 => by rw [rpN, List.length_set, rp_len s n]
theorem lane_iff : ∀ x y X Y : Fin 5, y.val + 5 * ((2 * x.val + 3 * y.val) % 5) = X.val + 5 * Y.val ↔ x.val = (X.val + 3 * Y.val) % 5 ∧ y.val = X.val := by decide +kernel
theorem rpN_s (s : List Int) (i : Nat) : rpN s (i + 1) = (rpN s i).set ((xyN i).2 + 5 * ((2 * (xyN i).1 + 3 * (xyN i).2) % 5)) (rotW (s.getD ((xyN i).1 + 5 * (xyN i).2) 0) (((i + 1) * (i + 2) / 2 : Nat) % 64 : Nat)) := rfl
theorem rp_get (s : List Int) {X Y : Nat} (hX : X < 5) (hY : Y < 5) : ∀ n,
    (rpN s n).getD (X + 5 * Y) 0 = match rIdx ((X + 3 * Y) % 5) X n with | some t => rotW (s.getD ((X + 3 * Y) % 5 + 5 * X) 0) ((offN t % 64 : Nat) : Int) | none => (rpN s 0).getD (X + 5 * Y) 0
  | 0 => rfl
  | n + 1 => by
    obtain ⟨h1, h2⟩ := xyl n
    rw [rpN_s, set_get _ _ _ _ (by rw [rp_len]; omega), rp_get s hX hY n, rIdx]
    have hi := lane_iff ⟨_, h1⟩ ⟨_, h2⟩ ⟨X, hX⟩ ⟨Y, hY⟩
    simp only at hi
    by_cases e : (xyN n).1 = (X + 3 * Y) % 5 ∧ (xyN n).2 = X
    · rw [if_pos e, if_pos (hi.2 e), e.1, e.2]; rfl
    · rw [if_neg e, if_neg (fun h => e (hi.1 h))]
theorem rIdx_some : ∀ X Y : Fin 5, (X.val = 0 ∧ Y.val = 0 ∧ rIdx 0 0 24 = none) ∨ (rIdx ((X.val + 3 * Y.val) % 5) X.val 24).isSome = true := by decide +kernel
theorem rhoPi_len (s : List Int) : (rhoPi s).length = 25 := rp_len s 24
theorem rpi_w {s : List Int} (hs : areW s) : piB (rhoB (ofW s)) = ofW (rhoPi s) := by
  have hl := rhN_len (ofW_len s) 24
  refine ext16 (piX_len hl zB_len 5 (Nat.le_refl _)) (ofW_len _) fun X Y z hX hY hz => ?_
  unfold piB rhoB
  rw [piX_get hl zB_len hX hY hz 5 (Nat.le_refl _), if_pos (by omega), ofW_get _ hX hY hz]
  unfold rhoPi
  rw [rhN_get (ofW_len s) (by omega) hX hz, rp_get s hX hY]
  rcases rIdx_some ⟨X, hX⟩ ⟨Y, hY⟩ with h | h
  · obtain ⟨e1, e2, e3⟩ := h
    simp only at e1 e2
    subst e1 e2
    rw [show (0 + 3 * 0) % 5 = 0 from rfl, e3]
    simp only
    rw [rhN, lanes_get (lane_len (by rw [ofW_len]; omega)) (by rw [zB_len]; omega), if_pos (by unfold at3; omega), lane_get (by unfold at3; omega), show 0 + (at3 0 0 z - 0) = at3 0 0 z from by omega, ofW_get _ hX hX hz]
    rfl
  · simp only at h
    obtain ⟨t, ht⟩ := Option.isSome_iff_exists.1 h
    rw [ht]
    simp only
    rw [ofW_get _ (by omega) hX (by omega), rot_bt (hs _) (by omega) hz]
theorem rhoPi_w {s : List Int} (hs : areW s) : areW (rhoPi s) := fun j => by
  rcases Nat.lt_or_ge j 25 with hj | hj
  · have := rp_get s (X := j % 5) (Y := j / 5) (by omega) (by omega) 24
    rw [show j % 5 + 5 * (j / 5) = j from by omega] at this
    unfold rhoPi
    rw [this]
    split
    · exact rot_isW _ _
    · rw [rpN, set_get _ _ _ _ (by simpa using hj)]
      split
      · exact hs 0
      · rw [List.getD_eq_getElem?_getD, List.getElem?_replicate]
        split <;> exact isW0
  · rw [List.getD_eq_getElem?_getD, List.getElem?_eq_none (by rw [rhoPi_len]; exact hj)]; exact isW0
theorem chi_len {s : List Int} (h : s.length = 25) : (chi s).length = 25 := by rw [chi_eq h]; simp
theorem chi_w {s : List Int} (h : s.length = 25) : areW (chi s) := fun j => by
  rw [chi_eq h]
  rcases Nat.lt_or_ge j 25 with hj | hj
  · rw [map_get hj]; exact xr_any _ _
  · rw [List.getD_eq_getElem?_getD, List.getElem?_eq_none (by simpa using hj)]; exact isW0
theorem chiB_w {s : List Int} (h : s.length = 25) (hs : areW s) : chiB (ofW s) = ofW (chi s) := by
  refine ext16 (by unfold chiB; rw [fill3_len, zB_len]) (ofW_len _) fun x y z hx hy hz => ?_
  unfold chiB
  rw [fill3_get hx hy hz, ofW_get _ hx hy hz]
  unfold chV
  rw [ofW_get _ hx hy hz, ofW_get _ (by omega) hy hz, ofW_get _ (by omega) hy hz, chi_eq h, map_get (by omega), xr_bt (hs _) (andNot_isW _ _), andNot_bt (hs _) (hs _) hz,
    show x + 5 * y - (x + 5 * y) % 5 + (x + 5 * y + 2) % 5 = (x + 2) % 5 + 5 * y from by omega, show x + 5 * y - (x + 5 * y) % 5 + (x + 5 * y + 1) % 5 = (x + 1) % 5 + 5 * y from by omega, Bool.and_comm]
theorem addC_len (a c : List Bool) : ∀ n, (addC a c n).length = a.length
  | 0 => rfl
  | n + 1 => by rw [addC, List.length_set, addC_len a c n]
theorem addC_get (a c : List Bool) {k : Nat} (hk : k < a.length) : ∀ n, gb (addC a c n) k = if k < n then (gb a k != gb c k) else gb a k
  | 0 => by rw [if_neg (by omega)]; rfl
  | n + 1 => by
    rw [addC, gb_set _ _ _ _ (by rw [addC_len]; exact hk)]
    by_cases e : n = k
    · subst e
      rw [if_pos rfl, if_pos (by omega), addC_get a c hk n, if_neg (by omega)]
    · rw [if_neg e, addC_get a c hk n]
      by_cases e2 : k < n
      · rw [if_pos e2, if_pos (by omega)]
      · rw [if_neg e2, if_neg (by omega)]
theorem rcL_w : ∀ i : Fin 24, 0 ≤ rcL.getD i.val 0 ∧ rcL.getD i.val 0 < 18446744073709551616 := by decide +kernel
theorem rcOf_w (r : Int) : isW (rcOf r) := by
  unfold rcOf
  split
  · exact isW0
  · exact rcL_w ⟨r.toNat, by omega⟩
theorem bitsW_get (w : Int) {z : Nat} (hz : z < 64) : gb (bitsW w) z = bt w z := by
  unfold gb bitsW
  rw [List.getD_eq_getElem?_getD, List.getElem?_map, List.getElem?_range hz]; rfl
theorem round_len {s : List Int} (h : s.length = 25) (r : Int) : (round s r).length = 25 := by
  unfold round
  rw [List.length_set, chi_len (rhoPi_len _)]
theorem set_w {s : List Int} (hs : areW s) {x : Int} (hx : isW x) (i : Nat) : areW (s.set i x) := fun j => by
  rcases Nat.lt_or_ge j s.length with hj | hj
  · rw [set_get _ _ _ _ hj]
    split
    · exact hx
    · exact hs j
  · rw [List.getD_eq_getElem?_getD, List.getElem?_eq_none (by rw [List.length_set]; exact hj)]; exact isW0
theorem round_w {s : List Int} (h : s.length = 25) (hs : areW s) (r : Int) : areW (round s r) := set_w (chi_w (rhoPi_len _)) (xr_any _ _) 0
theorem roundB_w {s : List Int} (h : s.length = 25) (hs : areW s) (r : Int) : roundB (ofW s) r = ofW (round s r) := by
  unfold roundB round
  rw [thetaB_w h hs, rpi_w (theta_w h), chiB_w (rhoPi_len _) (rhoPi_w (theta_w h)), cbits_rc]
  have hc := chi_w (rhoPi_len (theta s))
  have hcl := chi_len (rhoPi_len (theta s))
  generalize chi (rhoPi (theta s)) = c at *
  refine ext16 (by rw [addC_len, ofW_len]) (ofW_len _) fun x y z hx hy hz => ?_
  rw [addC_get _ _ (by rw [ofW_len]; exact at3_lt hx hy hz), ofW_get _ hx hy hz, ofW_get _ hx hy hz, set_get _ _ _ _ (by omega)]
  by_cases e : x = 0 ∧ y = 0
  · obtain ⟨rfl, rfl⟩ := e
    rw [if_pos (by unfold at3; omega), if_pos (by omega), xr_bt (hc _) (rcOf_w r), show at3 0 0 z = z from by unfold at3; omega, bitsW_get _ hz]
  · rw [if_neg (by unfold at3; omega), if_neg (by omega)]
theorem tb_two (w : Nat) (c : Bool) (b : Nat) : (2 * w + (if c = true then 1 else 0)).testBit b = if b = 0 then c else w.testBit (b - 1) := by
  cases b with
  | zero =>
    rw [if_pos rfl, Nat.testBit_zero]
    cases c
    · rw [if_neg (by decide)]; exact decide_eq_false (by omega)
    · rw [if_pos rfl]; exact decide_eq_true (by omega)
  | succ b =>
    have e : (2 * w + (if c = true then 1 else 0)) / 2 = w := by
      cases c
      · rw [if_neg (by decide)]; omega
      · rw [if_pos rfl]; omega
    rw [Nat.testBit_succ, e, if_neg (by omega), Nat.add_sub_cancel]
theorem wv_bit (a : List Bool) (i : Nat) : ∀ n b, n ≤ 64 → b < n → (wv a i n).testBit b = gb a (at3 (i % 5) (i / 5) (64 - n + b))
  | 0, b, _, h => by omega
  | n + 1, b, hn, hb => by
    rw [wv, tb_two]
    by_cases e : b = 0
    · subst e
      rw [if_pos rfl, show 64 - (n + 1) + 0 = 63 - n from by omega]
    · rw [if_neg e, wv_bit a i n (b - 1) (by omega) (by omega), show 64 - n + (b - 1) = 64 - (n + 1) + b from by omega]
theorem wvlt (a : List Bool) (i : Nat) : ∀ n, wv a i n < 2 ^ n
  | 0 => Nat.one_pos
  | n + 1 => by
    have := wvlt a i n
    rw [wv, Nat.pow_succ]
    split <;> omega
theorem wd_len (a : List Bool) : ∀ n, (wdN a n).length = 25
  | 0 => by rw [wdN, List.length_replicate]
  | n + 1 => by rw [wdN, List.length_set, wd_len a n]
theorem wd_get (a : List Bool) {j : Nat} (hj : j < 25) : ∀ n, (wdN a n).getD j 0 = if j < n then (wv a j 64 : Int) else 0
  | 0 => by
    rw [if_neg (by omega), wdN, List.getD_eq_getElem?_getD, List.getElem?_replicate]
    split <;> rfl
  | n + 1 => by
    rw [wdN, set_get _ _ _ _ (by rw [wd_len]; exact hj), wd_get a hj n]
    by_cases e : n = j
    · subst e
      rw [if_pos rfl, if_pos (by omega)]
    · rw [if_neg e]
      by_cases e2 : j < n
      · rw [if_pos e2, if_pos (by omega)]
      · rw [if_neg e2, if_neg (by omega)]
theorem list25 {l m : List Int} (hl : l.length = 25) (hm : m.length = 25) (h : ∀ j, j < 25 → l.getD j 0 = m.getD j 0) : l = m := by
  apply List.ext_getElem (by rw [hl, hm])
  intro i h1 h2
  have := h i (by omega)
  rw [List.getD_eq_getElem?_getD, List.getD_eq_getElem?_getD, List.getElem?_eq_getElem h1, List.getElem?_eq_getElem h2] at this
  simpa using this
theorem toW_len (a : List Bool) : (toW a).length = 25 := by unfold toW; rw [hid_eq, wd_len]
theorem toW_w (a : List Bool) : areW (toW a) := fun j => by
  unfold toW
  rw [hid_eq]
  rcases Nat.lt_or_ge j 25 with hj | hj
  · rw [wd_get a hj, if_pos hj]
    have := wvlt a j 64
    rw [show (2 : Nat) ^ 64 = 18446744073709551616 from by decide] at this
    exact ⟨by omega, by omega⟩
  · rw [List.getD_eq_getElem?_getD, List.getElem?_eq_none (by rw [wd_len]; exact hj)]; exact isW0
/-- The words of the bits of words are these. -/
theorem toW_ofW {s : List Int} (h : s.length = 25) (hs : areW s) : toW (ofW s) = s := by
  refine list25 (toW_len _) h fun j hj => ?_
  unfold toW
  rw [hid_eq, wd_get _ hj, if_pos hj]
  have hw := hs j
  obtain ⟨n, hn⟩ : ∃ n : Nat, s.getD j 0 = n := ⟨(s.getD j 0).toNat, by have := hw.1; omega⟩
  rw [hn]
  have hlt : n < 2 ^ 64 := by have := hw.2; rw [show (2 : Nat) ^ 64 = 18446744073709551616 from by decide]; omega
  refine congrArg (fun k : Nat => (k : Int)) ?_
  apply Nat.eq_of_testBit_eq
  intro b
  rcases Nat.lt_or_ge b 64 with hb | hb
  · rw [wv_bit _ _ _ _ (Nat.le_refl _) hb, Nat.sub_self, Nat.zero_add, ofW_get _ (by omega) (by omega) hb, show j % 5 + 5 * (j / 5) = j from by omega, hn]
    rfl
  · have h1 : (2 : Nat) ^ 64 ≤ 2 ^ b := Nat.pow_le_pow_right (by decide) hb
    rw [Nat.testBit_lt_two_pow (Nat.lt_of_lt_of_le (wvlt _ _ _) h1), Nat.testBit_lt_two_pow (Nat.lt_of_lt_of_le hlt h1)]
theorem round_is {s : List Int} (h : s.length = 25) (hs : areW s) (r : Int) : toW (roundB (ofW s) r) = round s r := by
  rw [roundB_w h hs, toW_ofW (round_len h r) (round_w h hs r)]
theorem permN_ok {s : List Int} (h : s.length = 25) (hs : areW s) : ∀ n, (permN s n).length = 25 ∧ areW (permN s n)
  | 0 => ⟨h, hs⟩
  | n + 1 => by
    obtain ⟨h1, h2⟩ := permN_ok h hs n
    exact ⟨round_len h1 _, round_w h1 h2 _⟩
theorem permB_w {s : List Int} (h : s.length = 25) (hs : areW s) : ∀ n, permB (ofW s) n = ofW (permN s n)
  | 0 => rfl
  | n + 1 => by
    obtain ⟨h1, h2⟩ := permN_ok h hs n
    rw [permB, permB_w h hs n, roundB_w h1 h2]; rfl
theorem permR_is {s : List Int} (h : s.length = 25) (hs : areW s) : permR s = perm s := by
  obtain ⟨h1, h2⟩ := permN_ok h hs 24
  unfold permR
  rw [hid_eq, permB_w h hs, toW_ofW h1 h2, perm_eq]
theorem perm_ok {s : List Int} (h : s.length = 25) (hs : areW s) : (perm s).length = 25 ∧ areW (perm s) := by
  rw [perm_eq]; exact permN_ok h hs 24
/-- The first word of a lane of bits alone. -/
theorem first_word (w : Int) (hw : isW w) : (toW (lanes zB (bitsW w) 0)).getD 0 0 = w := by
  have hb : (bitsW w).length = 64 := by unfold bitsW; simp
  unfold toW
  rw [hid_eq, wd_get _ (by omega), if_pos (by omega)]
  obtain ⟨n, rfl⟩ : ∃ n : Nat, w = n := ⟨w.toNat, by have := hw.1; omega⟩
  have hlt : n < 2 ^ 64 := by have := hw.2; rw [show (2 : Nat) ^ 64 = 18446744073709551616 from by decide]; omega
  refine congrArg (fun k : Nat => (k : Int)) ?_
  apply Nat.eq_of_testBit_eq
  intro b
  rcases Nat.lt_or_ge b 64 with hb2 | hb2
  · rw [wv_bit _ _ _ _ (Nat.le_refl _) hb2, Nat.sub_self, Nat.zero_add, lanes_get hb (by rw [zB_len]; omega), if_pos (by unfold at3; omega), show at3 (0 % 5) (0 / 5) b - 0 = b from by unfold at3; omega, bitsW_get _ hb2]
    rfl
  · have h1 : (2 : Nat) ^ 64 ≤ 2 ^ b := Nat.pow_le_pow_right (by decide) hb2
    rw [Nat.testBit_lt_two_pow (Nat.lt_of_lt_of_le (wvlt _ _ _) h1), Nat.testBit_lt_two_pow (Nat.lt_of_lt_of_le hlt h1)]
end Go.Proofs.YtganbceicojfmaaDoor

/-
  A round tells unlike states: it has but one state ahead of each. (No program in sight.)
-/
namespace Go.Proofs.YtganbceicojfmaaDoor
open Go Go.Avc Go.Proofs
set_option linter.unusedVariables false
set_option linter.unusedSimpArgs false
set_option maxRecDepth 100000
theorem eqW {a b : Int} (ha : isW a) (hb : isW b) (h : ∀ z, z < 64 → bt a z = bt b z) : a = b := by
  have e : a.toNat = b.toNat := by
    apply Nat.eq_of_testBit_eq
    intro z
    rcases Nat.lt_or_ge z 64 with hz | hz
    · exact h z hz
    · have h1 : (2 : Nat) ^ 64 ≤ 2 ^ z := Nat.pow_le_pow_right (by decide) hz
      have p : (2 : Nat) ^ 64 = 18446744073709551616 := by decide
      have a2 := ha.2
      have b2 := hb.2
      rw [Nat.testBit_lt_two_pow (Nat.lt_of_lt_of_le (by omega) h1), Nat.testBit_lt_two_pow (Nat.lt_of_lt_of_le (by omega) h1)]
  have := ha.1
  have := hb.1
  omega
theorem xr_inj {a b k : Int} (ha : isW a) (hb : isW b) (hk : isW k) (h : xr a k = xr b k) : a = b := by
  refine eqW ha hb fun z _ => ?_
  have h2 := congrArg (fun w => bt w z) h
  simp only [xr_bt ha hk, xr_bt hb hk] at h2
  revert h2
  cases bt a z <;> cases bt b z <;> cases bt k z <;> simp
theorem chi_bool : ∀ a0 a1 a2 a3 a4 b0 b1 b2 b3 b4 : Bool, (a0 != (a2 && !a1)) = (b0 != (b2 && !b1)) → (a1 != (a3 && !a2)) = (b1 != (b3 && !b2)) → (a2 != (a4 && !a3)) = (b2 != (b4 && !b3)) →
    (a3 != (a0 && !a4)) = (b3 != (b0 && !b4)) → (a4 != (a1 && !a0)) = (b4 != (b1 && !b0)) → a0 = b0 ∧ a1 = b1 ∧ a2 = b2 ∧ a3 = b3 ∧ a4 = b4 := by decide +kernel
theorem chi_bt {s : List Int} (h : s.length = 25) (hs : areW s) {x y z : Nat} (hx : x < 5) (hy : y < 5) (hz : z < 64) :
    bt ((chi s).getD (x + 5 * y) 0) z = (bt (s.getD (x + 5 * y) 0) z != (bt (s.getD ((x + 2) % 5 + 5 * y) 0) z && !bt (s.getD ((x + 1) % 5 + 5 * y) 0) z)) := by
  rw [chi_eq h, map_get (by omega), xr_bt (hs _) (andNot_isW _ _), andNot_bt (hs _) (hs _) hz,
    show x + 5 * y - (x + 5 * y) % 5 + (x + 5 * y + 2) % 5 = (x + 2) % 5 + 5 * y from by omega, show x + 5 * y - (x + 5 * y) % 5 + (x + 5 * y + 1) % 5 = (x + 1) % 5 + 5 * y from by omega]
theorem chi_inj {s t : List Int} (h : s.length = 25) (k : t.length = 25) (hs : areW s) (ht : areW t) (e : chi s = chi t) : s = t := by
  refine list25 h k fun j hj => eqW (hs j) (ht j) fun z hz => ?_
  have hy : j / 5 < 5 := by omega
  have b : ∀ x, x < 5 → (bt (s.getD (x + 5 * (j / 5)) 0) z != (bt (s.getD ((x + 2) % 5 + 5 * (j / 5)) 0) z && !bt (s.getD ((x + 1) % 5 + 5 * (j / 5)) 0) z)) =
      (bt (t.getD (x + 5 * (j / 5)) 0) z != (bt (t.getD ((x + 2) % 5 + 5 * (j / 5)) 0) z && !bt (t.getD ((x + 1) % 5 + 5 * (j / 5)) 0) z)) := fun x hx => by
    have h1 := chi_bt h hs hx hy hz
    rw [e, chi_bt k ht hx hy hz] at h1
    exact h1.symm
  have := chi_bool _ _ _ _ _ _ _ _ _ _ (b 0 (by omega)) (b 1 (by omega)) (b 2 (by omega)) (b 3 (by omega)) (b 4 (by omega))
  obtain ⟨h0, h1, h2, h3, h4⟩ := this
  have hj5 : j = j % 5 + 5 * (j / 5) := by omega
  have hm : j % 5 < 5 := by omega
  rw [hj5]
  generalize j % 5 = m at *
  match m, hm with
  | 0, _ => exact h0
  | 1, _ => exact h1
  | 2, _ => exact h2
  | 3, _ => exact h3
  | 4, _ => exact h4
theorem rot_inj {a b : Int} (ha : isW a) (hb : isW b) {o : Nat} (ho : o < 64) (h : rotW a (o : Int) = rotW b (o : Int)) : a = b := by
  refine eqW ha hb fun z hz => ?_
  have h2 := congrArg (fun w => bt w ((z + o) % 64)) h
  simp only [rot_bt ha ho (Nat.mod_lt _ (by decide)), rot_bt hb ho (Nat.mod_lt _ (by decide))] at h2
  rwa [show ((z + o) % 64 + (64 - o)) % 64 = z from by omega] at h2
theorem rhoPi_inj {s t : List Int} (h : s.length = 25) (k : t.length = 25) (hs : areW s) (ht : areW t) (e : rhoPi s = rhoPi t) : s = t := by
  refine list25 h k fun j hj => ?_
  have hX : j / 5 < 5 := by omega
  have hY : (j % 5 + 5 - j / 5) * 2 % 5 < 5 := by omega
  have e1 := rp_get s hX hY 24
  have e2 := rp_get t hX hY 24
  have e3 : (rhoPi s).getD (j / 5 + 5 * ((j % 5 + 5 - j / 5) * 2 % 5)) 0 = (rhoPi t).getD (j / 5 + 5 * ((j % 5 + 5 - j / 5) * 2 % 5)) 0 := by rw [e]
  unfold rhoPi at e3
  have hsrc : (j / 5 + 3 * ((j % 5 + 5 - j / 5) * 2 % 5)) % 5 = j % 5 := by omega
  rw [e1, e2, hsrc] at e3
  rcases rIdx_some ⟨_, hX⟩ ⟨_, hY⟩ with h0 | h0
  · obtain ⟨x0, y0, h0⟩ := h0
    simp only at x0 y0
    have hj0 : j = 0 := by omega
    subst hj0
    rw [show (0 % 5) = 0 from rfl, show (0 / 5) = 0 from rfl, h0] at e3
    simp only [rpN] at e3
    rw [set_get _ _ _ _ (by simp), set_get _ _ _ _ (by simp), if_pos (by decide), if_pos (by decide)] at e3
    exact e3
  · simp only at h0
    rw [hsrc] at h0
    obtain ⟨i, hi⟩ := Option.isSome_iff_exists.1 h0
    rw [hi] at e3
    simp only at e3
    have := rot_inj (hs _) (ht _) (Nat.mod_lt _ (by decide)) e3
    rwa [show j % 5 + 5 * (j / 5) = j from by omega] at this
/-! The sums of columns, of a difference that vanishes. -/
theorem sq_step {Q : Nat → Nat → Bool} {a b c d : Nat} (h : ∀ x z, Q x z = (Q (x + a) (z + b) != Q (x + c) (z + d))) (x z : Nat) : Q x z = (Q (x + 2 * a) (z + 2 * b) != Q (x + 2 * c) (z + 2 * d)) := by
  rw [h x z, h (x + a) (z + b), h (x + c) (z + d), show x + a + a = x + 2 * a from by omega, show z + b + b = z + 2 * b from by omega, show x + c + c = x + 2 * c from by omega, show z + d + d = z + 2 * d from by omega,
    show x + c + a = x + a + c from by omega, show z + d + b = z + b + d from by omega]
  cases Q (x + 2 * a) (z + 2 * b) <;> cases Q (x + a + c) (z + b + d) <;> cases Q (x + 2 * c) (z + 2 * d) <;> rfl
theorem five : ∀ p0 p1 p2 p3 p4 : Bool, p0 = (p1 != p4) → p1 = (p2 != p0) → p2 = (p3 != p1) → p3 = (p4 != p2) → p4 = (p0 != p3) → p0 = false ∧ p1 = false ∧ p2 = false ∧ p3 = false ∧ p4 = false := by decide
theorem cols_zero {P : Nat → Nat → Bool} (h : ∀ x z, x < 5 → z < 64 → P x z = (P ((x + 4) % 5) z != P ((x + 1) % 5) ((z + 63) % 64))) {x z : Nat} (hx : x < 5) (hz : z < 64) : P x z = false := by
  have h0 : ∀ x z, (fun x z => P (x % 5) (z % 64)) x z = ((fun x z => P (x % 5) (z % 64)) (x + 4) (z + 0) != (fun x z => P (x % 5) (z % 64)) (x + 1) (z + 63)) := fun x z => by
    show P (x % 5) (z % 64) = (P ((x + 4) % 5) ((z + 0) % 64) != P ((x + 1) % 5) ((z + 63) % 64))
    rw [h (x % 5) (z % 64) (by omega) (by omega), show (x % 5 + 4) % 5 = (x + 4) % 5 from by omega, show (x % 5 + 1) % 5 = (x + 1) % 5 from by omega, show (z % 64 + 63) % 64 = (z + 63) % 64 from by omega]
    rfl
  have h6 := sq_step (sq_step (sq_step (sq_step (sq_step (sq_step h0)))))
  have g : ∀ x, x < 5 → P x z = (P ((x + 1) % 5) z != P ((x + 4) % 5) z) := fun x hx => by
    have this : P (x % 5) (z % 64) = (P ((x + 2 * (2 * (2 * (2 * (2 * (2 * 4)))))) % 5) ((z + 2 * (2 * (2 * (2 * (2 * (2 * 0)))))) % 64) != P ((x + 2 * (2 * (2 * (2 * (2 * (2 * 1)))))) % 5) ((z + 2 * (2 * (2 * (2 * (2 * (2 * 63)))))) % 64)) := h6 x z
    rw [show x % 5 = x from by omega, show z % 64 = z from by omega, show (x + 2 * (2 * (2 * (2 * (2 * (2 * 4)))))) % 5 = (x + 1) % 5 from by omega, show (z + 2 * (2 * (2 * (2 * (2 * (2 * 0)))))) % 64 = z from by omega,
      show (x + 2 * (2 * (2 * (2 * (2 * (2 * 1)))))) % 5 = (x + 4) % 5 from by omega, show (z + 2 * (2 * (2 * (2 * (2 * (2 * 63)))))) % 64 = z from by omega] at this
    exact this
  have := five _ _ _ _ _ (g 0 (by omega)) (g 1 (by omega)) (g 2 (by omega)) (g 3 (by omega)) (g 4 (by omega))
  obtain ⟨k0, k1, k2, k3, k4⟩ := this
  match x, hx with
  | 0, _ => exact k0
  | 1, _ => exact k1
  | 2, _ => exact k2
  | 3, _ => exact k3
  | 4, _ => exact k4
theorem theta_bt {s : List Int} (h : s.length = 25) (hs : areW s) {x y z : Nat} (hx : x < 5) (hy : y < 5) (hz : z < 64) :
    bt ((theta s).getD (x + 5 * y) 0) z = (bt (s.getD (x + 5 * y) 0) z != (bt (cAt s ((x + 4) % 5)) z != bt (cAt s ((x + 1) % 5)) ((z + 63) % 64))) := by
  have hr := rot_bt (cAt_isW s ((x + 1) % 5)) (s := 1) (by omega) hz
  rw [show ((1 : Nat) : Int) = 1 from rfl] at hr
  rw [theta_eq h, map_get (by omega), xr_bt (hs _) (xr_any _ _), xr_bt (cAt_isW _ _) (rot_isW _ _), show (x + 5 * y) % 5 = x from by omega, hr]
theorem ten : ∀ a0 a1 a2 a3 a4 b0 b1 b2 b3 b4 u v : Bool, (a0 != u) = (b0 != v) → (a1 != u) = (b1 != v) → (a2 != u) = (b2 != v) → (a3 != u) = (b3 != v) → (a4 != u) = (b4 != v) →
    ((a0 != (a1 != (a2 != (a3 != a4)))) != (b0 != (b1 != (b2 != (b3 != b4))))) = (u != v) := by decide +kernel
theorem theta_inj {s t : List Int} (h : s.length = 25) (k : t.length = 25) (hs : areW s) (ht : areW t) (e : theta s = theta t) : s = t := by
  have b : ∀ x y z, x < 5 → y < 5 → z < 64 → (bt (s.getD (x + 5 * y) 0) z != (bt (cAt s ((x + 4) % 5)) z != bt (cAt s ((x + 1) % 5)) ((z + 63) % 64))) = (bt (t.getD (x + 5 * y) 0) z != (bt (cAt t ((x + 4) % 5)) z != bt (cAt t ((x + 1) % 5)) ((z + 63) % 64))) :=
    fun x y z hx hy hz => by
      have h1 := theta_bt h hs hx hy hz
      rw [e, theta_bt k ht hx hy hz] at h1
      exact h1.symm
  have hP : ∀ x z, x < 5 → z < 64 → (fun x z => (bt (cAt s x) z != bt (cAt t x) z)) x z = ((fun x z => (bt (cAt s x) z != bt (cAt t x) z)) ((x + 4) % 5) z != (fun x z => (bt (cAt s x) z != bt (cAt t x) z)) ((x + 1) % 5) ((z + 63) % 64)) := fun x z hx hz => by
    simp only
    have := ten _ _ _ _ _ _ _ _ _ _ _ _ (b x 0 z hx (by omega) hz) (b x 1 z hx (by omega) hz) (b x 2 z hx (by omega) hz) (b x 3 z hx (by omega) hz) (b x 4 z hx (by omega) hz)
    rw [cAt_bt hs x z, cAt_bt ht x z]
    simp only [Nat.mul_zero, Nat.add_zero, Nat.mul_one] at this
    rw [show 5 * 2 = 10 from rfl, show 5 * 3 = 15 from rfl, show 5 * 4 = 20 from rfl] at this
    rw [this]
    cases bt (cAt s ((x + 4) % 5)) z <;> cases bt (cAt s ((x + 1) % 5)) ((z + 63) % 64) <;> cases bt (cAt t ((x + 4) % 5)) z <;> cases bt (cAt t ((x + 1) % 5)) ((z + 63) % 64) <;> rfl
  have hz0 : ∀ x z, x < 5 → z < 64 → bt (cAt s x) z = bt (cAt t x) z := fun x z hx hz => by
    have : (bt (cAt s x) z != bt (cAt t x) z) = false := cols_zero hP hx hz
    revert this
    cases bt (cAt s x) z <;> cases bt (cAt t x) z <;> simp
  refine list25 h k fun j hj => eqW (hs j) (ht j) fun z hz => ?_
  have := b (j % 5) (j / 5) z (by omega) (by omega) hz
  rw [hz0 _ _ (Nat.mod_lt _ (by decide)) hz, hz0 _ _ (Nat.mod_lt _ (by decide)) (Nat.mod_lt _ (by decide)), show j % 5 + 5 * (j / 5) = j from by omega] at this
  revert this
  cases bt (s.getD j 0) z <;> cases bt (t.getD j 0) z <;> cases bt (cAt t ((j % 5 + 4) % 5)) z <;> cases bt (cAt t ((j % 5 + 1) % 5)) ((z + 63) % 64) <;> simp
theorem round_inj {s t : List Int} (h : s.length = 25) (k : t.length = 25) (hs : areW s) (ht : areW t) (r : Int) (e : round s r = round t r) : s = t := by
  refine theta_inj h k hs ht (rhoPi_inj (theta_len h) (theta_len k) (theta_w h) (theta_w k) (chi_inj (rhoPi_len _) (rhoPi_len _) (rhoPi_w (theta_w h)) (rhoPi_w (theta_w k)) ?_))
  unfold round at e
  have lc := chi_len (rhoPi_len (theta s))
  have ld := chi_len (rhoPi_len (theta t))
  have wc := chi_w (rhoPi_len (theta s))
  have wd := chi_w (rhoPi_len (theta t))
  generalize chi (rhoPi (theta s)) = c at *
  generalize chi (rhoPi (theta t)) = d at *
  refine list25 lc ld fun j hj => ?_
  have this : (c.set 0 (xr (c.getD 0 0) (rcOf r))).getD j 0 = (d.set 0 (xr (d.getD 0 0) (rcOf r))).getD j 0 := by rw [e]
  rw [set_get _ _ _ _ (by omega), set_get _ _ _ _ (by omega)] at this
  by_cases hj0 : 0 = j
  · subst hj0
    rw [if_pos rfl, if_pos rfl] at this
    exact xr_inj (wc _) (wd _) (rcOf_w r) this
  · rwa [if_neg hj0, if_neg hj0] at this
theorem permN_s (s : List Int) (n : Nat) : permN s (n + 1) = round (permN s n) (n : Int) := by rw [permN]
theorem permN_inj {s t : List Int} (h : s.length = 25) (k : t.length = 25) (hs : areW s) (ht : areW t) (n : Nat) : permN s n = permN t n → s = t := by
  induction n with
  | zero => intro e; rw [permN, permN] at e; exact e
  | succ n ih =>
    intro e
    obtain ⟨h1, h2⟩ := permN_ok h hs n
    obtain ⟨k1, k2⟩ := permN_ok k ht n
    rw [permN_s, permN_s] at e
    exact ih (round_inj h1 k1 h2 k2 _ e)
end Go.Proofs.YtganbceicojfmaaDoor

/-
  Bytes and words tell each other. (No program in sight.)
-/
namespace Go.Proofs.YtganbceicojfmaaDoor
open Go Go.Avc Go.Proofs
set_option linter.unusedVariables false
set_option linter.unusedSimpArgs false
set_option maxRecDepth 100000
theorem wd_low (f : Nat → Int) : ∀ n, wd f (n + 1) = f 0 + 256 * wd (fun k => f (k + 1)) n
  | 0 => by simp [wd]
  | n + 1 => by
    rw [wd, wd_low f n, wd, Int.pow_succ]
    have : f (n + 1) * (256 ^ n * 256) = 256 * (f (n + 1) * 256 ^ n) := by rw [← Int.mul_assoc, Int.mul_comm]
    rw [this]
    omega
theorem wd_bd {f : Nat → Int} (h : ∀ k, 0 ≤ f k ∧ f k < 256) : ∀ n, 0 ≤ wd f n ∧ wd f n < 256 ^ n
  | 0 => ⟨by simp [wd], by simp [wd]⟩
  | n + 1 => by
    obtain ⟨h1, h2⟩ := wd_bd h n
    obtain ⟨k1, k2⟩ := h n
    have hp : (0 : Int) < 256 ^ n := Int.pow_pos (by decide)
    rw [wd, Int.pow_succ]
    constructor
    · have := Int.mul_nonneg k1 (Int.le_of_lt hp); omega
    · have h3 : f n * 256 ^ n ≤ 255 * 256 ^ n := Int.mul_le_mul_of_nonneg_right (by omega) (Int.le_of_lt hp)
      omega
theorem wb_wd {f : Nat → Int} (h : ∀ k, 0 ≤ f k ∧ f k < 256) : ∀ n k, k < n → wb (wd f n) k = f k
  | 0, k, hk => by omega
  | n + 1, 0, _ => by
    have := h 0
    unfold wb
    rw [wd_low, Int.pow_zero, Int.ediv_one]
    omega
  | n + 1, k + 1, hk => by
    have ih := wb_wd (f := fun k => f (k + 1)) (fun k => h (k + 1)) n k (by omega)
    have := h 0
    unfold wb at ih ⊢
    rw [wd_low, Int.pow_succ, Int.mul_comm (256 ^ k) 256, ← Int.ediv_ediv_of_nonneg (by decide), show (f 0 + 256 * wd (fun k => f (k + 1)) n) / 256 = wd (fun k => f (k + 1)) n from by omega]
    exact ih
theorem wd_wb : ∀ (n : Nat) (w : Int), 0 ≤ w → w < 256 ^ n → wd (wb w) n = w
  | 0, w, h1, h2 => by rw [Int.pow_zero] at h2; rw [wd]; omega
  | n + 1, w, h1, h2 => by
    rw [Int.pow_succ] at h2
    have ih := wd_wb n (w / 256) (by omega) (by omega)
    have e : (fun k => wb w (k + 1)) = wb (w / 256) := by
      funext k
      unfold wb
      rw [Int.pow_succ, Int.mul_comm (256 ^ k) 256, ← Int.ediv_ediv_of_nonneg (by decide)]
    rw [wd_low, e, ih]
    unfold wb
    rw [Int.pow_zero, Int.ediv_one]
    omega
theorem wd_lt {f g : Nat → Int} : ∀ n, (∀ k, k < n → f k = g k) → wd f n = wd g n
  | 0, _ => rfl
  | n + 1, h => by rw [wd, wd, wd_lt n (fun k hk => h k (by omega)), h n (by omega)]
theorem wb_rng (w : Int) (k : Nat) : 0 ≤ wb w k ∧ wb w k < 256 := by unfold wb; omega
theorem wd_w {w : Int} (h : isW w) : wd (wb w) 8 = w := wd_wb 8 w h.1 (by have := h.2; rw [show (256 : Int) ^ 8 = 18446744073709551616 from by decide]; exact this)
theorem wd_isW {f : Nat → Int} (h : ∀ k, 0 ≤ f k ∧ f k < 256) : isW (wd f 8) := by
  have := wd_bd h 8
  rw [show (256 : Int) ^ 8 = 18446744073709551616 from by decide] at this
  exact this
theorem wbN_get (w : Int) : ∀ n k, k < n → (wbN w n).getD k 0 = wb w k
  | 0, k, h => by omega
  | n + 1, k, h => by
    rw [wbN, List.getD_eq_getElem?_getD]
    rcases Nat.lt_or_ge k n with h2 | h2
    · rw [List.getElem?_append_left (by rw [wb_len]; exact h2), ← List.getD_eq_getElem?_getD, wbN_get w n k h2]
    · have : k = n := by omega
      subst this
      rw [List.getElem?_append_right (by rw [wb_len]; exact Nat.le_refl _), wb_len, Nat.sub_self]; rfl
theorem bysN_get (f : Nat → Int) : ∀ n p, p < 8 * n → (bysN f n).getD p 0 = wb (f (p / 8)) (p % 8)
  | 0, p, h => by omega
  | n + 1, p, h => by
    rw [bysN, List.getD_eq_getElem?_getD]
    rcases Nat.lt_or_ge p (8 * n) with h2 | h2
    · rw [List.getElem?_append_left (by rw [bys_len]; exact h2), ← List.getD_eq_getElem?_getD, bysN_get f n p h2]
    · rw [List.getElem?_append_right (by rw [bys_len]; exact h2), bys_len, ← List.getD_eq_getElem?_getD, wbN_get _ _ _ (by omega), show p / 8 = n from by omega, show p - 8 * n = p % 8 from by omega]
theorem bysL_len (s : List Int) : (bysL s).length = 200 := by rw [bysL_eq]; exact bys_len _ 25
theorem bysL_get (s : List Int) {p : Nat} (hp : p < 200) : (bysL s).getD p 0 = wb (s.getD (p / 8) 0) (p % 8) := by rw [bysL_eq]; exact bysN_get _ 25 p (by omega)
theorem bysL_rng (s : List Int) (p : Nat) : 0 ≤ (bysL s).getD p 0 ∧ (bysL s).getD p 0 < 256 := by
  rcases Nat.lt_or_ge p 200 with h | h
  · rw [bysL_get s h]; exact wb_rng _ _
  · rw [List.getD_eq_getElem?_getD, List.getElem?_eq_none (by rw [bysL_len]; exact h)]; exact ⟨by decide, by decide⟩
theorem bysL_areB (s : List Int) : areB ((bysL s).map row1) := fun i => by rw [rv_row1]; exact bysL_rng s i
theorem wdsL_len (l : List (List CD)) : (wdsL l).length = 25 := by unfold wdsL; simp
theorem wdsL_get (l : List (List CD)) {j : Nat} (h : j < 25) : (wdsL l).getD j 0 = wd (fun k => rv l (8 * j + k)) 8 := by unfold wdsL; rw [map_get h]
theorem wdsL_w {l : List (List CD)} (h : areB l) : areW (wdsL l) := fun j => by
  rcases Nat.lt_or_ge j 25 with hj | hj
  · rw [wdsL_get l hj]; exact wd_isW fun k => h _
  · rw [List.getD_eq_getElem?_getD, List.getElem?_eq_none (by rw [wdsL_len]; exact hj)]; exact isW0
/-- The bytes of the words of bytes. -/
theorem bysL_wdsL {l : List (List CD)} (h : areB l) {p : Nat} (hp : p < 200) : (bysL (wdsL l)).getD p 0 = rv l p := by
  rw [bysL_get _ hp, wdsL_get _ (by omega), wb_wd (fun k => h _) 8 _ (by omega), show 8 * (p / 8) + p % 8 = p from by omega]
/-- The words of the bytes of words. -/
theorem wdsL_bysL {s : List Int} (h : s.length = 25) (hs : areW s) : wdsL ((bysL s).map row1) = s := by
  refine list25 (wdsL_len _) h fun j hj => ?_
  rw [wdsL_get _ hj]
  rw [wd_lt (g := wb (s.getD j 0)) 8 fun k hk => ?_]
  · exact wd_w (hs j)
  · show rv ((bysL s).map row1) (8 * j + k) = _
    rw [rv_row1, bysL_get s (by omega), show (8 * j + k) / 8 = j from by omega, show (8 * j + k) % 8 = k from by omega]
theorem wrap_id {n : Int} (h : isW n) : IntKind.u64.wrap n = n := by rw [wrap_u64']; have := h.1; have := h.2; omega
theorem p256 (k : Nat) : (256 : Int) ^ k = ((2 ^ (8 * k) : Nat) : Int) := by
  rw [Nat.pow_mul, Int.natCast_pow]; rfl
/-- A byte is set above what is lower. -/
theorem or_shl {v b : Int} {k : Nat} (hk : k < 8) (hv : 0 ≤ v ∧ v < 256 ^ k) (hb : 0 ≤ b ∧ b < 256) : bOr .u64 v (bShl .u64 b ((8 * k : Nat) : Int)) = v + b * 256 ^ k := by
  obtain ⟨m, rfl⟩ := ex_nat hv.1
  obtain ⟨c, rfl⟩ := ex_nat hb.1
  have hm : m < 2 ^ (8 * k) := by have := hv.2; rw [p256] at this; exact Int.ofNat_lt.1 this
  have hc : c < 256 := by have := hb.2; omega
  have hpow : 2 ^ (8 * k) * 256 ≤ 2 ^ 64 := by
    rw [show (256 : Nat) = 2 ^ 8 from by decide, ← Nat.pow_add]
    exact Nat.pow_le_pow_right (by decide) (by omega)
  have hlt : m + c * 2 ^ (8 * k) < 18446744073709551616 := by
    have h3 : c * 2 ^ (8 * k) ≤ 255 * 2 ^ (8 * k) := Nat.mul_le_mul_right _ (by omega)
    rw [show (2 : Nat) ^ 64 = 18446744073709551616 from by decide] at hpow
    omega
  rw [shl_w c (8 * k) (by omega), Nat.mod_eq_of_lt (show c * 2 ^ (8 * k) < 18446744073709551616 from by omega), p256]
  have w1 : isW (m : Int) := ⟨by omega, by omega⟩
  have w2 : isW ((c * 2 ^ (8 * k) : Nat) : Int) := ⟨Int.natCast_nonneg _, by
    have h9 : c * 2 ^ (8 * k) < 18446744073709551616 := by omega
    omega⟩
  have e1 : (BitVec.ofInt 64 (m : Int) ||| BitVec.ofInt 64 ((c * 2 ^ (8 * k) : Nat) : Int)).toNat = m ||| (c * 2 ^ (8 * k)) := by
    rw [BitVec.toNat_or, ofInt_w w1, ofInt_w w2, Int.toNat_natCast, Int.toNat_natCast]
  show IntKind.u64.wrap ((BitVec.ofInt 64 (m : Int) ||| BitVec.ofInt 64 ((c * 2 ^ (8 * k) : Nat) : Int)).toNat : Int) = _
  have e2 : m ||| (c * 2 ^ (8 * k)) = m + c * 2 ^ (8 * k) := by
    rw [Nat.or_comm, Nat.mul_comm, ← Nat.two_pow_add_eq_or_of_lt hm, Nat.add_comm]
  rw [e1, e2, wrap_id ⟨Int.natCast_nonneg _, Int.ofNat_lt.2 hlt⟩, Int.natCast_add, Int.natCast_mul]
theorem ws_get {l : List (List CD)} (hl : l.length = 200) (hb : areB l) : ∀ n, n ≤ 200 → ∀ j, j < 25 → (wsN l n).getD j 0 = wd (fun k => rv l (8 * j + k)) (min 8 (n - 8 * j))
  | 0, _, j, hj => by
    rw [wsN, hl, show min 8 (0 - 8 * j) = 0 from by omega, wd, List.getD_eq_getElem?_getD, List.getElem?_replicate]
    split <;> rfl
  | n + 1, hn, j, hj => by
    have ih := ws_get hl hb n (by omega)
    rw [wsN, set_get _ _ _ _ (by rw [ws_len, hl]; omega)]
    by_cases e : n / 8 = j
    · subst e
      have hv := wd_bd (f := fun k => rv l (8 * (n / 8) + k)) (fun k => hb _) (n % 8)
      have hbn := hb n
      rw [if_pos rfl, ih _ hj, show min 8 (n - 8 * (n / 8)) = n % 8 from by omega, show min 8 (n + 1 - 8 * (n / 8)) = n % 8 + 1 from by omega, wrap_id ⟨hbn.1, by omega⟩, or_shl (by omega) hv hbn, wd, show 8 * (n / 8) + n % 8 = n from by omega]
    · rw [if_neg e, ih j hj]
      congr 1
      omega
theorem wsN_is {l : List (List CD)} (hl : l.length = 200) (hb : areB l) : wsN l 200 = wdsL l := by
  refine list25 (by rw [ws_len, hl]) (wdsL_len _) fun j hj => ?_
  rw [ws_get hl hb 200 (Nat.le_refl _) j hj, wdsL_get _ hj, show min 8 (200 - 8 * j) = 8 from by omega]
theorem wd_congr {f g : Nat → Int} (h : ∀ k, f k = g k) (n : Nat) : wd f n = wd g n := by rw [show f = g from funext h]
/-- The words as the reference makes them: from the last byte on. -/
theorem rb_get {l : List (List CD)} (hl : l.length = 200) (hb : areB l) : ∀ n, n ≤ 200 → ∀ j, j < 25 → (rbN l n).getD j 0 = wd (fun k => rv l (8 * j + (8 - min 8 (n - (192 - 8 * j))) + k)) (min 8 (n - (192 - 8 * j)))
  | 0, _, j, hj => by
    rw [rbN, show min 8 (0 - (192 - 8 * j)) = 0 from by omega, wd, List.getD_eq_getElem?_getD, List.getElem?_replicate]
    split <;> rfl
  | n + 1, hn, j, hj => by
    have ih := rb_get hl hb n (by omega)
    rw [rbN, set_get _ _ _ _ (by rw [rb_len]; exact hj), hl]
    by_cases e : (200 - 1 - n) / 8 = j
    · subst e
      have hc : min 8 (n - (192 - 8 * ((200 - 1 - n) / 8))) = n % 8 := by omega
      have hc1 : min 8 (n + 1 - (192 - 8 * ((200 - 1 - n) / 8))) = n % 8 + 1 := by omega
      have hih := ih _ hj
      rw [hc] at hih
      rw [if_pos rfl, hc1, hih, wd_low]
      have hv := wd_bd (f := fun k => rv l (8 * ((200 - 1 - n) / 8) + (8 - n % 8) + k)) (fun k => hb _) (n % 8)
      have hbn := hb (200 - 1 - n)
      have hpow : (256 : Int) ^ (n % 8) ≤ 256 ^ 7 := by
        rw [p256, p256]
        exact Int.ofNat_le.2 (Nat.pow_le_pow_right (by decide) (by omega))
      rw [show (256 : Int) ^ 7 = 72057594037927936 from by decide] at hpow
      generalize hV : wd (fun k => rv l (8 * ((200 - 1 - n) / 8) + (8 - n % 8) + k)) (n % 8) = V at *
      have hV2 : wd (fun k => rv l (8 * ((200 - 1 - n) / 8) + (8 - (n % 8 + 1)) + (k + 1))) (n % 8) = V := by
        rw [← hV]
        refine wd_congr (fun k => ?_) _
        congr 1; omega
      rw [hV2, show 8 * ((200 - 1 - n) / 8) + (8 - (n % 8 + 1)) + 0 = 200 - 1 - n from by omega]
      generalize rv l (200 - 1 - n) = b at *
      rw [wrap_id (n := V * 256) ⟨by omega, by omega⟩, wrap_id (n := b) ⟨by omega, by omega⟩, wrap_id ⟨by omega, by omega⟩]
      omega
    · rw [if_neg e, ih j hj]
      have : min 8 (n + 1 - (192 - 8 * j)) = min 8 (n - (192 - 8 * j)) := by omega
      rw [this]
theorem rbN_is {l : List (List CD)} (hl : l.length = 200) (hb : areB l) : rbN l 200 = wdsL l := by
  refine list25 (rb_len _ _) (wdsL_len _) fun j hj => ?_
  have h1 : min 8 (200 - (192 - 8 * j)) = 8 := by omega
  have := rb_get hl hb 200 (Nat.le_refl _) j hj
  rw [h1] at this
  rw [this, wdsL_get _ hj]
  refine wd_congr (fun k => ?_) _
  congr 1
theorem bor_range (l : List (List CD)) : bytesOfRows l = (List.range l.length).map fun i => UInt8.ofNat (rv l i).toNat := by
  unfold bytesOfRows
  apply List.ext_getElem
  · simp
  · intro i h1 h2
    simp only [List.getElem_map, List.getElem_range]
    unfold rv
    rw [List.length_map] at h1
    rw [List.getD_eq_getElem?_getD (l := l), List.getElem?_eq_getElem h1]
    rfl
/-- The text of the bytes of the words of bytes. -/
theorem text_is {l : List (List CD)} (hl : l.length = 200) (hb : areB l) : bytesOfRows ((bysL (wdsL l)).map row1) = bytesOfRows l := by
  rw [bor_range, bor_range, List.length_map, bysL_len, hl]
  apply List.map_congr_left
  intro i hi
  rw [rv_row1, bysL_wdsL hb (by simpa using hi)]
end Go.Proofs.YtganbceicojfmaaDoor

/-
  The laws of keccak: contracts.
-/
namespace Go.Proofs.YtganbceicojfmaaDoor
open Go Go.Avc
set_option linter.unusedVariables false
abbrev yes : Res := .ret .bool [] [.b true]
def ct3 : Ct := { ps := [st, i64], bs := [], pre := fun | [.li s, _] => areW s | _ => False, res := fun _ => yes }
def ct4 : Ct := { ps := [i64], bs := [], pre := fun _ => True, res := fun _ => yes }
def ann4 : List Dat → Ann := fun _ => ⟨[], [(4, [la 27 [(9, .rd [.int .i64]), (10, i64), (11, i64)] [] (fun | [.r l, .i n, .i i] => l.length = 25 ∧ n = 25 ∧ 0 ≤ i ∧ i ≤ 25 | _ => False) (fun | [_, _, .i i] => (25 - i).toNat | _ => 0)])], []⟩
def ct5 : Ct := { ps := [st, st], bs := [], pre := fun | [.li s, .li t] => areW s ∧ areW t | _ => False, res := fun _ => yes }
def ann5 : List Dat → Ann
  | [.li s, .li t] => ⟨[], [(5, [la 39 [(2, .ptr 0 0), (3, .ptr 1 0), (5, .ptr 2 0), (6, .ptr 3 0), (12, i64)] [q24, q24, q24, q24] (fun | [.i i, .li s', .li t', .li a, .li b] => s' = s ∧ t' = t ∧ 0 ≤ i ∧ i ≤ 24 ∧ a = permN s i.toNat ∧ b = permN t i.toNat | _ => False) (fun | [.i i, _, _, _, _] => (24 - i).toNat | _ => 0)])], []⟩
  | _ => { cut := [], loop := [] }
def ct6 : Ct := { ps := [rb], bs := [], pre := fun | [.r l] => areB l | _ => False, res := fun _ => yes }
def ct7 : Ct := { ps := [st, i64], bs := [], pre := fun | [.li s, _] => areW s | _ => False, res := fun _ => yes }
end Go.Proofs.YtganbceicojfmaaDoor

/-
  Conditions of contracts, as the kernel reckons them (printed by a program of ours, checked by the kernel).
-/
namespace Go.Proofs.YtganbceicojfmaaDoor
open Go Go.Avc Go.Proofs
set_option linter.unusedVariables false
set_option maxRecDepth 100000
def P3 : Prop :=
  ∀ (l : List Int) (n : Int),
    l.length = (25 : Nat) →
      areW l →
        True ∧
          areW l ∧
            True ∧
              True ∧
                True ∧
                  (decide
                          (round l n =
                            toW (roundB (ofW l) n)) =
                        true →
                      True) ∧
                    (decide
                            (round l n =
                              toW (roundB (ofW l) n)) =
                          true →
                        areW l) ∧
                      (decide
                            (round l n =
                              toW (roundB (ofW l) n)) &&
                          decide (perm l = permR l)) =
                        true
theorem e3 : ct3.VC (base.with sp24) Tryd.f3.results.toList Tryd.f3.ntmps (Tryd.f3.ntmps - ct3.ps.length) (bodyOf Tryd.f3) noAnn = P3 := by kernel_rfl
noncomputable def sp3 : SpecT := addS sp24 3 (mkF ct3)
def P4 : Prop :=
  ∀ (n : Int),
    True →
      True ∧
        ((25 : Nat) ≤ (9223372036854775807 : Nat) →
          (((25 : Nat) = (25 : Nat) ∧ (↑(25 : Nat) : Int) = (25 : Int) ∧ (0 : Int) ≤ (0 : Int) ∧ (0 : Int) ≤ (25 : Int)) ∧ True) ∧
            ∀ (l : List (List CD)) (n n_1 : Int),
              l.length ≤ (9223372036854775807 : Nat) →
                l.length = (25 : Nat) ∧ n = (25 : Int) ∧ (0 : Int) ≤ n_1 ∧ n_1 ≤ (25 : Int) →
                  bif decide (n_1 < n) then
                    ((0 : Int) ≤ n_1 ∧ n_1 < (↑l.length : Int)) ∧
                      n_1.toNat < l.length ∧
                        True ∧
                          ((0 : Int) ≤ (0 : Int) ∧ (0 : Int) < (↑(5 : Nat) : Int)) ∧
                            ((0 : Int) ≤ (0 : Int) ∧ (0 : Int) < (↑(5 : Nat) : Int)) ∧
                              (64 : Nat) ≤ (1600 : Nat) ∧
                                True ∧
                                  True ∧
                                    ((0 : Int) ≤ (0 : Int) ∧ (0 : Int) < (↑(25 : Nat) : Int) ∧ (0 : Nat) < (25 : Nat)) ∧
                                      bif
                                          decide
                                            (rcOf ((l.getD n_1.toNat []).getD (0 : Nat) (CD.int (0 : Int))).toInt ≠
                                              (toW
                                                    ([] ++ cbits ((l.getD n_1.toNat []).getD (0 : Nat) (CD.int (0 : Int))).toInt ++
                                                      List.replicate 1536 false)).getD
                                                (0 : Nat) (0 : Int)) then
                                        false = true
                                      else
                                        ((-9223372036854775808 : Int) ≤ n_1 + (1 : Int) ∧ n_1 + (1 : Int) ≤ (9223372036854775807 : Int)) ∧
                                          (l.length = (25 : Nat) ∧ n = (25 : Int) ∧ (0 : Int) ≤ n_1 + (1 : Int) ∧ n_1 + (1 : Int) ≤ (25 : Int)) ∧
                                            ((25 : Int) - (n_1 + (1 : Int))).toNat < ((25 : Int) - n_1).toNat
                  else true = true)
theorem e4 : ct4.VC (base.with sp3) Tryd.f4.results.toList Tryd.f4.ntmps (Tryd.f4.ntmps - ct4.ps.length) (bodyOf Tryd.f4) ann4 = P4 := by kernel_rfl
noncomputable def sp4 : SpecT := addS sp3 4 (mkF ct4)
def P5 : Prop :=
  ∀ (l l_1 : List Int),
    l.length = (25 : Nat) →
      l_1.length = (25 : Nat) →
        areW l ∧ areW l_1 →
          True ∧
            ((l = l ∧
                  l_1 = l_1 ∧
                    (0 : Int) ≤ (0 : Int) ∧
                      (0 : Int) ≤ (24 : Int) ∧ l = permN l (0 : Nat) ∧ l_1 = permN l_1 (0 : Nat)) ∧
                True) ∧
              ∀ (n : Int) (l_2 l_3 l_4 l_5 : List Int),
                l_2.length = (25 : Nat) →
                  l_3.length = (25 : Nat) →
                    l_4.length = (25 : Nat) →
                      l_5.length = (25 : Nat) →
                        l_2 = l ∧
                            l_3 = l_1 ∧
                              (0 : Int) ≤ n ∧ n ≤ (24 : Int) ∧ l_4 = permN l n.toNat ∧ l_5 = permN l_1 n.toNat →
                          bif decide (n < (24 : Int)) then
                            True ∧
                              True ∧
                                bif decide (round l_4 n = round l_5 n) != decide (l_2 = l_3) then false = true
                                else
                                  ((-9223372036854775808 : Int) ≤ n + (1 : Int) ∧ n + (1 : Int) ≤ (9223372036854775807 : Int)) ∧
                                    (l_2 = l ∧
                                        l_3 = l_1 ∧
                                          (0 : Int) ≤ n + (1 : Int) ∧
                                            n + (1 : Int) ≤ (24 : Int) ∧
                                              round l_4 n = permN l (n + (1 : Int)).toNat ∧
                                                round l_5 n = permN l_1 (n + (1 : Int)).toNat) ∧
                                      ((24 : Int) - (n + (1 : Int))).toNat < ((24 : Int) - n).toNat
                          else
                            True ∧
                              (decide (l_4 = perm l_2) = true → True) ∧
                                (decide (l_4 = perm l_2) && decide (l_5 = perm l_3)) = true
theorem e5 : ct5.VC (base.with sp4) Tryd.f5.results.toList Tryd.f5.ntmps (Tryd.f5.ntmps - ct5.ps.length) (bodyOf Tryd.f5) ann5 = P5 := by kernel_rfl
noncomputable def sp5 : SpecT := addS sp4 5 (mkF ct5)
def P6 : Prop :=
  ∀ (l : List (List CD)),
    l.length ≤ (9223372036854775807 : Nat) →
      areB l →
        True ∧
          (((bw false !true) = true → l.length ≤ (9223372036854775807 : Nat)) →
            bif !true || decide ((300 : Int) < (↑l.length : Int)) then True ∧ true = true
            else
              areB l ∧
                bif decide (l.length ≠ (200 : Nat)) then
                  l.length ≤ (9223372036854775807 : Nat) →
                    bif decide ((↑l.length : Int) ≠ (200 : Int)) then
                      (decide ((1 : Int) = (1 : Int)) &&
                          decide
                            (z25 =
                              [(0 : Int), (0 : Int), (0 : Int), (0 : Int), (0 : Int), (0 : Int), (0 : Int), (0 : Int), (0 : Int), (0 : Int), (0 : Int), (0 : Int), (0 : Int),
                                (0 : Int), (0 : Int), (0 : Int), (0 : Int), (0 : Int), (0 : Int), (0 : Int), (0 : Int), (0 : Int), (0 : Int), (0 : Int), (0 : Int)])) =
                        true
                    else
                      areW z25 ∧
                        (decide ((1 : Int) = (0 : Int)) = true → l.length ≤ (200 : Nat) ∧ areB l) ∧
                          ((decide ((1 : Int) = (0 : Int)) && decide (z25 = rbN l l.length)) = true →
                              (0 : Int) ≤ (0 : Int) ∧ (0 : Int) ≤ (↑(200 : Nat) : Int) ∧ (↑(200 : Nat) : Int) ≤ (↑(200 : Nat) : Int) ∧ (0 : Int) < (↑(200 : Nat) : Int)) ∧
                            ((decide ((1 : Int) = (0 : Int)) && decide (z25 = rbN l l.length) &&
                                    decide
                                      (bytesOfRows
                                          (List.map (fun x => [CD.int x])
                                            (List.take (200 : Nat) (List.drop (0 : Nat) (bysL z25)))) =
                                        bytesOfRows l)) =
                                  true →
                                (0 : Int) ≤ (0 : Int) ∧ (0 : Int) ≤ (↑(200 : Nat) : Int) ∧ (↑(200 : Nat) : Int) ≤ (↑(200 : Nat) : Int) ∧ (0 : Int) < (↑(200 : Nat) : Int)) ∧
                              ((decide ((1 : Int) = (0 : Int)) && decide (z25 = rbN l l.length) &&
                                      decide
                                        (bytesOfRows
                                            (List.map (fun x => [CD.int x])
                                              (List.take (200 : Nat) (List.drop (0 : Nat) (bysL z25)))) =
                                          bytesOfRows l)) =
                                    true →
                                  areW z25) ∧
                                ((decide ((1 : Int) = (0 : Int)) && decide (z25 = rbN l l.length) &&
                                        decide
                                          (bytesOfRows
                                              (List.map (fun x => [CD.int x])
                                                (List.take (200 : Nat) (List.drop (0 : Nat) (bysL z25)))) =
                                            bytesOfRows l)) =
                                      true →
                                    (true &&
                                        decide
                                          (bytesOfRows
                                              (List.map (fun x => [CD.int x])
                                                (List.take (200 : Nat) (List.drop (0 : Nat) (bysL z25)))) =
                                            bytesOfRows
                                              (List.map row1 (bysL z25)))) =
                                      true) ∧
                                  ((decide ((1 : Int) = (0 : Int)) && decide (z25 = rbN l l.length) &&
                                        decide
                                          (bytesOfRows
                                              (List.map (fun x => [CD.int x])
                                                (List.take (200 : Nat) (List.drop (0 : Nat) (bysL z25)))) =
                                            bytesOfRows l)) =
                                      false →
                                    ((!true) = true → False) ∧ ((!true) = true → False) ∧ False)
                else
                  l.length ≤ (9223372036854775807 : Nat) →
                    bif decide ((↑l.length : Int) ≠ (200 : Int)) then
                      (decide ((0 : Int) = (1 : Int)) &&
                          decide
                            (wsN l (200 : Nat) =
                              [(0 : Int), (0 : Int), (0 : Int), (0 : Int), (0 : Int), (0 : Int), (0 : Int), (0 : Int), (0 : Int), (0 : Int), (0 : Int), (0 : Int), (0 : Int),
                                (0 : Int), (0 : Int), (0 : Int), (0 : Int), (0 : Int), (0 : Int), (0 : Int), (0 : Int), (0 : Int), (0 : Int), (0 : Int), (0 : Int)])) =
                        true
                    else
                      areW (wsN l (200 : Nat)) ∧
                        (decide ((0 : Int) = (0 : Int)) = true → l.length ≤ (200 : Nat) ∧ areB l) ∧
                          ((decide ((0 : Int) = (0 : Int)) && decide (wsN l (200 : Nat) = rbN l l.length)) = true →
                              (0 : Int) ≤ (0 : Int) ∧ (0 : Int) ≤ (↑(200 : Nat) : Int) ∧ (↑(200 : Nat) : Int) ≤ (↑(200 : Nat) : Int) ∧ (0 : Int) < (↑(200 : Nat) : Int)) ∧
                            ((decide ((0 : Int) = (0 : Int)) && decide (wsN l (200 : Nat) = rbN l l.length) &&
                                    decide
                                      (bytesOfRows
                                          (List.map (fun x => [CD.int x])
                                            (List.take (200 : Nat) (List.drop (0 : Nat) (bysL (wsN l (200 : Nat)))))) =
                                        bytesOfRows l)) =
                                  true →
                                (0 : Int) ≤ (0 : Int) ∧ (0 : Int) ≤ (↑(200 : Nat) : Int) ∧ (↑(200 : Nat) : Int) ≤ (↑(200 : Nat) : Int) ∧ (0 : Int) < (↑(200 : Nat) : Int)) ∧
                              ((decide ((0 : Int) = (0 : Int)) && decide (wsN l (200 : Nat) = rbN l l.length) &&
                                      decide
                                        (bytesOfRows
                                            (List.map (fun x => [CD.int x])
                                              (List.take (200 : Nat)
                                                (List.drop (0 : Nat) (bysL (wsN l (200 : Nat)))))) =
                                          bytesOfRows l)) =
                                    true →
                                  areW (wsN l (200 : Nat))) ∧
                                ((decide ((0 : Int) = (0 : Int)) && decide (wsN l (200 : Nat) = rbN l l.length) &&
                                        decide
                                          (bytesOfRows
                                              (List.map (fun x => [CD.int x])
                                                (List.take (200 : Nat)
                                                  (List.drop (0 : Nat) (bysL (wsN l (200 : Nat)))))) =
                                            bytesOfRows l)) =
                                      true →
                                    (true &&
                                        decide
                                          (bytesOfRows
                                              (List.map (fun x => [CD.int x])
                                                (List.take (200 : Nat)
                                                  (List.drop (0 : Nat) (bysL (wsN l (200 : Nat)))))) =
                                            bytesOfRows
                                              (List.map row1
                                                (bysL (wsN l (200 : Nat)))))) =
                                      true) ∧
                                  ((decide ((0 : Int) = (0 : Int)) && decide (wsN l (200 : Nat) = rbN l l.length) &&
                                        decide
                                          (bytesOfRows
                                              (List.map (fun x => [CD.int x])
                                                (List.take (200 : Nat)
                                                  (List.drop (0 : Nat) (bysL (wsN l (200 : Nat)))))) =
                                            bytesOfRows l)) =
                                      false →
                                    ((!true) = true → False) ∧ ((!true) = true → False) ∧ False))
theorem e6 : ct6.VC (base.with sp5) Tryd.f6.results.toList Tryd.f6.ntmps (Tryd.f6.ntmps - ct6.ps.length) (bodyOf Tryd.f6) noAnn = P6 := by kernel_rfl
noncomputable def sp6 : SpecT := addS sp5 6 (mkF ct6)
def P7 : Prop :=
  ∀ (l : List Int) (n : Int),
    l.length = (25 : Nat) →
      areW l →
        True ∧
          True ∧
            ((0 : Int) ≤ (0 : Int) ∧ (0 : Int) < (↑(25 : Nat) : Int)) ∧
              (0 : Nat) < (25 : Nat) ∧
                True ∧
                  ((0 : Int) ≤ (0 : Int) ∧ (0 : Int) < (↑(25 : Nat) : Int)) ∧
                    (0 : Nat) < (25 : Nat) ∧
                      areW l ∧
                        ((0 : Int) ≤ (0 : Int) ∧ (0 : Int) ≤ (↑(200 : Nat) : Int) ∧ (↑(200 : Nat) : Int) ≤ (↑(200 : Nat) : Int) ∧ (0 : Int) < (↑(200 : Nat) : Int)) ∧
                          areB
                              (List.map (fun x => [CD.int x]) (List.take (200 : Nat) (List.drop (0 : Nat) (bysL l)))) ∧
                            bif
                                decide
                                  ((List.map (fun x => [CD.int x]) (List.take (200 : Nat) (List.drop (0 : Nat) (bysL l)))).length ≠
                                    (200 : Nat)) then
                              True ∧
                                (decide
                                        ((round l (24 : Int)).set (0 : Nat)
                                            (bXor Go.IntKind.u64 ((round l (24 : Int)).getD (0 : Nat) (0 : Int))
                                              (rcOf n)) =
                                          round l n) &&
                                      decide ((1 : Int) = (0 : Int)) &&
                                    decide (z25 = l)) =
                                  true
                            else
                              True ∧
                                (decide
                                        ((round l (24 : Int)).set (0 : Nat)
                                            (bXor Go.IntKind.u64 ((round l (24 : Int)).getD (0 : Nat) (0 : Int))
                                              (rcOf n)) =
                                          round l n) &&
                                      decide ((0 : Int) = (0 : Int)) &&
                                    decide
                                      (wsN
                                          (List.map (fun x => [CD.int x]) (List.take (200 : Nat) (List.drop (0 : Nat) (bysL l)))) (200 : Nat) =
                                        l)) =
                                  true
theorem e7 : ct7.VC (base.with sp6) Tryd.f7.results.toList Tryd.f7.ntmps (Tryd.f7.ntmps - ct7.ps.length) (bodyOf Tryd.f7) noAnn = P7 := by kernel_rfl
noncomputable def sp7 : SpecT := addS sp6 7 (mkF ct7)
end Go.Proofs.YtganbceicojfmaaDoor

/-
  The conditions of keccak's laws are met.
-/
namespace Go.Proofs.YtganbceicojfmaaDoor
open Go Go.Avc Go.Proofs
set_option linter.unusedVariables false
set_option linter.unusedSimpArgs false
set_option maxRecDepth 100000
theorem dec_self {α : Type} [DecidableEq α] (a : α) : decide (a = a) = true := decide_eq_true rfl
theorem vc3 : P3 := by
  intro s r h hw
  refine ⟨trivial, hw, trivial, trivial, trivial, fun _ => trivial, fun _ => hw, ?_⟩
  rw [round_is h hw, permR_is h hw, dec_self, dec_self]; rfl
theorem ok3 : SpecOk (base.with sp24) 3 (mkF ct3) := spec_ct (fn := Tryd.f3) (c := bodyOf Tryd.f3) (k := Tryd.f3.ntmps - ct3.ps.length) (ct := ct3) c24 Tryd.func3 (by kernel_rfl) noAnn (by kernel_rfl) (fun vs w _ => Tryd.call3 vs w) (e3.mpr vc3)
theorem c3 : (base.with sp3).Ok := addS_ok c24 ok3
theorem lanes0 (w : Int) : [] ++ cbits w ++ List.replicate 1536 false = lanes zB (bitsW (rcOf w)) 0 := by
  rw [cbits_rc]
  unfold lanes zB
  rw [List.drop_replicate, List.take_zero]
theorem vc4 : P4 := by
  intro r _
  refine ⟨trivial, fun _ => ⟨⟨⟨rfl, rfl, by omega, by omega⟩, trivial⟩, ?_⟩⟩
  rintro l n i _ ⟨hl, rfl, h0, h1⟩
  refine condI (fun h => ?_) fun h => rfl
  simp only [decide_eq_true_eq] at h
  refine ⟨by omega, by omega, trivial, by omega, by omega, by omega, trivial, trivial, by omega, ?_⟩
  rw [rv_def, lanes0, first_word _ (rcOf_w _)]
  refine condI (fun h2 => ?_) fun _ => ⟨by omega, ⟨hl, rfl, by omega, by omega⟩, by omega⟩
  simp only [decide_eq_true_eq] at h2
  exact absurd rfl h2
theorem ok4 : SpecOk (base.with sp3) 4 (mkF ct4) := spec_ct (fn := Tryd.f4) (c := bodyOf Tryd.f4) (k := Tryd.f4.ntmps - ct4.ps.length) (ct := ct4) c3 Tryd.func4 (by kernel_rfl) ann4 (by kernel_rfl) (fun vs w _ => Tryd.call4 vs w) (e4.mpr vc4)
theorem c4 : (base.with sp4).Ok := addS_ok c3 ok4
theorem vc5 : P5 := by
  rintro s t hs ht ⟨ws, wt⟩
  refine ⟨trivial, ⟨⟨rfl, rfl, by omega, by omega, rfl, rfl⟩, trivial⟩, ?_⟩
  rintro i' s2 t2 a b _ _ _ _ ⟨rfl, rfl, h0, h1, ha, hb⟩
  obtain ⟨i, rfl⟩ := ex_nat h0
  rw [Int.toNat_natCast] at ha hb
  obtain ⟨a1, a2⟩ := permN_ok hs ws i
  obtain ⟨b1, b2⟩ := permN_ok ht wt i
  rw [← ha] at a1 a2
  rw [← hb] at b1 b2
  refine condI (fun h => ?_) fun h => ?_
  · simp only [decide_eq_true_eq] at h
    have key : decide (round a (i : Int) = round b (i : Int)) = decide (s2 = t2) := by
      apply decide_eq_decide.2
      constructor
      · intro e
        have := round_inj a1 b1 a2 b2 _ e
        rw [ha, hb] at this
        exact permN_inj hs ht ws wt i this
      · intro e
        rw [ha, hb, e]
    refine ⟨trivial, trivial, ?_⟩
    rw [key]
    refine condI (fun h2 => ?_) fun _ => ⟨by omega, ⟨rfl, rfl, by omega, by omega, ?_, ?_⟩, by omega⟩
    · cases hd : decide (s2 = t2) <;> rw [hd] at h2 <;> exact absurd h2 (by decide)
    · rw [suc_nat, permN_s, ha]
    · rw [suc_nat, permN_s, hb]
  · simp only [decide_eq_false_iff_not] at h
    have hi : i = 24 := by omega
    subst hi
    refine ⟨trivial, fun _ => trivial, ?_⟩
    rw [perm_eq, perm_eq, ha, hb, dec_self, dec_self]; rfl
theorem ok5 : SpecOk (base.with sp4) 5 (mkF ct5) := spec_ct (fn := Tryd.f5) (c := bodyOf Tryd.f5) (k := Tryd.f5.ntmps - ct5.ps.length) (ct := ct5) c4 Tryd.func5 (by kernel_rfl) ann5 (by kernel_rfl) (fun vs w _ => Tryd.call5 vs w) (e5.mpr vc5)
theorem c5 : (base.with sp5).Ok := addS_ok c4 ok5
theorem rows_row1 (l : List Int) : List.map (fun x => [CD.int x]) l = l.map row1 := rfl
theorem vc6 : P6 := by
  intro l _ hb
  refine ⟨trivial, fun _ => condI (fun _ => ⟨trivial, rfl⟩) fun h => ⟨hb, condI (fun h2 => ?_) fun h2 => ?_⟩⟩
  · simp only [decide_eq_true_eq] at h2
    refine fun _ => condI (fun _ => ?_) fun h3 => ?_
    · rw [z25_eq]; decide
    · simp only [decide_eq_false_iff_not] at h3
      omega
  · simp only [decide_eq_false_iff_not] at h2
    have hl : l.length = 200 := by omega
    refine fun _ => condI (fun h3 => ?_) fun h3 => ?_
    · simp only [decide_eq_true_eq] at h3
      omega
    · rw [hl, wsN_is hl hb, rbN_is hl hb, List.drop_zero, List.take_of_length_le (by rw [bysL_len]; exact Nat.le_refl _), rows_row1, text_is hl hb, dec_self, dec_self, dec_self]
      have hw := wdsL_w hb
      refine ⟨hw, fun _ => ⟨by omega, hb⟩, fun _ => by omega, fun _ => by omega, fun _ => hw, fun _ => rfl, fun h4 => ?_⟩
      exact absurd h4 (by decide)
theorem ok6 : SpecOk (base.with sp5) 6 (mkF ct6) := spec_ct (fn := Tryd.f6) (c := bodyOf Tryd.f6) (k := Tryd.f6.ntmps - ct6.ps.length) (ct := ct6) c5 Tryd.func6 (by kernel_rfl) noAnn (by kernel_rfl) (fun vs w _ => Tryd.call6 vs w) (e6.mpr vc6)
theorem c6 : (base.with sp6).Ok := addS_ok c5 ok6
theorem vc7 : P7 := by
  intro s r hs hw
  rw [List.drop_zero, List.take_of_length_le (by rw [bysL_len]; exact Nat.le_refl _), rows_row1]
  have hB := bysL_areB s
  have hl : ((bysL s).map row1).length = 200 := by rw [List.length_map, bysL_len]
  refine ⟨trivial, trivial, by omega, by omega, trivial, by omega, by omega, hw, by omega, hB, condI (fun h => ?_) fun _ => ⟨trivial, ?_⟩⟩
  · simp only [decide_eq_true_eq] at h
    exact absurd hl h
  · have e1 : (round s 24).set 0 (bXor .u64 ((round s 24).getD 0 0) (rcOf r)) = round s r := by
      unfold round
      have lc := chi_len (rhoPi_len (theta s))
      have wc := chi_w (rhoPi_len (theta s))
      generalize chi (rhoPi (theta s)) = c at *
      have r0 : rcOf 24 = 0 := by decide
      have x0 : xr (c.getD 0 0) 0 = c.getD 0 0 := by
        refine eqW (xr_any _ _) (wc 0) fun z _ => ?_
        rw [xr_bt (wc 0) isW0]
        have : bt 0 z = false := by simp [bt]
        rw [this, Bool.bne_false]
      rw [r0, x0, set_get _ _ _ _ (by omega), if_pos rfl, List.set_set]
      rfl
    rw [e1, wsN_is hl hB, wdsL_bysL hs hw, dec_self, dec_self, dec_self]; rfl
theorem ok7 : SpecOk (base.with sp6) 7 (mkF ct7) := spec_ct (fn := Tryd.f7) (c := bodyOf Tryd.f7) (k := Tryd.f7.ntmps - ct7.ps.length) (ct := ct7) c6 Tryd.func7 (by kernel_rfl) noAnn (by kernel_rfl) (fun vs w _ => Tryd.call7 vs w) (e7.mpr vc7)
theorem c7 : (base.with sp7).Ok := addS_ok c6 ok7
end Go.Proofs.YtganbceicojfmaaDoor
