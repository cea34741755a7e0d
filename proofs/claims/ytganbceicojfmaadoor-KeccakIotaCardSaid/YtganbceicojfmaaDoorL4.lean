/-
  The reference's round on bits is the program's round on words. (No program in sight.)
-/
import Derived.Test.YtganbceicojfmaaDoorS3
namespace Go.Proofs.YtganbceicojfmaaDoor
open Go Go.Avc Go.Proofs
set_option linter.unusedVariables false
set_option linter.unusedSimpArgs false
set_option maxRecDepth 100000
/-! ### Lists of bits -/
theorem gb_set (l : List Bool) (i k : Nat) (x : Bool) (h : k < l.length) : gb (l.set i x) k = if i = k then x else gb l k := by
  unfold gb
  rw [List.getD_eq_getElem?_getD, List.getD_eq_getElem?_getD, List.getElem?_set]
  by_cases e : i = k
  · subst e; simp [h]
  · simp [e]
theorem fillN_len (f : Nat → Nat) (g : Nat → Bool) (l : List Bool) : ∀ n, (fillN f g l n).length = l.length
  | 0 => rfl
  | n + 1 => by rw [fillN, List.length_set, fillN_len f g l n]
theorem fill2_len (f : Nat → Nat → Nat) (g : Nat → Nat → Bool) (m : Nat) (l : List Bool) : ∀ n, (fill2 f g m l n).length = l.length
  | 0 => rfl
  | n + 1 => by rw [fill2, fillN_len, fill2_len f g m l n]
theorem fill3_len (f : Nat → Nat → Nat → Nat) (g : Nat → Nat → Nat → Bool) (k m : Nat) (l : List Bool) : ∀ n, (fill3 f g k m l n).length = l.length
  | 0 => rfl
  | n + 1 => by rw [fill3, fill2_len, fill3_len f g k m l n]
theorem fillN_in {f : Nat → Nat} {b : Nat} (hf : ∀ z, f z = b + z) (g : Nat → Bool) (l : List Bool) (k : Nat) (hk : k < l.length) : ∀ n, gb (fillN f g l n) k = if b ≤ k ∧ k < b + n then g (k - b) else gb l k
  | 0 => by rw [if_neg (by omega)]; rfl
  | n + 1 => by
    rw [fillN, gb_set _ _ _ _ (by rw [fillN_len]; exact hk), fillN_in hf g l k hk n, hf]
    by_cases e : b + n = k
    · rw [if_pos e, if_pos (by omega), show k - b = n from by omega]
    · rw [if_neg e]
      by_cases e2 : b ≤ k ∧ k < b + n
      · rw [if_pos e2, if_pos (by omega)]
      · rw [if_neg e2, if_neg (by omega)]
theorem fill2_64 {f : Nat → Nat → Nat} {b : Nat} (hf : ∀ y z, f y z = b + y * 64 + z) (g : Nat → Nat → Bool) (l : List Bool) (k : Nat) (hk : k < l.length) : ∀ n, gb (fill2 f g 64 l n) k = if b ≤ k ∧ k < b + n * 64 then g ((k - b) / 64) ((k - b) % 64) else gb l k
  | 0 => by rw [if_neg (by omega)]; rfl
  | n + 1 => by
    rw [fill2, fillN_in (hf n) _ _ _ (by rw [fill2_len]; exact hk), fill2_64 hf g l k hk n]
    by_cases e : b + n * 64 ≤ k ∧ k < b + n * 64 + 64
    · rw [if_pos e, if_pos (by omega), show (k - b) / 64 = n from by omega, show (k - b) % 64 = k - (b + n * 64) from by omega]
    · rw [if_neg e]
      by_cases e2 : b ≤ k ∧ k < b + n * 64
      · rw [if_pos e2, if_pos (by omega)]
      · rw [if_neg e2, if_neg (by omega)]
theorem fill3_at (g : Nat → Nat → Nat → Bool) (l : List Bool) (k : Nat) (hk : k < l.length) : ∀ n, gb (fill3 at3 g 5 64 l n) k = if k < n * 320 then g (k / 320) (k % 320 / 64) (k % 64) else gb l k
  | 0 => by rw [if_neg (by omega)]; rfl
  | n + 1 => by
    rw [fill3, fill2_64 (f := at3 n) (b := n * 320) (fun y z => rfl) _ _ _ (by rw [fill3_len]; exact hk), fill3_at g l k hk n]
    by_cases e : n * 320 ≤ k ∧ k < n * 320 + 5 * 64
    · rw [if_pos e, if_pos (by omega), show k / 320 = n from by omega, show k % 320 / 64 = (k - n * 320) / 64 from by omega, show k % 64 = (k - n * 320) % 64 from by omega]
    · rw [if_neg e]
      by_cases e2 : k < n * 320
      · rw [if_pos e2, if_pos (by omega)]
      · rw [if_neg e2, if_neg (by omega)]
theorem zB_len : zB.length = 1600 := List.length_replicate
theorem at3_lt {x y z : Nat} (hx : x < 5) (hy : y < 5) (hz : z < 64) : at3 x y z < 1600 := by unfold at3; omega
/-- Two states of bits are the same if all bits are. -/
theorem ext16 {a b : List Bool} (ha : a.length = 1600) (hb : b.length = 1600) (h : ∀ x y z, x < 5 → y < 5 → z < 64 → gb a (at3 x y z) = gb b (at3 x y z)) : a = b := by
  apply List.ext_getElem (by rw [ha, hb])
  intro i h1 h2
  have := h (i / 320) (i % 320 / 64) (i % 64) (by omega) (by omega) (by omega)
  have e : at3 (i / 320) (i % 320 / 64) (i % 64) = i := by unfold at3; omega
  rw [e] at this
  unfold gb at this
  rw [List.getD_eq_getElem?_getD, List.getD_eq_getElem?_getD, List.getElem?_eq_getElem h1, List.getElem?_eq_getElem h2] at this
  simpa using this
theorem fill3_get {g : Nat → Nat → Nat → Bool} {x y z : Nat} (hx : x < 5) (hy : y < 5) (hz : z < 64) : gb (fill3 at3 g 5 64 zB 5) (at3 x y z) = g x y z := by
  have hk := at3_lt hx hy hz
  rw [fill3_at g zB _ (by rw [zB_len]; exact hk), if_pos (by omega)]
  have e1 : at3 x y z / 320 = x := by unfold at3; omega
  have e2 : at3 x y z % 320 / 64 = y := by unfold at3; omega
  have e3 : at3 x y z % 64 = z := by unfold at3; omega
  rw [e1, e2, e3]
/-! ### Bits of words -/
theorem ofW_len (s : List Int) : (ofW s).length = 1600 := by unfold ofW; rw [fill2_len, zB_len]
theorem ofW_get (s : List Int) {x y z : Nat} (hx : x < 5) (hy : y < 5) (hz : z < 64) : gb (ofW s) (at3 x y z) = bt (s.getD (x + 5 * y) 0) z := by
  have hk := at3_lt hx hy hz
  have gen : ∀ n, n ≤ 25 → gb (fill2 (fun i z => at3 (i % 5) (i / 5) z) (fun i z => bt (s.getD i 0) z) 64 zB n) (at3 x y z) = if x + 5 * y < n then bt (s.getD (x + 5 * y) 0) z else gb zB (at3 x y z) := by
    intro n
    induction n with
    | zero => intro _; rw [if_neg (by omega)]; rfl
    | succ n ih =>
      intro hn
      rw [fill2, fillN_in (f := fun z => at3 (n % 5) (n / 5) z) (b := n % 5 * 320 + n / 5 * 64) (fun z => rfl) _ _ _ (by rw [fill2_len, zB_len]; exact hk), ih (by omega)]
      by_cases e : n = x + 5 * y
      · have e1 : n % 5 * 320 + n / 5 * 64 = x * 320 + y * 64 := by omega
        rw [e1, if_pos (by unfold at3; omega), if_pos (by omega), show at3 x y z - (x * 320 + y * 64) = z from by unfold at3; omega, e]
      · rw [if_neg (by unfold at3; omega)]
        by_cases e2 : x + 5 * y < n
        · rw [if_pos e2, if_pos (by omega)]
        · rw [if_neg e2, if_neg (by omega)]
  unfold ofW
  rw [gen 25 (Nat.le_refl _), if_pos (by omega)]
theorem xr_any (a b : Int) : isW (xr a b) := bv_isW (BitVec.ofInt 64 a ^^^ BitVec.ofInt 64 b)
theorem isW0 : isW 0 := ⟨by omega, by omega⟩
/-! ### The steps -/
theorem cAt_isW (s : List Int) (x : Nat) : isW (cAt s x) := xr_any _ _
theorem cAt_bt {s : List Int} (hs : areW s) (x z : Nat) : bt (cAt s x) z = (bt (s.getD x 0) z != (bt (s.getD (x + 5) 0) z != (bt (s.getD (x + 10) 0) z != (bt (s.getD (x + 15) 0) z != bt (s.getD (x + 20) 0) z)))) := by
  unfold cAt
  have h0 : bt 0 z = false := by simp [bt]
  rw [xr_bt (xr_any _ _) (hs _), xr_bt (xr_any _ _) (hs _), xr_bt (xr_any _ _) (hs _), xr_bt (xr_any _ _) (hs _), xr_bt isW0 (hs _), h0]
  cases bt (s.getD x 0) z <;> cases bt (s.getD (x + 5) 0) z <;> cases bt (s.getD (x + 10) 0) z <;> cases bt (s.getD (x + 15) 0) z <;> cases bt (s.getD (x + 20) 0) z <;> rfl
def b2i (b : Bool) : Int := if b = true then 1 else 0
theorem cnt_s (a : List Bool) (x z n : Nat) : cnt a x z (n + 1) = cnt a x z n + b2i (gb a (at3 x n z)) := by
  rw [cnt]; unfold b2i; split <;> simp
theorem cnt5 (a : List Bool) (x z : Nat) : decide (cnt a x z 5 % 2 = 1) = (gb a (at3 x 0 z) != (gb a (at3 x 1 z) != (gb a (at3 x 2 z) != (gb a (at3 x 3 z) != gb a (at3 x 4 z))))) := by
  rw [cnt_s, cnt_s, cnt_s, cnt_s, cnt_s, show cnt a x z 0 = 0 from rfl]
  generalize gb a (at3 x 0 z) = b0
  generalize gb a (at3 x 1 z) = b1
  generalize gb a (at3 x 2 z) = b2
  generalize gb a (at3 x 3 z) = b3
  generalize gb a (at3 x 4 z) = b4
  revert b0 b1 b2 b3 b4
  decide
theorem par_get {s : List Int} (hs : areW s) {x z : Nat} (hx : x < 5) (hz : z < 64) : gb (parB (ofW s)) (x * 64 + z) = bt (cAt s x) z := by
  unfold parB
  rw [fill2_64 (b := 0) (fun y z => by omega) _ _ _ (by rw [List.length_replicate]; omega), if_pos (by omega), Nat.sub_zero, show (x * 64 + z) / 64 = x from by omega, show (x * 64 + z) % 64 = z from by omega, cnt5,
    ofW_get _ hx (by omega) hz, ofW_get _ hx (by omega) hz, ofW_get _ hx (by omega) hz, ofW_get _ hx (by omega) hz, ofW_get _ hx (by omega) hz, cAt_bt hs]
  rfl
theorem map_get {f : Nat → Int} {j : Nat} (h : j < 25) : ((List.range 25).map f).getD j 0 = f j := by
  rw [List.getD_eq_getElem?_getD, List.getElem?_map, List.getElem?_range h]; rfl
theorem theta_len {s : List Int} (h : s.length = 25) : (theta s).length = 25 := by rw [theta_eq h]; simp
theorem theta_w {s : List Int} (h : s.length = 25) : areW (theta s) := fun j => by
  rw [theta_eq h]
  rcases Nat.lt_or_ge j 25 with hj | hj
  · rw [map_get hj]; exact xr_any _ _
  · rw [List.getD_eq_getElem?_getD, List.getElem?_eq_none (by simpa using hj)]; exact isW0
theorem thetaB_w {s : List Int} (h : s.length = 25) (hs : areW s) : thetaB (ofW s) = ofW (theta s) := by
  refine ext16 (by unfold thetaB; rw [fill3_len, zB_len]) (ofW_len _) fun x y z hx hy hz => ?_
  unfold thetaB
  rw [fill3_get hx hy hz, ofW_get _ hx hy hz]
  unfold thV
  rw [par_get hs (by omega) hz, par_get hs (by omega) (by omega), ofW_get _ hx hy hz, theta_eq h, map_get (by omega), xr_bt (hs _) (xr_any _ _), xr_bt (cAt_isW _ _) (rot_isW _ _)]
  have := rot_bt (cAt_isW s (((x + 5 * y) % 5 + 1) % 5)) (s := 1) (by omega) hz
  rw [show ((1 : Nat) : Int) = 1 from rfl] at this
  rw [this, show (x + 5 * y) % 5 = x from by omega]
theorem lanes_get {t l : List Bool} {i k : Nat} (hl : l.length = 64) (hi : i + 64 ≤ t.length) : gb (lanes t l i) k = if i ≤ k ∧ k < i + 64 then gb l (k - i) else gb t k := by
  unfold gb lanes
  rw [List.getD_eq_getElem?_getD, List.append_assoc]
  have hti : (t.take i).length = i := by rw [List.length_take]; omega
  rcases Nat.lt_or_ge k i with h | h
  · rw [if_neg (by omega), List.getElem?_append_left (by omega), List.getElem?_take_of_lt h, List.getD_eq_getElem?_getD]
  · rw [List.getElem?_append_right (by omega), hti]
    rcases Nat.lt_or_ge (k - i) 64 with h2 | h2
    · rw [if_pos (by omega), List.getElem?_append_left (by omega), List.getD_eq_getElem?_getD]
    · rw [if_neg (by omega), List.getElem?_append_right (by omega), hl, List.getElem?_drop, List.getD_eq_getElem?_getD, show i + 64 + (k - i - 64) = k from by omega]
theorem lanes_len {t l : List Bool} {i : Nat} (hl : l.length = 64) (hi : i + 64 ≤ t.length) : (lanes t l i).length = t.length := by
  unfold lanes
  simp only [List.length_append, List.length_take, List.length_drop, hl]
  omega
theorem lane_len {a : List Bool} {i : Nat} (h : i + 64 ≤ a.length) : (lane a i).length = 64 := by
  unfold lane
  rw [List.length_take, List.length_drop]; omega
theorem lane_get {a : List Bool} {i z : Nat} (hz : z < 64) : gb (lane a i) z = gb a (i + z) := by
  unfold gb lane
  rw [List.getD_eq_getElem?_getD, List.getElem?_take_of_lt hz, List.getElem?_drop, List.getD_eq_getElem?_getD]
theorem piY_len {a : List Bool} (ha : a.length = 1600) {x : Nat} (hx : x < 5) {t : List Bool} (ht : t.length = 1600) : ∀ n, n ≤ 5 → (piY a x t n).length = 1600
  | 0, _ => ht
  | n + 1, hn => by
    rw [piY, lanes_len (lane_len (by omega)) (by rw [piY_len ha hx ht n (by omega)]; omega), piY_len ha hx ht n (by omega)]
theorem piY_get {a : List Bool} (ha : a.length = 1600) {x : Nat} (hx : x < 5) {t : List Bool} (ht : t.length = 1600) {X Y z : Nat} (hX : X < 5) (hY : Y < 5) (hz : z < 64) : ∀ n, n ≤ 5 →
    gb (piY a x t n) (at3 X Y z) = if X < n ∧ (2 * x + 3 * X) % 5 = Y then gb a (at3 x X z) else gb t (at3 X Y z)
  | 0, _ => by rw [if_neg (by omega)]; rfl
  | n + 1, hn => by
    have hl := piY_len ha hx ht n (by omega)
    rw [piY, lanes_get (lane_len (by omega)) (by rw [hl]; omega), piY_get ha hx ht hX hY hz n (by omega)]
    by_cases e : n = X ∧ (2 * x + 3 * n) % 5 = Y
    · obtain ⟨e1, e2⟩ := e
      subst e1
      rw [if_pos (by unfold at3; omega), if_pos ⟨by omega, e2⟩, lane_get (by unfold at3; omega)]
      congr 1
      unfold at3; omega
    · rw [if_neg (by unfold at3; omega)]
      by_cases e2 : X < n ∧ (2 * x + 3 * X) % 5 = Y
      · rw [if_pos e2, if_pos (by omega)]
      · rw [if_neg e2, if_neg (by
          rintro ⟨h1, h2⟩
          have : X = n := by omega
          subst this
          exact e ⟨rfl, h2⟩)]
theorem piX_len {a : List Bool} (ha : a.length = 1600) {t : List Bool} (ht : t.length = 1600) : ∀ n, n ≤ 5 → (piX a t n).length = 1600
  | 0, _ => ht
  | n + 1, hn => piY_len ha (by omega) (piX_len ha ht n (by omega)) 5 (Nat.le_refl _)
theorem piX_get {a : List Bool} (ha : a.length = 1600) {t : List Bool} (ht : t.length = 1600) {X Y z : Nat} (hX : X < 5) (hY : Y < 5) (hz : z < 64) : ∀ n, n ≤ 5 →
    gb (piX a t n) (at3 X Y z) = if (X + 3 * Y) % 5 < n then gb a (at3 ((X + 3 * Y) % 5) X z) else gb t (at3 X Y z)
  | 0, _ => by rw [if_neg (by omega)]; rfl
  | n + 1, hn => by
    rw [piX, piY_get ha (by omega) (piX_len ha ht n (by omega)) hX hY hz 5 (Nat.le_refl _), piX_get ha ht hX hY hz n (by omega)]
    by_cases e : n = (X + 3 * Y) % 5
    · rw [if_pos (by omega), if_pos (by omega), ← e]
    · rw [if_neg (by omega)]
      by_cases e2 : (X + 3 * Y) % 5 < n
      · rw [if_pos e2, if_pos (by omega)]
      · rw [if_neg e2, if_neg (by omega)]
/-! Turning, and moving: which step writes a lane. -/
def rIdx (x y : Nat) : Nat → Option Nat
  | 0 => none
  | n + 1 => if (xyN n).1 = x ∧ (xyN n).2 = y then some n else rIdx x y n
def offN (t : Nat) : Nat := (t + 1) * (t + 2) / 2
theorem xyl (i : Nat) : (xyN i).1 < 5 ∧ (xyN i).2 < 5 := by
  induction i with
  | zero => decide
  | succ i ih => simp only [xyN]; omega
theorem rhZ_len (a : List Bool) (t : Nat) (l : List Bool) (n : Nat) : (rhZ a t l n).length = l.length := fillN_len _ _ _ _
theorem rhN_len {a : List Bool} (ha : a.length = 1600) : ∀ n, (rhN a n).length = 1600
  | 0 => by rw [rhN, lanes_len (lane_len (by omega)) (by rw [zB_len]; omega), zB_len]
  | n + 1 => by rw [rhN, rhZ_len, rhN_len ha n]
theorem rhZ_get {a : List Bool} {t : Nat} {l : List Bool} (hl : l.length = 1600) {x y z : Nat} (hx : x < 5) (hy : y < 5) (hz : z < 64) : ∀ n, n ≤ 64 →
    gb (rhZ a t l n) (at3 x y z) = if ((xyN t).1 = x ∧ (xyN t).2 = y) ∧ (z + (64 - offN t % 64)) % 64 < n then gb a (at3 x y ((z + (64 - offN t % 64)) % 64)) else gb l (at3 x y z)
  | 0, _ => by rw [if_neg (by omega)]; rfl
  | n + 1, hn => by
    have ih := rhZ_get (a := a) (t := t) hl hx hy hz n (by omega)
    have hk := at3_lt hx hy hz
    obtain ⟨h1, h2⟩ := xyl t
    unfold rhZ at ih ⊢
    rw [fillN, gb_set _ _ _ _ (by rw [fillN_len, hl]; exact hk), ih]
    have hoff : offN t = (t + 1) * (t + 2) / 2 := rfl
    rw [← hoff]
    generalize offN t = o at *
    generalize hX : (xyN t).1 = X at *
    generalize hY : (xyN t).2 = Y at *
    by_cases e : X = x ∧ Y = y
    · obtain ⟨e1, e2⟩ := e
      subst e1 e2
      by_cases e3 : (z + (64 - o % 64)) % 64 = n
      · rw [if_pos (by unfold at3; omega), if_pos ⟨⟨rfl, rfl⟩, by omega⟩, e3]
      · rw [if_neg (by unfold at3; omega)]
        by_cases e4 : (z + (64 - o % 64)) % 64 < n
        · rw [if_pos ⟨⟨rfl, rfl⟩, e4⟩, if_pos ⟨⟨rfl, rfl⟩, by omega⟩]
        · rw [if_neg (fun h => e4 h.2), if_neg (fun h => by have := h.2; omega)]
    · rw [if_neg (fun h => e (by unfold at3 at h; omega)), if_neg (fun h => e h.1), if_neg (fun h => e h.1)]
theorem rhN_get {a : List Bool} (ha : a.length = 1600) {x y z : Nat} (hx : x < 5) (hy : y < 5) (hz : z < 64) : ∀ n,
    gb (rhN a n) (at3 x y z) = match rIdx x y n with | some t => gb a (at3 x y ((z + (64 - offN t % 64)) % 64)) | none => gb (rhN a 0) (at3 x y z)
  | 0 => rfl
  | n + 1 => by
    rw [show rhN a (n + 1) = rhZ a n (rhN a n) 64 from rfl, rhZ_get (rhN_len ha n) hx hy hz 64 (Nat.le_refl _), rhN_get ha hx hy hz n, rIdx]
    by_cases e : (xyN n).1 = x ∧ (xyN n).2 = y
    · rw [if_pos ⟨e, by omega⟩, if_pos e]
    · rw [if_neg (fun h => e h.1), if_neg e]
theorem rp_len (s : List Int) : ∀ n, (rpN s n).length = 25
  | 0 => by rw [rpN]; simp
  | n + 1 => by rw [rpN, List.length_set, rp_len s n]
theorem lane_iff : ∀ x y X Y : Fin 5, y.val + 5 * ((2 * x.val + 3 * y.val) % 5) = X.val + 5 * Y.val ↔ x.val = (X.val + 3 * Y.val) % 5 ∧ y.val = X.val := by decide +kernel
theorem rpN_s (s : List Int) (i : Nat) : rpN s (i + 1) = (rpN s i).set ((xyN i).2 + 5 * ((2 * (xyN i).1 + 3 * (xyN i).2) % 5)) (rotW (s.getD ((xyN i).1 + 5 * (xyN i).2) 0) (((i + 1) * (i + 2) / 2 : Nat) % 64 : Nat)) := rfl
theorem rp_get (s : List Int) {X Y : Nat} (hX : X < 5) (hY : Y < 5) : ∀ n,
    (rpN s n).getD (X + 5 * Y) 0 = match rIdx ((X + 3 * Y) % 5) X n with | some t => rotW (s.getD ((X + 3 * Y) % 5 + 5 * X) 0) ((offN t % 64 : Nat) : Int) | none => (rpN s 0).getD (X + 5 * Y) 0
  | 0 => rfl
  | n + 1 => by
    obtain ⟨h1, h2⟩ := xyl n
    rw [rpN_s, set_get _ _ _ _ (by rw [rp_len]; omega), rp_get s hX hY n, rIdx]
    have hi := lane_iff ⟨_, h1⟩ ⟨_, h2⟩ ⟨X, hX⟩ ⟨Y, hY⟩
    simp only at hi
    by_cases e : (xyN n).1 = (X + 3 * Y) % 5 ∧ (xyN n).2 = X
    · rw [if_pos e, if_pos (hi.2 e), e.1, e.2]; rfl
    · rw [if_neg e, if_neg (fun h => e (hi.1 h))]
theorem rIdx_some : ∀ X Y : Fin 5, (X.val = 0 ∧ Y.val = 0 ∧ rIdx 0 0 24 = none) ∨ (rIdx ((X.val + 3 * Y.val) % 5) X.val 24).isSome = true := by decide +kernel
theorem rhoPi_len (s : List Int) : (rhoPi s).length = 25 := rp_len s 24
theorem rpi_w {s : List Int} (hs : areW s) : piB (rhoB (ofW s)) = ofW (rhoPi s) := by
  have hl := rhN_len (ofW_len s) 24
  refine ext16 (piX_len hl zB_len 5 (Nat.le_refl _)) (ofW_len _) fun X Y z hX hY hz => ?_
  unfold piB rhoB
  rw [piX_get hl zB_len hX hY hz 5 (Nat.le_refl _), if_pos (by omega), ofW_get _ hX hY hz]
  unfold rhoPi
  rw [rhN_get (ofW_len s) (by omega) hX hz, rp_get s hX hY]
  rcases rIdx_some ⟨X, hX⟩ ⟨Y, hY⟩ with h | h
  · obtain ⟨e1, e2, e3⟩ := h
    simp only at e1 e2
    subst e1 e2
    rw [show (0 + 3 * 0) % 5 = 0 from rfl, e3]
    simp only
    rw [rhN, lanes_get (lane_len (by rw [ofW_len]; omega)) (by rw [zB_len]; omega), if_pos (by unfold at3; omega), lane_get (by unfold at3; omega), show 0 + (at3 0 0 z - 0) = at3 0 0 z from by omega, ofW_get _ hX hX hz]
    rfl
  · simp only at h
    obtain ⟨t, ht⟩ := Option.isSome_iff_exists.1 h
    rw [ht]
    simp only
    rw [ofW_get _ (by omega) hX (by omega), rot_bt (hs _) (by omega) hz]
theorem rhoPi_w {s : List Int} (hs : areW s) : areW (rhoPi s) := fun j => by
  rcases Nat.lt_or_ge j 25 with hj | hj
  · have := rp_get s (X := j % 5) (Y := j / 5) (by omega) (by omega) 24
    rw [show j % 5 + 5 * (j / 5) = j from by omega] at this
    unfold rhoPi
    rw [this]
    split
    · exact rot_isW _ _
    · rw [rpN, set_get _ _ _ _ (by simpa using hj)]
      split
      · exact hs 0
      · rw [List.getD_eq_getElem?_getD, List.getElem?_replicate]
        split <;> exact isW0
  · rw [List.getD_eq_getElem?_getD, List.getElem?_eq_none (by rw [rhoPi_len]; exact hj)]; exact isW0
theorem chi_len {s : List Int} (h : s.length = 25) : (chi s).length = 25 := by rw [chi_eq h]; simp
theorem chi_w {s : List Int} (h : s.length = 25) : areW (chi s) := fun j => by
  rw [chi_eq h]
  rcases Nat.lt_or_ge j 25 with hj | hj
  · rw [map_get hj]; exact xr_any _ _
  · rw [List.getD_eq_getElem?_getD, List.getElem?_eq_none (by simpa using hj)]; exact isW0
theorem chiB_w {s : List Int} (h : s.length = 25) (hs : areW s) : chiB (ofW s) = ofW (chi s) := by
  refine ext16 (by unfold chiB; rw [fill3_len, zB_len]) (ofW_len _) fun x y z hx hy hz => ?_
  unfold chiB
  rw [fill3_get hx hy hz, ofW_get _ hx hy hz]
  unfold chV
  rw [ofW_get _ hx hy hz, ofW_get _ (by omega) hy hz, ofW_get _ (by omega) hy hz, chi_eq h, map_get (by omega), xr_bt (hs _) (andNot_isW _ _), andNot_bt (hs _) (hs _) hz,
    show x + 5 * y - (x + 5 * y) % 5 + (x + 5 * y + 2) % 5 = (x + 2) % 5 + 5 * y from by omega, show x + 5 * y - (x + 5 * y) % 5 + (x + 5 * y + 1) % 5 = (x + 1) % 5 + 5 * y from by omega, Bool.and_comm]
theorem addC_len (a c : List Bool) : ∀ n, (addC a c n).length = a.length
  | 0 => rfl
  | n + 1 => by rw [addC, List.length_set, addC_len a c n]
theorem addC_get (a c : List Bool) {k : Nat} (hk : k < a.length) : ∀ n, gb (addC a c n) k = if k < n then (gb a k != gb c k) else gb a k
  | 0 => by rw [if_neg (by omega)]; rfl
  | n + 1 => by
    rw [addC, gb_set _ _ _ _ (by rw [addC_len]; exact hk)]
    by_cases e : n = k
    · subst e
      rw [if_pos rfl, if_pos (by omega), addC_get a c hk n, if_neg (by omega)]
    · rw [if_neg e, addC_get a c hk n]
      by_cases e2 : k < n
      · rw [if_pos e2, if_pos (by omega)]
      · rw [if_neg e2, if_neg (by omega)]
theorem rcL_w : ∀ i : Fin 24, 0 ≤ rcL.getD i.val 0 ∧ rcL.getD i.val 0 < 18446744073709551616 := by decide +kernel
theorem rcOf_w (r : Int) : isW (rcOf r) := by
  unfold rcOf
  split
  · exact isW0
  · exact rcL_w ⟨r.toNat, by omega⟩
theorem bitsW_get (w : Int) {z : Nat} (hz : z < 64) : gb (bitsW w) z = bt w z := by
  unfold gb bitsW
  rw [List.getD_eq_getElem?_getD, List.getElem?_map, List.getElem?_range hz]; rfl
theorem round_len {s : List Int} (h : s.length = 25) (r : Int) : (round s r).length = 25 := by
  unfold round
  rw [List.length_set, chi_len (rhoPi_len _)]
theorem set_w {s : List Int} (hs : areW s) {x : Int} (hx : isW x) (i : Nat) : areW (s.set i x) := fun j => by
  rcases Nat.lt_or_ge j s.length with hj | hj
  · rw [set_get _ _ _ _ hj]
    split
    · exact hx
    · exact hs j
  · rw [List.getD_eq_getElem?_getD, List.getElem?_eq_none (by rw [List.length_set]; exact hj)]; exact isW0
theorem round_w {s : List Int} (h : s.length = 25) (hs : areW s) (r : Int) : areW (round s r) := set_w (chi_w (rhoPi_len _)) (xr_any _ _) 0
theorem roundB_w {s : List Int} (h : s.length = 25) (hs : areW s) (r : Int) : roundB (ofW s) r = ofW (round s r) := by
  unfold roundB round
  rw [thetaB_w h hs, rpi_w (theta_w h), chiB_w (rhoPi_len _) (rhoPi_w (theta_w h)), cbits_rc]
  have hc := chi_w (rhoPi_len (theta s))
  have hcl := chi_len (rhoPi_len (theta s))
  generalize chi (rhoPi (theta s)) = c at *
  refine ext16 (by rw [addC_len, ofW_len]) (ofW_len _) fun x y z hx hy hz => ?_
  rw [addC_get _ _ (by rw [ofW_len]; exact at3_lt hx hy hz), ofW_get _ hx hy hz, ofW_get _ hx hy hz, set_get _ _ _ _ (by omega)]
  by_cases e : x = 0 ∧ y = 0
  · obtain ⟨rfl, rfl⟩ := e
    rw [if_pos (by unfold at3; omega), if_pos (by omega), xr_bt (hc _) (rcOf_w r), show at3 0 0 z = z from by unfold at3; omega, bitsW_get _ hz]
  · rw [if_neg (by unfold at3; omega), if_neg (by omega)]
theorem tb_two (w : Nat) (c : Bool) (b : Nat) : (2 * w + (if c = true then 1 else 0)).testBit b = if b = 0 then c else w.testBit (b - 1) := by
  cases b with
  | zero =>
    rw [if_pos rfl, Nat.testBit_zero]
    cases c
    · rw [if_neg (by decide)]; exact decide_eq_false (by omega)
    · rw [if_pos rfl]; exact decide_eq_true (by omega)
  | succ b =>
    have e : (2 * w + (if c = true then 1 else 0)) / 2 = w := by
      cases c
      · rw [if_neg (by decide)]; omega
      · rw [if_pos rfl]; omega
    rw [Nat.testBit_succ, e, if_neg (by omega), Nat.add_sub_cancel]
theorem wv_bit (a : List Bool) (i : Nat) : ∀ n b, n ≤ 64 → b < n → (wv a i n).testBit b = gb a (at3 (i % 5) (i / 5) (64 - n + b))
  | 0, b, _, h => by omega
  | n + 1, b, hn, hb => by
    rw [wv, tb_two]
    by_cases e : b = 0
    · subst e
      rw [if_pos rfl, show 64 - (n + 1) + 0 = 63 - n from by omega]
    · rw [if_neg e, wv_bit a i n (b - 1) (by omega) (by omega), show 64 - n + (b - 1) = 64 - (n + 1) + b from by omega]
theorem wvlt (a : List Bool) (i : Nat) : ∀ n, wv a i n < 2 ^ n
  | 0 => Nat.one_pos
  | n + 1 => by
    have := wvlt a i n
    rw [wv, Nat.pow_succ]
    split <;> omega
theorem wd_len (a : List Bool) : ∀ n, (wdN a n).length = 25
  | 0 => by rw [wdN, List.length_replicate]
  | n + 1 => by rw [wdN, List.length_set, wd_len a n]
theorem wd_get (a : List Bool) {j : Nat} (hj : j < 25) : ∀ n, (wdN a n).getD j 0 = if j < n then (wv a j 64 : Int) else 0
  | 0 => by
    rw [if_neg (by omega), wdN, List.getD_eq_getElem?_getD, List.getElem?_replicate]
    split <;> rfl
  | n + 1 => by
    rw [wdN, set_get _ _ _ _ (by rw [wd_len]; exact hj), wd_get a hj n]
    by_cases e : n = j
    · subst e
      rw [if_pos rfl, if_pos (by omega)]
    · rw [if_neg e]
      by_cases e2 : j < n
      · rw [if_pos e2, if_pos (by omega)]
      · rw [if_neg e2, if_neg (by omega)]
theorem list25 {l m : List Int} (hl : l.length = 25) (hm : m.length = 25) (h : ∀ j, j < 25 → l.getD j 0 = m.getD j 0) : l = m := by
  apply List.ext_getElem (by rw [hl, hm])
  intro i h1 h2
  have := h i (by omega)
  rw [List.getD_eq_getElem?_getD, List.getD_eq_getElem?_getD, List.getElem?_eq_getElem h1, List.getElem?_eq_getElem h2] at this
  simpa using this
theorem toW_len (a : List Bool) : (toW a).length = 25 := by unfold toW; rw [hid_eq, wd_len]
theorem toW_w (a : List Bool) : areW (toW a) := fun j => by
  unfold toW
  rw [hid_eq]
  rcases Nat.lt_or_ge j 25 with hj | hj
  · rw [wd_get a hj, if_pos hj]
    have := wvlt a j 64
    rw [show (2 : Nat) ^ 64 = 18446744073709551616 from by decide] at this
    exact ⟨by omega, by omega⟩
  · rw [List.getD_eq_getElem?_getD, List.getElem?_eq_none (by rw [wd_len]; exact hj)]; exact isW0
/-- The words of the bits of words are these. -/
theorem toW_ofW {s : List Int} (h : s.length = 25) (hs : areW s) : toW (ofW s) = s := by
  refine list25 (toW_len _) h fun j hj => ?_
  unfold toW
  rw [hid_eq, wd_get _ hj, if_pos hj]
  have hw := hs j
  obtain ⟨n, hn⟩ : ∃ n : Nat, s.getD j 0 = n := ⟨(s.getD j 0).toNat, by have := hw.1; omega⟩
  rw [hn]
  have hlt : n < 2 ^ 64 := by have := hw.2; rw [show (2 : Nat) ^ 64 = 18446744073709551616 from by decide]; omega
  refine congrArg (fun k : Nat => (k : Int)) ?_
  apply Nat.eq_of_testBit_eq
  intro b
  rcases Nat.lt_or_ge b 64 with hb | hb
  · rw [wv_bit _ _ _ _ (Nat.le_refl _) hb, Nat.sub_self, Nat.zero_add, ofW_get _ (by omega) (by omega) hb, show j % 5 + 5 * (j / 5) = j from by omega, hn]
    rfl
  · have h1 : (2 : Nat) ^ 64 ≤ 2 ^ b := Nat.pow_le_pow_right (by decide) hb
    rw [Nat.testBit_lt_two_pow (Nat.lt_of_lt_of_le (wvlt _ _ _) h1), Nat.testBit_lt_two_pow (Nat.lt_of_lt_of_le hlt h1)]
theorem round_is {s : List Int} (h : s.length = 25) (hs : areW s) (r : Int) : toW (roundB (ofW s) r) = round s r := by
  rw [roundB_w h hs, toW_ofW (round_len h r) (round_w h hs r)]
theorem permN_ok {s : List Int} (h : s.length = 25) (hs : areW s) : ∀ n, (permN s n).length = 25 ∧ areW (permN s n)
  | 0 => ⟨h, hs⟩
  | n + 1 => by
    obtain ⟨h1, h2⟩ := permN_ok h hs n
    exact ⟨round_len h1 _, round_w h1 h2 _⟩
theorem permB_w {s : List Int} (h : s.length = 25) (hs : areW s) : ∀ n, permB (ofW s) n = ofW (permN s n)
  | 0 => rfl
  | n + 1 => by
    obtain ⟨h1, h2⟩ := permN_ok h hs n
    rw [permB, permB_w h hs n, roundB_w h1 h2]; rfl
theorem permR_is {s : List Int} (h : s.length = 25) (hs : areW s) : permR s = perm s := by
  obtain ⟨h1, h2⟩ := permN_ok h hs 24
  unfold permR
  rw [hid_eq, permB_w h hs, toW_ofW h1 h2, perm_eq]
theorem perm_ok {s : List Int} (h : s.length = 25) (hs : areW s) : (perm s).length = 25 ∧ areW (perm s) := by
  rw [perm_eq]; exact permN_ok h hs 24
/-- The first word of a lane of bits alone. -/
theorem first_word (w : Int) (hw : isW w) : (toW (lanes zB (bitsW w) 0)).getD 0 0 = w := by
  have hb : (bitsW w).length = 64 := by unfold bitsW; simp
  unfold toW
  rw [hid_eq, wd_get _ (by omega), if_pos (by omega)]
  obtain ⟨n, rfl⟩ : ∃ n : Nat, w = n := ⟨w.toNat, by have := hw.1; omega⟩
  have hlt : n < 2 ^ 64 := by have := hw.2; rw [show (2 : Nat) ^ 64 = 18446744073709551616 from by decide]; omega
  refine congrArg (fun k : Nat => (k : Int)) ?_
  apply Nat.eq_of_testBit_eq
  intro b
  rcases Nat.lt_or_ge b 64 with hb2 | hb2
  · rw [wv_bit _ _ _ _ (Nat.le_refl _) hb2, Nat.sub_self, Nat.zero_add, lanes_get hb (by rw [zB_len]; omega), if_pos (by unfold at3; omega), show at3 (0 % 5) (0 / 5) b - 0 = b from by unfold at3; omega, bitsW_get _ hb2]
    rfl
  · have h1 : (2 : Nat) ^ 64 ≤ 2 ^ b := Nat.pow_le_pow_right (by decide) hb2
    rw [Nat.testBit_lt_two_pow (Nat.lt_of_lt_of_le (wvlt _ _ _) h1), Nat.testBit_lt_two_pow (Nat.lt_of_lt_of_le hlt h1)]
end Go.Proofs.YtganbceicojfmaaDoor
