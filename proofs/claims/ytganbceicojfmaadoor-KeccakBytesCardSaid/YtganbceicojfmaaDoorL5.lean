/-
  A round tells unlike states: it has but one state ahead of each. (No program in sight.)
-/
import Derived.Test.YtganbceicojfmaaDoorL4
namespace Go.Proofs.YtganbceicojfmaaDoor
open Go Go.Avc Go.Proofs
set_option linter.unusedVariables false
set_option linter.unusedSimpArgs false
set_option maxRecDepth 100000
theorem eqW {a b : Int} (ha : isW a) (hb : isW b) (h : ∀ z, z < 64 → bt a z = bt b z) : a = b := by
  have e : a.toNat = b.toNat := by
    apply Nat.eq_of_testBit_eq
    intro z
    rcases Nat.lt_or_ge z 64 with hz | hz
    · exact h z hz
    · have h1 : (2 : Nat) ^ 64 ≤ 2 ^ z := Nat.pow_le_pow_right (by decide) hz
      have p : (2 : Nat) ^ 64 = 18446744073709551616 := by decide
      have a2 := ha.2
      have b2 := hb.2
      rw [Nat.testBit_lt_two_pow (Nat.lt_of_lt_of_le (by omega) h1), Nat.testBit_lt_two_pow (Nat.lt_of_lt_of_le (by omega) h1)]
  have := ha.1
  have := hb.1
  omega
theorem xr_inj {a b k : Int} (ha : isW a) (hb : isW b) (hk : isW k) (h : xr a k = xr b k) : a = b := by
  refine eqW ha hb fun z _ => ?_
  have h2 := congrArg (fun w => bt w z) h
  simp only [xr_bt ha hk, xr_bt hb hk] at h2
  revert h2
  cases bt a z <;> cases bt b z <;> cases bt k z <;> simp
theorem chi_bool : ∀ a0 a1 a2 a3 a4 b0 b1 b2 b3 b4 : Bool, (a0 != (a2 && !a1)) = (b0 != (b2 && !b1)) → (a1 != (a3 && !a2)) = (b1 != (b3 && !b2)) → (a2 != (a4 && !a3)) = (b2 != (b4 && !b3)) →
    (a3 != (a0 && !a4)) = (b3 != (b0 && !b4)) → (a4 != (a1 && !a0)) = (b4 != (b1 && !b0)) → a0 = b0 ∧ a1 = b1 ∧ a2 = b2 ∧ a3 = b3 ∧ a4 = b4 := by decide +kernel
theorem chi_bt {s : List Int} (h : s.length = 25) (hs : areW s) {x y z : Nat} (hx : x < 5) (hy : y < 5) (hz : z < 64) :
    bt ((chi s).getD (x + 5 * y) 0) z = (bt (s.getD (x + 5 * y) 0) z != (bt (s.getD ((x + 2) % 5 + 5 * y) 0) z && !bt (s.getD ((x + 1) % 5 + 5 * y) 0) z)) := by
  rw [chi_eq h, map_get (by omega), xr_bt (hs _) (andNot_isW _ _), andNot_bt (hs _) (hs _) hz,
    show x + 5 * y - (x + 5 * y) % 5 + (x + 5 * y + 2) % 5 = (x + 2) % 5 + 5 * y from by omega, show x + 5 * y - (x + 5 * y) % 5 + (x + 5 * y + 1) % 5 = (x + 1) % 5 + 5 * y from by omega]
theorem chi_inj {s t : List Int} (h : s.length = 25) (k : t.length = 25) (hs : areW s) (ht : areW t) (e : chi s = chi t) : s = t := by
  refine list25 h k fun j hj => eqW (hs j) (ht j) fun z hz => ?_
  have hy : j / 5 < 5 := by omega
  have b : ∀ x, x < 5 → (bt (s.getD (x + 5 * (j / 5)) 0) z != (bt (s.getD ((x + 2) % 5 + 5 * (j / 5)) 0) z && !bt (s.getD ((x + 1) % 5 + 5 * (j / 5)) 0) z)) =
      (bt (t.getD (x + 5 * (j / 5)) 0) z != (bt (t.getD ((x + 2) % 5 + 5 * (j / 5)) 0) z && !bt (t.getD ((x + 1) % 5 + 5 * (j / 5)) 0) z)) := fun x hx => by
    have h1 := chi_bt h hs hx hy hz
    rw [e, chi_bt k ht hx hy hz] at h1
    exact h1.symm
  have := chi_bool _ _ _ _ _ _ _ _ _ _ (b 0 (by omega)) (b 1 (by omega)) (b 2 (by omega)) (b 3 (by omega)) (b 4 (by omega))
  obtain ⟨h0, h1, h2, h3, h4⟩ := this
  have hj5 : j = j % 5 + 5 * (j / 5) := by omega
  have hm : j % 5 < 5 := by omega
  rw [hj5]
  generalize j % 5 = m at *
  match m, hm with
  | 0, _ => exact h0
  | 1, _ => exact h1
  | 2, _ => exact h2
  | 3, _ => exact h3
  | 4, _ => exact h4
theorem rot_inj {a b : Int} (ha : isW a) (hb : isW b) {o : Nat} (ho : o < 64) (h : rotW a (o : Int) = rotW b (o : Int)) : a = b := by
  refine eqW ha hb fun z hz => ?_
  have h2 := congrArg (fun w => bt w ((z + o) % 64)) h
  simp only [rot_bt ha ho (Nat.mod_lt _ (by decide)), rot_bt hb ho (Nat.mod_lt _ (by decide))] at h2
  rwa [show ((z + o) % 64 + (64 - o)) % 64 = z from by omega] at h2
theorem rhoPi_inj {s t : List Int} (h : s.length = 25) (k : t.length = 25) (hs : areW s) (ht : areW t) (e : rhoPi s = rhoPi t) : s = t := by
  refine list25 h k fun j hj => ?_
  have hX : j / 5 < 5 := by omega
  have hY : (j % 5 + 5 - j / 5) * 2 % 5 < 5 := by omega
  have e1 := rp_get s hX hY 24
  have e2 := rp_get t hX hY 24
  have e3 : (rhoPi s).getD (j / 5 + 5 * ((j % 5 + 5 - j / 5) * 2 % 5)) 0 = (rhoPi t).getD (j / 5 + 5 * ((j % 5 + 5 - j / 5) * 2 % 5)) 0 := by rw [e]
  unfold rhoPi at e3
  have hsrc : (j / 5 + 3 * ((j % 5 + 5 - j / 5) * 2 % 5)) % 5 = j % 5 := by omega
  rw [e1, e2, hsrc] at e3
  rcases rIdx_some ⟨_, hX⟩ ⟨_, hY⟩ with h0 | h0
  · obtain ⟨x0, y0, h0⟩ := h0
    simp only at x0 y0
    have hj0 : j = 0 := by omega
    subst hj0
    rw [show (0 % 5) = 0 from rfl, show (0 / 5) = 0 from rfl, h0] at e3
    simp only [rpN] at e3
    rw [set_get _ _ _ _ (by simp), set_get _ _ _ _ (by simp), if_pos (by decide), if_pos (by decide)] at e3
    exact e3
  · simp only at h0
    rw [hsrc] at h0
    obtain ⟨i, hi⟩ := Option.isSome_iff_exists.1 h0
    rw [hi] at e3
    simp only at e3
    have := rot_inj (hs _) (ht _) (Nat.mod_lt _ (by decide)) e3
    rwa [show j % 5 + 5 * (j / 5) = j from by omega] at this
/-! The sums of columns, of a difference that vanishes. -/
theorem sq_step {Q : Nat → Nat → Bool} {a b c d : Nat} (h : ∀ x z, Q x z = (Q (x + a) (z + b) != Q (x + c) (z + d))) (x z : Nat) : Q x z = (Q (x + 2 * a) (z + 2 * b) != Q (x + 2 * c) (z + 2 * d)) := by
  rw [h x z, h (x + a) (z + b), h (x + c) (z + d), show x + a + a = x + 2 * a from by omega, show z + b + b = z + 2 * b from by omega, show x + c + c = x + 2 * c from by omega, show z + d + d = z + 2 * d from by omega,
    show x + c + a = x + a + c from by omega, show z + d + b = z + b + d from by omega]
  cases Q (x + 2 * a) (z + 2 * b) <;> cases Q (x + a + c) (z + b + d) <;> cases Q (x + 2 * c) (z + 2 * d) <;> rfl
theorem five : ∀ p0 p1 p2 p3 p4 : Bool, p0 = (p1 != p4) → p1 = (p2 != p0) → p2 = (p3 != p1) → p3 = (p4 != p2) → p4 = (p0 != p3) → p0 = false ∧ p1 = false ∧ p2 = false ∧ p3 = false ∧ p4 = false := by decide
theorem cols_zero {P : Nat → Nat → Bool} (h : ∀ x z, x < 5 → z < 64 → P x z = (P ((x + 4) % 5) z != P ((x + 1) % 5) ((z + 63) % 64))) {x z : Nat} (hx : x < 5) (hz : z < 64) : P x z = false := by
  have h0 : ∀ x z, (fun x z => P (x % 5) (z % 64)) x z = ((fun x z => P (x % 5) (z % 64)) (x + 4) (z + 0) != (fun x z => P (x % 5) (z % 64)) (x + 1) (z + 63)) := fun x z => by
    show P (x % 5) (z % 64) = (P ((x + 4) % 5) ((z + 0) % 64) != P ((x + 1) % 5) ((z + 63) % 64))
    rw [h (x % 5) (z % 64) (by omega) (by omega), show (x % 5 + 4) % 5 = (x + 4) % 5 from by omega, show (x % 5 + 1) % 5 = (x + 1) % 5 from by omega, show (z % 64 + 63) % 64 = (z + 63) % 64 from by omega]
    rfl
  have h6 := sq_step (sq_step (sq_step (sq_step (sq_step (sq_step h0)))))
  have g : ∀ x, x < 5 → P x z = (P ((x + 1) % 5) z != P ((x + 4) % 5) z) := fun x hx => by
    have this : P (x % 5) (z % 64) = (P ((x + 2 * (2 * (2 * (2 * (2 * (2 * 4)))))) % 5) ((z + 2 * (2 * (2 * (2 * (2 * (2 * 0)))))) % 64) != P ((x + 2 * (2 * (2 * (2 * (2 * (2 * 1)))))) % 5) ((z + 2 * (2 * (2 * (2 * (2 * (2 * 63)))))) % 64)) := h6 x z
    rw [show x % 5 = x from by omega, show z % 64 = z from by omega, show (x + 2 * (2 * (2 * (2 * (2 * (2 * 4)))))) % 5 = (x + 1) % 5 from by omega, show (z + 2 * (2 * (2 * (2 * (2 * (2 * 0)))))) % 64 = z from by omega,
      show (x + 2 * (2 * (2 * (2 * (2 * (2 * 1)))))) % 5 = (x + 4) % 5 from by omega, show (z + 2 * (2 * (2 * (2 * (2 * (2 * 63)))))) % 64 = z from by omega] at this
    exact this
  have := five _ _ _ _ _ (g 0 (by omega)) (g 1 (by omega)) (g 2 (by omega)) (g 3 (by omega)) (g 4 (by omega))
  obtain ⟨k0, k1, k2, k3, k4⟩ := this
  match x, hx with
  | 0, _ => exact k0
  | 1, _ => exact k1
  | 2, _ => exact k2
  | 3, _ => exact k3
  | 4, _ => exact k4
theorem theta_bt {s : List Int} (h : s.length = 25) (hs : areW s) {x y z : Nat} (hx : x < 5) (hy : y < 5) (hz : z < 64) :
    bt ((theta s).getD (x + 5 * y) 0) z = (bt (s.getD (x + 5 * y) 0) z != (bt (cAt s ((x + 4) % 5)) z != bt (cAt s ((x + 1) % 5)) ((z + 63) % 64))) := by
  have hr := rot_bt (cAt_isW s ((x + 1) % 5)) (s := 1) (by omega) hz
  rw [show ((1 : Nat) : Int) = 1 from rfl] at hr
  rw [theta_eq h, map_get (by omega), xr_bt (hs _) (xr_any _ _), xr_bt (cAt_isW _ _) (rot_isW _ _), show (x + 5 * y) % 5 = x from by omega, hr]
theorem ten : ∀ a0 a1 a2 a3 a4 b0 b1 b2 b3 b4 u v : Bool, (a0 != u) = (b0 != v) → (a1 != u) = (b1 != v) → (a2 != u) = (b2 != v) → (a3 != u) = (b3 != v) → (a4 != u) = (b4 != v) →
    ((a0 != (a1 != (a2 != (a3 != a4)))) != (b0 != (b1 != (b2 != (b3 != b4))))) = (u != v) := by decide +kernel
theorem theta_inj {s t : List Int} (h : s.length = 25) (k : t.length = 25) (hs : areW s) (ht : areW t) (e : theta s = theta t) : s = t := by
  have b : ∀ x y z, x < 5 → y < 5 → z < 64 → (bt (s.getD (x + 5 * y) 0) z != (bt (cAt s ((x + 4) % 5)) z != bt (cAt s ((x + 1) % 5)) ((z + 63) % 64))) = (bt (t.getD (x + 5 * y) 0) z != (bt (cAt t ((x + 4) % 5)) z != bt (cAt t ((x + 1) % 5)) ((z + 63) % 64))) :=
    fun x y z hx hy hz => by
      have h1 := theta_bt h hs hx hy hz
      rw [e, theta_bt k ht hx hy hz] at h1
      exact h1.symm
  have hP : ∀ x z, x < 5 → z < 64 → (fun x z => (bt (cAt s x) z != bt (cAt t x) z)) x z = ((fun x z => (bt (cAt s x) z != bt (cAt t x) z)) ((x + 4) % 5) z != (fun x z => (bt (cAt s x) z != bt (cAt t x) z)) ((x + 1) % 5) ((z + 63) % 64)) := fun x z hx hz => by
    simp only
    have := ten _ _ _ _ _ _ _ _ _ _ _ _ (b x 0 z hx (by omega) hz) (b x 1 z hx (by omega) hz) (b x 2 z hx (by omega) hz) (b x 3 z hx (by omega) hz) (b x 4 z hx (by omega) hz)
    rw [cAt_bt hs x z, cAt_bt ht x z]
    simp only [Nat.mul_zero, Nat.add_zero, Nat.mul_one] at this
    rw [show 5 * 2 = 10 from rfl, show 5 * 3 = 15 from rfl, show 5 * 4 = 20 from rfl] at this
    rw [this]
    cases bt (cAt s ((x + 4) % 5)) z <;> cases bt (cAt s ((x + 1) % 5)) ((z + 63) % 64) <;> cases bt (cAt t ((x + 4) % 5)) z <;> cases bt (cAt t ((x + 1) % 5)) ((z + 63) % 64) <;> rfl
  have hz0 : ∀ x z, x < 5 → z < 64 → bt (cAt s x) z = bt (cAt t x) z := fun x z hx hz => by
    have : (bt (cAt s x) z != bt (cAt t x) z) = false := cols_zero hP hx hz
    revert this
    cases bt (cAt s x) z <;> cases bt (cAt t x) z <;> simp
  refine list25 h k fun j hj => eqW (hs j) (ht j) fun z hz => ?_
  have := b (j % 5) (j / 5) z (by omega) (by omega) hz
  rw [hz0 _ _ (Nat.mod_lt _ (by decide)) hz, hz0 _ _ (Nat.mod_lt _ (by decide)) (Nat.mod_lt _ (by decide)), show j % 5 + 5 * (j / 5) = j from by omega] at this
  revert this
  cases bt (s.getD j 0) z <;> cases bt (t.getD j 0) z <;> cases bt (cAt t ((j % 5 + 4) % 5)) z <;> cases bt (cAt t ((j % 5 + 1) % 5)) ((z + 63) % 64) <;> simp
theorem round_inj {s t : List Int} (h : s.length = 25) (k : t.length = 25) (hs : areW s) (ht : areW t) (r : Int) (e : round s r = round t r) : s = t := by
  refine theta_inj h k hs ht (rhoPi_inj (theta_len h) (theta_len k) (theta_w h) (theta_w k) (chi_inj (rhoPi_len _) (rhoPi_len _) (rhoPi_w (theta_w h)) (rhoPi_w (theta_w k)) ?_))
  unfold round at e
  have lc := chi_len (rhoPi_len (theta s))
  have ld := chi_len (rhoPi_len (theta t))
  have wc := chi_w (rhoPi_len (theta s))
  have wd := chi_w (rhoPi_len (theta t))
  generalize chi (rhoPi (theta s)) = c at *
  generalize chi (rhoPi (theta t)) = d at *
  refine list25 lc ld fun j hj => ?_
  have this : (c.set 0 (xr (c.getD 0 0) (rcOf r))).getD j 0 = (d.set 0 (xr (d.getD 0 0) (rcOf r))).getD j 0 := by rw [e]
  rw [set_get _ _ _ _ (by omega), set_get _ _ _ _ (by omega)] at this
  by_cases hj0 : 0 = j
  · subst hj0
    rw [if_pos rfl, if_pos rfl] at this
    exact xr_inj (wc _) (wd _) (rcOf_w r) this
  · rwa [if_neg hj0, if_neg hj0] at this
theorem permN_s (s : List Int) (n : Nat) : permN s (n + 1) = round (permN s n) (n : Int) := by rw [permN]
theorem permN_inj {s t : List Int} (h : s.length = 25) (k : t.length = 25) (hs : areW s) (ht : areW t) (n : Nat) : permN s n = permN t n → s = t := by
  induction n with
  | zero => intro e; rw [permN, permN] at e; exact e
  | succ n ih =>
    intro e
    obtain ⟨h1, h2⟩ := permN_ok h hs n
    obtain ⟨k1, k2⟩ := permN_ok k ht n
    rw [permN_s, permN_s] at e
    exact ih (round_inj h1 k1 h2 k2 _ e)
end Go.Proofs.YtganbceicojfmaaDoor
