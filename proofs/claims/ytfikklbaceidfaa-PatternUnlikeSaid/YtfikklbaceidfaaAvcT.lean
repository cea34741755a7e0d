/-
  AVC, part T: code.
-/
import Derived.Test.YtfikklbaceidfaaAvcS
namespace Go.Avc
set_option linter.unusedVariables false
set_option linter.unusedSimpArgs false

def thenQ (K : AS → Prop) (Q : Exit → AS → Prop) : Exit → AS → Prop
  | .normal, s => K s
  | e, s => Q e s
def inBlockQ (id : Nat) (Q : Exit → AS → Prop) : Exit → AS → Prop
  | .exit id', s => if id' = id then Q .normal s else Q (.exit id') s
  | e, s => Q e s
/-- Slots that nothing more is said of. -/
def killT : List Bool → List SV → List SV
  | true :: ks, _ :: l => .dead :: killT ks l
  | false :: ks, x :: l => x :: killT ks l
  | _, l => l
def AS.kill (s : AS) (ks : List Bool) : AS := ⟨killT ks s.tm, s.hp⟩

/-- A branch by the condition's value. -/
def onCond (v : SV) (x y : Prop) : Prop :=
  match v with
  | .bool b => (b = true → x) ∧ (b = false → y)
  | _ => False
section
variable (C : Ctx)
def evC : Code → AS → (Exit → AS → Prop) → Prop
  | .skip, s, Q => Q .normal s
  | .label _, s, Q => Q .normal s
  | .region _ ops draw, s, Q => (match draw with | true => drawVC C ops s (fun s' => Q .normal s') | false => opsVC C ops ops.toList s (fun s' => Q .normal s'))
  | .seq x y, s, Q => evC x s (thenQ (fun s' => evC y s' Q) Q)
  | .cond c x y, s, Q => onCond (s.ev C.glob c) (evC x s Q) (evC y s Q)
  | .block id c, s, Q => evC c s (inBlockQ id Q)
  | .loop c, s, Q => ∃ (ks : List Bool) (I : Nat → AS → Prop), (∃ n, I n (s.kill ks)) ∧ ∀ n s', I n s' → evC c s' (thenQ (fun s'' => ∃ m, m < n ∧ I m (s''.kill ks)) Q)
  | .exit id, s, Q => Q (.exit id) s
  | .goto l, s, Q => Q (.goto l) s
  | .ret, s, Q => Q .ret s
  | _, _, _ => False
end

section
variable {C : Ctx} {E B : Ent}
theorem lget_kill : ∀ (ks : List Bool) (l : List SV) (t : Nat), lget (killT ks l) t = lget l t ∨ lget (killT ks l) t = .dead
  | [], l, t => .inl rfl
  | true :: ks, [], t => .inl rfl
  | false :: ks, [], t => .inl rfl
  | true :: ks, x :: l, 0 => .inr rfl
  | false :: ks, x :: l, 0 => .inl rfl
  | true :: ks, x :: l, t + 1 => lget_kill ks l t
  | false :: ks, x :: l, t + 1 => lget_kill ks l t
theorem length_kill : ∀ (ks : List Bool) (l : List SV), (killT ks l).length = l.length
  | [], l => rfl
  | true :: ks, [] => rfl
  | false :: ks, [] => rfl
  | true :: ks, x :: l => by simp [killT, length_kill ks l]
  | false :: ks, x :: l => by simp [killT, length_kill ks l]
theorem RelF.kill {s : AS} {a : Act} {w : World} (h : RelF C E B s a w) (ks : List Bool) : RelF C E B (s.kill ks) a w := by
  obtain ⟨Im, ι, hR, hF, hB⟩ := h
  refine ⟨Im, ι, ⟨hR.defers, hR.size.trans (length_kill ks s.tm).symm, fun t => ?_, hR.mem⟩, hF, hB⟩
  show VRel Im ι w (lget (killT ks s.tm) t) _
  rcases lget_kill ks s.tm t with h | h
  · rw [h]; exact hR.tm t
  · rw [h]; trivial

theorem least {p : Nat → Prop} : ∀ n, p n → ∃ m, p m ∧ ∀ k, p k → m ≤ k := by
  intro n
  induction n using Nat.strongRecOn with
  | _ n ih =>
    intro h
    by_cases hx : ∃ k, k < n ∧ p k
    · obtain ⟨k, h1, h2⟩ := hx
      exact ih k h1 h2
    · exact ⟨n, h, fun k hk => Nat.le_of_not_lt fun h' => hx ⟨k, h', hk⟩⟩
open Classical in
noncomputable def leastOf (p : Nat → Prop) : Nat := if h : ∃ m, p m ∧ ∀ k, p k → m ≤ k then Classical.choose h else 0
theorem leastOf_spec {p : Nat → Prop} {n : Nat} (h : p n) : p (leastOf p) ∧ ∀ k, p k → leastOf p ≤ k := by
  have hx := least n h
  unfold leastOf
  rw [dif_pos hx]
  exact Classical.choose_spec hx

theorem ev_sound (hC : C.Ok) : ∀ (c : Code) (s : AS) (Q' : Exit → AS → Prop) (Q : Exit → Act → World → Prop) (a : Act) (w : World), RelF C E B s a w → evC C c s Q' → (∀ e s a w, Q' e s → RelF C E B s a w → Q e a w) → c.wp C.P Q a w
  | .skip, s, Q', Q, a, w, hR, h, hQ => wp_skip (hQ _ _ _ _ h hR)
  | .label _, s, Q', Q, a, w, hR, h, hQ => wp_label (hQ _ _ _ _ h hR)
  | .region id ops draw, s, Q', Q, a, w, hR, h, hQ => by
    cases draw with
    | true => exact draw_sound hC hC.mixed (K := fun s' => Q' .normal s') (fun s a w k r => hQ _ _ _ _ k r) hR h
    | false => exact region_sound hC (K := fun s' => Q' .normal s') (fun s a w k r => hQ _ _ _ _ k r) hR h
  | .seq x y, s, Q', Q, a, w, hR, h, hQ => by
    refine wp_seq (ev_sound hC x s _ _ a w hR h fun e s a w k r => ?_)
    cases e with
    | normal => exact ev_sound hC y s Q' Q a w r k hQ
    | exit id => exact hQ _ _ _ _ k r
    | goto l => exact hQ _ _ _ _ k r
    | ret => exact hQ _ _ _ _ k r
    | panic c => exact hQ _ _ _ _ k r
    | outgrown => exact hQ _ _ _ _ k r
  | .cond c x y, s, Q', Q, a, w, hR, h, hQ => by
    simp only [evC, onCond] at h
    split at h
    · rename_i b hb
      obtain ⟨Im, ι, hR', hF, hB⟩ := hR
      have hv := ev_rel (hp := s.hp) hR'.tm hR'.mem.glob c
      have e1 : AS.ev C.glob ⟨s.tm, s.hp⟩ c = s.ev C.glob c := rfl
      rw [e1, hb] at hv
      have hv' : a.eval c = .bool b := hv
      exact wp_cond_split hv' (fun ht => ev_sound hC x s Q' Q a w ⟨Im, ι, hR', hF, hB⟩ (h.1 ht) hQ) (fun hf => ev_sound hC y s Q' Q a w ⟨Im, ι, hR', hF, hB⟩ (h.2 hf) hQ)
    · exact h.elim
  | .block id c, s, Q', Q, a, w, hR, h, hQ => by
    refine wp_block (ev_sound hC c s _ _ a w hR h fun e s a w k r => ?_)
    cases e with
    | exit id' =>
      simp only [inBlockQ] at k
      simp only [Exit.inBlock]
      split at k
      · rename_i hid; rw [if_pos hid]; exact hQ _ _ _ _ k r
      · rename_i hid; rw [if_neg hid]; exact hQ _ _ _ _ k r
    | normal => exact hQ _ _ _ _ k r
    | goto l => exact hQ _ _ _ _ k r
    | ret => exact hQ _ _ _ _ k r
    | panic c => exact hQ _ _ _ _ k r
    | outgrown => exact hQ _ _ _ _ k r
  | .loop c, s, Q', Q, a, w, hR, h, hQ => by
    obtain ⟨ks, I, ⟨n, h0⟩, hround⟩ := h
    refine wp_loop (fun a w => ∃ n s, I n s ∧ RelF C E B s a w) (fun a w => leastOf fun n => ∃ s, I n s ∧ RelF C E B s a w) ⟨n, _, h0, hR.kill ks⟩ fun a w hI => ?_
    obtain ⟨n, hn⟩ := hI
    obtain ⟨⟨s', h1, h2⟩, hmin⟩ := leastOf_spec (p := fun n => ∃ s, I n s ∧ RelF C E B s a w) hn
    refine ev_sound hC c s' _ _ a w h2 (hround _ s' h1) fun e s a' w' k r => ?_
    cases e with
    | normal =>
      obtain ⟨m, hm, hI⟩ := k
      refine ⟨⟨m, _, hI, r.kill ks⟩, Nat.lt_of_le_of_lt ?_ hm⟩
      exact (leastOf_spec (p := fun n => ∃ s, I n s ∧ RelF C E B s a' w') ⟨_, hI, r.kill ks⟩).2 m ⟨_, hI, r.kill ks⟩
    | exit id => exact hQ _ _ _ _ k r
    | goto l => exact hQ _ _ _ _ k r
    | ret => exact hQ _ _ _ _ k r
    | panic c => exact hQ _ _ _ _ k r
    | outgrown => exact hQ _ _ _ _ k r
  | .exit id, s, Q', Q, a, w, hR, h, hQ => wp_exit (hQ _ _ _ _ h hR)
  | .goto l, s, Q', Q, a, w, hR, h, hQ => wp_goto (hQ _ _ _ _ h hR)
  | .ret, s, Q', Q, a, w, hR, h, hQ => wp_ret (hQ _ _ _ _ h hR)
  | .rangeFunc .., _, _, _, _, _, _, h, _ => h.elim
  | .scope _, _, _, _, _, _, _, h, _ => h.elim
end
end Go.Avc
