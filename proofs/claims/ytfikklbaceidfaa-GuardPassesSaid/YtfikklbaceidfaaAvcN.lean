/-
  AVC, part N: regions whose order is given.
-/
import Derived.Test.YtfikklbaceidfaaAvcM
namespace Go.Avc
set_option linter.unusedVariables false
set_option linter.unusedSimpArgs false
section
variable {C : Ctx} {E B : Ent} {Im : Nat → Prop} {ι : Nat → Option Value} {w : World} {a : Act} {s : AS}

theorem ev_rel {tm : List SV} (htm : ∀ t, VRel Im ι w (lget tm t) (a.tmps.getD t undef)) (hg : Globs C Im ι w) {hp : List Blk} (x : Operand) : VRel Im ι w (AS.ev C.glob ⟨tm, hp⟩ x) (a.eval x) := by
  cases x with
  | tmp t => exact htm t
  | const v => exact constSV_rel v
  | global g =>
    show VRel Im ι w ((C.glob g).getD .dead) (.pointer (some ⟨g, 0, none⟩))
    cases h : C.glob g with
    | none => trivial
    | some sv => exact hg g sv h
  | func f => exact ⟨[], rfl, rfl⟩
theorem getD_some {xs : Array Value} {t : Nat} {v : Value} (h : xs.getD t undef = v) (hv : v ≠ undef) : xs[t]? = some v := by
  rw [Array.getD_eq_getD_getElem?] at h
  cases hx : xs[t]? with
  | none => rw [hx] at h; exact absurd h.symm hv
  | some u => rw [hx] at h; simpa using h
theorem guard_yields {all : Array Oper} {o : Oper} {yes no : Prop} (htm : ∀ t, VRel Im ι w (lget s.tm t) (a.tmps.getD t undef)) (h : guardVC all o s yes no) :
    (Region.wanted o (yielded all a.tmps) = true ∧ yes) ∨ (Region.wanted o (yielded all a.tmps) = false ∧ no) := by
  unfold guardVC at h
  unfold Region.wanted
  split at h
  · rename_i hg
    rw [hg]
    exact .inl ⟨rfl, h⟩
  · rename_i j want hg
    rw [hg]
    split at h
    · rename_i d hd
      have hy : yielded all a.tmps j = match a.tmps[d]? with | some (.bool b) => some b | _ => none := by
        unfold yielded
        rw [hd]
        rfl
      split at h
      · rename_i b hb
        have hv := htm d
        rw [hb] at hv
        have hv' : a.tmps[d]? = some (.bool b) := getD_some hv (by simp [undef])
        rw [hv'] at hy
        by_cases hbw : b = want
        · refine .inl ⟨?_, h.1 hbw⟩
          simp [hy, hbw]
        · refine .inr ⟨?_, h.2 hbw⟩
          simp [hy, hbw]
      · rename_i hb
        have hv := htm d
        rw [hb] at hv
        obtain ⟨vs, h1, h2⟩ := hv
        cases (show vs = [] from h2)
        refine .inr ⟨?_, h⟩
        have : yielded all a.tmps j = none := by
          rw [hy]
          rw [Array.getD_eq_getD_getElem?] at h1
          cases hx : a.tmps[d]? with
          | none => rfl
          | some u => rw [hx] at h1; cases (show u = _ from h1); rfl
        simp [this]
      · exact h.elim
    · rename_i hd
      refine .inr ⟨?_, h⟩
      have : yielded all a.tmps j = none := by
        unfold yielded
        rw [hd]
        rfl
      simp [this]
/-- One operation whose order is given. -/
theorem opVC_sound (hC : C.Ok) {all : Array Oper} {o : Oper} (hR : RelF C E B s a w) {K : AS → Prop} {Q : Exit → Act → World → Prop}
    (h : guardVC all o s (orVC C o.dst s K (evOp C.P C.zero (s.ev C.glob) s.hp o.op)) (K (s.put o.dst .undef))) :
    (Region.wanted o (yielded all a.tmps) = true ∧ o.wp C.P a w (fun a' w' => ∃ s', K s' ∧ RelF C E B s' a' w') Q) ∨
      (Region.wanted o (yielded all a.tmps) = false ∧ ∃ s', K s' ∧ RelF C E B s' (a.put o.dst undef) w) := by
  obtain ⟨Im, ι, hR, hF, hB⟩ := hR
  rcases guard_yields hR.tm h with ⟨h1, h2⟩ | ⟨h1, h2⟩
  · refine .inl ⟨h1, ?_⟩
    exact orVC_sound hC hR hF hB _ (evOp_sem hC.zero hR.mem.mr.imlt hR.mem.hv fun x _ => ev_rel hR.tm hR.mem.glob x) h2
  · exact .inr ⟨h1, _, h2, Im, ι, hR.put (Later.refl _ _ _) hR.mem o.dst undef_rel, by cases hd : o.dst <;> exact hF, aft_put hB (Later.refl _ _ _) (Nat.le_refl _) fun _ _ => rfl⟩
theorem opsVC_sound (hC : C.Ok) {ops : Array Oper} {K : AS → Prop} {Q : Exit → Act → World → Prop} (hQ : ∀ s a w, K s → RelF C E B s a w → Q .normal a w) :
    ∀ (l : List Oper) (i : Nat), l = ops.toList.drop i → ∀ s a w, RelF C E B s a w → opsVC C ops l s K → wpOps C.P ops Q (List.range' i l.length) a w
  | [], i, _, s, a, w, hR, h => hQ s a w h hR
  | o :: l, i, hl, s, a, w, hR, h => by
    have ho : ops[i]? = some o := by
      have : (ops.toList.drop i)[0]? = some o := by rw [← hl]; rfl
      simpa using this
    have hl' : l = ops.toList.drop (i + 1) := by
      have : (ops.toList.drop i).drop 1 = l := by rw [← hl]; rfl
      rw [← this, List.drop_drop]
    have ih := opsVC_sound hC hQ l (i + 1) hl'
    simp only [List.length_cons, List.range'_succ, wpOps, ho]
    rcases opVC_sound (Q := Q) hC hR (K := fun s' => opsVC C ops l s' K) (guardS_imp h) with ⟨h1, h2⟩ | ⟨h1, s', h2, h3⟩
    · rw [if_pos h1]
      exact .inl (Oper.wp_mono (fun a w ⟨s', k, r⟩ => ih s' a w r k) h2)
    · rw [if_neg (by simp [h1])]
      exact ih s' _ w h3 h2
theorem region_sound (hC : C.Ok) {id : Nat} {ops : Array Oper} {K : AS → Prop} {Q : Exit → Act → World → Prop} (hQ : ∀ s a w, K s → RelF C E B s a w → Q .normal a w) (hR : RelF C E B s a w) (h : opsVC C ops ops.toList s K) :
    (Code.region id ops false).wp C.P Q a w := by
  refine wp_region ?_
  have := opsVC_sound hC hQ ops.toList 0 (by simp) s a w hR h
  rwa [List.range_eq_range', ← Array.length_toList]
end
end Go.Avc
