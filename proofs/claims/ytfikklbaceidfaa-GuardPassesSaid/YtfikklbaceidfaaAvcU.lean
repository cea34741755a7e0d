/-
  AVC, part U: a function's body, from its arguments to its results.
-/
import Derived.Test.YtfikklbaceidfaaAvcT
import Derived.Laws.Sem
namespace Go.Avc
set_option linter.unusedVariables false
set_option linter.unusedSimpArgs false

def resSV (P : Program) (s : AS) : ResultVar → Option SV
  | .tmp t => some (lget s.tm t)
  | .cell a T => (match lget s.tm a with
    | .ptr b c => (match evLoad P s.hp T (.ptr b c) with | .val sv => some sv | _ => none)
    | _ => none)
def resSVs (P : Program) (s : AS) : List ResultVar → Option (List SV)
  | [] => some []
  | r :: rs => (match resSV P s r, resSVs P s rs with | some x, some xs => some (x :: xs) | _, _ => none)
def resOf (P : Program) (s : AS) (rs : List ResultVar) : Option SV :=
  match resSVs P s rs with | some [x] => some x | some xs => some (.tup xs) | none => none
def retQ (P : Program) (fn : Func) (K : SV → List Blk → Prop) : Exit → AS → Prop
  | .normal, s => (match resOf P s fn.results.toList with | some sv => K sv s.hp | none => False)
  | .ret, s => (match resOf P s fn.results.toList with | some sv => K sv s.hp | none => False)
  | _, _ => False

section
variable {C : Ctx} {E B : Ent} {Im : Nat → Prop} {ι : Nat → Option Value} {w : World}
theorem run_value_inv {P : Program} {x : Sem Value} {v : Value} {w' : World} (h : (do let y ← x; pure (.value y) : Sem Next).run P w = .ok (.value v) w') : x.run P w = .ok v w' := by
  simp only [Sem.run_bind] at h
  cases hx : x.run P w with
  | ok u w1 => rw [hx] at h; simpa [Result.andThen] using h
  | halt y w1 => rw [hx] at h; cases h
theorem resSV_run {s : AS} {a : Act} (hR : Rel C E s Im ι a w) {r : ResultVar} {sv : SV} (h : resSV C.P s r = some sv) :
    ∃ v, ((match r with | .tmp t => pure (a.tmps.getD t undef) | .cell p T => do loadVar T (← asAddr (a.tmps.getD p undef)) : Sem Value)).run C.P w = .ok v w ∧ VRel Im ι w sv v := by
  cases r with
  | tmp t =>
    simp only [resSV, Option.some.injEq] at h
    subst h
    exact ⟨_, rfl, hR.tm t⟩
  | cell p T =>
    simp only [resSV] at h
    split at h
    · rename_i b c hp
      have hv := hR.tm p
      rw [hp] at hv
      have hs := evLoad_sem (P := C.P) (T := T) hR.mem.hv hv
      split at h
      · rename_i sv' hl
        cases h
        rw [hl] at hs
        obtain ⟨v, h1, h2⟩ := hs
        obtain ⟨r, h3, h4⟩ := hv
        refine ⟨v, ?_, h2⟩
        have := run_value_inv h1
        rw [h4] at this
        show (do loadVar T (← asAddr (a.tmps.getD p undef)) : Sem Value).run C.P w = _
        rw [h4]
        exact this
      · cases h
    · cases h
theorem resSVs_run {s : AS} {a : Act} (hR : Rel C E s Im ι a w) : ∀ {rs : List ResultVar} {svs : List SV}, resSVs C.P s rs = some svs →
    ∃ vs, (rs.mapM (fun r => (match r with | .tmp t => pure (a.tmps.getD t undef) | .cell p T => do loadVar T (← asAddr (a.tmps.getD p undef)) : Sem Value))).run C.P w = .ok vs w ∧ VRels Im ι w svs vs
  | [], svs, h => by
    simp only [resSVs, Option.some.injEq] at h
    subst h
    exact ⟨[], by simp, rfl⟩
  | r :: rs, svs, h => by
    simp only [resSVs] at h
    split at h
    · rename_i x xs h1 h2
      cases h
      obtain ⟨v, g1, g2⟩ := resSV_run hR h1
      obtain ⟨vs, g3, g4⟩ := resSVs_run hR h2
      refine ⟨v :: vs, ?_, v, vs, rfl, g2, g4⟩
      rw [List.mapM_cons]
      simp only [Sem.run_bind, g1, Result.andThen, g3]
      rfl
    · cases h
theorem resOf_run {s : AS} {a : Act} (hR : Rel C E s Im ι a w) {fn : Func} {sv : SV} (h : resOf C.P s fn.results.toList = some sv) : ∃ v, (results fn a.tmps).run C.P w = .ok v w ∧ VRel Im ι w sv v := by
  unfold resOf at h
  cases hs : resSVs C.P s fn.results.toList with
  | none => rw [hs] at h; cases h
  | some svs =>
    rw [hs] at h
    obtain ⟨vs, h1, h2⟩ := resSVs_run hR hs
    have h3 : (results fn a.tmps).run C.P w = .ok (if h : vs.toArray.size = 1 then vs.toArray[0] else .tuple vs.toArray) w := by
      unfold results
      rw [Array.mapM_eq_mapM_toList]
      simp only [Sem.run_bind, map_eq_pure_bind]
      erw [h1]
      rfl
    refine ⟨_, h3, ?_⟩
    match svs, h2, h with
    | [], h2, h =>
      cases (show vs = [] from h2)
      cases h
      exact ⟨[], rfl, rfl⟩
    | [x], h2, h =>
      obtain ⟨v, vs', rfl, h4, h5⟩ := h2
      cases (show vs' = [] from h5)
      cases h
      exact h4
    | x :: y :: l, h2, h =>
      obtain ⟨v, vs', rfl, h4, v', vs'', rfl, h6⟩ := h2
      cases h
      rw [dif_neg (by simp)]
      exact ⟨_, rfl, v, _, rfl, h4, v', _, rfl, h6⟩

theorem lget_append : ∀ (l m : List SV) (t : Nat), lget (l ++ m) t = if t < l.length then lget l t else lget m (t - l.length)
  | [], m, t => by simp
  | x :: l, m, 0 => by simp [lget]
  | x :: l, m, t + 1 => by
    simp only [List.cons_append, lget, lget_append l m t, List.length_cons, Nat.succ_lt_succ_iff, Nat.add_lt_add_iff_right, Nat.add_sub_add_right]
theorem lget_replicate (n t : Nat) (x : SV) : lget (List.replicate n x) t = if t < n then x else .dead := by
  induction n generalizing t with
  | zero => simp [lget]
  | succ n ih =>
    cases t with
    | zero => simp [List.replicate, lget]
    | succ t => simp [List.replicate, lget, ih]
theorem vrels_lget : ∀ {svs : List SV} {vs : List Value}, VRels Im ι w svs vs → ∀ t, t < svs.length → ∃ v, vs[t]? = some v ∧ VRel Im ι w (lget svs t) v
  | [], vs, h, t, ht => by simp at ht
  | s :: svs, vs, h, 0, _ => by
    obtain ⟨v, vs', rfl, h1, h2⟩ := h
    exact ⟨v, rfl, h1⟩
  | s :: svs, vs, h, t + 1, ht => by
    obtain ⟨v, vs', rfl, h1, h2⟩ := h
    simpa [lget] using vrels_lget h2 t (by simpa using ht)
theorem vrels_length : ∀ {svs : List SV} {vs : List Value}, VRels Im ι w svs vs → vs.length = svs.length
  | [], vs, h => by cases (show vs = [] from h); rfl
  | s :: svs, vs, h => by
    obtain ⟨v, vs', rfl, h1, h2⟩ := h
    simp [vrels_length h2]

def BodyPost (C : Ctx) (E : Ent) (Im : Nat → Prop) (ι : Nat → Option Value) (w : World) (n : Nat) (K : SV → List Blk → Prop) : Ending → World → Prop := fun e w' =>
  ∃ v sv hp' Im' ι', e = .returned v ∧ K sv hp' ∧ VRel Im' ι' w' sv v ∧ Mem C E hp' Im' ι' w' ∧ Fresh hp'.length ι' ∧ Later Im ι w Im' ι' w' ∧ n ≤ hp'.length ∧ ∀ b, b < n → ι' b = ι b
/-- A function's body, on its own memory. -/
theorem body_sound (hC : C.Ok) {f : FuncId} {fn : Func} {c : Code} (hf : C.P.funcs[f]? = some fn) (hb : fn.body = some c) {svs : List SV} {hp : List Blk} {K : SV → List Blk → Prop} {n : Nat} (hn : fn.ntmps - svs.length = n)
    (h : evC C c ⟨svs ++ List.replicate n .dead, hp⟩ (retQ C.P fn K)) {vs : List Value} (hm : Mem C E hp Im ι w) (hF : Fresh hp.length ι) (hv : VRels Im ι w svs vs) :
    Calls C.P f vs.toArray w (BodyPost C E Im ι w hp.length K) := by
  refine calls_of_wp hf hb ?_
  have hlen := vrels_length hv
  refine ev_sound (E := E) (B := ⟨w, Im, ι, fun b => b < hp.length⟩) hC c _ _ _ _ _ ⟨Im, ι, ⟨rfl, ?_, fun t => ?_, hm⟩, hF, ⟨Later.refl _ _ _, fun b hb => ⟨hb, rfl⟩⟩⟩ h fun e s a w' k r => ?_
  · simp [hlen, hn]
  · show VRel Im ι w (lget (svs ++ List.replicate n .dead) t) _
    rw [lget_append]
    split
    · rename_i ht
      obtain ⟨v, h1, h2⟩ := vrels_lget hv t ht
      have : (vs.toArray ++ Array.replicate (fn.ntmps - vs.toArray.size) undef).getD t undef = v := by
        rw [Array.getD_eq_getD_getElem?, Array.getElem?_append_left (by simp; omega)]
        simp [h1]
      rw [this]
      exact h2
    · rw [lget_replicate]
      split <;> trivial
  · obtain ⟨Im', ι', hR, hF', hB⟩ := r
    have key : (match resOf C.P s fn.results.toList with | some sv => K sv s.hp | none => False) → bodyPost C.P fn (BodyPost C E Im ι w hp.length K) .normal a w' := fun k => by
      split at k
      · rename_i sv hsv
        obtain ⟨v, h1, h2⟩ := resOf_run hR hsv
        refine ⟨hR.defers, v, h1, v, sv, s.hp, Im', ι', rfl, k, h2, hR.mem, hF', hB.later, ?_, fun b hb => (hB.keep b hb).2⟩
        rcases Nat.eq_zero_or_pos hp.length with h0 | h0
        · omega
        · have := (hB.keep (hp.length - 1) (show hp.length - 1 < hp.length by omega)).1
          omega
      · exact k.elim
    cases e with
    | normal => exact key k
    | ret => exact key k
    | exit id => exact k.elim
    | goto l => exact k.elim
    | panic ch => exact k.elim
    | outgrown => exact k.elim
end
end Go.Avc
