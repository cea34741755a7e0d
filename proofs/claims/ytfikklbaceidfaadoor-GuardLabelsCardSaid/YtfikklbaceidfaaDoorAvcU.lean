/-
  AVC, part U: a function's body, from its arguments to its results.
-/
import Derived.Test.YtfikklbaceidfaaDoorAvcQ
import Derived.Laws.Sem
namespace Go.Avc
set_option linter.unusedVariables false
set_option linter.unusedSimpArgs false

def resSV (P : Program) (s : AS) : ResultVar → Option SV
  | .tmp t => some (lget s.tm t)
  | .cell a T => (match lget s.tm a with
    | .ptr b c => (match evLoad P s.hp T (.ptr b c) with | .val sv => some sv | _ => none)
    | _ => none)
def resSVs (P : Program) (s : AS) : List ResultVar → Option (List SV)
  | [] => some []
  | r :: rs => (match resSV P s r, resSVs P s rs with | some x, some xs => some (x :: xs) | _, _ => none)
def resOf (P : Program) (s : AS) (rs : List ResultVar) : Option SV :=
  match resSVs P s rs with | some [x] => some x | some xs => some (.tup xs) | none => none
def retQ (P : Program) (fn : Func) (K : SV → List Blk → Prop) : Exit → AS → Prop
  | .normal, s => (match resOf P s fn.results.toList with | some sv => K sv s.hp | none => False)
  | .ret, s => (match resOf P s fn.results.toList with | some sv => K sv s.hp | none => False)
  | _, _ => False

section
variable {C : Ctx} {E B : Ent} {Im : Nat → Prop} {ι : Nat → Option Value} {w : World}
theorem run_value_inv {P : Program} {x : Sem Value} {v : Value} {w' : World} (h : (do let y ← x; pure (.value y) : Sem Next).run P w = .ok (.value v) w') : x.run P w = .ok v w' := by
  simp only [Sem.run_bind] at h
  cases hx : x.run P w with
  | ok u w1 => rw [hx] at h; simpa [Result.andThen] using h
  | halt y w1 => rw [hx] at h; cases h
theorem resSV_run {s : AS} {a : Act} (hR : Rel C E s Im ι a w) {r : ResultVar} {sv : SV} (h : resSV C.P s r = some sv) :
    ∃ v, ((match r with | .tmp t => pure (a.tmps.getD t undef) | .cell p T => do loadVar T (← asAddr (a.tmps.getD p undef)) : Sem Value)).run C.P w = .ok v w ∧ VRel Im ι w sv v := by
  cases r with
  | tmp t =>
    simp only [resSV, Option.some.injEq] at h
    subst h
    exact ⟨_, rfl, hR.tm t⟩
  | cell p T =>
    simp only [resSV] at h
    split at h
    · rename_i b c hp
      have hv := hR.tm p
      rw [hp] at hv
      have hs := evLoad_sem (P := C.P) (T := T) hR.mem.hv hv
      split at h
      · rename_i sv' hl
        cases h
        rw [hl] at hs
        obtain ⟨v, h1, h2⟩ := hs
        obtain ⟨r, h3, h4⟩ := hv
        refine ⟨v, ?_, h2⟩
        have := run_value_inv h1
        rw [h4] at this
        show (do loadVar T (← asAddr (a.tmps.getD p undef)) : Sem Value).run C.P w = _
        rw [h4]
        exact this
      · cases h
    · cases h
theorem resSVs_run {s : AS} {a : Act} (hR : Rel C E s Im ι a w) : ∀ {rs : List ResultVar} {svs : List SV}, resSVs C.P s rs = some svs →
    ∃ vs, (rs.mapM (fun r => (match r with | .tmp t => pure (a.tmps.getD t undef) | .cell p T => do loadVar T (← asAddr (a.tmps.getD p undef)) : Sem Value))).run C.P w = .ok vs w ∧ VRels Im ι w svs vs
  | [], svs, h => by
    simp only [resSVs, Option.some.injEq] at h
    subst h
    exact ⟨[], by simp, rfl⟩
  | r :: rs, svs, h => by
    simp only [resSVs] at h
    split at h
    · rename_i x xs h1 h2
      cases h
      obtain ⟨v, g1, g2⟩ := resSV_run hR h1
      obtain ⟨vs, g3, g4⟩ := resSVs_run hR h2
      refine ⟨v :: vs, ?_, v, vs, rfl, g2, g4⟩
      rw [List.mapM_cons]
      simp only [Sem.run_bind, g1, Result.andThen, g3]
      rfl
    · cases h
theorem resOf_run {s : AS} {a : Act} (hR : Rel C E s Im ι a w) {fn : Func} {sv : SV} (h : resOf C.P s fn.results.toList = some sv) : ∃ v, (results fn a.tmps).run C.P w = .ok v w ∧ VRel Im ι w sv v := by
  unfold resOf at h
  cases hs : resSVs C.P s fn.results.toList with
  | none => rw [hs] at h; cases h
  | some svs =>
    rw [hs] at h
    obtain ⟨vs, h1, h2⟩ := resSVs_run hR hs
    have h3 : (results fn a.tmps).run C.P w = .ok (if h : vs.toArray.size = 1 then vs.toArray[0] else .tuple vs.toArray) w := by
      unfold results
      rw [Array.mapM_eq_mapM_toList]
      simp only [Sem.run_bind, map_eq_pure_bind]
      erw [h1]
      rfl
    refine ⟨_, h3, ?_⟩
    match svs, h2, h with
    | [], h2, h =>
      cases (show vs = [] from h2)
      cases h
      exact ⟨[], rfl, rfl⟩
    | [x], h2, h =>
      obtain ⟨v, vs', rfl, h4, h5⟩ := h2
      cases (show vs' = [] from h5)
      cases h
      exact h4
    | x :: y :: l, h2, h =>
      obtain ⟨v, vs', rfl, h4, v', vs'', rfl, h6⟩ := h2
      cases h
      rw [dif_neg (by simp)]
      exact ⟨_, rfl, v, _, rfl, h4, v', _, rfl, h6⟩

theorem lget_append : ∀ (l m : List SV) (t : Nat), lget (l ++ m) t = if t < l.length then lget l t else lget m (t - l.length)
  | [], m, t => by simp
  | x :: l, m, 0 => by simp [lget]
  | x :: l, m, t + 1 => by
    simp only [List.cons_append, lget, lget_append l m t, List.length_cons, Nat.succ_lt_succ_iff, Nat.add_lt_add_iff_right, Nat.add_sub_add_right]
theorem lget_replicate (n t : Nat) (x : SV) : lget (List.replicate n x) t = if t < n then x else .dead := by
  induction n generalizing t with
  | zero => simp [lget]
  | succ n ih =>
    cases t with
    | zero => simp [List.replicate, lget]
    | succ t => simp [List.replicate, lget, ih]
theorem vrels_lget : ∀ {svs : List SV} {vs : List Value}, VRels Im ι w svs vs → ∀ t, t < svs.length → ∃ v, vs[t]? = some v ∧ VRel Im ι w (lget svs t) v
  | [], vs, h, t, ht => by simp at ht
  | s :: svs, vs, h, 0, _ => by
    obtain ⟨v, vs', rfl, h1, h2⟩ := h
    exact ⟨v, rfl, h1⟩
  | s :: svs, vs, h, t + 1, ht => by
    obtain ⟨v, vs', rfl, h1, h2⟩ := h
    simpa [lget] using vrels_lget h2 t (by simpa using ht)
theorem vrels_length : ∀ {svs : List SV} {vs : List Value}, VRels Im ι w svs vs → vs.length = svs.length
  | [], vs, h => by cases (show vs = [] from h); rfl
  | s :: svs, vs, h => by
    obtain ⟨v, vs', rfl, h1, h2⟩ := h
    simp [vrels_length h2]

def BodyPost (C : Ctx) (E : Ent) (Im : Nat → Prop) (ι : Nat → Option Value) (w : World) (n : Nat) (K : SV → List Blk → Prop) : Ending → World → Prop := fun e w' =>
  ∃ v sv hp' Im' ι', e = .returned v ∧ K sv hp' ∧ VRel Im' ι' w' sv v ∧ Mem C E hp' Im' ι' w' ∧ Fresh hp'.length ι' ∧ Later Im ι w Im' ι' w' ∧ n ≤ hp'.length ∧ ∀ b, b < n → ι' b = ι b
/-- A function's body, on its own memory. -/
theorem body_sound (hC : C.Ok) {f : FuncId} {fn : Func} {c : Code} (hf : C.P.funcs[f]? = some fn) (hb : fn.body = some c) {svs : List SV} {hp : List Blk} {K : SV → List Blk → Prop} {n : Nat} (hn : fn.ntmps - svs.length = n)
    (h : evC C c ⟨svs ++ List.replicate n .dead, hp⟩ (retQ C.P fn K)) {vs : List Value} (hm : Mem C E hp Im ι w) (hF : Fresh hp.length ι) (hv : VRels Im ι w svs vs) :
    Calls C.P f vs.toArray w (BodyPost C E Im ι w hp.length K) := by
  refine calls_of_wp hf hb ?_
  have hlen := vrels_length hv
  refine ev_sound (E := E) (B := ⟨w, Im, ι, fun b => b < hp.length⟩) hC c _ _ _ _ _ ⟨Im, ι, ⟨rfl, ?_, fun t => ?_, hm⟩, hF, ⟨Later.refl _ _ _, fun b hb => ⟨hb, rfl⟩⟩⟩ h fun e s a w' k r => ?_
  · simp [hlen, hn]
  · show VRel Im ι w (lget (svs ++ List.replicate n .dead) t) _
    rw [lget_append]
    split
    · rename_i ht
      obtain ⟨v, h1, h2⟩ := vrels_lget hv t ht
      have : (vs.toArray ++ Array.replicate (fn.ntmps - vs.toArray.size) undef).getD t undef = v := by
        rw [Array.getD_eq_getD_getElem?, Array.getElem?_append_left (by simp; omega)]
        simp [h1]
      rw [this]
      exact h2
    · rw [lget_replicate]
      split <;> trivial
  · obtain ⟨Im', ι', hR, hF', hB⟩ := r
    have key : (match resOf C.P s fn.results.toList with | some sv => K sv s.hp | none => False) → bodyPost C.P fn (BodyPost C E Im ι w hp.length K) .normal a w' := fun k => by
      split at k
      · rename_i sv hsv
        obtain ⟨v, h1, h2⟩ := resOf_run hR hsv
        refine ⟨hR.defers, v, h1, v, sv, s.hp, Im', ι', rfl, k, h2, hR.mem, hF', hB.later, ?_, fun b hb => (hB.keep b hb).2⟩
        rcases Nat.eq_zero_or_pos hp.length with h0 | h0
        · omega
        · have := (hB.keep (hp.length - 1) (show hp.length - 1 < hp.length by omega)).1
          omega
      · exact k.elim
    cases e with
    | normal => exact key k
    | ret => exact key k
    | exit id => exact k.elim
    | goto l => exact k.elim
    | panic ch => exact k.elim
    | outgrown => exact k.elim
end
end Go.Avc

/-
  AVC, part V: a caller's memory and a callee's: names of blocks.
-/
namespace Go.Avc
set_option linter.unusedVariables false
set_option linter.unusedSimpArgs false

mutual
def SV.ren (ρ : Nat → Nat) : SV → SV
  | .agg cs => .agg (renL ρ cs)
  | .ptr b c => .ptr (ρ b) c
  | .aptr b c i => .aptr (ρ b) c i
  | .own b => .own (ρ b)
  | .win b c N lo n => .win (ρ b) c N lo n
  | .optr b sz i c => .optr (ρ b) sz i c
  | .fn f cs => .fn f (renL ρ cs)
  | .tup cs => .tup (renL ρ cs)
  | .sls cs => .sls (renL ρ cs)
  | .iface t v => .iface t (v.ren ρ)
  | s => s
def renL (ρ : Nat → Nat) : List SV → List SV
  | [] => []
  | s :: cs => s.ren ρ :: renL ρ cs
end
def Blk.ren (ρ : Nat → Nat) : Blk → Blk
  | .cells T cs => .cells T (renL ρ cs)
  | b => b
theorem renL_len (ρ : Nat → Nat) : ∀ cs : List SV, (renL ρ cs).length = cs.length
  | [] => rfl
  | s :: cs => by simp [renL, renL_len ρ cs]
theorem live_ren (ρ : Nat → Nat) (b : Blk) : live (b.ren ρ) = live b := by cases b <;> rfl

section
variable {Im : Nat → Prop} {ι ι' : Nat → Option Value} {w : World} {ρ : Nat → Nat}
mutual
theorem VRel.ren : ∀ (s : SV) (v : Value), (∀ b ∈ s.hs, ι' (ρ b) = ι b) → (VRel Im ι' w (s.ren ρ) v ↔ VRel Im ι w s v)
  | .dead, v, h => Iff.rfl
  | .int .., v, h => Iff.rfl
  | .bool _, v, h => Iff.rfl
  | .str _, v, h => Iff.rfl
  | .agg cs, v, h => by
    have ih := fun vs => CellsRel.ren cs vs h
    simp only [SV.ren, VRel, ih]
  | .arrI .., v, h => Iff.rfl
  | .arrB .., v, h => Iff.rfl
  | .nilp, v, h => Iff.rfl
  | .ptr b c, v, h => by
    have := h b (by simp [SV.hs, SV.h1])
    simp only [SV.ren, VRel, this]
  | .aptr b c i, v, h => by
    have := h b (by simp [SV.hs, SV.h1])
    simp only [SV.ren, VRel, this]
  | .rd e l, v, h => Iff.rfl
  | .e0, v, h => Iff.rfl
  | .nils, v, h => Iff.rfl
  | .own b, v, h => by
    have := h b (by simp [SV.hs, SV.h1])
    simp only [SV.ren, VRel, this]
  | .win b c N lo n, v, h => by
    have := h b (by simp [SV.hs, SV.h1])
    simp only [SV.ren, VRel, this]
  | .eptr .., v, h => Iff.rfl
  | .optr b sz i c, v, h => by
    have := h b (by simp [SV.hs, SV.h1])
    simp only [SV.ren, VRel, this]
  | .fn f cs, v, h => by
    have ih := fun vs => VRels.ren cs vs h
    simp only [SV.ren, VRel, ih]
  | .tup cs, v, h => by
    have ih := fun vs => VRels.ren cs vs h
    simp only [SV.ren, VRel, ih]
  | .sls cs, v, h => by
    have ih := fun vs => VRels.ren cs vs h
    simp only [SV.ren, VRel, ih, renL_len]
  | .nili, v, h => Iff.rfl
  | .iface t s, v, h => by
    have ih := fun v => VRel.ren s v h
    simp only [SV.ren, VRel, ih]
  | .val _, v, h => Iff.rfl
theorem CellsRel.ren : ∀ (cs : List SV) (vs : List Value), (∀ b ∈ hsL cs, ι' (ρ b) = ι b) → (CellsRel Im ι' w (renL ρ cs) vs ↔ CellsRel Im ι w cs vs)
  | [], vs, h => Iff.rfl
  | s :: cs, vs, h => by
    have ih1 := fun v => VRel.ren s v (fun b hb => h b (by simp [hsL, hb]))
    have ih2 := fun vs => CellsRel.ren cs vs (fun b hb => h b (by simp [hsL, hb]))
    cases s with
    | arrI n k l =>
      simp only [renL, SV.ren, CellsRel]
      simp only [ih2]
    | arrB n l =>
      simp only [renL, SV.ren, CellsRel]
      simp only [ih2]
    | _ =>
      simp only [SV.ren] at ih1
      simp only [renL, SV.ren, CellsRel]
      simp only [ih1, ih2]
theorem VRels.ren : ∀ (cs : List SV) (vs : List Value), (∀ b ∈ hsL cs, ι' (ρ b) = ι b) → (VRels Im ι' w (renL ρ cs) vs ↔ VRels Im ι w cs vs)
  | [], vs, h => Iff.rfl
  | s :: cs, vs, h => by
    have ih1 := fun v => VRel.ren s v (fun b hb => h b (by simp [hsL, hb]))
    have ih2 := fun vs => VRels.ren cs vs (fun b hb => h b (by simp [hsL, hb]))
    simp only [renL, VRels, ih1, ih2]
end
theorem BRel.ren {blk : Blk} {v : Value} (h : ∀ b ∈ blk.hs, ι' (ρ b) = ι b) : BRel Im ι' w (blk.ren ρ) v ↔ BRel Im ι w blk v := by
  cases blk with
  | cells T cs =>
    have ih := fun vs => CellsRel.ren (Im := Im) (w := w) cs vs h
    simp only [Blk.ren, BRel, ih]
  | _ => exact Iff.rfl
end
end Go.Avc

/-
  AVC, part W: what a body does on its own memory, told on the caller's.
-/
namespace Go.Avc
set_option linter.unusedVariables false
set_option linter.unusedSimpArgs false

def rmap (σ : List Nat) (n : Nat) (keep : List Nat) (i : Nat) : Nat := if i < σ.length then σ.getD i 0 else n + keep.idxOf i
/-- The callee's memory hpl' behind the call, as the caller's hp'. -/
structure Fit (σ : List Nat) (hp hp' hpl' : List Blk) (sv : SV) (keep : List Nat) : Prop where
  nodup : keep.Nodup
  past : ∀ i ∈ keep, σ.length ≤ i
  len : hp'.length = hp.length + keep.length
  res : ∀ b ∈ sv.hs, b < σ.length ∨ b ∈ keep
  old : ∀ i, i < σ.length → hp'.getD (σ.getD i 0) .none = .none ∨ (hp'.getD (σ.getD i 0) .none = (hpl'.getD i .none).ren (rmap σ hp.length keep) ∧ ∀ b ∈ (hpl'.getD i .none).hs, b < σ.length ∨ b ∈ keep)
  new : ∀ i, i ∈ keep → hp'.getD (hp.length + keep.idxOf i) .none = (hpl'.getD i .none).ren (rmap σ hp.length keep) ∧ ∀ b ∈ (hpl'.getD i .none).hs, b < σ.length ∨ b ∈ keep
  oth : ∀ b, b < hp.length → b ∉ σ → hp'.getD b .none = hp.getD b .none

theorem getD_inj {σ : List Nat} (h : σ.Nodup) {i j : Nat} (hi : i < σ.length) (hj : j < σ.length) (e : σ.getD i 0 = σ.getD j 0) : i = j := by
  rw [List.getD_eq_getElem?_getD, List.getD_eq_getElem?_getD, List.getElem?_eq_getElem hi, List.getElem?_eq_getElem hj] at e
  exact (List.getElem_inj h).1 e
theorem idxOf_get {l : List Nat} (h : l.Nodup) {j : Nat} (hj : j < l.length) : l.idxOf l[j] = j := by
  have h1 : l.idxOf l[j] < l.length := List.idxOf_lt_length_iff.2 (List.getElem_mem hj)
  have h2 : l[l.idxOf l[j]] = l[j] := List.getElem_idxOf h1
  exact (List.getElem_inj h).1 h2

section
variable {C : Ctx}
theorem spec_local (hC : C.Ok) {f : FuncId} {hp hpl : List Blk} {svs svsl : List SV} {σ : List Nat} {Kl K : SV → List Blk → Prop} {R : Nat → Prop}
    (hs : svs = renL (fun i => σ.getD i 0) svsl) (hσ : σ.Nodup) (hσlt : ∀ b ∈ σ, b < hp.length) (hlen : hpl.length = σ.length)
    (hblk : ∀ i, i < σ.length → hp.getD (σ.getD i 0) .none = (hpl.getD i .none).ren (fun i => σ.getD i 0))
    (hh1 : ∀ b ∈ hsL svsl, b < σ.length) (hh2 : ∀ i, i < σ.length → ∀ b ∈ (hpl.getD i .none).hs, b < σ.length)
    (hbody : ∀ E Im ι w vs, Mem C E hpl Im ι w → Fresh hpl.length ι → VRels Im ι w svsl vs → CallSem C.P f vs.toArray w (BodyPost C E Im ι w hpl.length Kl))
    (hK : ∀ sv hpl', Kl sv hpl' → ∃ keep hp', Fit σ hp hp' hpl' sv keep ∧ K (sv.ren (rmap σ hp.length keep)) hp' ∧ ∀ b, hp.length ≤ b → b < hp'.length → R b)
    {E : Ent} {Im : Nat → Prop} {ι : Nat → Option Value} {w : World} {vs : List Value} (hm : Mem C E hp Im ι w) (hR : ∀ b, R b → ι b = none) (hv : VRels Im ι w svs vs) :
    CallSem C.P f vs.toArray w (CallPost C E Im ι w hp.length K) := by
  have hmem : ∀ i, i < σ.length → σ.getD i 0 ∈ σ := fun i hi => by
    rw [List.getD_eq_getElem?_getD, List.getElem?_eq_getElem hi]
    exact List.getElem_mem hi
  have hget : ∀ b, b ∈ σ → ∃ i, i < σ.length ∧ σ.getD i 0 = b := fun b hb => by
    obtain ⟨i, hi, e⟩ := List.getElem_of_mem hb
    exact ⟨i, hi, by rw [List.getD_eq_getElem?_getD, List.getElem?_eq_getElem hi]; exact e⟩
  let ιl : Nat → Option Value := fun i => if i < σ.length then ι (σ.getD i 0) else none
  have hιl : ∀ i, i < σ.length → ιl i = ι (σ.getD i 0) := fun i hi => if_pos hi
  let El : Ent := ⟨w, Im, ιl, fun r => ∃ i v, i < σ.length ∧ ιl i = some v ∧ live (hpl.getD i .none) = true ∧ foot v = some r⟩
  have hlt : ∀ i v, ιl i = some v → i < σ.length := fun i v h => by
    by_cases hi : i < σ.length
    · exact hi
    · have : ιl i = none := if_neg hi
      rw [this] at h; cases h
  have hlive : ∀ i, i < σ.length → live (hp.getD (σ.getD i 0) .none) = live (hpl.getD i .none) := fun i hi => by rw [hblk i hi, live_ren]
  have hml : Mem C El hpl Im ιl w := by
    refine ⟨fun i v h => ?_, ⟨hm.mr.imlt, fun i v r h1 h2 h3 => ?_, fun i j v v' r h1 h2 h3 h4 h5 h6 => ?_, fun i v r h1 h2 h3 => .inr ⟨i, v, hlt i v h2, h2, h1, h3⟩⟩, ⟨rfl, rfl, rfl, Nat.le_refl _, fun _ _ _ => rfl, fun _ _ h => h, fun _ h => h, fun _ h => .inl h⟩, fun g sv h => ?_⟩
    · have hi := hlt i v h
      have h' := hm.hv (σ.getD i 0) v (by rw [← hιl i hi]; exact h)
      rw [hblk i hi] at h'
      exact (BRel.ren fun b hb => (hιl b (hh2 i hi b hb)).symm).1 h'
    · have hi := hlt i v h2
      exact hm.mr.imm (σ.getD i 0) v r (by rw [hlive i hi]; exact h1) (by rw [← hιl i hi]; exact h2) h3
    · have hi := hlt i v h3
      have hj := hlt j v' h4
      exact getD_inj hσ hi hj (hm.mr.sep _ _ v v' r (by rw [hlive i hi]; exact h1) (by rw [hlive j hj]; exact h2) (by rw [← hιl i hi]; exact h3) (by rw [← hιl j hj]; exact h4) h5 h6)
    · obtain ⟨e, l, i, c, rfl⟩ := hC.globE g sv h
      exact hm.glob g _ h
  have hvl : VRels Im ιl w svsl vs := by
    rw [hs] at hv
    exact (VRels.ren svsl vs fun b hb => (hιl b (hh1 b hb)).symm).1 hv
  refine CallSem.mono (hbody El Im ιl w vs hml (fun b hb => if_neg (by omega)) hvl) ?_
  rintro e w' ⟨v, sv, hpl', Im', ιl', rfl, hk, hres, hml', hFl, hll, hnl, hkeep⟩
  obtain ⟨keep, hp', fit, hk', hRn⟩ := hK sv hpl' hk
  let ι' : Nat → Option Value := fun b => if hp.length ≤ b ∧ b < hp.length + keep.length then ιl' (keep.getD (b - hp.length) 0) else ι b
  have hι'old : ∀ b, ¬ (hp.length ≤ b ∧ b < hp.length + keep.length) → ι' b = ι b := fun b h => if_neg h
  have hι'new : ∀ i, i ∈ keep → ι' (hp.length + keep.idxOf i) = ιl' i := fun i hi => by
    have h1 : keep.idxOf i < keep.length := List.idxOf_lt_length_iff.2 hi
    have h2 : keep.getD (keep.idxOf i) 0 = i := by
      rw [List.getD_eq_getElem?_getD, List.getElem?_eq_getElem h1]
      exact List.getElem_idxOf h1
    show (if _ then _ else _) = _
    rw [if_pos ⟨Nat.le_add_right _ _, by omega⟩, Nat.add_sub_cancel_left, h2]
  have hι'σ : ∀ i, i < σ.length → ι' (σ.getD i 0) = ιl' i := fun i hi => by
    have h1 := hσlt _ (hmem i hi)
    rw [hι'old _ (by omega), ← hιl i hi, hkeep i (by omega)]
  have hagree : ∀ i, (i < σ.length ∨ i ∈ keep) → ι' (rmap σ hp.length keep i) = ιl' i := fun i h => by
    unfold rmap
    by_cases hi : i < σ.length
    · rw [if_pos hi]; exact hι'σ i hi
    · rw [if_neg hi]; exact hι'new i (h.resolve_left hi)
  have hnone : ∀ b, hp.length ≤ b → b < hp.length + keep.length → ι b = none := fun b h1 h2 => hR b (hRn b h1 (by rw [fit.len]; exact h2))
  let hpX : List Blk := (List.range hp'.length).map fun b => if σ.contains b = true ∨ hp.length ≤ b then hp'.getD b .none else .none
  have hpX_get : ∀ b, hpX.getD b .none = if b < hp'.length then (if σ.contains b = true ∨ hp.length ≤ b then hp'.getD b .none else .none) else .none := fun b => getD_map_range
  -- where a named block comes from
  have hsrc : ∀ b v, ι' b = some v → hpX.getD b .none = .none ∨ ∃ i, (i < σ.length ∨ i ∈ keep) ∧ b = rmap σ hp.length keep i ∧ ιl' i = some v ∧ hpX.getD b .none = (hpl'.getD i .none).ren (rmap σ hp.length keep) ∧ ∀ c ∈ (hpl'.getD i .none).hs, c < σ.length ∨ c ∈ keep := fun b v hb => by
    by_cases h1 : hp.length ≤ b ∧ b < hp.length + keep.length
    · right
      have hj : b - hp.length < keep.length := by omega
      have hik : keep[b - hp.length] ∈ keep := List.getElem_mem hj
      have hid := idxOf_get fit.nodup hj
      have hbe : hp.length + keep.idxOf keep[b - hp.length] = b := by rw [hid]; omega
      have hn := fit.new _ hik
      refine ⟨keep[b - hp.length], .inr hik, ?_, ?_, ?_, hn.2⟩
      · unfold rmap
        rw [if_neg (by have := fit.past _ hik; omega), hbe]
      · rw [← hι'new _ hik, hbe]; exact hb
      · rw [hpX_get, if_pos (by rw [fit.len]; exact h1.2), if_pos (.inr h1.1), ← hn.1, hbe]
    · by_cases h2 : b ∈ σ
      · obtain ⟨i, hi, rfl⟩ := hget b h2
        have hlt' := hσlt _ h2
        have hX : hpX.getD (σ.getD i 0) .none = hp'.getD (σ.getD i 0) .none := by
          rw [hpX_get, if_pos (by rw [fit.len]; omega), if_pos (.inl (by simpa using h2))]
        rcases fit.old i hi with h3 | ⟨h3, h4⟩
        · exact .inl (hX.trans h3)
        · right
          refine ⟨i, .inl hi, ?_, by rw [← hι'σ i hi]; exact hb, hX.trans h3, h4⟩
          unfold rmap
          rw [if_pos hi]
      · left
        rw [hpX_get]
        split
        · rename_i h3
          rw [fit.len] at h3
          rw [if_neg]
          rintro (h4 | h4)
          · exact h2 (by simpa using h4)
          · exact h1 ⟨h4, h3⟩
        · rfl
  have hinj : ∀ i j, (i < σ.length ∨ i ∈ keep) → (j < σ.length ∨ j ∈ keep) → i = j → rmap σ hp.length keep i = rmap σ hp.length keep j := fun i j _ _ h => by rw [h]
  have hMg : ∀ b, (maskH σ 0 hp).getD b .none = if σ.contains b then hp.getD b .none else .none := fun b => by
    rw [maskH_getD, Nat.zero_add]
  have hX : Mem C (partEnt w Im ι σ (maskH σ 0 hp)) hpX Im' ι' w' := by
    have hFF : ∀ r, El.F r → (partEnt w Im ι σ (maskH σ 0 hp)).F r := by
      rintro r ⟨i, u, h1, h2, h3, h4⟩
      refine ⟨σ.getD i 0, u, by simpa using hmem i h1, by rw [← hιl i h1]; exact h2, ?_, h4⟩
      rw [hMg, if_pos (by simpa using hmem i h1), hlive i h1]
      exact h3
    have hll' : Later Im ι w Im' ι' w' := ⟨hll.im, fun b u hb => by
      rw [hι'old b fun h => by rw [hnone b h.1 h.2] at hb; cases hb]
      exact hb, hll.mem⟩
    refine ⟨fun b u hb => ?_, ⟨hml'.mr.imlt, fun b u r h1 h2 h3 => ?_, fun b b' u u' r h1 h2 h3 h4 h5 h6 => ?_, fun b u r h1 h2 h3 => ?_⟩, ⟨hml'.since.os, hml'.since.tape, hml'.since.output, hml'.since.size, fun k h1 h2 => hml'.since.block k h1 fun h => h2 (hFF k h), hll'.hd, hml'.since.im, fun i h => (hml'.since.imnew i h).imp id (Or.imp id (hFF i))⟩, hm.glob.later hll'⟩
    · rcases hsrc b u hb with h | ⟨i, h1, rfl, h2, h3, h4⟩
      · rw [h]; trivial
      · rw [h3]
        exact (BRel.ren fun c hc => hagree c (h4 c hc)).2 (hml'.hv i u h2)
    · rcases hsrc b u h2 with h | ⟨i, g1, rfl, g2, g3, g4⟩
      · rw [h] at h1; cases h1
      · rw [g3, live_ren] at h1
        exact hml'.mr.imm i u r h1 g2 h3
    · rcases hsrc b u h3 with h | ⟨i, g1, rfl, g2, g3, g4⟩
      · rw [h] at h1; cases h1
      · rcases hsrc b' u' h4 with h | ⟨j, k1, rfl, k2, k3, k4⟩
        · rw [h] at h2; cases h2
        · rw [g3, live_ren] at h1
          rw [k3, live_ren] at h2
          exact hinj i j g1 k1 (hml'.mr.sep i j u u' r h1 h2 g2 k2 h5 h6)
    · rcases hsrc b u h2 with h | ⟨i, g1, rfl, g2, g3, g4⟩
      · rw [h] at h1; cases h1
      · rw [g3, live_ren] at h1
        exact (hml'.mr.mine i u r h1 g2 h3).imp id (hFF r)
  have hF : Mem C E hp' Im' ι' w' := Mem.frame (hpM := maskH σ 0 hp) (n := hp.length) (k := keep.length) hm hMg hX hι'old (fun b h1 h2 => hnone b h1 h2)
    (fun b hb => by
      rw [hpX_get]
      rcases hb with h | h
      · rw [if_pos (by rw [fit.len]; have := hσlt b (by simpa using h); omega), if_pos (.inl h)]
      · rw [if_pos (by rw [fit.len]; exact h.2), if_pos (.inr h.1)])
    (fun b h1 h2 => by
      by_cases h3 : b < hp.length
      · exact fit.oth b h3 (by simpa using h1)
      · rw [List.getD_eq_getElem?_getD, List.getD_eq_getElem?_getD, List.getElem?_eq_none (by rw [fit.len]; omega), List.getElem?_eq_none (by omega)])
  refine ⟨v, _, hp', Im', ι', rfl, hk', (VRel.ren sv v fun b hb => hagree b (fit.res b hb)).2 hres, hF, by rw [fit.len]; omega, fun b hb => hι'old b (by rw [← fit.len]; exact hb), ⟨hll.im, fun b u hb => ?_, hll.mem⟩⟩
  rw [hι'old b fun h => by rw [hnone b h.1 h.2] at hb; cases hb]
  exact hb
end
end Go.Avc
