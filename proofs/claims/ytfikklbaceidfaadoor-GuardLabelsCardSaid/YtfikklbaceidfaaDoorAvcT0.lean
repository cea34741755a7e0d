/-
  AVC, part T0: tables of zero values; contexts that grow by contracts.
-/
import Derived.Test.YtfikklbaceidfaaDoorAvcZS
namespace Go.Avc
set_option linter.unusedVariables false
set_option linter.unusedSimpArgs false

def takeI (k : IntKind) : List Int → List Value → Option (List Value)
  | [], vs => some vs
  | n :: l, .int k' n' :: vs => if k' = k then (if n' = n then takeI k l vs else none) else none
  | _, _ => none
def takeB : List Bool → List Value → Option (List Value)
  | [], vs => some vs
  | b :: l, .bool b' :: vs => if b' = b then takeB l vs else none
  | _, _ => none
def zone : SV → Value → Bool
  | .int k n, .int k' n' => decide (k' = k) && decide (n' = n)
  | .bool b, .bool b' => decide (b' = b)
  | .str [], .string s => decide (s.data.toList = [])
  | .nilp, .pointer none => true
  | .nils, .slice none 0 0 => true
  | .nili, .nilIface => true
  | _, _ => false
def zchk : List SV → List Value → Bool
  | [], vs => (match vs with | [] => true | _ => false)
  | .arrI n k l :: cs, vs => decide (l.length = n) && (match takeI k l vs with | some vs => zchk cs vs | none => false)
  | .arrB n l :: cs, vs => decide (l.length = n) && (match takeB l vs with | some vs => zchk cs vs | none => false)
  | s :: cs, vs => (match vs with | v :: vs => zone s v && zchk cs vs | [] => false)
theorem takeI_eq {k : IntKind} : ∀ {l : List Int} {vs vs' : List Value}, takeI k l vs = some vs' → vs = l.map (Value.int k) ++ vs'
  | [], vs, vs', h => by cases h; rfl
  | n :: l, vs, vs', h => by
    cases vs with
    | nil => cases h
    | cons v vs =>
      cases v <;> simp only [takeI] at h <;> try cases h
      split at h
      · split at h
        · rename_i h1 h2
          subst h1; subst h2
          rw [takeI_eq h]; rfl
        · cases h
      · cases h
theorem takeB_eq : ∀ {l : List Bool} {vs vs' : List Value}, takeB l vs = some vs' → vs = l.map Value.bool ++ vs'
  | [], vs, vs', h => by cases h; rfl
  | n :: l, vs, vs', h => by
    cases vs with
    | nil => cases h
    | cons v vs =>
      cases v <;> simp only [takeB] at h <;> try cases h
      split at h
      · rename_i h1
        subst h1
        rw [takeB_eq h]; rfl
      · cases h
theorem zone_rel {s : SV} {v : Value} (h : zone s v = true) (Im : Nat → Prop) (ι : Nat → Option Value) (w : World) : CellsRel Im ι w [s] [v] := by
  unfold zone at h
  split at h
  · simp only [Bool.and_eq_true, decide_eq_true_eq] at h
    obtain ⟨rfl, rfl⟩ := h
    exact cellsRel_one rfl rfl
  · simp only [decide_eq_true_eq] at h
    subst h
    exact cellsRel_one rfl rfl
  · rename_i s
    simp only [decide_eq_true_eq] at h
    obtain ⟨⟨l⟩⟩ := s
    have : l = [] := h
    subst this
    exact cellsRel_one rfl ⟨rfl, Nat.zero_le _⟩
  · exact cellsRel_one rfl rfl
  · exact cellsRel_one rfl rfl
  · exact cellsRel_one rfl rfl
  · cases h
theorem zchk_rel : ∀ {cs : List SV} {vs : List Value}, zchk cs vs = true → ∀ (Im : Nat → Prop) (ι : Nat → Option Value) (w : World), CellsRel Im ι w cs vs
  | [], vs, h, Im, ι, w => by
    cases vs with
    | nil => rfl
    | cons => cases h
  | s :: cs, vs, h, Im, ι, w => by
    have gen : ∀ v vs', vs = v :: vs' → (zone s v && zchk cs vs') = true → CellsRel Im ι w (s :: cs) vs := fun v vs' e k => by
      subst e
      rw [Bool.and_eq_true] at k
      exact cellsRel_cons_mk (zone_rel k.1 Im ι w) (zchk_rel k.2 Im ι w)
    cases s with
    | arrI n k l =>
      simp only [zchk, Bool.and_eq_true, decide_eq_true_eq] at h
      obtain ⟨h1, h2⟩ := h
      split at h2
      · rename_i vs' ht
        rw [takeI_eq ht]
        exact cellsRel_arrI_mk h1 (zchk_rel h2 Im ι w)
      · cases h2
    | arrB n l =>
      simp only [zchk, Bool.and_eq_true, decide_eq_true_eq] at h
      obtain ⟨h1, h2⟩ := h
      split at h2
      · rename_i vs' ht
        rw [takeB_eq ht]
        exact cellsRel_arrB_mk h1 (zchk_rel h2 Im ι w)
      · cases h2
    | _ =>
      cases vs with
      | nil => cases h
      | cons v vs => exact gen v vs rfl h
def zlook : List (TypeId × List SV) → TypeId → Option (List SV)
  | [], _ => none
  | (t, cs) :: l, T => bif Nat.beq t T then some cs else zlook l T
def ztab (P : Program) : List (TypeId × List SV) → Bool
  | [] => true
  | (t, cs) :: l => (match P.info? t with
    | some i => (match i.zero with
      | some z => decide (z.cells.size = i.size) && zchk cs z.cells.toList
      | none => false)
    | none => false) && ztab P l
theorem ztab_ok {P : Program} : ∀ {l : List (TypeId × List SV)}, ztab P l = true → ZeroOk P (zlook l)
  | [], _ => fun T cs h => by cases h
  | (t, cs) :: l, h => by
    simp only [ztab, Bool.and_eq_true] at h
    intro T cs' hT
    simp only [zlook] at hT
    cases hb : Nat.beq t T with
    | true =>
      rw [hb] at hT
      cases hT
      cases beq_true.1 hb
      have h1 := h.1
      split at h1
      · rename_i i hi
        split at h1
        · rename_i z hz
          simp only [Bool.and_eq_true, decide_eq_true_eq] at h1
          exact ⟨i, z, hi, hz, h1.1, fun Im ι w => zchk_rel h1.2 Im ι w⟩
        · cases h1
      · cases h1
    | false => rw [hb] at hT; exact ztab_ok h.2 T cs' hT

/-! ### Contexts -/
abbrev SpecT := FuncId → List SV → List Blk → CR
def spec0 : SpecT := fun _ _ _ => .bad
def addS (sp : SpecT) (n : Nat) (F : List SV → List Blk → CR) : SpecT := fun f svs hp => bif Nat.beq n f then F svs hp else sp f svs hp
def Ctx.with (C : Ctx) (sp : SpecT) : Ctx := { C with spec := sp }
theorem mem_with {C : Ctx} {sp sp' : SpecT} {E : Ent} {hp : List Blk} {Im : Nat → Prop} {ι : Nat → Option Value} {w : World} (h : Mem (C.with sp) E hp Im ι w) : Mem (C.with sp') E hp Im ι w := ⟨h.hv, h.mr, h.since, h.glob⟩
theorem specOk_with {C : Ctx} {sp sp' : SpecT} {f : FuncId} {F : List SV → List Blk → CR} (h : SpecOk (C.with sp) f F) : SpecOk (C.with sp') f F := fun svs hp K R hw E Im ι w vs hm hR hv =>
  CallSem.mono (h svs hp K R hw E Im ι w vs (mem_with hm) hR hv) fun e w' ⟨v, sv, hp', Im', ι', h1, h2, h3, h4, h5, h6, h7⟩ => ⟨v, sv, hp', Im', ι', h1, h2, h3, mem_with h4, h5, h6, h7⟩
theorem spec0_ok {C : Ctx} (f : FuncId) : SpecOk C f (spec0 f) := fun svs hp K R hw => hw.elim
theorem addS_ok {C : Ctx} {sp : SpecT} (h : (C.with sp).Ok) {n : Nat} {F : List SV → List Blk → CR} (hn : SpecOk (C.with sp) n F) : (C.with (addS sp n F)).Ok := by
  refine ⟨h.zero, fun f => ?_, h.mixed, h.globE⟩
  cases hb : Nat.beq n f with
  | true =>
    cases beq_true.1 hb
    have e : (C.with (addS sp n F)).spec n = F := by
      funext svs hp
      show (bif Nat.beq n n then F svs hp else sp n svs hp) = _
      rw [hb]; rfl
    rw [e]
    exact specOk_with hn
  | false =>
    have e : (C.with (addS sp n F)).spec f = sp f := by
      funext svs hp
      show (bif Nat.beq n f then F svs hp else sp f svs hp) = _
      rw [hb]; rfl
    rw [e]
    exact specOk_with (h.spec f)
end Go.Avc
