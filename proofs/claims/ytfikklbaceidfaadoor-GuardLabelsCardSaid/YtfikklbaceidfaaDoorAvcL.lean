/-
  AVC, part L: states, regions, code: the evaluator of code gives a proposition without memory.
-/
import Derived.Test.YtfikklbaceidfaaDoorAvcK
namespace Go.Avc
set_option linter.unusedVariables false
set_option linter.unusedSimpArgs false

/-- What a call gives. -/
inductive CR where
  | bad
  | need (p : Prop) (c : CR)
  | know (p : Prop) (c : CR)
  | ret (sv : SV) (upd : List (Nat × Blk)) (news : List Blk)
  | anyI (f : Int → CR)
  | anyB (f : Bool → CR)
  | anyL (f : List UInt8 → CR)
  | ite (b : Bool) (c1 c2 : CR)
structure Ctx where
  P : Program
  zero : TypeId → Option (List SV)
  glob : Nat → Option SV
  spec : FuncId → List SV → List Blk → CR

def updAll (hp : List Blk) : List (Nat × Blk) → List Blk
  | [] => hp
  | (b, x) :: l => updAll (hp.set b x) l
def CR.wp (hp : List Blk) (K : SV → List Blk → Prop) : CR → Prop
  | .bad => False
  | .need p c => p ∧ c.wp hp K
  | .know p c => p → c.wp hp K
  | .ret sv upd news => K sv (updAll hp upd ++ news)
  | .anyI f => ∀ n, (f n).wp hp K
  | .anyB f => ∀ n, (f n).wp hp K
  | .anyL f => ∀ n, (f n).wp hp K
  | .ite b c1 c2 => bif b then c1.wp hp K else c2.wp hp K


def live : Blk → Bool
  | .cells .. => true
  | .own .. => true
  | _ => false
section
variable (C : Ctx)
/-- What is to be shown behind an operation. -/
def orVC (dst : Option Tmp) (s : AS) (K : AS → Prop) : OR → Prop
  | .bad => False
  | .need p r => p ∧ orVC dst s K r
  | .know p r => p → orVC dst s K r
  | .split b r1 r2 => (b = true → orVC dst s K r1) ∧ (b = false → orVC dst s K r2)
  | .val sv => K (s.put dst sv)
  | .new T cs => K (({ s with hp := s.hp ++ [.cells T cs] } : AS).put dst (.ptr s.hp.length 0))
  | .newRo sv => K (s.put dst sv)
  | .newOwn T e l => K (({ s with hp := s.hp ++ [.own T e l] } : AS).put dst (.own s.hp.length))
  | .upd b blk => live (s.hp.getD b .none) = true ∧ K (({ s with hp := s.hp.set b blk } : AS).put dst .undef)
  | .app b T e l => live (s.hp.getD b .none) = true ∧ K (({ s with hp := s.hp.set b .none ++ [.own T e l] } : AS).put dst (.own s.hp.length))
  | .anyB f => ∀ β, f β → K (s.put dst (.bool β))
  | .call f svs => (C.spec f svs s.hp).wp s.hp fun sv hp' => K (({ s with hp := hp' } : AS).put dst sv)
/-- A guarded operation. -/
def guardVC (all : Array Oper) (o : Oper) (s : AS) (yes no : Prop) : Prop :=
  match o.guard with
  | none => yes
  | some (j, want) => match (all[j]?).bind (·.dst) with
    | some d => (match lget s.tm d with
      | .bool b => (b = want → yes) ∧ (¬ b = want → no)
      | .tup [] => no
      | _ => False)
    | none => no
/-- A guard by its slot's value; the slot is told in both. -/
def onBool (want : Bool) (d : Tmp) (s : AS) (yes no : AS → Prop) : SV → Prop
  | .bool b => (b = want → yes (s.put (some d) (.bool want))) ∧ (b = !want → no (s.put (some d) (.bool (!want))))
  | .tup [] => no s
  | _ => False
def onSlot (want : Bool) (s : AS) (yes no : AS → Prop) : Option Tmp → Prop
  | some d => onBool want d s yes no (lget s.tm d)
  | none => no s
def onGuard (all : Array Oper) (s : AS) (yes no : AS → Prop) : Option (Nat × Bool) → Prop
  | none => yes s
  | some (j, want) => onSlot want s yes no ((all[j]?).bind (·.dst))
def guardS (all : Array Oper) (o : Oper) (s : AS) (yes no : AS → Prop) : Prop := onGuard all s yes no o.guard
def opsVC (all : Array Oper) : List Oper → AS → (AS → Prop) → Prop
  | [], s, K => K s
  | o :: rest, s, K => guardS all o s (fun s => orVC C o.dst s (fun s' => opsVC all rest s' K) (evOp C.P C.zero (s.ev C.glob) s.hp o.op)) (fun s => opsVC all rest (s.put o.dst .undef) K)
end

/-! ### What the abstract state says -/
/-- The call's beginning. -/
structure Ent where
  w : World
  Im : Nat → Prop
  ι : Nat → Option Value
  F : Nat → Prop
structure MR (E : Ent) (Im : Nat → Prop) (ι : Nat → Option Value) (w : World) (hp : List Blk) : Prop where
  imlt : ∀ i, Im i → i < w.heap.size
  imm : ∀ b v r, live (hp.getD b .none) = true → ι b = some v → foot v = some r → ¬ Im r
  sep : ∀ b b' v v' r, live (hp.getD b .none) = true → live (hp.getD b' .none) = true → ι b = some v → ι b' = some v' → foot v = some r → foot v' = some r → b = b'
  mine : ∀ b v r, live (hp.getD b .none) = true → ι b = some v → foot v = some r → E.w.heap.size ≤ r ∨ E.F r
structure Since (E : Ent) (Im : Nat → Prop) (ι : Nat → Option Value) (w : World) : Prop where
  os : w.os = E.w.os
  tape : w.tape = E.w.tape
  output : w.output = E.w.output
  size : E.w.heap.size ≤ w.heap.size
  block : ∀ k, k < E.w.heap.size → ¬ E.F k → w.heap[k]? = E.w.heap[k]?
  hd : ∀ b v, E.ι b = some v → ι b = some v
  im : ∀ i, E.Im i → Im i
  imnew : ∀ i, Im i → E.Im i ∨ E.w.heap.size ≤ i ∨ E.F i
def Globs (C : Ctx) (Im : Nat → Prop) (ι : Nat → Option Value) (w : World) : Prop := ∀ g sv, C.glob g = some sv → VRel Im ι w sv (.pointer (some ⟨g, 0, none⟩))
/-- Memory alone. -/
structure Mem (C : Ctx) (E : Ent) (hp : List Blk) (Im : Nat → Prop) (ι : Nat → Option Value) (w : World) : Prop where
  hv : HV Im ι w hp
  mr : MR E Im ι w hp
  since : Since E Im ι w
  glob : Globs C Im ι w
def Fresh (n : Nat) (ι : Nat → Option Value) : Prop := ∀ b, n ≤ b → ι b = none
/-- The slots. -/
structure Rel (C : Ctx) (E : Ent) (s : AS) (Im : Nat → Prop) (ι : Nat → Option Value) (a : Act) (w : World) : Prop where
  defers : a.defers = []
  size : a.tmps.size = s.tm.length
  tm : ∀ t, VRel Im ι w (lget s.tm t) (a.tmps.getD t undef)
  mem : Mem C E s.hp Im ι w

/-- How a call ends. -/
def CallPost (C : Ctx) (E : Ent) (Im : Nat → Prop) (ι : Nat → Option Value) (w : World) (n : Nat) (K : SV → List Blk → Prop) : Ending → World → Prop := fun e w' =>
  ∃ v sv hp' Im' ι', e = .returned v ∧ K sv hp' ∧ VRel Im' ι' w' sv v ∧ Mem C E hp' Im' ι' w' ∧ n ≤ hp'.length ∧ (∀ b, ¬ (n ≤ b ∧ b < hp'.length) → ι' b = ι b) ∧ Later Im ι w Im' ι' w'
def CallSem (P : Program) (f : FuncId) (vs : Array Value) (w : World) (R : Ending → World → Prop) : Prop :=
  ((callFunc f vs).run P w = .ok (.enter f vs) w ∧ Calls P f vs w R) ∨ ∃ v, (callFunc f vs).run P w = .ok (.value v) w ∧ R (.returned v) w
/-- A function does what is said of it; new memory gets its numbers out of R. -/
def SpecOk (C : Ctx) (f : FuncId) (F : List SV → List Blk → CR) : Prop :=
  ∀ svs hp K (R : Nat → Prop), (F svs hp).wp hp (fun sv hp' => K sv hp' ∧ ∀ b, hp.length ≤ b → b < hp'.length → R b) → ∀ E Im ι w vs, Mem C E hp Im ι w → (∀ b, R b → ι b = none) → VRels Im ι w svs vs →
    CallSem C.P f vs.toArray w (CallPost C E Im ι w hp.length K)
structure Ctx.Ok (C : Ctx) : Prop where
  zero : ZeroOk C.P C.zero
  spec : ∀ f, SpecOk C f (C.spec f)
  mixed : C.P.follows .mixedOrders = true
  globE : ∀ g sv, C.glob g = some sv → ∃ e l i c, sv = .eptr e l i c

section
variable {C : Ctx} {E : Ent} {Im : Nat → Prop} {ι : Nat → Option Value} {w : World}

theorem constSV_rel (v : Value) : VRel Im ι w (constSV v) v := by
  unfold constSV
  split
  · rfl
  · rfl
  · rename_i s
    split
    · rename_i h0
      refine ⟨rfl, ?_⟩
      show s.data.toList.length ≤ maxLen
      rw [Array.length_toList]
      refine Nat.le_trans (show s.data.size ≤ 1000000 from h0) ?_
      decide
    · trivial
  · rfl
  · rfl
  · rfl
  · rfl
theorem lget_lset_same : ∀ (l : List SV) (i : Nat) (x : SV), i < l.length → lget (lset l i x) i = x
  | [], _, _, h => by simp at h
  | _ :: _, 0, _, _ => rfl
  | _ :: l, i + 1, x, h => lget_lset_same l i x (by simpa using h)
theorem lget_lset_other : ∀ (l : List SV) (i j : Nat) (x : SV), i ≠ j → lget (lset l i x) j = lget l j
  | [], _, _, _, _ => rfl
  | _ :: _, 0, 0, _, h => absurd rfl h
  | _ :: _, 0, _ + 1, _, _ => rfl
  | _ :: _, _ + 1, 0, _, _ => rfl
  | _ :: l, i + 1, j + 1, x, h => lget_lset_other l i j x (by omega)
theorem length_lset : ∀ (l : List SV) (i : Nat) (x : SV), (lset l i x).length = l.length
  | [], _, _ => rfl
  | _ :: _, 0, _ => rfl
  | _ :: l, i + 1, x => by simp [lset, length_lset l i x]
theorem lget_out : ∀ (l : List SV) (i : Nat), l.length ≤ i → lget l i = .dead
  | [], _, _ => rfl
  | _ :: _, 0, h => by simp at h
  | _ :: l, i + 1, h => lget_out l i (by simpa using h)
theorem lset_lget : ∀ (l : List SV) (i : Nat), lset l i (lget l i) = l
  | [], _ => rfl
  | _ :: _, 0 => rfl
  | x :: l, i + 1 => by simp [lset, lget, lset_lget l i]
theorem guardS_imp {all : Array Oper} {o : Oper} {s : AS} {yes no : AS → Prop} (h : guardS all o s yes no) : guardVC all o s (yes s) (no s) := by
  unfold guardS at h
  unfold guardVC
  cases hg : o.guard with
  | none => rw [hg] at h; exact h
  | some jw =>
    obtain ⟨j, want⟩ := jw
    rw [hg] at h
    simp only [onGuard] at h
    dsimp only
    cases hd : (all[j]?).bind (·.dst) with
    | none => rw [hd] at h; exact h
    | some d =>
      rw [hd] at h
      simp only [onSlot] at h
      dsimp only
      have hput : ∀ b, lget s.tm d = .bool b → s.put (some d) (.bool b) = s := fun b hb => by
        show (⟨lset s.tm d (.bool b), s.hp⟩ : AS) = s
        rw [← hb, lset_lget]
      generalize hv : lget s.tm d = v at *
      unfold onBool at h
      split at h
      · rename_i b
        have hp := hput b rfl
        refine ⟨fun e => ?_, fun e => ?_⟩
        · subst e
          have := h.1 rfl
          rwa [hp] at this
        · have e' : b = !want := by cases b <;> cases want <;> simp_all
          subst e'
          have := h.2 rfl
          rwa [hp] at this
      · exact h
      · exact h.elim
/-- A slot is written. -/
theorem tm_put {tm : List SV} {a : Act} (hsz : a.tmps.size = tm.length) {w' : World} {Im' : Nat → Prop} {ι' : Nat → Option Value} (htm : ∀ t, VRel Im' ι' w' (lget tm t) (a.tmps.getD t undef)) (d : Nat) {sv : SV} {v : Value} (hv : VRel Im' ι' w' sv v) :
    ∀ t, VRel Im' ι' w' (lget (lset tm d sv) t) ((a.tmps.setIfInBounds d v).getD t undef) := by
  intro t
  by_cases hdt : d = t
  · subst hdt
    by_cases hlt : d < tm.length
    · rw [lget_lset_same _ _ _ hlt]
      simpa [hsz, hlt] using hv
    · rw [lget_out _ _ (by rw [length_lset]; omega)]
      trivial
  · rw [lget_lset_other _ _ _ _ hdt]
    have := htm t
    simpa [Array.getElem?_setIfInBounds_ne hdt] using this

theorem Rel.put {s : AS} {a : Act} {hp : List Blk} {Im' : Nat → Prop} {ι' : Nat → Option Value} {w' : World} (h : Rel C E s Im ι a w) (hl : Later Im ι w Im' ι' w') (hm : Mem C E hp Im' ι' w') (dst : Option Tmp) {sv : SV} {v : Value} (hv : VRel Im' ι' w' sv v) :
    Rel C E (({ s with hp := hp } : AS).put dst sv) Im' ι' (a.put dst v) w' := by
  have htm : ∀ t, VRel Im' ι' w' (lget s.tm t) (a.tmps.getD t undef) := fun t => VRel.mono hl _ _ (h.tm t)
  cases dst with
  | none => exact ⟨h.defers, h.size, htm, hm⟩
  | some d =>
    refine ⟨h.defers, ?_, tm_put h.size htm d hv, hm⟩
    simp [Act.put, AS.put, length_lset, h.size]
theorem Globs.later {Im' : Nat → Prop} {ι' : Nat → Option Value} {w' : World} (h : Globs C Im ι w) (hl : Later Im ι w Im' ι' w') : Globs C Im' ι' w' := fun g sv hg => VRel.mono hl _ _ (h g sv hg)

/-! ### One step of memory -/
theorem BRel.later {Im' : Nat → Prop} {ι' : Nat → Option Value} {w' : World} (hl : Later Im ι w Im' ι' w') {blk : Blk} {v : Value} (hf : ∀ r, live blk = true → foot v = some r → w'.heap[r]? = w.heap[r]?) (h : BRel Im ι w blk v) : BRel Im' ι' w' blk v := by
  cases blk with
  | none => trivial
  | cells T cs =>
    obtain ⟨r, vs, rfl, h2, h3⟩ := h
    exact ⟨r, vs, rfl, (hf r rfl rfl).trans h2, h3.mono hl⟩
  | own T e l =>
    obtain ⟨xs, ⟨h1, h2⟩, h3⟩ := h
    refine ⟨xs, ⟨h1, ?_⟩, h3.mono hl.im hl.mem⟩
    rcases h2 with h2 | ⟨g, cap, cur, rfl, h4, h5, h6, h7⟩
    · exact .inl h2
    · exact .inr ⟨g, cap, cur, rfl, (hf g rfl (by simp [foot]; omega)).trans h4, h5, h6, h7⟩
  | ro e l => exact CRel.mono hl.im hl.mem h
theorem later_grown {w' : World} {row : Option Nat} (hg : w.grownBy w' row) {Im' : Nat → Prop} {ι' : Nat → Option Value} (himlt : ∀ i, Im i → i < w.heap.size) (hrow : ∀ k, row = some k → ¬ Im k) (him : ∀ i, Im i → Im' i) (hι : ∀ b v, ι b = some v → ι' b = some v) : Later Im ι w Im' ι' w' :=
  ⟨him, hι, fun i hi => hg.block i (himlt i hi) (fun h => hrow i h.symm hi)⟩
/-- The world grows; at most block c of the memory turns. -/
theorem Mem.step {hp hp' : List Blk} {Im' : Nat → Prop} {ι' : Nat → Option Value} {w' : World} {row : Option Nat} (c : Nat) (m : Mem C E hp Im ι w) (hg : w.grownBy w' row)
    (hrow : ∀ k, row = some k → ∃ b v, ι b = some v ∧ live (hp.getD b .none) = true ∧ foot v = some k ∧ (b = c ∨ hp'.getD b .none = .none))
    (him : ∀ i, Im i → Im' i) (him' : ∀ i, Im' i → Im i ∨ (w.heap.size ≤ i ∧ i < w'.heap.size)) (hι : ∀ b v, ι b = some v → ι' b = some v)
    (hoth : ∀ b, b ≠ c → ι' b = ι b ∧ (hp'.getD b .none = hp.getD b .none ∨ hp'.getD b .none = .none))
    (hc : ∀ v, ι' c = some v → BRel Im' ι' w' (hp'.getD c .none) v ∧ ∀ k, live (hp'.getD c .none) = true → foot v = some k → row = some k ∨ (w.heap.size ≤ k ∧ ¬ Im' k)) :
    Mem C E hp' Im' ι' w' ∧ Later Im ι w Im' ι' w' := by
  have hnim : ∀ k, row = some k → ¬ Im k := fun k hk => by
    obtain ⟨b, v, h1, h2, h3, _⟩ := hrow k hk
    exact m.mr.imm b v k h2 h1 h3
  have hl : Later Im ι w Im' ι' w' := later_grown hg m.mr.imlt hnim him hι
  have hrlt : ∀ b v k, live (hp.getD b .none) = true → ι b = some v → foot v = some k → k < w.heap.size := fun b v k h1 h2 h3 => by
    have hb := m.hv b v h2
    cases hblk : hp.getD b .none with
    | none => rw [hblk] at h1; cases h1
    | ro e l => rw [hblk] at h1; cases h1
    | cells T cs =>
      rw [hblk] at hb
      obtain ⟨r, vs, rfl, h4, _⟩ := hb
      cases h3
      exact (Array.getElem?_eq_some_iff.1 h4).1
    | own T e l =>
      rw [hblk] at hb
      obtain ⟨xs, ⟨_, h2⟩, _⟩ := hb
      rcases h2 with ⟨a, rfl, _⟩ | ⟨g, cap, cur, rfl, h4, _, h6, _⟩
      · exfalso
        revert h3
        cases a <;> simp [foot]
      · simp [foot] at h3
        obtain ⟨_, rfl⟩ := h3
        exact (Array.getElem?_eq_some_iff.1 h4).1
  have hrowlt : ∀ k, row = some k → k < w.heap.size := fun k hk => by
    obtain ⟨b, v, h1, h2, h3, _⟩ := hrow k hk
    exact hrlt b v k h2 h1 h3
  -- an unturned live block
  have hold : ∀ b v, b ≠ c → live (hp'.getD b .none) = true → ι' b = some v → hp'.getD b .none = hp.getD b .none ∧ ι b = some v ∧ ∀ k, foot v = some k → row ≠ some k := fun b v hb h1 h2 => by
    obtain ⟨h3, h4⟩ := hoth b hb
    rw [h3] at h2
    rcases h4 with h4 | h4
    · refine ⟨h4, h2, fun k hk hk' => ?_⟩
      obtain ⟨b0, v0, h5, h6, h7, h8⟩ := hrow k hk'
      have := m.mr.sep b b0 v v0 k (h4 ▸ h1) h6 h2 h5 hk h7
      subst this
      rcases h8 with h8 | h8
      · exact hb h8
      · rw [h8] at h1; cases h1
    · rw [h4] at h1; cases h1
  have hrolt : ∀ i, Im' i → ¬ Im i → w.heap.size ≤ i := fun i h1 h2 => ((him' i h1).resolve_left h2).1
  -- a block's foot, turned or not
  have hfoot : ∀ b v k, live (hp'.getD b .none) = true → ι' b = some v → foot v = some k → ¬ Im' k ∧ (E.w.heap.size ≤ k ∨ E.F k) := fun b v k h1 h2 h3 => by
    by_cases hb : b = c
    · subst hb
      rcases (hc v h2).2 k h1 h3 with h4 | ⟨h4, h5⟩
      · obtain ⟨b0, v0, h5, h6, h7, _⟩ := hrow k h4
        refine ⟨fun hk => ?_, m.mr.mine b0 v0 k h6 h5 h7⟩
        have := hrolt k hk (hnim k h4)
        have := hrowlt k h4
        omega
      · exact ⟨h5, .inl (Nat.le_trans m.since.size h4)⟩
    · obtain ⟨h4, h5, h6⟩ := hold b v hb h1 h2
      rw [h4] at h1
      refine ⟨fun hk => ?_, m.mr.mine b v k h1 h5 h3⟩
      have := hrolt k hk (m.mr.imm b v k h1 h5 h3)
      have := hrlt b v k h1 h5 h3
      omega
  refine ⟨⟨?_, ⟨?_, fun b v r h1 h2 h3 => (hfoot b v r h1 h2 h3).1, ?_, fun b v r h1 h2 h3 => (hfoot b v r h1 h2 h3).2⟩, ⟨hg.os.trans m.since.os, hg.tape.trans m.since.tape, hg.output.trans m.since.output, Nat.le_trans m.since.size hg.size, ?_, fun b v h => hι b v (m.since.hd b v h), fun i h => him i (m.since.im i h), fun i h => ?_⟩, m.glob.later hl⟩, hl⟩
  · intro b v hb
    by_cases hbc : b = c
    · subst hbc
      exact (hc v hb).1
    · obtain ⟨h3, h4⟩ := hoth b hbc
      rcases h4 with h4 | h4
      · rw [h4]
        rw [h3] at hb
        refine BRel.later hl (fun r hr hf => ?_) (m.hv b v hb)
        exact hg.block r (hrlt b v r hr hb hf) (fun e => (hold b v hbc (h4.symm ▸ hr) (h3.trans hb)).2.2 r hf e.symm)
      · rw [h4]; trivial
  · intro i hi
    rcases him' i hi with h | h
    · exact Nat.lt_of_lt_of_le (m.mr.imlt i h) hg.size
    · exact h.2
  · intro b b' v v' r h1 h2 h3 h4 h5 h6
    by_cases hb : b = c
    · by_cases hb' : b' = c
      · rw [hb, hb']
      · subst hb
        obtain ⟨h7, h8, h9⟩ := hold b' v' hb' h2 h4
        rcases (hc v h3).2 r h1 h5 with h10 | ⟨h10, _⟩
        · exact absurd h10 (h9 r h6)
        · have := hrlt b' v' r (h7 ▸ h2) h8 h6
          omega
    · by_cases hb' : b' = c
      · subst hb'
        obtain ⟨h7, h8, h9⟩ := hold b v hb h1 h3
        rcases (hc v' h4).2 r h2 h6 with h10 | ⟨h10, _⟩
        · exact absurd h10 (h9 r h5)
        · have := hrlt b v r (h7 ▸ h1) h8 h5
          omega
      · obtain ⟨h7, h8, _⟩ := hold b v hb h1 h3
        obtain ⟨h9, h10, _⟩ := hold b' v' hb' h2 h4
        exact m.mr.sep b b' v v' r (h7 ▸ h1) (h9 ▸ h2) h8 h10 h5 h6
  · intro k hk hF
    refine (hg.block k (Nat.lt_of_lt_of_le hk m.since.size) fun e => ?_).trans (m.since.block k hk hF)
    obtain ⟨b, v, h1, h2, h3, _⟩ := hrow k e.symm
    rcases m.mr.mine b v k h2 h1 h3 with h | h
    · omega
    · exact hF h
  · rcases him' i h with h | h
    · exact m.since.imnew i h
    · exact .inr (.inl (Nat.le_trans m.since.size h.1))
end
end Go.Avc
