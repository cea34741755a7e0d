/-
  AVC, part O: regions whose order isn't given: the trace in the text's order, and each operation by itself.
-/
import Derived.Test.YtfikklbaceidfaaDoorAvcM
namespace Go.Avc
set_option linter.unusedVariables false
set_option linter.unusedSimpArgs false

/-! ### What an operation looks at -/
def SV.h1 : SV → List Nat
  | .ptr b _ => [b]
  | .aptr b _ _ => [b]
  | .own b => [b]
  | .win b _ _ _ _ => [b]
  | .optr b _ _ _ => [b]
  | _ => []
mutual
def SV.hs : SV → List Nat
  | .agg cs => hsL cs
  | .fn _ cs => hsL cs
  | .tup cs => hsL cs
  | .sls cs => hsL cs
  | .iface _ v => v.hs
  | s => s.h1
def hsL : List SV → List Nat
  | [] => []
  | s :: cs => s.hs ++ hsL cs
end
def Blk.hs : Blk → List Nat
  | .cells _ cs => hsL cs
  | _ => []
def reachH (hp : List Blk) : Nat → List Nat → List Nat
  | 0, l => l
  | n + 1, l => match (l.flatMap fun b => (hp.getD b .none).hs) with | [] => l | m => l ++ reachH hp n m
def accs (glob : Nat → Option SV) (s : AS) : Op → List Nat
  | .load _ a => (s.ev glob a).h1
  | .store _ a _ => (s.ev glob a).h1
  | .indexAddr _ x _ => (s.ev glob x).h1
  | .slice _ x _ _ _ => (s.ev glob x).h1
  | .convert _ _ x => (s.ev glob x).h1
  | .sliceToArrayPointer _ x => (s.ev glob x).h1
  | .call c => (match c.callee with
    | .builtin _ => c.args.toList.flatMap fun x => (s.ev glob x).h1
    | .value f => reachH s.hp 3 ((s.ev glob f).hs ++ c.args.toList.flatMap fun x => (s.ev glob x).hs)
    | .invoke r _ => reachH s.hp 3 ((s.ev glob r).hs ++ c.args.toList.flatMap fun x => (s.ev glob x).hs))
  | _ => []
def maskH (A : List Nat) : Nat → List Blk → List Blk
  | _, [] => []
  | i, x :: xs => (if A.contains i then x else .none) :: maskH A (i + 1) xs

/-! ### What an operation does -/
structure Eff where
  dst : Option Tmp
  sv : SV
  acc : List Nat
  upd : List (Nat × Blk)
  base : Nat
  news : List Blk
def updW : List (Nat × Blk) → Nat → Option Blk
  | [], _ => none
  | (b, x) :: l, i => match updW l i with | some y => some y | none => if b = i then some x else none
def Eff.hpW (e : Eff) (b : Nat) : Option Blk := if e.base ≤ b then e.news[b - e.base]? else updW e.upd b
def rangeFrom : Nat → List Blk → List Nat
  | _, [] => []
  | n, _ :: l => n :: rangeFrom (n + 1) l
/-- What it looks at, and what it turns. -/
def Eff.key (e : Eff) : List Nat × List Nat := (e.acc, e.upd.map (·.1) ++ rangeFrom e.base e.news)
def Eff.tmW (e : Eff) (n : Nat) (t : Nat) : Option SV := if e.dst = some t then (if t < n then some e.sv else none) else none
def AS.app (s : AS) (e : Eff) : AS := (⟨s.tm, updAll s.hp e.upd ++ e.news⟩ : AS).put e.dst e.sv

section
variable (C : Ctx)
def keysIn (A : List Nat) (n : Nat) : List (Nat × Blk) → Bool
  | [] => true
  | (b, _) :: l => A.contains b && decide (b < n) && keysIn A n l
def CR.dr (A : List Nat) (n : Nat) (K : SV → List (Nat × Blk) → List Blk → Prop) : CR → Prop
  | .need p c => p ∧ c.dr A n K
  | .know _ c => c.dr A n K
  | .ret sv upd news => keysIn A n upd = true ∧ K sv upd news
  | .ite b c1 c2 => bif b then c1.dr A n K else c2.dr A n K
  | _ => False
def drOR (o : Oper) (A : List Nat) (s : AS) (K : Eff → Prop) : OR → Prop
  | .bad => False
  | .need p r => p ∧ drOR o A s K r
  | .know _ r => drOR o A s K r
  | .split b r1 r2 => (b = true → drOR o A s K r1) ∧ (b = false → drOR o A s K r2)
  | .val sv => K ⟨o.dst, sv, A, [], s.hp.length, []⟩
  | .new T cs => K ⟨o.dst, .ptr s.hp.length 0, A, [], s.hp.length, [.cells T cs]⟩
  | .newRo sv => K ⟨o.dst, sv, A, [], s.hp.length, []⟩
  | .newOwn T e l => K ⟨o.dst, .own s.hp.length, A, [], s.hp.length, [.own T e l]⟩
  | .upd b blk => live ((maskH A 0 s.hp).getD b .none) = true ∧ K ⟨o.dst, .undef, A, [(b, blk)], s.hp.length, []⟩
  | .app b T e l => live ((maskH A 0 s.hp).getD b .none) = true ∧ K ⟨o.dst, .own s.hp.length, A, [(b, .none)], s.hp.length, [.own T e l]⟩
  | .anyB _ => False
  | .call f svs => (C.spec f svs (maskH A 0 s.hp)).dr A s.hp.length fun sv upd news => K ⟨o.dst, sv, A, upd, s.hp.length, news⟩
def drGo (all : Array Oper) : List Oper → AS → List (List Nat × List Nat) → (AS → List (List Nat × List Nat) → Prop) → Prop
  | [], s, es, K => K s es
  | o :: rest, s, es, K =>
    guardS all o s
      (fun s => drOR C o (accs C.glob s o.op) s (fun e => drGo all rest (s.app e) (es ++ [e.key]) K) (evOp C.P C.zero (s.ev C.glob) (maskH (accs C.glob s o.op) 0 s.hp) o.op))
      (fun s => drGo all rest (s.put o.dst .undef) (es ++ [([], [])]) K)
end

/-! ### Orders -/
def ancs : List Oper → List Nat → List Nat
  | [], m => m
  | o :: rest, m => ancs rest (m ++ [o.after.toList.foldl (fun acc e => if Region.binds .any e then acc ||| (1 <<< e.on) ||| m.getD e.on 0 else acc) 0])
def clash (all : Array Oper) (oi oj : Oper) (ki kj : List Nat × List Nat) : Bool :=
  (match oi.dst with | some d => (oj.looksAt all).contains d || oj.dst == some d | none => false) ||
  (match oj.dst with | some d => (oi.looksAt all).contains d | none => false) ||
  ki.2.any (fun b => kj.1.contains b || kj.2.contains b) || kj.2.any (fun b => ki.1.contains b)
def pairsOk (all : Array Oper) (m : List Nat) (es : List (List Nat × List Nat)) : Bool :=
  (List.range all.size).all fun j => (List.range j).all fun i =>
    match all[i]?, all[j]?, es[i]?, es[j]? with
    | some oi, some oj, some ki, some kj => !clash all oi oj ki kj || (m.getD j 0).testBit i
    | _, _, _, _ => true
def edgesDown (all : Array Oper) : Bool := (List.range all.size).all fun j => match all[j]? with | some o => o.after.toList.all fun e => !Region.binds .any e || decide (e.on < j) | none => true
def confOk (all : Array Oper) (es : List (List Nat × List Nat)) : Bool := edgesDown all && pairsOk all (ancs all.toList []) es
/-- A region whose order isn't given. -/
def drawVC (C : Ctx) (all : Array Oper) (s : AS) (K : AS → Prop) : Prop := drGo C all all.toList s [] fun s' es => confOk all es = true ∧ K s'

/-! ### Lemmas -/
theorem length_maskH (A : List Nat) : ∀ (hp : List Blk) (i : Nat), (maskH A i hp).length = hp.length
  | [], _ => rfl
  | x :: xs, i => by simp [maskH, length_maskH A xs (i + 1)]
theorem maskH_getD (A : List Nat) : ∀ (hp : List Blk) (i b : Nat), (maskH A i hp).getD b .none = if A.contains (i + b) then hp.getD b .none else .none
  | [], i, b => by simp [maskH]
  | x :: xs, i, 0 => by simp [maskH]
  | x :: xs, i, b + 1 => by
    have := maskH_getD A xs (i + 1) b
    simp only [maskH, List.getD_cons_succ]
    rw [this, show i + 1 + b = i + (b + 1) from by omega]
theorem length_updAll : ∀ (l : List (Nat × Blk)) (hp : List Blk), (updAll hp l).length = hp.length
  | [], _ => rfl
  | (b, x) :: l, hp => by simp [updAll, length_updAll l]
theorem updAll_getD : ∀ (l : List (Nat × Blk)) (hp : List Blk) (i : Nat), i < hp.length → (updAll hp l).getD i .none = (updW l i).getD (hp.getD i .none)
  | [], _, _, _ => rfl
  | (b, x) :: l, hp, i, h => by
    simp only [updAll]
    rw [updAll_getD l _ i (by simpa using h), show updW ((b, x) :: l) i = (match updW l i with | some y => some y | none => if b = i then some x else none) from rfl]
    cases hu : updW l i with
    | some y => rfl
    | none =>
      by_cases hb : b = i
      · subst hb
        simp only [Option.getD_none, if_true, Option.getD_some]
        exact getD_set_same' _ _ h
      · simp only [Option.getD_none, if_neg hb]
        exact getD_set_ne' _ _ (Ne.symm hb)
theorem updW_keys {A : List Nat} {n : Nat} : ∀ {l : List (Nat × Blk)} {i : Nat}, keysIn A n l = true → updW l i ≠ none → A.contains i = true ∧ i < n
  | [], i, _, h => absurd rfl h
  | (b, x) :: l, i, hk, h => by
    simp only [keysIn, Bool.and_eq_true, decide_eq_true_eq] at hk
    unfold updW at h
    cases hu : updW l i with
    | some y => exact updW_keys hk.2 (by rw [hu]; simp)
    | none =>
      rw [hu] at h
      by_cases hb : b = i
      · subst hb; exact hk.1
      · simp [hb] at h
theorem app_getD (hp : List Blk) (upd : List (Nat × Blk)) (news : List Blk) (b : Nat) :
    (updAll hp upd ++ news).getD b .none = ((if hp.length ≤ b then news[b - hp.length]? else updW upd b)).getD (hp.getD b .none) := by
  have hl := length_updAll upd hp
  by_cases hb : hp.length ≤ b
  · rw [if_pos hb]
    have e0 : hp.getD b .none = .none := by rw [List.getD_eq_getElem?_getD, List.getElem?_eq_none hb]; rfl
    rw [e0, List.getD_eq_getElem?_getD, List.getElem?_append_right (by omega), hl]
  · rw [if_neg hb]
    have e1 : (updAll hp upd ++ news).getD b .none = (updAll hp upd).getD b .none := by
      rw [List.getD_eq_getElem?_getD, List.getD_eq_getElem?_getD, List.getElem?_append_left (by omega)]
    rw [e1, updAll_getD _ _ _ (by omega)]

section
variable {C : Ctx} {E : Ent}
theorem HV.mask {Im : Nat → Prop} {ι : Nat → Option Value} {w : World} {hp hpS : List Blk} {A : List Nat} (h : HV Im ι w hpS) (he : ∀ b, A.contains b = true → hpS.getD b .none = hp.getD b .none) : HV Im ι w (maskH A 0 hp) := by
  intro b v hb
  rw [maskH_getD, Nat.zero_add]
  split
  · rename_i hA
    rw [← he b hA]
    exact h b v hb
  · trivial
theorem CR.dr_wp {A : List Nat} {n : Nat} {hp : List Blk} {K : SV → List (Nat × Blk) → List Blk → Prop} : ∀ c : CR, c.dr A n K → ∃ sv upd news, keysIn A n upd = true ∧ K sv upd news ∧ c.wp hp fun sv' hp' => sv' = sv ∧ hp' = updAll hp upd ++ news
  | .bad, h => h.elim
  | .need p c, h => by
    obtain ⟨sv, upd, news, h1, h2, h3⟩ := CR.dr_wp (hp := hp) c h.2
    exact ⟨sv, upd, news, h1, h2, h.1, h3⟩
  | .know p c, h => by
    obtain ⟨sv, upd, news, h1, h2, h3⟩ := CR.dr_wp (hp := hp) c h
    exact ⟨sv, upd, news, h1, h2, fun _ => h3⟩
  | .ret sv upd news, h => ⟨sv, upd, news, h.1, h.2, rfl, rfl⟩
  | .anyI f, h => h.elim
  | .anyB f, h => h.elim
  | .anyL f, h => h.elim
  | .ite true c1 c2, h => CR.dr_wp c1 h
  | .ite false c1 c2, h => CR.dr_wp c2 h

/-- A call on a part of the memory leaves the others as they are. -/
theorem Mem.frame {hpS hpM hpX hpF : List Blk} {Im Im' : Nat → Prop} {ι ι' : Nat → Option Value} {w w' : World} {A : List Nat} {n k : Nat} (m : Mem C E hpS Im ι w)
    (hM : ∀ b, hpM.getD b .none = if A.contains b then hpS.getD b .none else .none)
    (hX : Mem C ⟨w, Im, ι, fun r => ∃ b v, A.contains b = true ∧ ι b = some v ∧ live (hpM.getD b .none) = true ∧ foot v = some r⟩ hpX Im' ι' w')
    (hι : ∀ b, ¬ (n ≤ b ∧ b < n + k) → ι' b = ι b) (hn : ∀ b, n ≤ b → b < n + k → ι b = none)
    (hF1 : ∀ b, (A.contains b = true ∨ (n ≤ b ∧ b < n + k)) → hpF.getD b .none = hpX.getD b .none)
    (hF2 : ∀ b, A.contains b = false → ¬ (n ≤ b ∧ b < n + k) → hpF.getD b .none = hpS.getD b .none) :
    Mem C E hpF Im' ι' w' := by
  have hl : Later Im ι w Im' ι' w' := ⟨hX.since.im, hX.since.hd, fun i hi => hX.since.block i (m.mr.imlt i hi) fun ⟨b, v, h1, h2, h3, h4⟩ => by
    rw [hM, if_pos h1] at h3
    exact m.mr.imm b v i h3 h2 h4 hi⟩
  have hlt : ∀ b v r, live (hpS.getD b .none) = true → ι b = some v → foot v = some r → r < w.heap.size := fun b v r h1 h2 h3 => by
    have hb := m.hv b v h2
    cases hblk : hpS.getD b .none with
    | none => rw [hblk] at h1; cases h1
    | ro e l => rw [hblk] at h1; cases h1
    | cells T cs =>
      rw [hblk] at hb
      obtain ⟨r', vs, rfl, h4, _⟩ := hb
      cases h3
      exact (Array.getElem?_eq_some_iff.1 h4).1
    | own T e l =>
      rw [hblk] at hb
      obtain ⟨xs, ⟨_, h2⟩, _⟩ := hb
      rcases h2 with ⟨a, rfl, _⟩ | ⟨g, cap, cur, rfl, h4, _, h6, _⟩
      · exfalso
        revert h3
        cases a <;> simp [foot]
      · simp [foot] at h3
        obtain ⟨_, rfl⟩ := h3
        exact (Array.getElem?_eq_some_iff.1 h4).1
  -- blocks that aren't handed over
  have hout : ∀ b v, A.contains b = false → ¬ (n ≤ b ∧ b < n + k) → ι' b = some v → ι b = some v := fun b v _ h2 h3 => by rw [← hι b h2]; exact h3
  have hnot : ∀ b v r, A.contains b = false → ι b = some v → live (hpS.getD b .none) = true → foot v = some r → ¬ ∃ b v, A.contains b = true ∧ ι b = some v ∧ live (hpM.getD b .none) = true ∧ foot v = some r := by
    rintro b v r h1 h2 h3 h4 ⟨b', v', h5, h6, h7, h8⟩
    rw [hM, if_pos h5] at h7
    have := m.mr.sep b b' v v' r h3 h7 h2 h6 h4 h8
    subst this
    rw [h1] at h5; cases h5
  have hpast : ∀ r, (∃ b v, A.contains b = true ∧ ι b = some v ∧ live (hpM.getD b .none) = true ∧ foot v = some r) → E.w.heap.size ≤ r ∨ E.F r := by
    rintro r ⟨b', v', h5, h6, h7, h8⟩
    rw [hM, if_pos h5] at h7
    exact m.mr.mine b' v' r h7 h6 h8
  have hcase : ∀ b, (A.contains b = true ∨ (n ≤ b ∧ b < n + k)) ∨ (A.contains b = false ∧ ¬ (n ≤ b ∧ b < n + k)) := fun b => by
    by_cases h : n ≤ b ∧ b < n + k
    · exact .inl (.inr h)
    · cases hA : A.contains b
      · exact .inr ⟨rfl, h⟩
      · exact .inl (.inl rfl)
  refine ⟨?_, ⟨hX.mr.imlt, ?_, ?_, ?_⟩, ⟨hX.since.os.trans m.since.os, hX.since.tape.trans m.since.tape, hX.since.output.trans m.since.output, Nat.le_trans m.since.size hX.since.size, ?_, fun b v h => hX.since.hd b v (m.since.hd b v h), fun i h => hX.since.im i (m.since.im i h), ?_⟩, hX.glob⟩
  · intro b v hb
    rcases hcase b with h | ⟨h1, h2⟩
    · rw [hF1 b h]; exact hX.hv b v hb
    · rw [hF2 b h1 h2]
      have hb' := hout b v h1 h2 hb
      exact BRel.later hl (fun r hr hf => hX.since.block r (hlt b v r hr hb' hf) (hnot b v r h1 hb' hr hf)) (m.hv b v hb')
  · intro b v r h1 h2 h3
    rcases hcase b with h | ⟨h4, h5⟩
    · rw [hF1 b h] at h1; exact hX.mr.imm b v r h1 h2 h3
    · rw [hF2 b h4 h5] at h1
      have hb' := hout b v h4 h5 h2
      intro hI
      rcases hX.since.imnew r hI with h | h | h
      · exact m.mr.imm b v r h1 hb' h3 h
      · have := hlt b v r h1 hb' h3
        exact absurd h (by simpa using this)
      · exact hnot b v r h4 hb' h1 h3 h
  · intro b b' v v' r h1 h2 h3 h4 h5 h6
    have hmix : ∀ b b' v v', live (hpX.getD b .none) = true → ι' b = some v → foot v = some r → A.contains b' = false → ¬ (n ≤ b' ∧ b' < n + k) → live (hpS.getD b' .none) = true → ι' b' = some v' → foot v' = some r → False := fun b b' v v' g1 g2 g3 g4 g5 g6 g7 g8 => by
      have g9 := hout b' v' g4 g5 g7
      rcases hX.mr.mine b v r g1 g2 g3 with g | g
      · have := hlt b' v' r g6 g9 g8
        exact absurd g (by simpa using this)
      · exact hnot b' v' r g4 g9 g6 g8 g
    rcases hcase b with h | ⟨g1, g2⟩
    · rw [hF1 b h] at h1
      rcases hcase b' with h' | ⟨g3, g4⟩
      · rw [hF1 b' h'] at h2
        exact hX.mr.sep b b' v v' r h1 h2 h3 h4 h5 h6
      · rw [hF2 b' g3 g4] at h2
        exact (hmix b b' v v' h1 h3 h5 g3 g4 h2 h4 h6).elim
    · rw [hF2 b g1 g2] at h1
      rcases hcase b' with h' | ⟨g3, g4⟩
      · rw [hF1 b' h'] at h2
        exact (hmix b' b v' v h2 h4 h6 g1 g2 h1 h3 h5).elim
      · rw [hF2 b' g3 g4] at h2
        exact m.mr.sep b b' v v' r h1 h2 (hout b v g1 g2 h3) (hout b' v' g3 g4 h4) h5 h6
  · intro b v r h1 h2 h3
    rcases hcase b with h | ⟨h4, h5⟩
    · rw [hF1 b h] at h1
      rcases hX.mr.mine b v r h1 h2 h3 with g | g
      · exact .inl (Nat.le_trans m.since.size g)
      · exact hpast r g
    · rw [hF2 b h4 h5] at h1
      exact m.mr.mine b v r h1 (hout b v h4 h5 h2) h3
  · intro i hi hF
    refine (hX.since.block i (Nat.lt_of_lt_of_le hi m.since.size) fun g => ?_).trans (m.since.block i hi hF)
    rcases hpast i g with h | h
    · omega
    · exact hF h
  · intro i hi
    rcases hX.since.imnew i hi with h | h | h
    · exact m.since.imnew i h
    · exact .inr (.inl (Nat.le_trans m.since.size h))
    · exact .inr (hpast i h)
end
end Go.Avc
