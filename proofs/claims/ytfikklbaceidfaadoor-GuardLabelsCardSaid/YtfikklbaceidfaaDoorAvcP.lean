/-
  AVC, part P: an operation of a region whose order isn't given, done whenever it may be.
-/
import Derived.Test.YtfikklbaceidfaaDoorAvcO
namespace Go.Avc
set_option linter.unusedVariables false
set_option linter.unusedSimpArgs false
section
variable {C : Ctx} {E B : Ent}

theorem Mem.congr {hp hp' : List Blk} {Im : Nat → Prop} {ι : Nat → Option Value} {w : World} (m : Mem C E hp Im ι w) (h : ∀ b, hp'.getD b .none = hp.getD b .none) : Mem C E hp' Im ι w :=
  ⟨fun b v hb => by rw [h]; exact m.hv b v hb, ⟨m.mr.imlt, fun b v r h1 => m.mr.imm b v r (by rwa [h] at h1), fun b b' v v' r h1 h2 => m.mr.sep b b' v v' r (by rwa [h] at h1) (by rwa [h] at h2), fun b v r h1 => m.mr.mine b v r (by rwa [h] at h1)⟩, m.since, m.glob⟩

theorem guard_congr {all : Array Oper} {o : Oper} {s : AS} {tmS : List SV} {hpS : List Blk} {p q : Prop} (hl : ∀ t, t ∈ o.looksAt all → lget tmS t = lget s.tm t) (h : guardVC all o s p q) : guardVC all o ⟨tmS, hpS⟩ p q := by
  unfold guardVC at h ⊢
  split at h
  · exact h
  · rename_i j want hg
    cases hd : (all[j]?).bind (·.dst) with
    | none => rw [hd] at h; simpa using h
    | some d =>
      rw [hd] at h
      simp only
      rw [hl d (by unfold Oper.looksAt; rw [hg]; simp [hd])]
      exact h
theorem guard_split {all : Array Oper} {o : Oper} {s : AS} {p q : Prop} (h : guardVC all o s p q) : (guardVC all o s True False ∧ p) ∨ (guardVC all o s False True ∧ q) := by
  unfold guardVC at h ⊢
  split at h
  · exact .inl ⟨trivial, h⟩
  · rename_i j want hg
    cases hd : (all[j]?).bind (·.dst) with
    | none => rw [hd] at h; exact .inr ⟨trivial, h⟩
    | some d =>
      rw [hd] at h
      simp only at h ⊢
      split at h
      · rename_i b hb
        by_cases hbw : b = want
        · exact .inl ⟨⟨fun _ => trivial, fun h' => (h' hbw).elim⟩, h.1 hbw⟩
        · exact .inr ⟨⟨fun h' => (hbw h').elim, fun _ => trivial⟩, h.2 hbw⟩
      · exact .inr ⟨trivial, h⟩
      · exact h.elim

/-- A state that agrees with the trace's where the operation looks. -/
structure Sched (C : Ctx) (all : Array Oper) (o : Oper) (s : AS) (A : List Nat) (E : Ent) (tmS : List SV) (hpS : List Blk) (Im : Nat → Prop) (ι : Nat → Option Value) (a : Act) (w : World) : Prop where
  rel : Rel C E ⟨tmS, hpS⟩ Im ι a w
  len : tmS.length = s.tm.length
  tm : ∀ t, t ∈ o.looksAt all → lget tmS t = lget s.tm t
  hp : ∀ b, A.contains b = true → hpS.getD b .none = s.hp.getD b .none
/-- What an operation does, whenever it is done. -/
structure EffOk (C : Ctx) (all : Array Oper) (o : Oper) (s : AS) (e : Eff) : Prop where
  dst : e.dst = o.dst
  base : e.base = s.hp.length
  keys : ∀ b, updW e.upd b ≠ none → b < e.base
  does : ∀ E Im ι w a tmS hpS, Sched C all o s e.acc E tmS hpS Im ι a w → (∀ b, e.base ≤ b → b < e.base + e.news.length → ι b = none) →
    ∀ hpF, (∀ b, hpF.getD b .none = (e.hpW b).getD (hpS.getD b .none)) → ∀ (next : Act → World → Prop) (Q : Exit → Act → World → Prop),
      (∀ a' w' Im' ι', Rel C E ((⟨tmS, hpF⟩ : AS).put e.dst e.sv) Im' ι' a' w' → (∀ b, ¬ (e.base ≤ b ∧ b < e.base + e.news.length) → ι' b = ι b) → Later Im ι w Im' ι' w' → next a' w') →
      (Region.wanted o (yielded all a.tmps) = true ∧ o.wp C.P a w next Q) ∨ (Region.wanted o (yielded all a.tmps) = false ∧ next (a.put o.dst undef) w)

theorem wanted_sched {all : Array Oper} {o : Oper} {s : AS} {A : List Nat} (h : guardVC all o s True False) {tmS : List SV} {hpS : List Blk} {Im : Nat → Prop} {ι : Nat → Option Value} {a : Act} {w : World} (hs : Sched C all o s A E tmS hpS Im ι a w) :
    Region.wanted o (yielded all a.tmps) = true := by
  rcases guard_yields (s := ⟨tmS, hpS⟩) hs.rel.tm (guard_congr hs.tm h) with ⟨h1, _⟩ | ⟨_, h2⟩
  · exact h1
  · exact h2.elim
theorem unwanted_sched {all : Array Oper} {o : Oper} {s : AS} {A : List Nat} (h : guardVC all o s False True) {tmS : List SV} {hpS : List Blk} {Im : Nat → Prop} {ι : Nat → Option Value} {a : Act} {w : World} (hs : Sched C all o s A E tmS hpS Im ι a w) :
    Region.wanted o (yielded all a.tmps) = false := by
  rcases guard_yields (s := ⟨tmS, hpS⟩) hs.rel.tm (guard_congr hs.tm h) with ⟨_, h2⟩ | ⟨h1, _⟩
  · exact h2.elim
  · exact h1

theorem hpW_new (d : Option Tmp) (sv : SV) (A : List Nat) (n : Nat) (x : Blk) (y : Blk) {b : Nat} : ((Eff.mk d sv A [] n [x]).hpW b).getD y = if b = n then x else y := by
  unfold Eff.hpW
  simp only
  by_cases h : n ≤ b
  · rw [if_pos h]
    by_cases hb : b = n
    · subst hb; simp
    · rw [if_neg hb, List.getElem?_eq_none (by simp; omega)]; rfl
  · rw [if_neg h, if_neg (by omega)]; rfl
theorem hpW_none (d : Option Tmp) (sv : SV) (A : List Nat) (n : Nat) (y : Blk) {b : Nat} : ((Eff.mk d sv A [] n []).hpW b).getD y = y := by
  unfold Eff.hpW
  simp only
  split <;> rfl
theorem hpW_upd (d : Option Tmp) (sv : SV) (A : List Nat) (n : Nat) (x : Blk) (y : Blk) {b b0 : Nat} (h0 : b0 < n) : ((Eff.mk d sv A [(b0, x)] n []).hpW b).getD y = if b = b0 then x else y := by
  unfold Eff.hpW
  simp only [updW]
  by_cases h : n ≤ b
  · rw [if_pos h, if_neg (by omega)]; rfl
  · rw [if_neg h]
    by_cases hb : b = b0
    · subst hb; simp
    · rw [if_neg hb, if_neg (Ne.symm hb)]; rfl
theorem hpW_app (d : Option Tmp) (sv : SV) (A : List Nat) (n : Nat) (x z : Blk) (y : Blk) {b b0 : Nat} (h0 : b0 < n) : ((Eff.mk d sv A [(b0, x)] n [z]).hpW b).getD y = if b = n then z else if b = b0 then x else y := by
  unfold Eff.hpW
  simp only [updW]
  by_cases h : n ≤ b
  · rw [if_pos h]
    by_cases hb : b = n
    · subst hb; simp
    · rw [if_neg hb, if_neg (by omega), List.getElem?_eq_none (by simp; omega)]; rfl
  · have hbn : ¬ b = n := by omega
    simp only [h, hbn, if_false]
    by_cases hb : b = b0
    · subst hb; simp
    · rw [if_neg hb, if_neg (Ne.symm hb)]; rfl
theorem keys1 {b0 n : Nat} {x : Blk} (h : b0 < n) : ∀ b, updW [(b0, x)] b ≠ none → b < n := fun b hb => by
  simp only [updW] at hb
  by_cases e : b0 = b
  · omega
  · simp [e] at hb
theorem live_mask {A : List Nat} {hp : List Blk} {b : Nat} (h : live ((maskH A 0 hp).getD b .none) = true) : A.contains b = true ∧ live (hp.getD b .none) = true ∧ b < hp.length := by
  have h' := h
  rw [maskH_getD, Nat.zero_add] at h
  split at h
  · rename_i hA
    exact ⟨hA, h, by have := live_lt h'; rwa [length_maskH] at this⟩
  · cases h

def partEnt (w : World) (Im : Nat → Prop) (ι : Nat → Option Value) (A : List Nat) (hpM : List Blk) : Ent := ⟨w, Im, ι, fun r => ∃ b v, A.contains b = true ∧ ι b = some v ∧ live (hpM.getD b .none) = true ∧ foot v = some r⟩
theorem drOR_ok (hC : C.Ok) {all : Array Oper} {o : Oper} {s : AS} {A : List Nat} {K : Eff → Prop} (hw : guardVC all o s True False) :
    ∀ r, (∀ E Im ι w a tmS hpS, Sched C all o s A E tmS hpS Im ι a w → ORSem C.P Im ι w ((execOp a.eval o).run C.P w) r) → drOR C o A s K r → ∃ e, EffOk C all o s e ∧ K e
  | .bad, _, h => h.elim
  | .need p r, hs, h => drOR_ok hC hw r (fun E Im ι w a tmS hpS k => hs E Im ι w a tmS hpS k h.1) h.2
  | .know p r, hs, h => drOR_ok hC hw r (fun E Im ι w a tmS hpS k => (hs E Im ι w a tmS hpS k).2) h
  | .split b r1 r2, hs, h => by
    cases hb : b with
    | true => exact drOR_ok hC hw r1 (fun E Im ι w a tmS hpS k => (hs E Im ι w a tmS hpS k).1 hb) (h.1 hb)
    | false => exact drOR_ok hC hw r2 (fun E Im ι w a tmS hpS k => (hs E Im ι w a tmS hpS k).2 hb) (h.2 hb)
  | .val sv, hs, h => by
    refine ⟨_, ⟨rfl, rfl, fun b hb => absurd rfl hb, fun E Im ι w a tmS hpS k hn hpF hF next Q hK => .inl ⟨wanted_sched hw k, ?_⟩⟩, h⟩
    obtain ⟨v, hr, hv⟩ := hs E Im ι w a tmS hpS k
    unfold Oper.wp
    rw [hr]
    exact hK _ _ Im ι (k.rel.put (Later.refl _ _ _) (k.rel.mem.congr fun b => by rw [hF, hpW_none]) o.dst hv) (fun _ _ => rfl) (Later.refl _ _ _)
  | .new T cs, hs, h => by
    refine ⟨_, ⟨rfl, rfl, fun b hb => absurd rfl hb, fun E Im ι w a tmS hpS k hn hpF hF next Q hK => .inl ⟨wanted_sched hw k, ?_⟩⟩, h⟩
    obtain ⟨vs, hr, hv⟩ := hs E Im ι w a tmS hpS k
    unfold Oper.wp
    rw [hr]
    obtain ⟨hm, hl⟩ := mem_new (c := s.hp.length) (hp' := hpF) k.rel.mem (hn _ (Nat.le_refl _) (by simp)) (fun b hb => by rw [hF, hpW_new, if_neg hb]) (by rw [hF, hpW_new, if_pos rfl]) hv
    exact hK _ _ Im _ (k.rel.put hl hm o.dst ⟨_, ιset_same _ _ _, rfl⟩) (fun b hb => ιset_other _ _ _ fun e => hb ⟨by simp [e], by simp [e]⟩) hl
  | .newRo sv, hs, h => by
    refine ⟨_, ⟨rfl, rfl, fun b hb => absurd rfl hb, fun E Im ι w a tmS hpS k hn hpF hF next Q hK => .inl ⟨wanted_sched hw k, ?_⟩⟩, h⟩
    obtain ⟨v, w', hr, hg, hv⟩ := hs E Im ι w a tmS hpS k
    unfold Oper.wp
    rw [hr]
    have hl := later_grown hg k.rel.mem.mr.imlt (fun k h => by cases h) (Im' := fun i => Im i ∨ (w.heap.size ≤ i ∧ i < w'.heap.size)) (ι := ι) (ι' := ι) (fun _ h => .inl h) (fun _ _ h => h)
    have hm : Mem C E hpF (fun i => Im i ∨ (w.heap.size ≤ i ∧ i < w'.heap.size)) ι w' := by
      refine Mem.congr ?_ (hp := hpS) (fun b => by rw [hF, hpW_none])
      exact (Mem.same k.rel.mem hg).1
    exact hK _ _ _ ι (k.rel.put hl hm o.dst hv) (fun _ _ => rfl) hl
  | .newOwn T e l, hs, h => by
    refine ⟨_, ⟨rfl, rfl, fun b hb => absurd rfl hb, fun E Im ι w a tmS hpS k hn hpF hF next Q hK => .inl ⟨wanted_sched hw k, ?_⟩⟩, h⟩
    obtain ⟨v, w', xs, hr, hg, hsl, ho, hf, hk⟩ := hs E Im ι w a tmS hpS k
    unfold Oper.wp
    rw [hr]
    obtain ⟨hm, hl⟩ := mem_own (c := s.hp.length) (hp' := hpF) k.rel.mem (hn _ (Nat.le_refl _) (by simp)) (fun b hb => by rw [hF, hpW_new, if_neg hb]) (by rw [hF, hpW_new, if_pos rfl]) hg ho hf hk
    exact hK _ _ Im _ (k.rel.put hl hm o.dst ⟨ιset_same _ _ _, hsl⟩) (fun b hb => ιset_other _ _ _ fun e => hb ⟨by simp [e], by simp [e]⟩) hl
  | .upd b (.cells T cs), hs, h => by
    obtain ⟨hA, hlv, hlt⟩ := live_mask h.1
    refine ⟨_, ⟨rfl, rfl, keys1 hlt, fun E Im ι w a tmS hpS k hn hpF hF next Q hK => .inl ⟨wanted_sched hw k, ?_⟩⟩, h.2⟩
    obtain ⟨r, vs, cur, T', hb, hr0, rfl, hr, hv⟩ := hs E Im ι w a tmS hpS k
    unfold Oper.wp
    rw [hr]
    obtain ⟨hm, hl⟩ := mem_updCells (hp' := hpF) k.rel.mem hb (by rw [show (⟨tmS, hpS⟩ : AS).hp = hpS from rfl, k.hp b hA]; exact hlv) hr0 (fun b' hb' => by rw [hF, hpW_upd _ _ _ _ _ _ hlt, if_neg hb']) (by rw [hF, hpW_upd _ _ _ _ _ _ hlt, if_pos rfl]) hv
    exact hK _ _ Im ι (k.rel.put hl hm o.dst undef_rel) (fun _ _ => rfl) hl
  | .upd b (.own T e l), hs, h => by
    obtain ⟨hA, hlv, hlt⟩ := live_mask h.1
    refine ⟨_, ⟨rfl, rfl, keys1 hlt, fun E Im ι w a tmS hpS k hn hpF hF next Q hK => .inl ⟨wanted_sched hw k, ?_⟩⟩, h.2⟩
    obtain ⟨v, w', xs, hb, hr, hg, _, ho, hf⟩ := hs E Im ι w a tmS hpS k
    unfold Oper.wp
    rw [hr]
    obtain ⟨hm, hl⟩ := mem_updOwn (hp' := hpF) k.rel.mem hb (by rw [show (⟨tmS, hpS⟩ : AS).hp = hpS from rfl, k.hp b hA]; exact hlv) hg (fun b' hb' => by rw [hF, hpW_upd _ _ _ _ _ _ hlt, if_neg hb']) (by rw [hF, hpW_upd _ _ _ _ _ _ hlt, if_pos rfl]) ho hf
    exact hK _ _ Im ι (k.rel.put hl hm o.dst undef_rel) (fun _ _ => rfl) hl
  | .upd b .none, hs, h => by
    obtain ⟨hA, hlv, hlt⟩ := live_mask h.1
    exact ⟨_, ⟨rfl, rfl, keys1 hlt, fun E Im ι w a tmS hpS k hn hpF hF next Q hK => (hs E Im ι w a tmS hpS k).elim⟩, h.2⟩
  | .upd b (.ro ..), hs, h => by
    obtain ⟨hA, hlv, hlt⟩ := live_mask h.1
    exact ⟨_, ⟨rfl, rfl, keys1 hlt, fun E Im ι w a tmS hpS k hn hpF hF next Q hK => (hs E Im ι w a tmS hpS k).elim⟩, h.2⟩
  | .app b T e l, hs, h => by
    obtain ⟨hA, hlv, hlt⟩ := live_mask h.1
    refine ⟨_, ⟨rfl, rfl, keys1 hlt, fun E Im ι w a tmS hpS k hn hpF hF next Q hK => .inl ⟨wanted_sched hw k, ?_⟩⟩, h.2⟩
    obtain ⟨v, v', w', xs, hb, hr, hg, hsl, ho, hf, hk⟩ := hs E Im ι w a tmS hpS k
    unfold Oper.wp
    rw [hr]
    obtain ⟨hm, hl⟩ := mem_app (c := s.hp.length) (hp' := hpF) k.rel.mem hb (hn _ (Nat.le_refl _) (by simp)) (by rw [show (⟨tmS, hpS⟩ : AS).hp = hpS from rfl, k.hp b hA]; exact hlv) hg
      (fun b' h1 h2 => by rw [hF, hpW_app _ _ _ _ _ _ _ hlt, if_neg h2, if_neg h1]) (by rw [hF, hpW_app _ _ _ _ _ _ _ hlt, if_pos rfl]) (by rw [hF, hpW_app _ _ _ _ _ _ _ hlt, if_neg (by omega), if_pos rfl]) ho hf hk
    exact hK _ _ Im _ (k.rel.put hl hm o.dst ⟨ιset_same _ _ _, hsl⟩) (fun b hb => ιset_other _ _ _ fun e => hb ⟨by simp [e], by simp [e]⟩) hl
  | .anyB f, _, h => h.elim
  | .call f svs, hs, h => by
    obtain ⟨sv, upd, news, h1, h2, h3⟩ := CR.dr_wp (hp := maskH A 0 s.hp) _ h
    refine ⟨_, ⟨rfl, rfl, fun b hb => (updW_keys h1 hb).2, fun E Im ι w a tmS hpS k hn hpF hF next Q hK => .inl ⟨wanted_sched hw k, ?_⟩⟩, h2⟩
    obtain ⟨vs, hv, hr⟩ := hs E Im ι w a tmS hpS k
    unfold Oper.wp
    rw [hr]
    have hM : ∀ b, (maskH A 0 s.hp).getD b .none = if A.contains b then hpS.getD b .none else .none := fun b => by
      rw [maskH_getD, Nat.zero_add]
      split
      · rename_i hA; rw [k.hp b hA]
      · rfl
    have hlen := length_maskH A s.hp 0
    have hMem : Mem C (partEnt w Im ι A (maskH A 0 s.hp)) (maskH A 0 s.hp) Im ι w := by
      have m := k.rel.mem
      have hlv : ∀ b, live ((maskH A 0 s.hp).getD b .none) = true → A.contains b = true ∧ live (hpS.getD b .none) = true := fun b hb => by
        obtain ⟨g1, g2, _⟩ := live_mask hb
        exact ⟨g1, by rw [k.hp b g1]; exact g2⟩
      exact ⟨HV.mask m.hv k.hp, ⟨m.mr.imlt, fun b v r g => m.mr.imm b v r (hlv b g).2, fun b b' v v' r g g' => m.mr.sep b b' v v' r (hlv b g).2 (hlv b' g').2, fun b v r g1 g2 g3 => .inr ⟨b, v, (hlv b g1).1, g2, g1, g3⟩⟩, ⟨rfl, rfl, rfl, Nat.le_refl _, fun _ _ _ => rfl, fun _ _ h => h, fun _ h => h, fun _ h => .inl h⟩, m.glob⟩
    have hc := hC.spec f svs (maskH A 0 s.hp) (fun sv' hp' => sv' = sv ∧ hp' = updAll (maskH A 0 s.hp) upd ++ news) (fun b => s.hp.length ≤ b ∧ b < s.hp.length + news.length)
      (CR.wp_mono (fun sv' hp' g => ⟨g, fun b g1 g2 => by
        rw [g.2, List.length_append, length_updAll, hlen] at g2
        rw [hlen] at g1
        exact ⟨g1, g2⟩⟩) _ h3) (partEnt w Im ι A (maskH A 0 s.hp)) Im ι w vs hMem (fun b hb => hn b hb.1 hb.2) hv
    have hpost : ∀ v w', CallPost C (partEnt w Im ι A (maskH A 0 s.hp)) Im ι w (maskH A 0 s.hp).length (fun sv' hp' => sv' = sv ∧ hp' = updAll (maskH A 0 s.hp) upd ++ news) (.returned v) w' → next (a.put o.dst v) w' := by
      rintro v w' ⟨v', sv', hp', Im', ι', g1, ⟨rfl, rfl⟩, g3, g4, gn, g5, g6⟩
      cases g1
      rw [List.length_append, length_updAll, hlen] at g5
      have hX : ∀ b, (updAll (maskH A 0 s.hp) upd ++ news).getD b .none = ((if s.hp.length ≤ b then news[b - s.hp.length]? else updW upd b)).getD ((maskH A 0 s.hp).getD b .none) := fun b => by
        rw [app_getD, hlen]
      have hm : Mem C E hpF Im' ι' w' := Mem.frame (hpM := maskH A 0 s.hp) (n := s.hp.length) (k := news.length) k.rel.mem hM g4 g5 (fun b g1 g2 => hn b g1 g2)
        (fun b hb => by
          rw [hF, hX]
          show (if s.hp.length ≤ b then news[b - s.hp.length]? else updW upd b).getD _ = _
          rcases hb with hA | ⟨g7, g8⟩
          · rw [hM, if_pos hA]
          · rw [if_pos g7]
            rw [show news[b - s.hp.length]? = some (news[b - s.hp.length]'(by omega)) from List.getElem?_eq_getElem _]
            rfl)
        (fun b g7 g8 => by
          rw [hF]
          show (if s.hp.length ≤ b then news[b - s.hp.length]? else updW upd b).getD _ = _
          by_cases g9 : s.hp.length ≤ b
          · rw [if_pos g9, List.getElem?_eq_none (by omega)]; rfl
          · rw [if_neg g9]
            cases hu : updW upd b with
            | none => rfl
            | some y =>
              have := (updW_keys h1 (i := b) (by rw [hu]; simp)).1
              rw [g7] at this; cases this)
      exact hK _ _ Im' ι' (k.rel.put g6 hm o.dst g3) g5 g6
    rcases hc with ⟨c1, c2⟩ | ⟨v, c1, c2⟩
    · rw [c1]
      show Calls _ _ _ _ _
      refine Calls.mono c2 fun e w' he => ?_
      cases e with
      | returned v => exact hpost v w' he
      | panicked c => obtain ⟨v', sv, hp', Im', ι', h1, _⟩ := he; cases h1
      | outgrown => obtain ⟨v', sv, hp', Im', ι', h1, _⟩ := he; cases h1
    · rw [c1]
      exact hpost v w c2
theorem drStep (hC : C.Ok) {all : Array Oper} {o : Oper} {s : AS} {K : Eff → Prop}
    (h : guardVC all o s (drOR C o (accs C.glob s o.op) s K (evOp C.P C.zero (s.ev C.glob) (maskH (accs C.glob s o.op) 0 s.hp) o.op)) (K ⟨o.dst, .undef, [], [], s.hp.length, []⟩)) :
    ∃ e, EffOk C all o s e ∧ K e := by
  rcases guard_split h with ⟨h1, h2⟩ | ⟨h1, h2⟩
  · refine drOR_ok hC h1 _ (fun E Im ι w a tmS hpS k => ?_) h2
    refine evOp_sem hC.zero k.rel.mem.mr.imlt (HV.mask k.rel.mem.hv k.hp) fun x hx => ?_
    have hv := ev_rel (hp := s.hp) k.rel.tm k.rel.mem.glob x
    cases x with
    | tmp t =>
      have ht : t ∈ o.looksAt all := by
        unfold Oper.looksAt
        refine List.mem_append_left _ (List.mem_filterMap.2 ⟨.tmp t, by simpa using hx, rfl⟩)
      have e1 : s.ev C.glob (.tmp t) = AS.ev C.glob ⟨tmS, s.hp⟩ (.tmp t) := (k.tm t ht).symm
      rw [e1]; exact hv
    | const v => exact hv
    | global g => exact hv
    | func f => exact hv
  · refine ⟨_, ⟨rfl, rfl, fun b hb => absurd rfl hb, fun E Im ι w a tmS hpS k hn hpF hF next Q hK => .inr ⟨unwanted_sched h1 k, ?_⟩⟩, h2⟩
    exact hK _ _ Im ι (k.rel.put (Later.refl _ _ _) (k.rel.mem.congr fun b => by rw [hF, hpW_none]) o.dst undef_rel) (fun _ _ => rfl) (Later.refl _ _ _)
end
end Go.Avc
