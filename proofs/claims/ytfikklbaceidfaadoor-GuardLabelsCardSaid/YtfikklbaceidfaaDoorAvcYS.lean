/-
  AVC, part YS: what is told by a pattern is so.
-/
import Derived.Test.YtfikklbaceidfaaDoorAvcY
namespace Go.Avc
set_option linter.unusedVariables false
set_option linter.unusedSimpArgs false

theorem blt_true' {a b : Nat} : Nat.blt a b = true ↔ a < b := blt_true

section
variable (Im : Nat → Prop) (ι : Nat → Option Value) (hp : List Blk) (m : MS)
def ImW : Nat → Prop := fun r => Im r ∨ ∃ b v, memN m.fz b = true ∧ ι b = some v ∧ live (hp.getD b .none) = true ∧ foot v = some r
def ιW : Nat → Option Value := fun i => match rhoI m.ρ i with | some b => ι b | none => if memN m.nw i = true then some (.slice none 0 0) else none
end
structure MS.le (m m' : MS) : Prop where
  rho : ∀ b i, rhoI m.ρ i = some b → rhoI m'.ρ i = some b
  fz : ∀ b, memN m.fz b = true → memN m'.fz b = true
  nw : ∀ i, memN m.nw i = true → memN m'.nw i = true
structure MS.Ok (D : Nat → Prop) (m : MS) : Prop where
  nw : ∀ i, memN m.nw i = true → rhoI m.ρ i = none
  inj : ∀ i b, rhoI m.ρ i = some b → D i ∨ rhoB m.β b = some i
theorem MS.le.refl (m : MS) : m.le m := ⟨fun _ _ h => h, fun _ h => h, fun _ h => h⟩
theorem MS.le.trans {m m' m'' : MS} (h : m.le m') (k : m'.le m'') : m.le m'' := ⟨fun b i e => k.rho b i (h.rho b i e), fun b e => k.fz b (h.fz b e), fun i e => k.nw i (h.nw i e)⟩
theorem bind_le {D : Nat → Prop} {m m' : MS} {b i : Nat} (h : m.bind b i = some m') : m.le m' ∧ rhoI m'.ρ i = some b ∧ (m.Ok D → m'.Ok D) := by
  obtain ⟨ρ, β, fz, nw⟩ := m
  simp only [MS.bind] at h
  split at h
  · rename_i b' i' h1 h2
    cases hb : Nat.beq b b' <;> rw [hb] at h
    · cases h
    · simp only [cond_true] at h
      cases hi : Nat.beq i i' <;> rw [hi] at h <;> cases h
      refine ⟨.refl _, ?_, id⟩
      cases beq_true.1 hb
      exact h1
  · rename_i h1 h2
    cases hn : memN nw i <;> rw [hn] at h <;> cases h
    refine ⟨⟨fun b' j e => ?_, fun _ h => h, fun _ h => h⟩, ?_, fun hk => ⟨fun j hj => ?_, fun j c hj => ?_⟩⟩
    · show (bif Nat.beq i j then some b else rhoI ρ j) = some b'
      cases hij : Nat.beq i j with
      | false => exact e
      | true =>
        cases beq_true.1 hij
        rw [show rhoI ρ i = none from h1] at e
        cases e
    · show (bif Nat.beq i i then some b else rhoI ρ i) = some b
      rw [Nat.beq_refl]; rfl
    · show (bif Nat.beq i j then some b else rhoI ρ j) = none
      cases hij : Nat.beq i j with
      | false => exact hk.nw j hj
      | true => cases beq_true.1 hij; rw [hn] at hj; cases hj
    · have hj' : (bif Nat.beq i j then some b else rhoI ρ j) = some c := hj
      show D j ∨ (bif Nat.beq b c then some i else rhoB β c) = some j
      cases hij : Nat.beq i j with
      | true =>
        rw [hij] at hj'
        cases hj'
        cases beq_true.1 hij
        rw [Nat.beq_refl]; exact .inr rfl
      | false =>
        rw [hij] at hj'
        rcases hk.inj j c hj' with h | this
        · exact .inl h
        · right
          cases hbc : Nat.beq b c with
          | false => exact this
          | true =>
            cases beq_true.1 hbc
            rw [show rhoB β b = none from h2] at this
            cases this
  · cases h
theorem new_le {D : Nat → Prop} {m m' : MS} {i : Nat} (h : m.new i = some m') : m.le m' ∧ memN m'.nw i = true ∧ (m.Ok D → m'.Ok D) := by
  obtain ⟨ρ, β, fz, nw⟩ := m
  simp only [MS.new] at h
  split at h
  · rename_i h1
    cases hn : memN nw i <;> rw [hn] at h <;> cases h
    refine ⟨⟨fun _ _ h => h, fun _ h => h, fun j hj => ?_⟩, ?_, fun hk => ⟨fun j hj => ?_, hk.inj⟩⟩
    · show (bif Nat.beq i j then true else memN nw j) = true
      rw [show memN nw j = true from hj]; cases Nat.beq i j <;> rfl
    · show (bif Nat.beq i i then true else memN nw i) = true
      rw [Nat.beq_refl]; rfl
    · have hj' : (bif Nat.beq i j then true else memN nw j) = true := hj
      cases hij : Nat.beq i j with
      | true => cases beq_true.1 hij; exact h1
      | false => rw [hij] at hj'; exact hk.nw j hj'
  · cases h
theorem freeze_le {D : Nat → Prop} (m : MS) (b : Nat) : m.le (m.freeze b) ∧ memN (m.freeze b).fz b = true ∧ (m.Ok D → (m.freeze b).Ok D) := by
  obtain ⟨ρ, β, fz, nw⟩ := m
  simp only [MS.freeze]
  cases hn : memN fz b with
  | true => exact ⟨.refl _, hn, id⟩
  | false =>
    refine ⟨⟨fun _ _ h => h, fun c hc => ?_, fun _ h => h⟩, ?_, fun hk => ⟨hk.nw, hk.inj⟩⟩
    · show (bif Nat.beq b c then true else memN fz c) = true
      rw [show memN fz c = true from hc]; cases Nat.beq b c <;> rfl
    · show (bif Nat.beq b b then true else memN fz b) = true
      rw [Nat.beq_refl]; rfl

theorem convRd0_le {D : Nat → Prop} {hp : List Blk} {e : List CSh} {m m' : MS} {sv sv' : SV} {ds : List Dat} (h : convRd0 hp e m sv = some (sv', ds, m')) : m.le m' ∧ (m.Ok D → m'.Ok D) := by
  unfold convRd0 at h
  split at h
  · rename_i e' l
    cases hb : CSh.beqs e e' <;> rw [hb] at h <;> cases h
    exact ⟨.refl _, id⟩
  · cases h; exact ⟨.refl _, id⟩
  · cases h; exact ⟨.refl _, id⟩
  · split at h
    · rename_i e' l _
      cases hb : CSh.beqs e e' <;> rw [hb] at h <;> cases h
      exact ⟨(freeze_le (D := D) _ _).1, (freeze_le (D := D) _ _).2.2⟩
    · cases h
  · split at h
    · split at h
      · rename_i N _ _ _ N' k l _ _
        revert h
        cases hb : Nat.beq N' _ <;> intro h
        · cases h
        · simp only [cond_true] at h
          revert h
          cases hb2 : CSh.beqs e [.int k] <;> intro h
          · cases h
          · cases h; exact ⟨(freeze_le (D := D) _ _).1, (freeze_le (D := D) _ _).2.2⟩
      · cases h
    · cases h
  · cases h
theorem convRdL_le {D : Nat → Prop} {hp : List Blk} {e : List CSh} : ∀ {svs : List SV} {m m' : MS} {rows : List (List CD)}, convRdL hp e svs m = some (rows, m') → m.le m' ∧ (m.Ok D → m'.Ok D)
  | [], m, m', rows, h => by
    simp only [convRdL] at h
    cases h; exact ⟨.refl _, id⟩
  | sv :: svs, m, m', rows, h => by
    simp only [convRdL] at h
    split at h
    · rename_i m1 h1
      split at h
      · rename_i rows' m2 h2
        cases h
        obtain ⟨a1, a2⟩ := convRd0_le (D := D) h1
        obtain ⟨b1, b2⟩ := convRdL_le (D := D) h2
        exact ⟨a1.trans b1, fun k => b2 (a2 k)⟩
      · cases h
    · cases h
theorem convRd_le {D : Nat → Prop} {hp : List Blk} {e : List CSh} {m m' : MS} {sv sv' : SV} {ds : List Dat} (h : convRd hp e m sv = some (sv', ds, m')) : m.le m' ∧ (m.Ok D → m'.Ok D) := by
  unfold convRd at h
  split at h
  · split at h
    · split at h
      · rename_i h1
        cases h; exact convRdL_le h1
      · cases h
    · cases h
  · exact convRd0_le h
mutual
theorem conv_le {D : Nat → Prop} {hp : List Blk} : ∀ {p : Pat} {sv sv' : SV} {m m' : MS} {ds : List Dat}, conv hp p sv m = some (sv', ds, m') → m.le m' ∧ (m.Ok D → m'.Ok D)
  | .skip, sv, sv', m, m', ds, h => by
    simp only [conv] at h
    split at h <;> cases h
    exact ⟨.refl _, id⟩
  | .int k, sv, sv', m, m', ds, h => by
    simp only [conv] at h
    split at h
    · split at h <;> cases h
      exact ⟨.refl _, id⟩
    · cases h
  | .bool, sv, sv', m, m', ds, h => by
    simp only [conv] at h
    split at h <;> cases h
    exact ⟨.refl _, id⟩
  | .str, sv, sv', m, m', ds, h => by
    simp only [conv] at h
    split at h <;> cases h
    exact ⟨.refl _, id⟩
  | .rd e, sv, sv', m, m', ds, h => by
    simp only [conv] at h
    exact convRd_le h
  | .own i, sv, sv', m, m', ds, h => by
    simp only [conv] at h
    split at h
    · split at h
      · rename_i hb; cases h; exact ⟨(bind_le (D := D) hb).1, (bind_le (D := D) hb).2.2⟩
      · cases h
    · split at h
      · rename_i hb; cases h; exact ⟨(new_le (D := D) hb).1, (new_le (D := D) hb).2.2⟩
      · cases h
    · cases h
  | .ptr i c, sv, sv', m, m', ds, h => by
    simp only [conv] at h
    split at h
    · rename_i b c'
      cases hb : Nat.beq c c' <;> rw [hb] at h
      · cases h
      · simp only [cond_true] at h
        split at h
        · rename_i hb; cases h; exact ⟨(bind_le (D := D) hb).1, (bind_le (D := D) hb).2.2⟩
        · cases h
    · cases h
  | .nilp, sv, sv', m, m', ds, h => by
    simp only [conv] at h
    split at h <;> cases h
    exact ⟨.refl _, id⟩
  | .nils, sv, sv', m, m', ds, h => by
    simp only [conv] at h
    split at h <;> cases h
    exact ⟨.refl _, id⟩
  | .agg ps, sv, sv', m, m', ds, h => by
    simp only [conv] at h
    split at h
    · split at h
      · rename_i hc; cases h; exact convs_le hc
      · cases h
    · cases h
  | .arrI n k, sv, sv', m, m', ds, h => by
    simp only [conv] at h
    split at h
    · split at h
      · rename_i n' k' l hk
        cases hb : Nat.beq n n' <;> rw [hb] at h <;> cases h
        exact ⟨.refl _, id⟩
      · cases h
    · cases h
  | .arrB n, sv, sv', m, m', ds, h => by
    simp only [conv] at h
    split at h
    · rename_i n' l
      cases hb : Nat.beq n n' <;> rw [hb] at h <;> cases h
      exact ⟨.refl _, id⟩
    · cases h
  | .tup ps, sv, sv', m, m', ds, h => by
    simp only [conv] at h
    split at h
    · split at h
      · rename_i hc; cases h; exact convs_le hc
      · cases h
    · cases h
  | .fn f ps, sv, sv', m, m', ds, h => by
    simp only [conv] at h
    split at h
    · rename_i f' cs
      cases hb : Nat.beq f f' <;> rw [hb] at h
      · cases h
      · simp only [cond_true] at h
        split at h
        · rename_i hc; cases h; exact convs_le hc
        · cases h
    · cases h
  | .nili, sv, sv', m, m', ds, h => by
    simp only [conv] at h
    split at h <;> cases h
    exact ⟨.refl _, id⟩
  | .iface t p, sv, sv', m, m', ds, h => by
    simp only [conv] at h
    split at h
    · rename_i t' v
      cases hb : Nat.beq t t' <;> rw [hb] at h
      · cases h
      · simp only [cond_true] at h
        split at h
        · rename_i hc; cases h; exact conv_le hc
        · cases h
    · cases h
theorem convs_le {D : Nat → Prop} {hp : List Blk} : ∀ {ps : List Pat} {svs svs' : List SV} {m m' : MS} {ds : List Dat}, convs hp ps svs m = some (svs', ds, m') → m.le m' ∧ (m.Ok D → m'.Ok D)
  | [], svs, svs', m, m', ds, h => by
    simp only [convs] at h
    split at h <;> cases h
    exact ⟨.refl _, id⟩
  | p :: ps, svs, svs', m, m', ds, h => by
    simp only [convs] at h
    split at h
    · split at h
      · rename_i h1
        split at h
        · rename_i h2
          cases h
          exact ⟨(conv_le (D := D) h1).1.trans (convs_le (D := D) h2).1, fun hk => (convs_le h2).2 ((conv_le h1).2 hk)⟩
        · cases h
      · cases h
    · cases h
end
theorem convT_le {D : Nat → Prop} {hp : List Blk} {get : Nat → SV} : ∀ {ps : List Pat} {t : Nat} {svs' : List SV} {m m' : MS} {ds : List Dat}, convT hp get ps t m = some (svs', ds, m') → m.le m' ∧ (m.Ok D → m'.Ok D)
  | [], t, svs', m, m', ds, h => by
    simp only [convT] at h
    cases h; exact ⟨.refl _, id⟩
  | p :: ps, t, svs', m, m', ds, h => by
    have gen : (match conv hp p (get t) m with
        | some (sv, d, m) => (match convT hp get ps (t + 1) m with | some (svs, ds, m) => some (sv :: svs, d ++ ds, m) | none => none)
        | none => none) = some (svs', ds, m') → m.le m' ∧ (m.Ok D → m'.Ok D) := fun h => by
      split at h
      · rename_i h1
        split at h
        · rename_i h2
          cases h
          exact ⟨(conv_le (D := D) h1).1.trans (convT_le (D := D) h2).1, fun hk => (convT_le h2).2 ((conv_le h1).2 hk)⟩
        · cases h
      · cases h
    cases p with
    | skip =>
      simp only [convT] at h
      split at h
      · rename_i h2; cases h; exact convT_le h2
      · cases h
    | _ => exact gen h
theorem convB_le {D : Nat → Prop} {hp : List Blk} {i : Nat} {m m' : MS} {p : BPat} {x : Blk} {ds : List Dat} (h : convB hp i m p = some (x, ds, m')) : m.le m' ∧ (m.Ok D → m'.Ok D) := by
  unfold convB at h
  split at h
  · cases p with
    | none => cases h; exact ⟨.refl _, id⟩
    | cells T ps =>
      simp only at h
      split at h
      · rename_i T' cs _
        cases hb : Nat.beq T' T <;> rw [hb] at h
        · cases h
        · simp only [cond_true] at h
          split at h
          · rename_i hc; cases h; exact convs_le hc
          · cases h
      · cases h
    | own T e =>
      simp only at h
      split at h
      · rename_i T' e' l _
        cases hb : Nat.beq T' T <;> rw [hb] at h
        · cases h
        · simp only [cond_true] at h
          cases hb2 : CSh.beqs e e' <;> rw [hb2] at h <;> cases h
          exact ⟨.refl _, id⟩
      · cases h
  · cases p with
    | none => cases h; exact ⟨.refl _, id⟩
    | cells T ps => cases h
    | own T e =>
      simp only at h
      cases hb : memN m.nw i <;> rw [hb] at h <;> cases h
      exact ⟨.refl _, id⟩
theorem convBs_le {D : Nat → Prop} {hp : List Blk} : ∀ {ps : List BPat} {i : Nat} {m m' : MS} {xs : List Blk} {ds : List Dat}, convBs hp ps i m = some (xs, ds, m') → m.le m' ∧ (m.Ok D → m'.Ok D)
  | [], i, m, m', xs, ds, h => by
    simp only [convBs] at h
    cases h; exact ⟨.refl _, id⟩
  | p :: ps, i, m, m', xs, ds, h => by
    simp only [convBs] at h
    split at h
    · rename_i h1
      split at h
      · rename_i h2
        cases h
        exact ⟨(convB_le (D := D) h1).1.trans (convBs_le (D := D) h2).1, fun hk => (convBs_le h2).2 ((convB_le h1).2 hk)⟩
      · cases h
    · cases h

/-! ### Relations -/
section
variable {Im : Nat → Prop} {ι : Nat → Option Value} {w : World} {hp : List Blk} {mf : MS} {D : Nat → Prop}
theorem im_imW {r : Nat} (h : Im r) : ImW Im ι hp mf r := .inl h
theorem live_own {hp : List Blk} {b : Nat} {T e l} (h : hp.getD b .none = .own T e l) : live (hp.getD b .none) = true := by rw [h]; rfl
theorem convRd0_rel (hh : HV Im ι w hp) {e : List CSh} {m m' : MS} {sv sv' : SV} {ds : List Dat} {v : Value} (h : convRd0 hp e m sv = some (sv', ds, m')) (hle : m'.le mf) (hv : VRel Im ι w sv v) : VRel (ImW Im ι hp mf) (ιW ι mf) w sv' v := by
  have mono : ∀ {sh cd v}, CRel Im w sh cd v → CRel (ImW Im ι hp mf) w sh cd v := fun h => h.mono (fun _ => .inl) fun _ _ => rfl
  have fmono : ∀ {e l xs}, FlatRel Im w e l xs → FlatRel (ImW Im ι hp mf) w e l xs := fun h => h.mono (fun _ => .inl) fun _ _ => rfl
  unfold convRd0 at h
  split at h
  · rename_i e' l
    cases hb : CSh.beqs e e' <;> rw [hb] at h <;> cases h
    cases CSh.beqs_eq _ _ hb
    exact mono hv
  · cases h
    cases (show v = .slice none 0 0 from hv)
    exact CRel.sl0 _ _ _ (Nat.zero_le _)
  · cases h
    obtain ⟨a, rfl⟩ := hv
    exact CRel.sl0 _ _ _ (Nat.zero_le _)
  · rename_i b
    split at h
    · rename_i T' e' l hblk
      cases hb : CSh.beqs e e' <;> rw [hb] at h <;> cases h
      cases CSh.beqs_eq _ _ hb
      have hfz := hle.fz b (freeze_le (D := fun _ => True) m b).2.1
      obtain ⟨a, cap, h1, h2, h3, h4⟩ := view_sem (x := .own b) (e := e) (l := l) hh (by unfold view; simp only [hblk]) hv
      rcases Nat.eq_zero_or_pos l.length with h0 | h0
      · have : l = [] := List.length_eq_zero_iff.1 h0
        subst this
        subst h1
        exact CRel.sl0 _ _ _ h3
      · obtain ⟨ad, xs, rfl, h5, h6⟩ := h4 h0
        subst h1
        refine CRel.sl _ _ ad cap xs h2 h3 (.inr ⟨b, _, hfz, hv.1, live_own hblk, ?_⟩) (fmono h5) h6
        simp only [foot]
        rw [if_neg (by omega)]
    · cases h
  · rename_i b c N lo n
    split at h
    · rename_i T' cs hblk
      split at h
      · rename_i a N' k L d hsp
        revert h
        cases hb : Nat.beq N' N <;> intro h
        · cases h
        · simp only [cond_true] at h
          revert h
          cases hb2 : CSh.beqs e [.int k] <;> intro h
          · cases h
          · cases h
            cases CSh.beqs_eq _ _ hb2
            have hN := beq_true.1 hb
            have hfz := hle.fz b (freeze_le (D := fun _ => True) m b).2.1
            obtain ⟨a, cap, h1, h2, h3, h4⟩ := view_sem (x := .win b c N lo n) hh (by unfold view; simp only [hblk, hsp]; rw [if_pos hN]) hv
            generalize hl : (((L.drop lo).take n).map fun x => [CD.int x]) = l at h1 h2 h4 ⊢
            rcases Nat.eq_zero_or_pos l.length with h0 | h0
            · have : l = [] := List.length_eq_zero_iff.1 h0
              subst this
              subst h1
              exact CRel.sl0 _ _ _ h3
            · obtain ⟨ad, xs, rfl, h5, h6⟩ := h4 h0
              obtain ⟨r, cap', g1, g2, _⟩ := hv
              rw [h1] at g2
              injection g2 with g3 g4 g5
              injection g3 with g3
              subst g3
              subst h1
              refine CRel.sl _ _ _ cap xs h2 h3 (.inr ⟨b, _, hfz, g1, ?_, rfl⟩) (fmono h5) h6
              rw [hblk]; rfl
      · cases h
    · cases h
  · cases h
theorem convRdL_rel (hh : HV Im ι w hp) {e : List CSh} : ∀ {svs : List SV} {m m' : MS} {rows : List (List CD)} {vs : List Value}, convRdL hp e svs m = some (rows, m') → m'.le mf → VRels Im ι w svs vs →
    FlatRel (ImW Im ι hp mf) w [.sl e] rows vs ∧ rows.length = svs.length
  | [], m, m', rows, vs, h, hle, hv => by
    simp only [convRdL] at h
    cases h
    cases (show vs = [] from hv)
    exact ⟨.nil _, rfl⟩
  | sv :: svs, m, m', rows, vs, h, hle, hv => by
    simp only [convRdL] at h
    obtain ⟨v, vs', rfl, hv1, hv2⟩ := hv
    split at h
    · rename_i e' l ds' m1 h1
      split at h
      · rename_i rows' m2 h2
        cases h
        obtain ⟨l', hl, _⟩ := convRd0_shape h1
        cases hl
        have hle1 := ((convRdL_le (D := fun _ => True) h2).1).trans hle
        have hc := convRd0_rel hh h1 hle1 hv1
        obtain ⟨k1, k2⟩ := convRdL_rel hh h2 hle hv2
        exact ⟨.cons _ _ [v] _ _ (.cons _ _ _ _ _ _ hc .nil) k1, by simp [k2]⟩
      · cases h
    · cases h
theorem convRd_rel (hh : HV Im ι w hp) {e : List CSh} {m m' : MS} {sv sv' : SV} {ds : List Dat} {v : Value} (h : convRd hp e m sv = some (sv', ds, m')) (hle : m'.le mf) (hv : VRel Im ι w sv v) : VRel (ImW Im ι hp mf) (ιW ι mf) w sv' v := by
  unfold convRd at h
  split at h
  · rename_i svs
    split at h
    · split at h
      · rename_i rows m1 h1
        cases h
        obtain ⟨ad, vs, rfl, g1, g2, g3, g4⟩ := hv
        obtain ⟨k1, k2⟩ := convRdL_rel hh h1 hle g3
        show CRel (ImW Im ι hp mf) w (.sl _) (.sl rows) _
        rcases Nat.eq_zero_or_pos svs.length with h0 | h0
        · have : rows = [] := List.length_eq_zero_iff.1 (k2.trans h0)
          subst this
          rw [h0]
          exact CRel.sl0 _ _ _ (Nat.zero_le _)
        · have hc := CRel.sl (Im := ImW Im ι hp mf) (w := w) _ rows ad svs.length vs (by omega) g1 (.inl g2) k1 g4
          rw [k2] at hc
          exact hc
      · cases h
    · cases h
  · exact convRd0_rel hh h hle hv
theorem ιW_bind {b i : Nat} {v : Value} (h : rhoI mf.ρ i = some b) (hb : ι b = some v) : ιW ι mf i = some v := by unfold ιW; rw [h]; exact hb
theorem ιW_new (hk : mf.Ok D) {i : Nat} (h : memN mf.nw i = true) : ιW ι mf i = some (.slice none 0 0) := by unfold ιW; rw [hk.nw i h]; simp [h]
theorem conv_arrI {hp : List Blk} {p : Pat} {n : Nat} {k : IntKind} {l : List Int} {sv' : SV} {m m' : MS} {ds : List Dat} (h : conv hp p (.arrI n k l) m = some (sv', ds, m')) : sv' = .arrI n k l := by
  cases p <;> simp only [conv, convRd] at h <;> try cases h
  split at h
  · rename_i hk
    rename_i n0 k0
    revert h
    cases hb : Nat.beq n0 n <;> intro h <;> cases h
    cases beq_true.1 hb; subst hk; rfl
  · cases h
theorem conv_arrB {hp : List Blk} {p : Pat} {n : Nat} {l : List Bool} {sv' : SV} {m m' : MS} {ds : List Dat} (h : conv hp p (.arrB n l) m = some (sv', ds, m')) : sv' = .arrB n l := by
  cases p <;> simp only [conv, convRd] at h <;> try cases h
  rename_i n0
  revert h
  cases hb : Nat.beq n0 n <;> intro h <;> cases h
  cases beq_true.1 hb; rfl
def SV.isArr : SV → Bool | .arrI .. => true | .arrB .. => true | _ => false
theorem inst_noarr (p : Pat) (ds : List Dat) (h1 : ∀ n k, p ≠ .arrI n k) (h2 : ∀ n, p ≠ .arrB n) : (instP p ds).1.isArr = false := by
  cases p <;> first | exact absurd rfl (h1 _ _) | exact absurd rfl (h2 _) | rfl | (cases ds with | nil => rfl | cons d ds => cases d <;> rfl)
theorem conv_noarr {hp : List Blk} {p : Pat} {sv sv' : SV} {m m' : MS} {ds : List Dat} (ha : sv.isArr = false) (h : conv hp p sv m = some (sv', ds, m')) : sv'.isArr = false := by
  have h2 := (conv_all h).2 []
  have h3 : sv' = (instP p (ds ++ [])).1 := by rw [h2]
  rw [h3]
  refine inst_noarr p _ (fun n k e => ?_) (fun n e => ?_)
  · subst e
    cases sv <;> simp only [conv] at h <;> first | cases h | cases ha
  · subst e
    cases sv <;> simp only [conv] at h <;> first | cases h | cases ha
theorem cellsRel_noarr {Im : Nat → Prop} {ι : Nat → Option Value} {w : World} {s : SV} {cs : List SV} {vs : List Value} (ha : s.isArr = false) : CellsRel Im ι w (s :: cs) vs ↔ ∃ v vs', vs = v :: vs' ∧ VRel Im ι w s v ∧ v.oneCell' = true ∧ CellsRel Im ι w cs vs' := by
  rw [CellsRel.eq_def]
  cases s <;> first | rfl | cases ha
mutual
theorem conv_rel (hh : HV Im ι w hp) (hk : mf.Ok D) : ∀ {p : Pat} {sv sv' : SV} {m m' : MS} {ds : List Dat} {v : Value}, conv hp p sv m = some (sv', ds, m') → m'.le mf → VRel Im ι w sv v → VRel (ImW Im ι hp mf) (ιW ι mf) w sv' v
  | .skip, sv, sv', m, m', ds, v, h, hle, hv => by
    simp only [conv] at h
    split at h <;> cases h
    trivial
  | .int k, sv, sv', m, m', ds, v, h, hle, hv => by
    simp only [conv] at h
    split at h
    · split at h
      · rename_i hk; cases h; subst hk; exact hv
      · cases h
    · cases h
  | .bool, sv, sv', m, m', ds, v, h, hle, hv => by
    simp only [conv] at h
    split at h <;> cases h
    exact hv
  | .str, sv, sv', m, m', ds, v, h, hle, hv => by
    simp only [conv] at h
    split at h <;> cases h
    exact hv
  | .rd e, sv, sv', m, m', ds, v, h, hle, hv => by
    simp only [conv] at h
    exact convRd_rel hh h hle hv
  | .own i, sv, sv', m, m', ds, v, h, hle, hv => by
    simp only [conv] at h
    split at h
    · split at h
      · rename_i hb
        cases h
        exact ⟨ιW_bind (hle.rho _ _ (bind_le (D := D) hb).2.1) hv.1, hv.2⟩
      · cases h
    · split at h
      · rename_i hb
        cases h
        cases (show v = .slice none 0 0 from hv)
        exact ⟨ιW_new hk (hle.nw _ (new_le (D := D) hb).2.1), _, _, _, rfl⟩
      · cases h
    · cases h
  | .ptr i c, sv, sv', m, m', ds, v, h, hle, hv => by
    simp only [conv] at h
    split at h
    · rename_i b c'
      cases hb : Nat.beq c c' <;> rw [hb] at h
      · cases h
      · simp only [cond_true] at h
        split at h
        · rename_i hbd
          cases h
          cases beq_true.1 hb
          obtain ⟨r, h1, h2⟩ := hv
          exact ⟨r, ιW_bind (hle.rho _ _ (bind_le (D := D) hbd).2.1) h1, h2⟩
        · cases h
    · cases h
  | .nilp, sv, sv', m, m', ds, v, h, hle, hv => by
    simp only [conv] at h
    split at h <;> cases h
    exact hv
  | .nils, sv, sv', m, m', ds, v, h, hle, hv => by
    simp only [conv] at h
    split at h <;> cases h
    exact hv
  | .agg ps, sv, sv', m, m', ds, v, h, hle, hv => by
    simp only [conv] at h
    split at h
    · split at h
      · rename_i hc
        cases h
        obtain ⟨vs, h1, h2⟩ := hv
        exact ⟨vs, h1, convs_cells hh hk hc hle h2⟩
      · cases h
    · cases h
  | .arrI n k, sv, sv', m, m', ds, v, h, hle, hv => by
    cases sv <;> simp only [conv] at h <;> first | cases h | exact hv.elim
  | .arrB n, sv, sv', m, m', ds, v, h, hle, hv => by
    cases sv <;> simp only [conv] at h <;> first | cases h | exact hv.elim
  | .tup ps, sv, sv', m, m', ds, v, h, hle, hv => by
    simp only [conv] at h
    split at h
    · split at h
      · rename_i hc
        cases h
        obtain ⟨vs, h1, h2⟩ := hv
        exact ⟨vs, h1, convs_rel hh hk hc hle h2⟩
      · cases h
    · cases h
  | .fn f ps, sv, sv', m, m', ds, v, h, hle, hv => by
    simp only [conv] at h
    split at h
    · rename_i f' cs
      cases hb : Nat.beq f f' <;> rw [hb] at h
      · cases h
      · simp only [cond_true] at h
        split at h
        · rename_i hc
          cases h
          cases beq_true.1 hb
          obtain ⟨vs, h1, h2⟩ := hv
          exact ⟨vs, h1, convs_rel hh hk hc hle h2⟩
        · cases h
    · cases h
  | .nili, sv, sv', m, m', ds, v, h, hle, hv => by
    simp only [conv] at h
    split at h <;> cases h
    exact hv
  | .iface t p, sv, sv', m, m', ds, v, h, hle, hv => by
    simp only [conv] at h
    split at h
    · rename_i t' u
      cases hb : Nat.beq t t' <;> rw [hb] at h
      · cases h
      · simp only [cond_true] at h
        split at h
        · rename_i hc
          cases h
          cases beq_true.1 hb
          obtain ⟨v', h1, h2⟩ := hv
          exact ⟨v', h1, conv_rel hh hk hc hle h2⟩
        · cases h
    · cases h
theorem convs_rel (hh : HV Im ι w hp) (hk : mf.Ok D) : ∀ {ps : List Pat} {svs svs' : List SV} {m m' : MS} {ds : List Dat} {vs : List Value}, convs hp ps svs m = some (svs', ds, m') → m'.le mf → VRels Im ι w svs vs → VRels (ImW Im ι hp mf) (ιW ι mf) w svs' vs
  | [], svs, svs', m, m', ds, vs, h, hle, hv => by
    simp only [convs] at h
    split at h <;> cases h
    exact hv
  | p :: ps, svs, svs', m, m', ds, vs, h, hle, hv => by
    simp only [convs] at h
    split at h
    · split at h
      · rename_i h1
        split at h
        · rename_i h2
          cases h
          obtain ⟨v, vs', rfl, k1, k2⟩ := hv
          exact ⟨v, vs', rfl, conv_rel hh hk h1 ((convs_le (D := D) h2).1.trans hle) k1, convs_rel hh hk h2 hle k2⟩
        · cases h
      · cases h
    · cases h
theorem convs_cells (hh : HV Im ι w hp) (hk : mf.Ok D) : ∀ {ps : List Pat} {svs svs' : List SV} {m m' : MS} {ds : List Dat} {vs : List Value}, convs hp ps svs m = some (svs', ds, m') → m'.le mf → CellsRel Im ι w svs vs → CellsRel (ImW Im ι hp mf) (ιW ι mf) w svs' vs
  | [], svs, svs', m, m', ds, vs, h, hle, hv => by
    simp only [convs] at h
    split at h <;> cases h
    exact hv
  | p :: ps, svs, svs', m, m', ds, vs, h, hle, hv => by
    simp only [convs] at h
    split at h
    · rename_i sv svs0
      split at h
      · rename_i sv1 d m1 h1
        split at h
        · rename_i svs2 ds2 m2 h2
          cases h
          have ih := fun vs => convs_cells (vs := vs) hh hk h2 hle
          have ih1 := fun v => conv_rel (v := v) hh hk h1 ((convs_le (D := D) h2).1.trans hle)
          cases ha : sv.isArr with
          | false =>
            obtain ⟨v, vs', rfl, k1, k2, k3⟩ := (cellsRel_noarr ha).1 hv
            exact (cellsRel_noarr (conv_noarr ha h1)).2 ⟨v, vs', rfl, ih1 v k1, k2, ih vs' k3⟩
          | true =>
            cases sv <;> first | cases ha | skip
            · cases conv_arrI h1
              obtain ⟨k1, vs', rfl, k2⟩ := cellsRel_arrI_inv hv
              exact cellsRel_arrI_mk k1 (ih vs' k2)
            · cases conv_arrB h1
              obtain ⟨k1, vs', rfl, k2⟩ := cellsRel_arrB_inv hv
              exact cellsRel_arrB_mk k1 (ih vs' k2)
        · cases h
      · cases h
    · cases h
end
theorem convT_rel (hh : HV Im ι w hp) (hk : mf.Ok D) {get : Nat → SV} : ∀ {ps : List Pat} {t : Nat} {svs' : List SV} {m m' : MS} {ds : List Dat}, convT hp get ps t m = some (svs', ds, m') → m'.le mf → ∀ {val : Nat → Value}, (∀ j, t ≤ j → j < t + ps.length → VRel Im ι w (get j) (val j)) →
    svs'.length = ps.length ∧ ∀ j, VRel (ImW Im ι hp mf) (ιW ι mf) w (lget svs' j) (val (t + j))
  | [], t, svs', m, m', ds, h, hle, val, hv => by
    simp only [convT] at h
    cases h
    exact ⟨rfl, fun j => trivial⟩
  | p :: ps, t, svs', m, m', ds, h, hle, val, hv => by
    have gen : (match conv hp p (get t) m with
        | some (sv, d, m) => (match convT hp get ps (t + 1) m with | some (svs, ds, m) => some (sv :: svs, d ++ ds, m) | none => none)
        | none => none) = some (svs', ds, m') → svs'.length = (p :: ps).length ∧ ∀ j, VRel (ImW Im ι hp mf) (ιW ι mf) w (lget svs' j) (val (t + j)) := fun h => by
      split at h
      · rename_i h1
        split at h
        · rename_i h2
          cases h
          obtain ⟨k1, k2⟩ := convT_rel hh hk h2 hle (val := val) fun j a b => hv j (by omega) (by simp; omega)
          refine ⟨by simp [k1], fun j => ?_⟩
          cases j with
          | zero => exact conv_rel hh hk h1 ((convT_le (D := D) h2).1.trans hle) (hv t (Nat.le_refl _) (by simp))
          | succ j => have := k2 j; rw [show t + 1 + j = t + (j + 1) from by omega] at this; exact this
        · cases h
      · cases h
    cases p with
    | skip =>
      simp only [convT] at h
      split at h
      · rename_i h2
        cases h
        obtain ⟨k1, k2⟩ := convT_rel hh hk h2 hle (val := val) fun j a b => hv j (by omega) (by simp; omega)
        refine ⟨by simp [k1], fun j => ?_⟩
        cases j with
        | zero => trivial
        | succ j => have := k2 j; rw [show t + 1 + j = t + (j + 1) from by omega] at this; exact this
      · cases h
    | _ => exact gen h
/-- A block. -/
theorem convB_rel (hh : HV Im ι w hp) (hk : mf.Ok D) {i : Nat} {m m' : MS} {p : BPat} {x : Blk} {ds : List Dat} (h : convB hp i m p = some (x, ds, m')) (hle : m'.le mf) : ∀ v, ιW ι mf i = some v → BRel (ImW Im ι hp mf) (ιW ι mf) w x v ∧ (live x = true → (∃ b, rhoI mf.ρ i = some b ∧ ι b = some v ∧ live (hp.getD b .none) = true) ∨ v = .slice none 0 0) := by
  intro v hv
  have hm := (convB_le (D := D) h).1.trans hle
  unfold convB at h
  split at h
  · rename_i b hb
    have hρ := hm.rho _ _ hb
    have hv' : ι b = some v := by unfold ιW at hv; rw [hρ] at hv; exact hv
    have hB := hh b v hv'
    cases p with
    | none => cases h; exact ⟨trivial, fun e => by cases e⟩
    | cells T ps =>
      simp only at h
      split at h
      · rename_i T' cs hblk
        cases hT : Nat.beq T' T <;> rw [hT] at h
        · cases h
        · simp only [cond_true] at h
          split at h
          · rename_i hc
            cases h
            cases beq_true.1 hT
            rw [hblk] at hB
            obtain ⟨r, vs, rfl, h1, h2⟩ := hB
            exact ⟨⟨r, vs, rfl, h1, convs_cells hh hk hc hle h2⟩, fun _ => .inl ⟨b, hρ, hv', by rw [hblk]; rfl⟩⟩
          · cases h
      · cases h
    | own T e =>
      simp only at h
      split at h
      · rename_i T' e' l hblk
        cases hT : Nat.beq T' T <;> rw [hT] at h
        · cases h
        · simp only [cond_true] at h
          cases hb2 : CSh.beqs e e' <;> rw [hb2] at h <;> cases h
          cases beq_true.1 hT
          cases CSh.beqs_eq _ _ hb2
          rw [hblk] at hB
          obtain ⟨xs, h1, h2⟩ := hB
          exact ⟨⟨xs, h1, h2.mono (fun _ => .inl) fun _ _ => rfl⟩, fun _ => .inl ⟨b, hρ, hv', by rw [hblk]; rfl⟩⟩
      · cases h
  · cases p with
    | none => cases h; exact ⟨trivial, fun e => by cases e⟩
    | cells T ps => cases h
    | own T e =>
      simp only at h
      cases hb : memN m.nw i <;> rw [hb] at h <;> cases h
      have := ιW_new (ι := ι) hk (hm.nw _ hb)
      rw [this] at hv
      cases hv
      exact ⟨⟨[], ⟨by simp, .inl ⟨none, rfl, rfl⟩⟩, .nil _⟩, fun _ => .inr rfl⟩
theorem convBs_rel (hh : HV Im ι w hp) (hk : mf.Ok D) : ∀ {ps : List BPat} {i : Nat} {m m' : MS} {xs : List Blk} {ds : List Dat}, convBs hp ps i m = some (xs, ds, m') → m'.le mf → ∀ j v, ιW ι mf (i + j) = some v → BRel (ImW Im ι hp mf) (ιW ι mf) w (xs.getD j .none) v ∧ (live (xs.getD j .none) = true → (∃ b, rhoI mf.ρ (i + j) = some b ∧ ι b = some v ∧ live (hp.getD b .none) = true) ∨ v = .slice none 0 0)
  | [], i, m, m', xs, ds, h, hle, j, v, hv => by
    simp only [convBs] at h
    cases h
    exact ⟨trivial, fun e => by cases e⟩
  | p :: ps, i, m, m', xs, ds, h, hle, j, v, hv => by
    simp only [convBs] at h
    split at h
    · rename_i h1
      split at h
      · rename_i h2
        cases h
        cases j with
        | zero => exact convB_rel hh hk h1 ((convBs_le (D := D) h2).1.trans hle) v hv
        | succ j =>
          rw [show i + (j + 1) = i + 1 + j from by omega] at hv ⊢
          exact convBs_rel hh hk h2 hle j v hv
      · cases h
    · cases h

/-! ### What is known of the data -/
theorem maxLen_big : maxLen ≤ 9223372036854775807 := by decide
theorem crel_len {Im : Nat → Prop} {w : World} {e : List CSh} {l : List (List CD)} {v : Value} (h : CRel Im w (.sl e) (.sl l) v) : l.length ≤ 9223372036854775807 := by
  obtain ⟨a, cap, _, h2, h3, _⟩ := CRel.slice h
  have := maxLen_big
  omega
mutual
theorem imp_elim {Im : Nat → Prop} {ι : Nat → Option Value} {w : World} : ∀ (p : Pat) (ds : List Dat) (v : Value) (K : List Dat → Prop), VRel Im ι w (instP p ds).1 v → impP p ds K → K (instP p ds).2
  | .skip, ds, v, K, hv, h => by cases ds <;> exact h
  | .int k, ds, v, K, hv, h => by
    cases ds with
    | nil => exact h
    | cons d ds => cases d <;> exact h
  | .bool, ds, v, K, hv, h => by
    cases ds with
    | nil => exact h
    | cons d ds => cases d <;> exact h
  | .str, ds, v, K, hv, h => by
    cases ds with
    | nil => exact h
    | cons d ds =>
      cases d <;> first | exact h | skip
      exact h (Nat.le_trans hv.2 maxLen_big)
  | .rd e, ds, v, K, hv, h => by
    cases ds with
    | nil => exact h
    | cons d ds =>
      cases d <;> first | exact h | skip
      exact h (crel_len hv)
  | .own i, ds, v, K, hv, h => by cases ds <;> exact h
  | .ptr i c, ds, v, K, hv, h => by cases ds <;> exact h
  | .nilp, ds, v, K, hv, h => by cases ds <;> exact h
  | .nils, ds, v, K, hv, h => by cases ds <;> exact h
  | .agg ps, ds, v, K, hv, h => by
    obtain ⟨vs, _, k⟩ := hv
    have h' : impPs ps ds K := by cases ds <;> exact h
    exact imps_cells ps ds vs K k h'
  | .arrI n k, ds, v, K, hv, h => by
    cases ds with
    | nil => exact h
    | cons d ds =>
      cases d <;> first | exact h | exact hv.elim
  | .arrB n, ds, v, K, hv, h => by
    cases ds with
    | nil => exact h
    | cons d ds =>
      cases d <;> first | exact h | exact hv.elim
  | .tup ps, ds, v, K, hv, h => by
    obtain ⟨vs, _, k⟩ := hv
    have h' : impPs ps ds K := by cases ds <;> exact h
    exact imps_elim ps ds vs K k h'
  | .fn f ps, ds, v, K, hv, h => by
    obtain ⟨vs, _, k⟩ := hv
    have h' : impPs ps ds K := by cases ds <;> exact h
    exact imps_elim ps ds vs K k h'
  | .nili, ds, v, K, hv, h => by cases ds <;> exact h
  | .iface t p, ds, v, K, hv, h => by
    obtain ⟨v', _, k⟩ := hv
    have h' : impP p ds K := by cases ds <;> exact h
    exact imp_elim p ds v' K k h'
theorem imps_elim {Im : Nat → Prop} {ι : Nat → Option Value} {w : World} : ∀ (ps : List Pat) (ds : List Dat) (vs : List Value) (K : List Dat → Prop), VRels Im ι w (instPs ps ds).1 vs → impPs ps ds K → K (instPs ps ds).2
  | [], ds, vs, K, hv, h => h
  | p :: ps, ds, vs, K, hv, h => by
    obtain ⟨v, vs', rfl, k1, k2⟩ := hv
    exact imps_elim ps _ vs' K k2 (imp_elim p ds v _ k1 h)
theorem imps_cells {Im : Nat → Prop} {ι : Nat → Option Value} {w : World} : ∀ (ps : List Pat) (ds : List Dat) (vs : List Value) (K : List Dat → Prop), CellsRel Im ι w (instPs ps ds).1 vs → impPs ps ds K → K (instPs ps ds).2
  | [], ds, vs, K, hv, h => h
  | p :: ps, ds, vs, K, hv, h => by
    have hv' : CellsRel Im ι w ((instP p ds).1 :: (instPs ps (instP p ds).2).1) vs := hv
    have ih := fun v => imp_elim (Im := Im) (ι := ι) (w := w) p ds v (fun ds => impPs ps ds K)
    have ih2 := fun vs' => imps_cells (Im := Im) (ι := ι) (w := w) ps (instP p ds).2 vs' K
    show K (instPs ps (instP p ds).2).2
    cases ha : (instP p ds).1.isArr with
    | false =>
      obtain ⟨v, vs', rfl, k1, k2, k3⟩ := (cellsRel_noarr ha).1 hv'
      exact ih2 vs' k3 (ih v k1 h)
    | true =>
      have hk : impPs ps (instP p ds).2 K := by
        cases p with
        | arrI n k =>
          cases ds with
          | nil => exact h
          | cons d ds =>
            cases d <;> first | exact h | skip
            exact h (cellsRel_arrI_inv hv').1
        | arrB n =>
          cases ds with
          | nil => exact h
          | cons d ds =>
            cases d <;> first | exact h | skip
            exact h (cellsRel_arrB_inv hv').1
        | _ =>
          rw [inst_noarr _ ds (by intro n k e; cases e) (by intro n e; cases e)] at ha
          cases ha
      obtain ⟨va, vb, rfl, _, _, k2⟩ := cellsRel_cons hv'
      exact ih2 vb k2 hk
end
theorem impB_elim {Im : Nat → Prop} {ι : Nat → Option Value} {w : World} (p : BPat) (ds : List Dat) (v : Value) (K : List Dat → Prop) (hv : BRel Im ι w (instB p ds).1 v) (h : impB p ds K) : K (instB p ds).2 := by
  cases p with
  | none => cases ds <;> exact h
  | cells T ps =>
    obtain ⟨r, vs, _, _, k⟩ := hv
    have h' : impPs ps ds K := by cases ds <;> exact h
    exact imps_cells ps ds vs K k h'
  | own T e =>
    cases ds with
    | nil => exact h
    | cons d ds =>
      cases d <;> first | exact h | skip
      rename_i l
      refine h ?_
      obtain ⟨xs, hO, _⟩ := hv
      obtain ⟨a, cap, _, h2, h3, _⟩ := OwnV.slice hO
      have := maxLen_big
      omega
mutual
theorem hs_some {Im : Nat → Prop} {ι : Nat → Option Value} {w : World} : ∀ (s : SV) (v : Value), VRel Im ι w s v → ∀ b ∈ s.hs, ∃ u, ι b = some u
  | .agg cs, v, h, b, hb => by obtain ⟨vs, _, k⟩ := h; exact hs_cells cs vs k b hb
  | .fn f cs, v, h, b, hb => by obtain ⟨vs, _, k⟩ := h; exact hs_vrels cs vs k b hb
  | .tup cs, v, h, b, hb => by obtain ⟨vs, _, k⟩ := h; exact hs_vrels cs vs k b hb
  | .sls cs, v, h, b, hb => by obtain ⟨_, vs, _, _, _, k, _⟩ := h; exact hs_vrels cs vs k b hb
  | .iface t s, v, h, b, hb => by obtain ⟨v', _, k⟩ := h; exact hs_some s v' k b hb
  | .ptr c _, v, h, b, hb => by
    obtain ⟨r, k, _⟩ := h
    have hb' : b ∈ [c] := hb
    simp only [List.mem_singleton] at hb'
    subst hb'; exact ⟨_, k⟩
  | .aptr c _ _, v, h, b, hb => by
    obtain ⟨r, k, _⟩ := h
    have hb' : b ∈ [c] := hb
    simp only [List.mem_singleton] at hb'
    subst hb'; exact ⟨_, k⟩
  | .own c, v, h, b, hb => by
    have hb' : b ∈ [c] := hb
    simp only [List.mem_singleton] at hb'
    subst hb'; exact ⟨_, h.1⟩
  | .win c _ _ _ _, v, h, b, hb => by
    obtain ⟨r, cap, k, _⟩ := h
    have hb' : b ∈ [c] := hb
    simp only [List.mem_singleton] at hb'
    subst hb'; exact ⟨_, k⟩
  | .optr c _ _ _, v, h, b, hb => by
    obtain ⟨r, n, cap, k, _⟩ := h
    have hb' : b ∈ [c] := hb
    simp only [List.mem_singleton] at hb'
    subst hb'; exact ⟨_, k⟩
  | .dead, _, _, b, hb | .int .., _, _, b, hb | .bool _, _, _, b, hb | .str _, _, _, b, hb | .nilp, _, _, b, hb | .rd .., _, _, b, hb | .e0, _, _, b, hb | .nils, _, _, b, hb | .eptr .., _, _, b, hb | .nili, _, _, b, hb | .val _, _, _, b, hb => by
    cases (show b ∈ [] from hb)
  | .arrI .., v, h, b, hb => h.elim
  | .arrB .., v, h, b, hb => h.elim
theorem hs_vrels {Im : Nat → Prop} {ι : Nat → Option Value} {w : World} : ∀ (cs : List SV) (vs : List Value), VRels Im ι w cs vs → ∀ b ∈ hsL cs, ∃ u, ι b = some u
  | [], vs, h, b, hb => by cases hb
  | s :: cs, vs, h, b, hb => by
    obtain ⟨v, vs', rfl, k1, k2⟩ := h
    rcases List.mem_append.1 (show b ∈ s.hs ++ hsL cs from hb) with hb | hb
    · exact hs_some s v k1 b hb
    · exact hs_vrels cs vs' k2 b hb
theorem hs_cells {Im : Nat → Prop} {ι : Nat → Option Value} {w : World} : ∀ (cs : List SV) (vs : List Value), CellsRel Im ι w cs vs → ∀ b ∈ hsL cs, ∃ u, ι b = some u
  | [], vs, h, b, hb => by cases hb
  | s :: cs, vs, h, b, hb => by
    have ih := fun v => hs_some (Im := Im) (ι := ι) (w := w) s v
    have ih2 := fun vs' => hs_cells (Im := Im) (ι := ι) (w := w) cs vs'
    rcases List.mem_append.1 (show b ∈ s.hs ++ hsL cs from hb) with hb | hb
    · cases ha : s.isArr with
      | false =>
        obtain ⟨v, vs', rfl, k1, _, _⟩ := (cellsRel_noarr ha).1 h
        exact ih v k1 b hb
      | true =>
        cases s <;> first | cases ha | skip
        · cases (show b ∈ [] from hb)
        · cases (show b ∈ [] from hb)
    · obtain ⟨va, vb, rfl, _, _, k⟩ := cellsRel_cons h
      exact ih2 vb k b hb
end
theorem impBs_elim {Im : Nat → Prop} {ι : Nat → Option Value} {w : World} {hs : List Nat} (hk : ∀ b ∈ hs, ∃ u, ι b = some u) : ∀ (ps : List BPat) (i : Nat) (ds : List Dat) (K : List Dat → Prop), (∀ j v, ι (i + j) = some v → BRel Im ι w ((instBs ps ds).1.getD j .none) v) → impBs hs i ps ds K → K (instBs ps ds).2
  | [], i, ds, K, hB, h => h
  | p :: ps, i, ds, K, hB, h => by
    have ih := impBs_elim hk ps (i + 1) (instB p ds).2 K fun j v hj => hB (j + 1) v (by rw [← hj]; congr 1; omega)
    unfold impBs at h
    cases hc : hs.contains i with
    | false => rw [hc] at h; exact ih h
    | true =>
      rw [hc] at h
      obtain ⟨u, hu⟩ := hk i (by simpa using hc)
      exact ih (impB_elim p ds u _ (hB 0 u hu) h)
theorem vrels_of_lget {Im : Nat → Prop} {ι : Nat → Option Value} {w : World} : ∀ (svs : List SV) (val : Nat → Value), (∀ j, VRel Im ι w (lget svs j) (val j)) → ∃ vs, VRels Im ι w svs vs
  | [], val, h => ⟨[], rfl⟩
  | s :: svs, val, h => by
    obtain ⟨vs, k⟩ := vrels_of_lget svs (fun j => val (j + 1)) fun j => h (j + 1)
    exact ⟨val 0 :: vs, val 0, vs, rfl, h 0, k⟩

/-! ### Memory -/
theorem rho_id : ∀ n i, rhoI (idRho n) i = if i < n then some i else none
  | 0, i => by simp [idRho, rhoI]
  | n + 1, i => by
    show (bif Nat.beq n i then some n else rhoI (idRho n) i) = _
    cases h : Nat.beq n i with
    | true => cases beq_true.1 h; simp
    | false =>
      rw [cond_false, rho_id n i]
      have := beq_false.1 h
      by_cases h2 : i < n
      · rw [if_pos h2, if_pos (by omega)]
      · rw [if_neg h2, if_neg (by omega)]
def noneAt : List BPat → Nat → Prop
  | [], _ => True
  | p :: _, 0 => p = .none
  | _ :: ps, i + 1 => noneAt ps i
theorem rhoB_idB : ∀ (n i : Nat) (bps : List BPat) (j : Nat), j < n → noneAt bps j ∨ rhoB (idB i n bps) (i + j) = some (i + j)
  | 0, i, bps, j, h => by omega
  | n + 1, i, [], j, h => .inl (by cases j <;> trivial)
  | n + 1, i, p :: ps, 0, h => by
    cases p with
    | none => exact .inl rfl
    | _ =>
      right
      show (bif Nat.beq i (i + 0) then some i else _) = some (i + 0)
      rw [Nat.add_zero, Nat.beq_refl]; rfl
  | n + 1, i, p :: ps, j + 1, h => by
    have ih := rhoB_idB n (i + 1) ps j (by omega)
    rcases ih with ih | ih
    · exact .inl ih
    · right
      have e : i + 1 + j = i + (j + 1) := by omega
      rw [e] at ih
      cases p with
      | none => exact ih
      | _ =>
        show (bif Nat.beq i (i + (j + 1)) then some i else rhoB (idB (i + 1) n ps) (i + (j + 1))) = _
        rw [beq_false.2 (by omega : i ≠ i + (j + 1))]
        exact ih
theorem idRho_ok (n : Nat) (bps : List BPat) : (⟨idRho n, idB 0 n bps, [], []⟩ : MS).Ok (noneAt bps) := by
  refine ⟨fun i h => (by cases h), fun i b h => ?_⟩
  have h' : rhoI (idRho n) i = some b := h
  rw [rho_id] at h'
  split at h'
  · rename_i hlt
    cases h'
    have := rhoB_idB n 0 bps i hlt
    rwa [Nat.zero_add] at this
  · cases h'
theorem convBs_none {hp : List Blk} : ∀ {ps : List BPat} {i : Nat} {m m' : MS} {xs : List Blk} {ds : List Dat}, convBs hp ps i m = some (xs, ds, m') → ∀ j, noneAt ps j → xs.getD j .none = .none
  | [], i, m, m', xs, ds, h, j, hj => by simp only [convBs] at h; cases h; rfl
  | p :: ps, i, m, m', xs, ds, h, j, hj => by
    simp only [convBs] at h
    split at h
    · rename_i x d m1 h1
      split at h
      · rename_i h2
        cases h
        cases j with
        | zero =>
          cases (show p = .none from hj)
          unfold convB at h1
          split at h1 <;> cases h1 <;> rfl
        | succ j => exact convBs_none h2 j hj
      · cases h
    · cases h
theorem apart_spec : ∀ {l : List Nat} {ρ : List (Nat × Nat)}, apart l ρ = true → ∀ b, memN l b = true → rhoB ρ b = none
  | [], _, _, b, h => by cases h
  | a :: l, ρ, h, b, hb => by
    simp only [apart] at h
    split at h
    · rename_i h1
      have hb' : (bif Nat.beq a b then true else memN l b) = true := hb
      cases hab : Nat.beq a b with
      | true => cases beq_true.1 hab; exact h1
      | false => rw [hab] at hb'; exact apart_spec h b hb'
    · cases h
theorem lastOk_spec {n : Nat} {m : MS} : ∀ {ρ : List (Nat × Nat)}, lastOk n m ρ = true → ∀ i b, rhoI ρ i = some b → i < n
  | [], _, i, b, h => by cases h
  | (b0, i0) :: ρ, h, i, b, hi => by
    simp only [lastOk, Bool.and_eq_true] at h
    have hi' : (bif Nat.beq i0 i then some b0 else rhoI ρ i) = some b := hi
    cases hab : Nat.beq i0 i with
    | true => cases beq_true.1 hab; exact blt_true.1 h.1
    | false => rw [hab] at hi'; exact lastOk_spec h.2 i b hi'
theorem below_spec {n : Nat} : ∀ {l : List Nat}, below n l = true → ∀ i, memN l i = true → i < n
  | [], _, i, h => by cases h
  | a :: l, h, i, hi => by
    simp only [below, Bool.and_eq_true] at h
    have hi' : (bif Nat.beq a i then true else memN l i) = true := hi
    cases hab : Nat.beq a i with
    | true => cases beq_true.1 hab; exact blt_true.1 h.1
    | false => rw [hab] at hi'; exact below_spec h.2 i hi'
/-- What is known of the last names. -/
structure Fine (D : Nat → Prop) (n0 n : Nat) (m : MS) : Prop where
  ok : m.Ok D
  id : ∀ i, i < n0 → rhoI m.ρ i = some i
  apart : ∀ b, memN m.fz b = true → rhoB m.β b = none
  last : ∀ i b, rhoI m.ρ i = some b → i < n
  nw : ∀ i, memN m.nw i = true → i < n
  le : n0 ≤ n
theorem fine_of {n0 n : Nat} {bps : List BPat} {m m1 : MS} (h1 : (⟨idRho n0, idB 0 n0 bps, [], []⟩ : MS).le m1 ∧ ((⟨idRho n0, idB 0 n0 bps, [], []⟩ : MS).Ok (noneAt bps) → m1.Ok (noneAt bps))) (h2 : m1.le m ∧ (m1.Ok (noneAt bps) → m.Ok (noneAt bps))) (hn : n0 ≤ n) (hf : m.fine n = true) : Fine (noneAt bps) n0 n m := by
  unfold MS.fine at hf
  simp only [Bool.and_eq_true] at hf
  exact ⟨h2.2 (h1.2 (idRho_ok n0 bps)), fun i hi => h2.1.rho _ _ (h1.1.rho _ _ (by show rhoI (idRho n0) i = _; rw [rho_id, if_pos hi])), fun b hb => apart_spec hf.1 b hb, fun i b h => lastOk_spec hf.2.1 i b h, fun i h => below_spec hf.2.2 i h, hn⟩
theorem ιW_lt {n0 n : Nat} {m : MS} (hf : Fine D n0 n m) {i : Nat} (h : n ≤ i) : ιW ι m i = none := by
  unfold ιW
  cases hr : rhoI m.ρ i with
  | some b => have := hf.last i b hr; omega
  | none =>
    cases hn : memN m.nw i with
    | true => have := hf.nw i hn; omega
    | false => rfl
theorem ιW_id {n0 n : Nat} {m : MS} (hf : Fine D n0 n m) {i : Nat} (h : i < n0) : ιW ι m i = ι i := by
  unfold ιW
  rw [hf.id i h]
/-- The memory, told by the pattern. -/
theorem weak_mem {C : Ctx} {E : Ent} {hp' : List Blk} {n0 n : Nat} (hm : Mem C E hp Im ι w) (hf : Fine D n0 n mf) (hlen : hp'.length = n)
    (hB : ∀ j v, ιW ι mf j = some v → BRel (ImW Im ι hp mf) (ιW ι mf) w (hp'.getD j .none) v ∧ (live (hp'.getD j .none) = true → (∃ b, rhoI mf.ρ j = some b ∧ ι b = some v ∧ live (hp.getD b .none) = true) ∨ v = .slice none 0 0))
    (hD : ∀ j, D j → hp'.getD j .none = .none) (hE : ∀ b, n0 ≤ b → E.ι b = none) (hg : ∀ g sv, C.glob g = some sv → ∃ e l i c, sv = .eptr e l i c) : Mem C E hp' (ImW Im ι hp mf) (ιW ι mf) w := by
  have hlt : ∀ b v r, live (hp.getD b .none) = true → ι b = some v → foot v = some r → r < w.heap.size := fun b v r h1 h2 h3 => by
    have hb := hm.hv b v h2
    cases hblk : hp.getD b .none with
    | none => rw [hblk] at h1; cases h1
    | ro e l => rw [hblk] at h1; cases h1
    | cells T cs =>
      rw [hblk] at hb
      obtain ⟨r', vs, rfl, h4, _⟩ := hb
      cases h3
      exact (Array.getElem?_eq_some_iff.1 h4).1
    | own T e l =>
      rw [hblk] at hb
      obtain ⟨xs, ⟨_, h2⟩, _⟩ := hb
      rcases h2 with ⟨a, rfl, _⟩ | ⟨g, cap, cur, rfl, h4, _, h6, _⟩
      · exfalso
        revert h3
        cases a <;> simp [foot]
      · simp [foot] at h3
        obtain ⟨_, rfl⟩ := h3
        exact (Array.getElem?_eq_some_iff.1 h4).1
  have hinj : ∀ j b, live (hp'.getD j .none) = true → rhoI mf.ρ j = some b → rhoB mf.β b = some j := fun j b h1 h2 => by
    rcases hf.ok.inj j b h2 with h | h
    · rw [hD j h] at h1; cases h1
    · exact h
  have hnil : foot (.slice none 0 0) = none := rfl
  have hsrc : ∀ j v r, live (hp'.getD j .none) = true → ιW ι mf j = some v → foot v = some r → ∃ b, rhoI mf.ρ j = some b ∧ ι b = some v ∧ live (hp.getD b .none) = true := fun j v r h1 h2 h3 => by
    rcases (hB j v h2).2 h1 with h | h
    · exact h
    · subst h; rw [hnil] at h3; cases h3
  refine ⟨fun j v hj => (hB j v hj).1, ⟨fun r hr => ?_, fun j v r h1 h2 h3 => ?_, fun j j' v v' r h1 h2 h3 h4 h5 h6 => ?_, fun j v r h1 h2 h3 => ?_⟩, ⟨hm.since.os, hm.since.tape, hm.since.output, hm.since.size, hm.since.block, fun b v hb => ?_, fun i hi => .inl (hm.since.im i hi), fun i hi => ?_⟩, fun g sv hs => ?_⟩
  · rcases hr with hr | ⟨b, v, h1, h2, h3, h4⟩
    · exact hm.mr.imlt r hr
    · exact hlt b v r h3 h2 h4
  · obtain ⟨b, g1, g2, g3⟩ := hsrc j v r h1 h2 h3
    rintro (hr | ⟨b', v', k1, k2, k3, k4⟩)
    · exact hm.mr.imm b v r g3 g2 h3 hr
    · have := hm.mr.sep b b' v v' r g3 k3 g2 k2 h3 k4
      subst this
      have := hinj j b h1 g1
      rw [hf.apart b k1] at this
      cases this
  · obtain ⟨b, g1, g2, g3⟩ := hsrc j v r h1 h3 h5
    obtain ⟨b', k1, k2, k3⟩ := hsrc j' v' r h2 h4 h6
    have := hm.mr.sep b b' v v' r g3 k3 g2 k2 h5 h6
    subst this
    have e1 := hinj j b h1 g1
    have e2 := hinj j' b h2 k1
    rw [e1] at e2
    cases e2; rfl
  · obtain ⟨b, g1, g2, g3⟩ := hsrc j v r h1 h2 h3
    exact hm.mr.mine b v r g3 g2 h3
  · rcases Nat.lt_or_ge b n0 with h | h
    · rw [ιW_id hf h]; exact hm.since.hd b v hb
    · rw [hE b h] at hb; cases hb
  · rcases hi with hi | ⟨b, v, h1, h2, h3, h4⟩
    · exact hm.since.imnew i hi
    · exact .inr (hm.mr.mine b v i h3 h2 h4)
  · obtain ⟨e, l, i, c, rfl⟩ := hg g sv hs
    have := hm.glob g _ hs
    obtain ⟨ad, xs, k1, k2, k3, k4⟩ := this
    exact ⟨ad, xs, k1, .inl k2, k3.mono (fun _ => .inl) fun _ _ => rfl, k4⟩
end
end Go.Avc
