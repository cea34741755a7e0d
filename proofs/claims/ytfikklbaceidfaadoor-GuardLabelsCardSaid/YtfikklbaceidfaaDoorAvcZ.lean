/-
  AVC, part Z: code for the kernel: loops and cuts by patterns; results by contracts.
-/
import Derived.Test.YtfikklbaceidfaaDoorAvcYS
import Derived.Test.YtfikklbaceidfaaDoorAvcU
namespace Go.Avc
set_option linter.unusedVariables false
set_option linter.unusedSimpArgs false

/-- What is said at a loop's head, or where ways meet. -/
structure LA where
  n : Nat
  ps : List Pat
  bs : List BPat
  R : List Dat → Prop
  m : List Dat → Nat
/-- By the first region's number: one of several is so. -/
structure Ann where
  cut : List (Nat × List LA)
  loop : List (Nat × List LA)
  /-- A loop of which what is said hangs on what stood there when it was come to (a loop in a loop): first the state is told by a pattern, then that is named. -/
  nest : List (Nat × List LA × (List Dat → List LA)) := []
def laOf : List (Nat × List LA) → Nat → Option (List LA)
  | [], _ => none
  | (k, A) :: l, i => bif Nat.beq k i then some A else laOf l i
def nestOf : List (Nat × List LA × (List Dat → List LA)) → Nat → Option (List LA × (List Dat → List LA))
  | [], _ => none
  | (k, A) :: l, i => bif Nat.beq k i then some A else nestOf l i
/-- A piece of code is named by its first region. -/
def keyC : Code → Nat
  | .region id _ _ => id
  | .seq x _ => keyC x
  | .block _ c => keyC c
  | .loop c => keyC c
  | .cond _ x _ => keyC x
  | .scope c => keyC c
  | _ => 1000000
/-- Nothing is said of a loop, or a state doesn't fit: there is no proof of it. -/
inductive Miss : Nat → ES → Prop
/-- The slots that are looked at. -/
def pl : Nat → Nat → List (Nat × Pat) → List Pat
  | 0, _, _ => []
  | k + 1, t, l => (match plAt l t with | some p => p | none => .skip) :: pl k (t + 1) l
where plAt : List (Nat × Pat) → Nat → Option Pat
  | [], _ => none
  | (d, p) :: l, t => bif Nat.beq d t then some p else plAt l t
def hitL (n0 : Nat) (s : ES) (K : LA → List Dat → Prop) : List LA → Prop
  | [] => Miss 0 s
  | A :: l => (match s with
    | ⟨n, ov, tm, hp, G⟩ => bif Nat.beq A.ps.length A.n && Nat.beq n A.n then (match weakT n0 hp (oget ov tm) A.ps A.bs with | some (_, _, ds, _) => K A ds | none => hitL n0 s K l) else hitL n0 s K l)
def allE (A : LA) (K : ES → List Dat → Prop) : Prop := allPs A.ps fun tm ds => allBs A.bs fun hp ds' => impPs A.ps ds fun _ => impBs (hsL tm) 0 A.bs ds' fun _ => K ⟨A.n, [], tm, hp, []⟩ (ds ++ ds')
def allL (K : LA → ES → List Dat → Prop) : List LA → Prop
  | [] => True
  | [A] => allE A (K A)
  | A :: l => allE A (K A) ∧ allL K l
def thenE (K : ES → Prop) (Q : Exit → ES → Prop) : Exit → ES → Prop
  | .normal, s => K s
  | e, s => Q e s
def inBlockE (id : Nat) (Q : Exit → ES → Prop) : Exit → ES → Prop
  | .exit id', s => bif Nat.beq id' id then Q .normal s else Q (.exit id') s
  | e, s => Q e s
def ES.clr (s : ES) (K : ES → Prop) : Prop := match s with | ⟨n, ov, tm, hp, _⟩ => K ⟨n, ov, tm, hp, []⟩
section
variable (C : Ctx) (n0 : Nat) (ann : Ann)
def evE : Code → ES → (Exit → ES → Prop) → Prop
  | .skip, s, Q => Q .normal s
  | .label _, s, Q => Q .normal s
  | .region _ ops draw, s, Q => (match draw with | true => drawE C ops s (fun s => s.clr (Q .normal)) | false => opsE C ops ops.toList s (fun s => s.clr (Q .normal)))
  | .seq x y, s, Q => (match laOf ann.cut (keyC y) with
    | none => evE x s (thenE (fun s => evE y s Q) Q)
    | some l => evE x s (thenE (fun s => hitL n0 s (fun A ds => A.R ds ∧ True) l) Q) ∧ allL (fun A s ds => A.R ds → evE y s Q) l)
  | .cond c x y, s, Q => (match s.ev C.glob c with | .bool b => bif b then evE x s Q else evE y s Q | _ => Miss 1 s)
  | .block id c, s, Q => evE c s (inBlockE id Q)
  | .loop c, s, Q => (match laOf ann.loop (keyC c) with
    | some l => hitL n0 s (fun A ds => A.R ds ∧ True) l ∧ allL (fun A s ds => A.R ds → evE c s (thenE (fun s => hitL n0 s (fun A' ds' => A'.R ds' ∧ A'.m ds' < A.m ds) l) Q)) l
    | none => (match nestOf ann.nest (keyC c) with
      | some (l0, g) => hitL n0 s (fun _ ds0 => hitL n0 s (fun A ds => A.R ds ∧ True) (g ds0) ∧ allL (fun A s ds => A.R ds → evE c s (thenE (fun s => hitL n0 s (fun A' ds' => A'.R ds' ∧ A'.m ds' < A.m ds) (g ds0)) Q)) (g ds0)) l0
      | none => Miss (keyC c) s))
  | .exit id, s, Q => Q (.exit id) s
  | .goto l, s, Q => Q (.goto l) s
  | .ret, s, Q => Q .ret s
  | _, _, _ => False
end

section
variable {C : Ctx} {E B : Ent} {n0 : Nat}
theorem clr_ok {s : ES} (hs : s.Ok) {K : ES → Prop} (h : s.clr K) : ∃ s' : ES, s'.Ok ∧ s'.as = s.as ∧ K s' := by
  obtain ⟨n, ov, tm, hp, G⟩ := s
  exact ⟨⟨n, ov, tm, hp, []⟩, ⟨hs.len, hs.ov, (fun g hg => by cases hg), fun g hg => by cases hg⟩, rfl, h⟩
theorem allL_mem {K : LA → ES → List Dat → Prop} : ∀ {l : List LA}, allL K l → ∀ A ∈ l, allE A (K A)
  | [], _, A, h => by cases h
  | [A0], h, A, hA => by
    simp only [List.mem_singleton] at hA
    subst hA; exact h
  | A0 :: A1 :: l, h, A, hA => by
    rcases List.mem_cons.1 hA with rfl | hA
    · exact h.1
    · exact allL_mem h.2 A hA
theorem hit_sound (hC : C.Ok) (hE : ∀ b, n0 ≤ b → E.ι b = none) (hB : ∀ b, n0 ≤ b → B.ι b = none) (hF : ∀ b, B.F b → b < n0) {s : ES} {K : LA → List Dat → Prop} {a : Act} {w : World} (hs : s.Ok) (hR : RelF C E B s.as a w) : ∀ l : List LA, hitL n0 s K l →
    ∃ A ∈ l, ∃ (tm : List SV) (hp : List Blk) (ds : List Dat), RelF C E B ⟨tm, hp⟩ a w ∧ K A ds ∧ tm.length = A.n ∧ ∀ F, allE A F → F ⟨A.n, [], tm, hp, []⟩ ds
  | [], h => by cases h
  | A :: l, h => by
    have other : hitL n0 s K l → ∃ A' ∈ A :: l, ∃ (tm : List SV) (hp : List Blk) (ds : List Dat), RelF C E B ⟨tm, hp⟩ a w ∧ K A' ds ∧ tm.length = A'.n ∧ ∀ F, allE A' F → F ⟨A'.n, [], tm, hp, []⟩ ds := fun h => by
      obtain ⟨A', h1, h2⟩ := hit_sound hC hE hB hF (K := K) hs hR l h
      exact ⟨A', List.mem_cons_of_mem _ h1, h2⟩
    obtain ⟨n, ov, tm, hp, G⟩ := s
    simp only [hitL] at h
    cases hn : (Nat.beq A.ps.length A.n && Nat.beq n A.n) with
    | false => rw [hn] at h; exact other h
    | true =>
      rw [hn] at h
      simp only [cond_true] at h
      simp only [Bool.and_eq_true] at hn
      have hn' := beq_true.1 hn.1
      have hn2 := beq_true.1 hn.2
      split at h
      · rename_i svs' hp' ds m hw
        obtain ⟨ds1, ds2, m1, rfl, h1, h2, h3, h4⟩ := weakT_all hw
        obtain ⟨Im, ι, hRel, hFr, hA⟩ := hR
        have f1 := convT_le (D := noneAt A.bs) h1
        have f2 := convBs_le (D := noneAt A.bs) h2
        have fine := fine_of f1 f2 h3 h4
        have hlenB : hp'.length = A.bs.length := (convBs_all h2).2.2
        have hmem : Mem C E hp' (ImW Im ι hp m) (ιW ι m) w := weak_mem hRel.mem fine hlenB (fun j v hj => by
          have := convBs_rel hRel.mem.hv fine.ok h2 (.refl _) j v (by rw [Nat.zero_add]; exact hj)
          rwa [Nat.zero_add] at this) (fun j hj => convBs_none h2 j hj) hE hC.globE
        obtain ⟨k1, k2⟩ := convT_rel hRel.mem.hv fine.ok h1 f2.1 (val := fun t => a.tmps.getD t undef) fun j _ _ => by
          rw [oget_eq _ _ hs.ov]; exact hRel.tm j
        have hlen : svs'.length = A.n := by rw [k1, hn']
        refine ⟨A, List.mem_cons_self, svs', hp', ds1 ++ ds2, ⟨ImW Im ι hp m, ιW ι m, ⟨hRel.defers, ?_, fun t => ?_, hmem⟩, fun b hb => ιW_lt fine (by rw [← hlenB]; exact hb), ⟨⟨fun i hi => .inl (hA.later.im i hi), fun b v hb => ?_, hA.later.mem⟩, fun b hb => ?_⟩⟩, h, hlen, fun F hF => ?_⟩
        · rw [hRel.size]
          show (applyOv ov tm).length = svs'.length
          rw [length_applyOv, hlen, ← hn2]; exact hs.len.symm
        · have := k2 t
          rwa [Nat.zero_add] at this
        · rcases Nat.lt_or_ge b n0 with hb0 | hb0
          · rw [ιW_id fine hb0]; exact hA.later.hd b v hb
          · rw [hB b hb0] at hb; cases hb
        · have hb0 := hF b hb
          exact ⟨by rw [hlenB]; exact Nat.lt_of_lt_of_le hb0 h3, by rw [ιW_id fine hb0]; exact (hA.keep b hb).2⟩
        · have e1 := (convBs_all h2).1 _ ((convT_all h1).1 _ hF)
          have i1 := (convT_all h1).2 []
          have i2 := (convBs_all h2).2.1 []
          rw [List.append_nil] at i1 i2
          obtain ⟨vs, hvs⟩ := vrels_of_lget (Im := ImW Im ι hp m) (ι := ιW ι m) (w := w) svs' (fun t => a.tmps.getD t undef) fun j => by have := k2 j; rwa [Nat.zero_add] at this
          have e2 := imps_elim A.ps ds1 vs _ (by rw [i1]; exact hvs) e1
          exact impBs_elim (hs_vrels svs' vs hvs) A.bs 0 ds2 _ (fun j v hj => by rw [i2]; exact hmem.hv j v (by rw [← hj]; congr 1; omega)) e2
      · exact other h
theorem es_ok {n : Nat} {tm : List SV} {hp : List Blk} (h : tm.length = n) : (⟨n, [], tm, hp, []⟩ : ES).Ok := ⟨h.symm, (fun p hp => by cases hp), (fun g hg => by cases hg), fun g hg => by cases hg⟩

theorem evE_sound (hC : C.Ok) (ann : Ann) (hE : ∀ b, n0 ≤ b → E.ι b = none) (hB : ∀ b, n0 ≤ b → B.ι b = none) (hF : ∀ b, B.F b → b < n0) : ∀ (c : Code) (s : ES) (Q' : Exit → ES → Prop) (Q : Exit → Act → World → Prop) (a : Act) (w : World), s.Ok → RelF C E B s.as a w → evE C n0 ann c s Q' →
    (∀ e s a w, Q' e s → s.Ok → RelF C E B s.as a w → Q e a w) → c.wp C.P Q a w
  | .skip, s, Q', Q, a, w, hs, hR, h, hQ => wp_skip (hQ _ _ _ _ h hs hR)
  | .label _, s, Q', Q, a, w, hs, hR, h, hQ => wp_label (hQ _ _ _ _ h hs hR)
  | .region id ops draw, s, Q', Q, a, w, hs, hR, h, hQ => by
    cases draw with
    | true =>
      refine draw_sound hC hC.mixed (K := Next fun s => s.clr (Q' .normal)) (fun s a w k r => ?_) hR (drawE_imp hs h)
      obtain ⟨s', h1, h2, h3⟩ := k
      obtain ⟨s'', k1, k2, k3⟩ := clr_ok h1 h3
      exact hQ _ _ _ _ k3 k1 (by rw [k2, h2]; exact r)
    | false =>
      refine region_sound hC (K := Next fun s => s.clr (Q' .normal)) (fun s a w k r => ?_) hR (opsE_imp _ _ hs h)
      obtain ⟨s', h1, h2, h3⟩ := k
      obtain ⟨s'', k1, k2, k3⟩ := clr_ok h1 h3
      exact hQ _ _ _ _ k3 k1 (by rw [k2, h2]; exact r)
  | .seq x y, s, Q', Q, a, w, hs, hR, h, hQ => by
    simp only [evE] at h
    split at h
    · refine wp_seq (evE_sound hC ann hE hB hF x s _ _ a w hs hR h fun e s a w k hs r => ?_)
      cases e with
      | normal => exact evE_sound hC ann hE hB hF y s Q' Q a w hs r k hQ
      | exit id => exact hQ _ _ _ _ k hs r
      | goto l => exact hQ _ _ _ _ k hs r
      | ret => exact hQ _ _ _ _ k hs r
      | panic c => exact hQ _ _ _ _ k hs r
      | outgrown => exact hQ _ _ _ _ k hs r
    · rename_i l hl
      refine wp_seq (evE_sound hC ann hE hB hF x s _ _ a w hs hR h.1 fun e s' a w k hs' r => ?_)
      cases e with
      | normal =>
        obtain ⟨A, hA, tm, hp, ds, k1, k2, k3, k4⟩ := hit_sound hC hE hB hF hs' r l k
        exact evE_sound hC ann hE hB hF y ⟨A.n, [], tm, hp, []⟩ Q' Q a w (es_ok k3) k1 (k4 (fun s ds => A.R ds → evE C n0 ann y s Q') (allL_mem h.2 A hA) k2.1) hQ
      | exit id => exact hQ _ _ _ _ k hs' r
      | goto l => exact hQ _ _ _ _ k hs' r
      | ret => exact hQ _ _ _ _ k hs' r
      | panic c => exact hQ _ _ _ _ k hs' r
      | outgrown => exact hQ _ _ _ _ k hs' r
  | .cond c x y, s, Q', Q, a, w, hs, hR, h, hQ => by
    simp only [evE] at h
    split at h
    · rename_i b hb
      obtain ⟨Im, ι, hR', hFr, hA⟩ := hR
      have hv := ev_rel (hp := s.as.hp) hR'.tm hR'.mem.glob c
      have e1 : AS.ev C.glob ⟨s.as.tm, s.as.hp⟩ c = s.as.ev C.glob c := rfl
      rw [e1, ← s.ev_eq hs C.glob, hb] at hv
      have hv' : a.eval c = .bool b := hv
      refine wp_cond_split hv' (fun ht => ?_) (fun hf => ?_)
      · subst ht; exact evE_sound hC ann hE hB hF x s Q' Q a w hs ⟨Im, ι, hR', hFr, hA⟩ h hQ
      · subst hf; exact evE_sound hC ann hE hB hF y s Q' Q a w hs ⟨Im, ι, hR', hFr, hA⟩ h hQ
    · cases h
  | .block id c, s, Q', Q, a, w, hs, hR, h, hQ => by
    refine wp_block (evE_sound hC ann hE hB hF c s _ _ a w hs hR h fun e s a w k hs r => ?_)
    cases e with
    | exit id' =>
      simp only [inBlockE] at k
      simp only [Exit.inBlock]
      cases hid : Nat.beq id' id with
      | true => rw [hid] at k; rw [if_pos (beq_true.1 hid)]; exact hQ _ _ _ _ k hs r
      | false => rw [hid] at k; rw [if_neg (beq_false.1 hid)]; exact hQ _ _ _ _ k hs r
    | normal => exact hQ _ _ _ _ k hs r
    | goto l => exact hQ _ _ _ _ k hs r
    | ret => exact hQ _ _ _ _ k hs r
    | panic c => exact hQ _ _ _ _ k hs r
    | outgrown => exact hQ _ _ _ _ k hs r
  | .loop c, s, Q', Q, a, w, hs, hR, h, hQ => by
    simp only [evE] at h
    have key : ∀ l : List LA, hitL n0 s (fun A ds => A.R ds ∧ True) l → allL (fun A s ds => A.R ds → evE C n0 ann c s (thenE (fun s => hitL n0 s (fun A' ds' => A'.R ds' ∧ A'.m ds' < A.m ds) l) Q')) l → Code.wp C.P (.loop c) Q a w := fun l h0 hround => by
      let J : Nat → Act → World → Prop := fun n a w => ∃ A ∈ l, ∃ (tm : List SV) (hp : List Blk) (ds : List Dat), RelF C E B ⟨tm, hp⟩ a w ∧ A.R ds ∧ tm.length = A.n ∧ (∀ F, allE A F → F ⟨A.n, [], tm, hp, []⟩ ds) ∧ A.m ds = n
      obtain ⟨A0, hA0, tm, hp, ds, k1, k2, k3, k4⟩ := hit_sound hC hE hB hF hs hR l h0
      refine wp_loop (fun a w => ∃ n, J n a w) (fun a w => leastOf fun n => J n a w) ⟨_, A0, hA0, tm, hp, ds, k1, k2.1, k3, k4, rfl⟩ fun a w hI => ?_
      obtain ⟨n, hn⟩ := hI
      obtain ⟨⟨A, hA, tm, hp, ds, k1, k2, k3, k4, k5⟩, hmin⟩ := leastOf_spec (p := fun n => J n a w) hn
      refine evE_sound hC ann hE hB hF c ⟨A.n, [], tm, hp, []⟩ _ _ a w (es_ok k3) k1 (k4 (fun s ds => A.R ds → evE C n0 ann c s (thenE (fun s => hitL n0 s (fun A' ds' => A'.R ds' ∧ A'.m ds' < A.m ds) l) Q')) (allL_mem hround A hA) k2) fun e s a' w' k hs' r => ?_
      cases e with
      | normal =>
        obtain ⟨A', hA', tm', hp', ds', g1, g2, g3, g4⟩ := hit_sound hC hE hB hF hs' r l k
        have hJ : J (A'.m ds') a' w' := ⟨A', hA', tm', hp', ds', g1, g2.1, g3, g4, rfl⟩
        refine ⟨⟨_, hJ⟩, Nat.lt_of_le_of_lt ((leastOf_spec (p := fun n => J n a' w') hJ).2 _ hJ) ?_⟩
        rw [← k5]; exact g2.2
      | exit id => exact hQ _ _ _ _ k hs' r
      | goto l => exact hQ _ _ _ _ k hs' r
      | ret => exact hQ _ _ _ _ k hs' r
      | panic c => exact hQ _ _ _ _ k hs' r
      | outgrown => exact hQ _ _ _ _ k hs' r
    split at h
    · rename_i l hl
      exact key l h.1 h.2
    · split at h
      · rename_i l0 g hg
        obtain ⟨_, _, _, _, ds0, _, k2, _, _⟩ := hit_sound hC hE hB hF hs hR l0 h
        exact key (g ds0) k2.1 k2.2
      · cases h
  | .exit id, s, Q', Q, a, w, hs, hR, h, hQ => wp_exit (hQ _ _ _ _ h hs hR)
  | .goto l, s, Q', Q, a, w, hs, hR, h, hQ => wp_goto (hQ _ _ _ _ h hs hR)
  | .ret, s, Q', Q, a, w, hs, hR, h, hQ => wp_ret (hQ _ _ _ _ h hs hR)
  | .rangeFunc .., _, _, _, _, _, _, _, h, _ => h.elim
  | .scope _, _, _, _, _, _, _, _, h, _ => h.elim

/-! ### Results -/
def resE (P : Program) (s : ES) : ResultVar → Option SV
  | .tmp t => some (oget s.ov s.tm t)
  | .cell a T => (match oget s.ov s.tm a with
    | .ptr b c => (match evLoad P s.hp T (.ptr b c) with | .val sv => some sv | _ => none)
    | _ => none)
def resEs (P : Program) (s : ES) : List ResultVar → Option (List SV)
  | [] => some []
  | r :: rs => (match resE P s r, resEs P s rs with | some x, some xs => some (x :: xs) | _, _ => none)
def resEOf (P : Program) (s : ES) (rs : List ResultVar) : Option SV :=
  match resEs P s rs with | some [x] => some x | some xs => some (.tup xs) | none => none
theorem resE_eq {P : Program} {s : ES} (hs : s.Ok) (r : ResultVar) : resE P s r = resSV P s.as r := by
  cases r with
  | tmp t => simp only [resE, resSV]; rw [oget_eq _ _ hs.ov]; rfl
  | cell a T => simp only [resE, resSV]; rw [oget_eq _ _ hs.ov]; rfl
theorem resEs_eq {P : Program} {s : ES} (hs : s.Ok) : ∀ rs : List ResultVar, resEs P s rs = resSVs P s.as rs
  | [] => rfl
  | r :: rs => by
    simp only [resEs, resSVs, resE_eq hs, resEs_eq hs rs]
    cases resSV P s.as r <;> cases resSVs P s.as rs <;> rfl
theorem resEOf_eq {P : Program} {s : ES} (hs : s.Ok) (rs : List ResultVar) : resEOf P s rs = resOf P s.as rs := by
  unfold resEOf resOf; rw [resEs_eq hs]
  cases resSVs P s.as rs with
  | none => rfl
  | some l => cases l with
    | nil => rfl
    | cons a l => cases l <;> rfl
def retE (P : Program) (rs : List ResultVar) (K : SV → List Blk → Prop) : Exit → ES → Prop
  | .normal, s => (match resEOf P s rs with | some sv => forceSV sv fun sv => K sv s.hp | none => Miss 3 s)
  | .ret, s => (match resEOf P s rs with | some sv => forceSV sv fun sv => K sv s.hp | none => Miss 3 s)
  | _, _ => False
/-- Results, by cases. -/
inductive Res where
  | ite (b : Bool) (r1 r2 : Res)
  | ret (rp : Pat) (rb : List BPat) (ds : List Dat)
def eqD : Dat → Dat → Prop
  | .i a, .i b => a = b
  | .b a, .b b => a = b
  | .s a, .s b => a = b
  | .r a, .r b => a = b
  | .li a, .li b => a = b
  | .lb a, .lb b => a = b
  | _, _ => False
def eqDs : List Dat → List Dat → Prop
  | [], [] => True
  | [a], [b] => eqD a b
  | a :: l, b :: m => eqD a b ∧ eqDs l m
  | _, _ => False
theorem eqD_eq {a b : Dat} (h : eqD a b) : a = b := by
  cases a <;> cases b <;> simp only [eqD] at h <;> first | (subst h; rfl) | exact h.elim
theorem eqDs_eq : ∀ {l m : List Dat}, eqDs l m → l = m
  | [], [], _ => rfl
  | [a], [b], h => by rw [eqD_eq h]
  | a :: a' :: l, b :: b' :: m, h => by
    obtain ⟨h1, h2⟩ := h
    rw [eqD_eq h1, eqDs_eq h2]
  | [], _ :: _, h => h.elim
  | _ :: _, [], h => by simp [eqDs] at h
  | [a], b :: b' :: m, h => by
    obtain ⟨_, h2⟩ := h
    simp [eqDs] at h2
  | a :: a' :: l, [b], h => by
    obtain ⟨_, h2⟩ := h
    simp [eqDs] at h2
def Res.ok (n0 : Nat) : Res → SV → List Blk → Prop
  | .ite b r1 r2, sv, hp => bif b then r1.ok n0 sv hp else r2.ok n0 sv hp
  | .ret rp rb ds, sv, hp => (match weakL n0 hp [rp] [sv] rb with | some (_, _, ds', _) => eqDs ds' ds | none => Miss 2 ⟨0, [], [sv], hp, []⟩)
def Res.leaf : Res → Pat × List BPat × List Dat
  | .ite b r1 r2 => bif b then r1.leaf else r2.leaf
  | .ret rp rb ds => (rp, rb, ds)
/-- What a function does on its own memory. -/
def ResPost (C : Ctx) (E : Ent) (Im : Nat → Prop) (ι : Nat → Option Value) (w : World) (n0 : Nat) (r : Res) : Ending → World → Prop := fun e w' =>
  ∃ v Im' ι' hp' ds1, e = .returned v ∧ instP r.leaf.1 r.leaf.2.2 = ((instP r.leaf.1 r.leaf.2.2).1, ds1) ∧ hp' = (instBs r.leaf.2.1 ds1).1 ∧ VRel Im' ι' w' (instP r.leaf.1 r.leaf.2.2).1 v ∧ Mem C E hp' Im' ι' w' ∧ hp'.length = r.leaf.2.1.length ∧
    (∀ b, r.leaf.2.1.length ≤ b → ι' b = none) ∧ Later Im ι w Im' ι' w' ∧ n0 ≤ r.leaf.2.1.length ∧ ∀ b, b < n0 → ι' b = ι b
theorem res_sound (hC : C.Ok) (hE : ∀ b, n0 ≤ b → E.ι b = none) {Im Im' : Nat → Prop} {ι ι' : Nat → Option Value} {w w' : World} {hp : List Blk} {v : Value} {sv : SV} (hl : Later Im ι w Im' ι' w') (hι : ∀ b, n0 ≤ b → ι b = none) (hk : ∀ b, b < n0 → ι' b = ι b) (hm : Mem C E hp Im' ι' w') (hv : VRel Im' ι' w' sv v) :
    ∀ r : Res, r.ok n0 sv hp → ResPost C E Im ι w n0 r (.returned v) w'
  | .ite true r1 r2, h => res_sound hC hE hl hι hk hm hv r1 h
  | .ite false r1 r2, h => res_sound hC hE hl hι hk hm hv r2 h
  | .ret rp rb ds, h => by
    simp only [Res.ok] at h
    split at h
    · rename_i svs' hp' ds' m hw
      cases eqDs_eq h
      obtain ⟨ds1, ds2, m1, rfl, h1, h2, h3, h4⟩ := weakL_all hw
      have f1 := convs_le (D := noneAt rb) h1
      have f2 := convBs_le (D := noneAt rb) h2
      have fine := fine_of f1 f2 h3 h4
      have hB := convBs_all h2
      have hP := (convs_all h1).2 ds2
      have hrel := convs_rel (vs := [v]) hm.hv fine.ok h1 f2.1 ⟨v, [], rfl, hv, rfl⟩
      have hP' : instPs [rp] (ds1 ++ ds2) = ([(instP rp (ds1 ++ ds2)).1], (instP rp (ds1 ++ ds2)).2) := by simp [instPs]
      rw [hP'] at hP
      injection hP with hP1 hP2
      have hmem : Mem C E hp' (ImW Im' ι' hp m) (ιW ι' m) w' := weak_mem hm fine hB.2.2 (fun j v hj => by
        have := convBs_rel hm.hv fine.ok h2 (.refl _) j v (by rw [Nat.zero_add]; exact hj)
        rwa [Nat.zero_add] at this) (fun j hj => convBs_none h2 j hj) hE hC.globE
      refine ⟨v, ImW Im' ι' hp m, ιW ι' m, hp', ds2, rfl, ?_, ?_, ?_, hmem, hB.2.2, fun b hb => ιW_lt fine hb, ⟨fun i hi => .inl (hl.im i hi), fun b u hb => ?_, hl.mem⟩, h3, fun b hb => (ιW_id fine hb).trans (hk b hb)⟩
      · exact Prod.ext rfl hP2
      · have := hB.2.1 []
        rw [List.append_nil] at this
        show hp' = (instBs rb ds2).1
        rw [this]
      · show VRel _ _ _ (instP rp (ds1 ++ ds2)).1 v
        rw [← hP1] at hrel
        obtain ⟨v', vs', e, k1, _⟩ := hrel
        injection e with e1 e2
        subst e1
        exact k1
      · rcases Nat.lt_or_ge b n0 with hb0 | hb0
        · rw [ιW_id fine hb0]; exact hl.hd b u hb
        · rw [hι b hb0] at hb; cases hb
    · cases h
/-- A function's body, by its contract. -/
theorem bodyE_sound (hC : C.Ok) {f : FuncId} {fn : Func} {c : Code} (hf : C.P.funcs[f]? = some fn) (hb : fn.body = some c) (ann : Ann) {svs : List SV} {hp : List Blk} {r : Res} {k : Nat} (hn : fn.ntmps - svs.length = k) (hn2 : svs.length + k = fn.ntmps)
    {Im : Nat → Prop} {ι : Nat → Option Value} {w : World} (hE : ∀ b, hp.length ≤ b → E.ι b = none)
    (h : evE C hp.length ann c ⟨fn.ntmps, [], svs ++ List.replicate k .dead, hp, []⟩ (retE C.P fn.results.toList fun sv hp' => r.ok hp.length sv hp')) {vs : List Value} (hm : Mem C E hp Im ι w) (hF : Fresh hp.length ι) (hv : VRels Im ι w svs vs) :
    Calls C.P f vs.toArray w (ResPost C E Im ι w hp.length r) := by
  refine calls_of_wp hf hb ?_
  have hlen := vrels_length hv
  refine evE_sound (E := E) (B := ⟨w, Im, ι, fun b => b < hp.length⟩) (n0 := hp.length) hC ann hE hF (fun b hb => hb) c _ _ _ _ _ (es_ok (by simp [hn2])) ⟨Im, ι, ⟨rfl, ?_, fun t => ?_, hm⟩, hF, ⟨Later.refl _ _ _, fun b hb => ⟨hb, rfl⟩⟩⟩ h fun e s a w' kk hs rr => ?_
  · show _ = (applyOv [] (svs ++ List.replicate k .dead)).length
    simp [hlen, hn, applyOv]
  · show VRel Im ι w (lget (svs ++ List.replicate k .dead) t) _
    rw [lget_append]
    split
    · rename_i ht
      obtain ⟨v, h1, h2⟩ := vrels_lget hv t ht
      have : (vs.toArray ++ Array.replicate (fn.ntmps - vs.toArray.size) undef).getD t undef = v := by
        rw [Array.getD_eq_getD_getElem?, Array.getElem?_append_left (by simp; omega)]
        simp [h1]
      rw [this]
      exact h2
    · rw [lget_replicate]
      split <;> trivial
  · obtain ⟨Im', ι', hR, hF', hA⟩ := rr
    have key : (match resEOf C.P s fn.results.toList with | some sv => forceSV sv fun sv => Res.ok hp.length r sv s.hp | none => Miss 3 s) → bodyPost C.P fn (ResPost C E Im ι w hp.length r) .normal a w' := fun kk => by
      rw [resEOf_eq hs] at kk
      split at kk
      · rename_i sv hsv
        rw [forceSV_eq] at kk
        obtain ⟨v, h1, h2⟩ := resOf_run hR hsv
        exact ⟨hR.defers, v, h1, res_sound hC hE hA.later hF (fun b hb => (hA.keep b hb).2) hR.mem h2 _ kk⟩
      · cases kk
    cases e with
    | normal => exact key kk
    | ret => exact key kk
    | exit id => exact kk.elim
    | goto l => exact kk.elim
    | panic ch => exact kk.elim
    | outgrown => exact kk.elim
end
end Go.Avc
