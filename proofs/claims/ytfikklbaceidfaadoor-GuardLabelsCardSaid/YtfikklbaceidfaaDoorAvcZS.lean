/-
  AVC, part ZS: a function's contract, told to its callers.
-/
import Derived.Test.YtfikklbaceidfaaDoorAvcZ
namespace Go.Avc
set_option linter.unusedVariables false
set_option linter.unusedSimpArgs false

structure Ct where
  ps : List Pat
  bs : List BPat
  pre : List Dat → Prop
  res : List Dat → Res
def rmS (σ : List Nat) (n i : Nat) : Nat := bif Nat.blt i σ.length then σ.getD i 0 else n + (i - σ.length)
def sigmaOf (hp : List Blk) (ρ : List (Nat × Nat)) : Nat → Nat → Option (List Nat)
  | 0, _ => some []
  | k + 1, i => (match rhoI ρ i with
    | some b => bif live (hp.getD b .none) then (match sigmaOf hp ρ k (i + 1) with | some l => some (b :: l) | none => none) else none
    | none => none)
def updsR (f : Nat → Nat) : List Nat → List Blk → List (Nat × Blk)
  | b :: σ, x :: xs => (b, x.ren f) :: updsR f σ xs
  | _, _ => []
def renBs (f : Nat → Nat) : List Blk → List Blk
  | [] => []
  | x :: xs => x.ren f :: renBs f xs
def newsR (f : Nat → Nat) : Nat → List Blk → List Blk
  | 0, xs => renBs f xs
  | k + 1, _ :: xs => newsR f k xs
  | _ + 1, [] => []
/-! Results that name nothing of what was read. -/
def flatSh : CSh → Bool
  | .sl _ => false
  | _ => true
def flatE : List CSh → Bool
  | [] => true
  | s :: e => flatSh s && flatE e
mutual
def flatP : Pat → Bool
  | .rd _ => false
  | .agg ps => flatPs ps
  | .tup ps => flatPs ps
  | .fn _ ps => flatPs ps
  | .iface _ p => flatP p
  | _ => true
def flatPs : List Pat → Bool
  | [] => true
  | p :: ps => flatP p && flatPs ps
end
def flatB : BPat → Bool
  | .none => true
  | .cells _ ps => flatPs ps
  | .own _ e => flatE e
def flatBs : List BPat → Bool
  | [] => true
  | p :: ps => flatB p && flatBs ps
def hsB : List Blk → List Nat
  | [] => []
  | x :: xs => x.hs ++ hsB xs
def mkCR (σ : List Nat) (n : Nat) (bor : Bool) : Res → CR
  | .ite b r1 r2 => .ite b (mkCR σ n bor r1) (mkCR σ n bor r2)
  | .ret rp rb ds => (match instP rp ds with
    | (sv, ds1) => (match instBs rb ds1 with
      | (xs, _) => bif Nat.ble σ.length rb.length && ((!bor || (flatP rp && flatBs rb)) && below rb.length (sv.hs ++ hsB xs)) then .ret (sv.ren (rmS σ n)) (updsR (rmS σ n) σ xs) (newsR (rmS σ n) σ.length xs) else .bad))
def isNil : List Nat → Bool | [] => true | _ => false
def mkF (ct : Ct) (svs : List SV) (hp : List Blk) : CR :=
  match weakL 0 hp ct.ps svs ct.bs with
  | some (_, _, ds, m) => (match sigmaOf hp m.ρ ct.bs.length 0 with
    | some σ => .need (ct.pre ds) (mkCR σ hp.length (!isNil m.fz) (ct.res ds))
    | none => .bad)
  | none => .bad
/-- What is to be shown of a function. -/
def Ct.VC (C : Ctx) (ct : Ct) (rs : List ResultVar) (nt k : Nat) (c : Code) (ann : List Dat → Ann) : Prop :=
  allPs ct.ps fun svs ds => allBs ct.bs fun hp ds' => impPs ct.ps ds fun _ => impBs (hsL svs) 0 ct.bs ds' fun _ => ct.pre (ds ++ ds') → evE C ct.bs.length (ann (ds ++ ds')) c ⟨nt, [], svs ++ List.replicate k .dead, hp, []⟩ (retE C.P rs fun sv hp' => (ct.res (ds ++ ds')).ok ct.bs.length sv hp')

/-- The first contract that fits. -/
def altF (ct : Ct) (F : List SV → List Blk → CR) (svs : List SV) (hp : List Blk) : CR :=
  match weakL 0 hp ct.ps svs ct.bs with
  | some _ => mkF ct svs hp
  | none => F svs hp
theorem alt_ok {C : Ctx} {f : FuncId} {ct : Ct} {F : List SV → List Blk → CR} (h1 : SpecOk C f (mkF ct)) (h2 : SpecOk C f F) : SpecOk C f (altF ct F) := by
  intro svs hp K R h
  unfold altF at h
  split at h
  · exact h1 svs hp K R h
  · exact h2 svs hp K R h

/-! ### Lemmas -/
theorem flat_row {Im Im' : Nat → Prop} {w : World} : ∀ {e : List CSh} {row : List CD} {vs : List Value}, flatE e = true → RowRel Im w e row vs → RowRel Im' w e row vs := by
  intro e
  induction e with
  | nil => intro row vs h hr; cases hr; exact .nil
  | cons sh e ih =>
    intro row vs h hr
    simp only [flatE, Bool.and_eq_true] at h
    cases hr with
    | cons _ cd v _ row vs h1 h2 =>
      refine .cons sh cd v e row vs ?_ (ih h.2 h2)
      cases h1 with
      | int k n => exact .int k n
      | bool b => exact .bool b
      | str l h' => exact .str l h'
      | sl0 => cases h.1
      | sl => cases h.1
theorem flat_flat {Im Im' : Nat → Prop} {w : World} {e : List CSh} (h : flatE e = true) : ∀ {l : List (List CD)} {xs : List Value}, FlatRel Im w e l xs → FlatRel Im' w e l xs
  | _, _, .nil _ => .nil _
  | _, _, .cons _ row vs l xs h1 h2 => .cons _ row vs l xs (flat_row h h1) (flat_flat h h2)
mutual
theorem flat_rel {Im Im' : Nat → Prop} {ι : Nat → Option Value} {w : World} : ∀ (p : Pat) (ds : List Dat) (v : Value), flatP p = true → VRel Im ι w (instP p ds).1 v → VRel Im' ι w (instP p ds).1 v
  | .skip, ds, v, h, hv => by cases ds <;> exact hv
  | .int k, ds, v, h, hv => by
    cases ds with
    | nil => exact hv
    | cons d ds => cases d <;> exact hv
  | .bool, ds, v, h, hv => by
    cases ds with
    | nil => exact hv
    | cons d ds => cases d <;> exact hv
  | .str, ds, v, h, hv => by
    cases ds with
    | nil => exact hv
    | cons d ds => cases d <;> exact hv
  | .rd e, ds, v, h, hv => by cases h
  | .own i, ds, v, h, hv => by cases ds <;> exact hv
  | .ptr i c, ds, v, h, hv => by cases ds <;> exact hv
  | .nilp, ds, v, h, hv => by cases ds <;> exact hv
  | .nils, ds, v, h, hv => by cases ds <;> exact hv
  | .agg ps, ds, v, h, hv => by
    obtain ⟨vs, h1, k⟩ := hv
    exact ⟨vs, h1, flat_cells ps ds vs h k⟩
  | .arrI n k, ds, v, h, hv => by
    cases ds with
    | nil => exact hv
    | cons d ds => cases d <;> exact hv
  | .arrB n, ds, v, h, hv => by
    cases ds with
    | nil => exact hv
    | cons d ds => cases d <;> exact hv
  | .tup ps, ds, v, h, hv => by
    obtain ⟨vs, h1, k⟩ := hv
    exact ⟨vs, h1, flat_rels ps ds vs h k⟩
  | .fn f ps, ds, v, h, hv => by
    obtain ⟨vs, h1, k⟩ := hv
    exact ⟨vs, h1, flat_rels ps ds vs h k⟩
  | .nili, ds, v, h, hv => by cases ds <;> exact hv
  | .iface t p, ds, v, h, hv => by
    obtain ⟨v', h1, k⟩ := hv
    exact ⟨v', h1, flat_rel p ds v' h k⟩
theorem flat_rels {Im Im' : Nat → Prop} {ι : Nat → Option Value} {w : World} : ∀ (ps : List Pat) (ds : List Dat) (vs : List Value), flatPs ps = true → VRels Im ι w (instPs ps ds).1 vs → VRels Im' ι w (instPs ps ds).1 vs
  | [], ds, vs, h, hv => hv
  | p :: ps, ds, vs, h, hv => by
    simp only [flatPs, Bool.and_eq_true] at h
    obtain ⟨v, vs', rfl, k1, k2⟩ := hv
    exact ⟨v, vs', rfl, flat_rel p ds v h.1 k1, flat_rels ps _ vs' h.2 k2⟩
theorem flat_cells {Im Im' : Nat → Prop} {ι : Nat → Option Value} {w : World} : ∀ (ps : List Pat) (ds : List Dat) (vs : List Value), flatPs ps = true → CellsRel Im ι w (instPs ps ds).1 vs → CellsRel Im' ι w (instPs ps ds).1 vs
  | [], ds, vs, h, hv => hv
  | p :: ps, ds, vs, h, hv => by
    simp only [flatPs, Bool.and_eq_true] at h
    have hv' : CellsRel Im ι w ((instP p ds).1 :: (instPs ps (instP p ds).2).1) vs := hv
    show CellsRel Im' ι w ((instP p ds).1 :: (instPs ps (instP p ds).2).1) vs
    have ih := fun v => flat_rel (Im := Im) (Im' := Im') (ι := ι) (w := w) p ds v h.1
    have ih2 := fun vs' => flat_cells (Im := Im) (Im' := Im') (ι := ι) (w := w) ps (instP p ds).2 vs' h.2
    cases ha : (instP p ds).1.isArr with
    | false =>
      obtain ⟨v, vs', rfl, k1, k2, k3⟩ := (cellsRel_noarr ha).1 hv'
      exact (cellsRel_noarr ha).2 ⟨v, vs', rfl, ih v k1, k2, ih2 vs' k3⟩
    | true =>
      cases hs : (instP p ds).1 <;> rw [hs] at ha hv' <;> first | cases ha | skip
      · obtain ⟨k1, vs', rfl, k2⟩ := cellsRel_arrI_inv hv'
        exact cellsRel_arrI_mk k1 (ih2 vs' k2)
      · obtain ⟨k1, vs', rfl, k2⟩ := cellsRel_arrB_inv hv'
        exact cellsRel_arrB_mk k1 (ih2 vs' k2)
end
theorem flat_blk {Im Im' : Nat → Prop} {ι : Nat → Option Value} {w : World} (p : BPat) (ds : List Dat) (v : Value) (h : flatB p = true) (hv : BRel Im ι w (instB p ds).1 v) : BRel Im' ι w (instB p ds).1 v := by
  cases p with
  | none => cases ds <;> trivial
  | cells T ps =>
    obtain ⟨r, vs, h1, h2, k⟩ := hv
    exact ⟨r, vs, h1, h2, flat_cells ps ds vs h k⟩
  | own T e =>
    cases ds with
    | nil => trivial
    | cons d ds =>
      cases d <;> first | trivial | skip
      obtain ⟨xs, h1, h2⟩ := hv
      exact ⟨xs, h1, flat_flat h h2⟩
theorem flat_blks {Im Im' : Nat → Prop} {ι : Nat → Option Value} {w : World} : ∀ (ps : List BPat) (ds : List Dat) (j : Nat) (v : Value), flatBs ps = true → BRel Im ι w ((instBs ps ds).1.getD j .none) v → BRel Im' ι w ((instBs ps ds).1.getD j .none) v
  | [], ds, j, v, h, hv => trivial
  | p :: ps, ds, 0, v, h, hv => by
    simp only [flatBs, Bool.and_eq_true] at h
    exact flat_blk p ds v h.1 hv
  | p :: ps, ds, j + 1, v, h, hv => by
    simp only [flatBs, Bool.and_eq_true] at h
    exact flat_blks ps _ j v h.2 hv

theorem sigma_spec {hp : List Blk} {ρ : List (Nat × Nat)} : ∀ {k i : Nat} {σ : List Nat}, sigmaOf hp ρ k i = some σ → σ.length = k ∧ ∀ j, j < k → rhoI ρ (i + j) = some (σ.getD j 0) ∧ live (hp.getD (σ.getD j 0) .none) = true
  | 0, i, σ, h => by cases h; exact ⟨rfl, fun j hj => by omega⟩
  | k + 1, i, σ, h => by
    simp only [sigmaOf] at h
    split at h
    · rename_i b hb
      cases hl : live (hp.getD b .none) with
      | false => rw [hl] at h; cases h
      | true =>
        rw [hl] at h
        simp only [cond_true] at h
        split at h
        · rename_i l hs
          cases h
          obtain ⟨h1, h2⟩ := sigma_spec hs
          refine ⟨by simp [h1], fun j hj => ?_⟩
          cases j with
          | zero => exact ⟨hb, hl⟩
          | succ j =>
            have := h2 j (by omega)
            rw [show i + (j + 1) = i + 1 + j from by omega]
            exact this
        · cases h
    · cases h
theorem updW_updsR {f : Nat → Nat} : ∀ {σ : List Nat} {xs : List Blk}, σ.Nodup → σ.length ≤ xs.length → ∀ j, j < σ.length → updW (updsR f σ xs) (σ.getD j 0) = some ((xs.getD j .none).ren f)
  | [], xs, hn, hl, j, hj => by simp at hj
  | b :: σ, [], hn, hl, j, hj => by simp at hl
  | b :: σ, x :: xs, hn, hl, j, hj => by
    have hn' := List.nodup_cons.1 hn
    have ih := updW_updsR (f := f) (σ := σ) (xs := xs) hn'.2 (by simpa using hl)
    simp only [updsR, updW]
    cases j with
    | zero =>
      have : updW (updsR f σ xs) b = none := by
        have : ∀ {σ : List Nat} {xs : List Blk}, b ∉ σ → updW (updsR f σ xs) b = none := by
          intro σ
          induction σ with
          | nil => intro xs _; rfl
          | cons c σ ih =>
            intro xs hb
            cases xs with
            | nil => rfl
            | cons x xs =>
              simp only [updsR, updW, ih (fun h => hb (List.mem_cons_of_mem _ h))]
              rw [if_neg (fun h => hb (by rw [h]; exact List.mem_cons_self))]
        exact this hn'.1
      simp [this]
    | succ j =>
      have := ih j (by simpa using hj)
      simp only [List.getD_cons_succ]
      rw [this]
theorem updW_none {f : Nat → Nat} : ∀ {σ : List Nat} {xs : List Blk} {b : Nat}, b ∉ σ → updW (updsR f σ xs) b = none
  | [], xs, b, _ => rfl
  | c :: σ, [], b, _ => rfl
  | c :: σ, x :: xs, b, hb => by
    simp only [updsR, updW, updW_none (f := f) (σ := σ) (xs := xs) fun h => hb (List.mem_cons_of_mem _ h)]
    rw [if_neg (fun h => hb (by rw [h]; exact List.mem_cons_self))]
theorem renBs_length {f : Nat → Nat} : ∀ xs : List Blk, (renBs f xs).length = xs.length
  | [] => rfl
  | x :: xs => by simp [renBs, renBs_length xs]
theorem renBs_get {f : Nat → Nat} : ∀ (xs : List Blk) (j : Nat), (renBs f xs)[j]? = (xs[j]?).map (Blk.ren f)
  | [], j => rfl
  | x :: xs, 0 => rfl
  | x :: xs, j + 1 => by simpa [renBs] using renBs_get xs j
theorem newsR_eq {f : Nat → Nat} : ∀ (k : Nat) (xs : List Blk), newsR f k xs = renBs f (xs.drop k)
  | 0, xs => rfl
  | k + 1, [] => rfl
  | k + 1, x :: xs => by simpa [newsR] using newsR_eq k xs
theorem hsB_get : ∀ (xs : List Blk) (j : Nat) (b : Nat), b ∈ (xs.getD j .none).hs → b ∈ hsB xs
  | [], j, b, h => by cases h
  | x :: xs, 0, b, h => List.mem_append_left _ h
  | x :: xs, j + 1, b, h => List.mem_append_right _ (hsB_get xs j b h)
theorem below_mem {n : Nat} : ∀ {l : List Nat}, below n l = true → ∀ b ∈ l, b < n
  | [], _, b, h => by cases h
  | a :: l, h, b, hb => by
    simp only [below, Bool.and_eq_true] at h
    rcases List.mem_cons.1 hb with rfl | hb
    · exact blt_true.1 h.1
    · exact below_mem h.2 b hb
theorem isNil_fz {l : List Nat} : isNil l = true → ∀ b, memN l b = false := by
  intro h b
  cases l with
  | nil => rfl
  | cons a l => cases h
theorem live_foot {C : Ctx} {E : Ent} {hp : List Blk} {Im : Nat → Prop} {ι : Nat → Option Value} {w : World} (hm : Mem C E hp Im ι w) : ∀ b v r, live (hp.getD b .none) = true → ι b = some v → foot v = some r → r < w.heap.size := fun b v r h1 h2 h3 => by
  have hb := hm.hv b v h2
  cases hblk : hp.getD b .none with
  | none => rw [hblk] at h1; cases h1
  | ro e l => rw [hblk] at h1; cases h1
  | cells T cs =>
    rw [hblk] at hb
    obtain ⟨r', vs, rfl, h4, _⟩ := hb
    cases h3
    exact (Array.getElem?_eq_some_iff.1 h4).1
  | own T e l =>
    rw [hblk] at hb
    obtain ⟨xs, ⟨_, h2⟩, _⟩ := hb
    rcases h2 with ⟨a, rfl, _⟩ | ⟨g, cap, cur, rfl, h4, _, h6, _⟩
    · exfalso
      revert h3
      cases a <;> simp [foot]
    · simp [foot] at h3
      obtain ⟨_, rfl⟩ := h3
      exact (Array.getElem?_eq_some_iff.1 h4).1

/-- The callee's end, on the caller's memory. -/
theorem lift_post {C : Ctx} (hC : C.Ok) {E : Ent} {hp : List Blk} {Im : Nat → Prop} {ι : Nat → Option Value} {w : World} {m : MS} {σ : List Nat} {n0 : Nat} {K : SV → List Blk → Prop} {R : Nat → Prop} (hm : Mem C E hp Im ι w) (hok : ∀ i b, i < n0 → rhoI m.ρ i = some b → rhoB m.β b = some i) (hap : ∀ b, memN m.fz b = true → rhoB m.β b = none)
    (hσ : ∀ j, j < n0 → rhoI m.ρ j = some (σ.getD j 0) ∧ live (hp.getD (σ.getD j 0) .none) = true) (hσn : σ.length = n0) (hfine : ∀ i, n0 ≤ i → ιW ι m i = none) (hRn : ∀ b, R b → ι b = none) {hpl : List Blk} {e : Ending} {w' : World} : ∀ r : Res,
    (mkCR σ hp.length (!isNil m.fz) r).wp hp (fun sv hp' => K sv hp' ∧ ∀ b, hp.length ≤ b → b < hp'.length → R b) →
    ResPost C ⟨w, ImW Im ι hp m, ιW ι m, fun r => ∃ i v, i < n0 ∧ ιW ι m i = some v ∧ live (hpl.getD i .none) = true ∧ foot v = some r⟩ (ImW Im ι hp m) (ιW ι m) w n0 r e w' → (∀ i v, ιW ι m i = some v → live (hpl.getD i .none) = true → i < n0 → live (hp.getD (σ.getD i 0) .none) = true) → CallPost C E Im ι w hp.length K e w'
  | .ite true r1 r2, h, hp0, hl => lift_post hC hm hok hap hσ hσn hfine hRn r1 h hp0 hl
  | .ite false r1 r2, h, hp0, hl => lift_post hC hm hok hap hσ hσn hfine hRn r2 h hp0 hl
  | .ret rp rb ds, h, hp0, hl => by
    obtain ⟨v, Iml, ιl, hp1, ds1, rfl, hi, rfl, hres, hml, hlen, hFl, hll, hnl, hkeep⟩ := hp0
    simp only [Res.leaf] at hi hres hml hlen hFl hnl
    have hi' : instP rp ds = ((instP rp ds).1, ds1) := hi
    simp only [mkCR] at h
    generalize hsv : (instP rp ds).1 = sv at hi hres hi'
    rw [hi'] at h
    simp only at h
    generalize hxs : (instBs rb ds1).1 = xs at h hml hlen
    cases hc : (Nat.ble σ.length rb.length && ((!(!isNil m.fz) || (flatP rp && flatBs rb)) && below rb.length (sv.hs ++ hsB xs))) with
    | false =>
      have h' : CR.wp hp (fun sv hp' => K sv hp' ∧ ∀ b, hp.length ≤ b → b < hp'.length → R b) (bif (Nat.ble σ.length rb.length && ((!(!isNil m.fz) || (flatP rp && flatBs rb)) && below rb.length (sv.hs ++ hsB xs))) then CR.ret (sv.ren (rmS σ hp.length)) (updsR (rmS σ hp.length) σ xs) (newsR (rmS σ hp.length) σ.length xs) else CR.bad) := h
      rw [hc] at h'
      exact h'.elim
    | true =>
      have h' : CR.wp hp (fun sv hp' => K sv hp' ∧ ∀ b, hp.length ≤ b → b < hp'.length → R b) (bif (Nat.ble σ.length rb.length && ((!(!isNil m.fz) || (flatP rp && flatBs rb)) && below rb.length (sv.hs ++ hsB xs))) then CR.ret (sv.ren (rmS σ hp.length)) (updsR (rmS σ hp.length) σ xs) (newsR (rmS σ hp.length) σ.length xs) else CR.bad) := h
      rw [hc] at h'
      obtain ⟨hK, hR⟩ := h'
      simp only [Bool.and_eq_true, Nat.ble_eq] at hc
      obtain ⟨hc1, hc2, hc3⟩ := hc
      have hbelow := below_mem hc3
      rw [hσn] at hc1
      -- the borrowed rows
      let Bw : Nat → Prop := fun r => ∃ b v, memN m.fz b = true ∧ ι b = some v ∧ live (hp.getD b .none) = true ∧ foot v = some r
      have hBwIm : ∀ r, Bw r → ¬ Im r := fun r ⟨b, v, h1, h2, h3, h4⟩ => hm.mr.imm b v r h3 h2 h4
      have hσmem : ∀ j, j < n0 → σ.getD j 0 ∈ σ := fun j hj => by
        rw [List.getD_eq_getElem?_getD, List.getElem?_eq_getElem (by omega)]
        exact List.getElem_mem _
      have hσget : ∀ b, b ∈ σ → ∃ j, j < n0 ∧ σ.getD j 0 = b := fun b hb => by
        obtain ⟨j, hj, e⟩ := List.getElem_of_mem hb
        exact ⟨j, by omega, by rw [List.getD_eq_getElem?_getD, List.getElem?_eq_getElem hj]; exact e⟩
      have hσinj : ∀ i j, i < n0 → j < n0 → σ.getD i 0 = σ.getD j 0 → i = j := fun i j hi hj e => by
        have e1 := hok _ _ hi (hσ i hi).1
        have e2 := hok _ _ hj (hσ j hj).1
        rw [e, e2] at e1
        cases e1; rfl
      have hσnd : σ.Nodup := by
        rw [List.nodup_iff_pairwise_ne, List.pairwise_iff_getElem]
        intro i j hi hj hij e
        have := hσinj i j (by omega) (by omega) (by rw [List.getD_eq_getElem?_getD, List.getD_eq_getElem?_getD, List.getElem?_eq_getElem hi, List.getElem?_eq_getElem hj]; exact e)
        omega
      have hσlt : ∀ b ∈ σ, b < hp.length := fun b hb => by
        obtain ⟨j, hj, rfl⟩ := hσget b hb
        exact live_lt (hσ j hj).2
      have hιW : ∀ j, j < n0 → ιW ι m j = ι (σ.getD j 0) := fun j hj => by unfold ιW; rw [(hσ j hj).1]
      have hσfz : ∀ b ∈ σ, memN m.fz b = false := fun b hb => by
        obtain ⟨j, hj, rfl⟩ := hσget b hb
        cases hf : memN m.fz (σ.getD j 0) with
        | false => rfl
        | true =>
          have := hap _ hf
          rw [hok _ _ hj (hσ j hj).1] at this
          cases this
      have hxlen : xs.length = rb.length := hlen
      let k2 := rb.length - n0
      have hrl : rb.length = n0 + k2 := by show _ = n0 + (rb.length - n0); omega
      let Im' : Nat → Prop := fun r => Iml r ∧ ¬ Bw r
      let ι' : Nat → Option Value := fun b => if hp.length ≤ b ∧ b < hp.length + k2 then ιl (n0 + (b - hp.length)) else ι b
      have hι'old : ∀ b, ¬ (hp.length ≤ b ∧ b < hp.length + k2) → ι' b = ι b := fun b h => if_neg h
      have hι'new : ∀ i, i < k2 → ι' (hp.length + i) = ιl (n0 + i) := fun i hi => by
        show (if _ then _ else _) = _
        rw [if_pos ⟨Nat.le_add_right _ _, by omega⟩, Nat.add_sub_cancel_left]
      have hrm_lt : ∀ i, i < n0 → rmS σ hp.length i = σ.getD i 0 := fun i hi => by
        unfold rmS
        rw [show Nat.blt i σ.length = true from blt_true.2 (by omega)]; rfl
      have hrm_ge : ∀ i, n0 ≤ i → rmS σ hp.length i = hp.length + (i - n0) := fun i hi => by
        unfold rmS
        cases hb : Nat.blt i σ.length with
        | true => have := blt_true.1 hb; omega
        | false => rw [hσn]; rfl
      have hagree : ∀ i, i < rb.length → ι' (rmS σ hp.length i) = ιl i := fun i hi => by
        rcases Nat.lt_or_ge i n0 with h | h
        · rw [hrm_lt i h, hι'old _ (by have := hσlt _ (hσmem i h); omega), hkeep i h, hιW i h]
        · rw [hrm_ge i h, hι'new _ (by omega)]
          congr 1; omega
      have hhp'len : (updAll hp (updsR (rmS σ hp.length) σ xs) ++ newsR (rmS σ hp.length) σ.length xs).length = hp.length + k2 := by
        rw [List.length_append, length_updAll, newsR_eq, renBs_length, List.length_drop, hxlen, hσn]
      have hnone : ∀ b, hp.length ≤ b → b < hp.length + k2 → ι b = none := fun b h1 h2 => hRn b (hR b h1 (by rw [hhp'len]; exact h2))
      -- the new memory, block by block
      have hget_old : ∀ j, j < n0 → (updAll hp (updsR (rmS σ hp.length) σ xs) ++ newsR (rmS σ hp.length) σ.length xs).getD (σ.getD j 0) .none = (xs.getD j .none).ren (rmS σ hp.length) := fun j hj => by
        have := hσlt _ (hσmem j hj)
        rw [app_getD, if_neg (by omega), updW_updsR hσnd (by omega) j (by omega)]
        rfl
      have hget_new : ∀ i, i < k2 → (updAll hp (updsR (rmS σ hp.length) σ xs) ++ newsR (rmS σ hp.length) σ.length xs).getD (hp.length + i) .none = (xs.getD (n0 + i) .none).ren (rmS σ hp.length) := fun i hi => by
        have hx : xs[n0 + i]? = some xs[n0 + i] := List.getElem?_eq_getElem (by omega)
        rw [app_getD, if_pos (Nat.le_add_right _ _), newsR_eq, renBs_get, Nat.add_sub_cancel_left, List.getElem?_drop, hσn, List.getD_eq_getElem?_getD (l := xs), hx]
        rfl
      have hget_oth : ∀ b, b < hp.length → b ∉ σ → (updAll hp (updsR (rmS σ hp.length) σ xs) ++ newsR (rmS σ hp.length) σ.length xs).getD b .none = hp.getD b .none := fun b h1 h2 => by
        rw [app_getD, if_neg (by omega), updW_none h2]
        rfl
      generalize hhp' : updAll hp (updsR (rmS σ hp.length) σ xs) ++ newsR (rmS σ hp.length) σ.length xs = hp' at hK hR hhp'len hget_old hget_new hget_oth
      have hlaterIm : ∀ r, Im r → Im' r := fun r hr => ⟨hll.im r (.inl hr), fun hB => hBwIm r hB hr⟩
      have hcase : (∀ b, memN m.fz b = false) ∨ (flatP rp = true ∧ flatBs rb = true) := by
        cases hn : isNil m.fz with
        | true => exact .inl (isNil_fz hn)
        | false =>
          rw [hn] at hc2
          simp only [Bool.not_false, Bool.not_true, Bool.false_or, Bool.and_eq_true] at hc2
          exact .inr hc2
      have hsame : (∀ b, memN m.fz b = false) → Later Iml ιl w' Im' ιl w' := fun hf => ⟨fun r hr => ⟨hr, fun ⟨b, v, h1, _⟩ => by rw [hf b] at h1; cases h1⟩, fun b v h => h, fun _ _ => rfl⟩
      have hresI : VRel Im' ιl w' sv v := by
        rcases hcase with hf | ⟨hf, _⟩
        · exact VRel.mono (hsame hf) sv v hres
        · rw [← hsv] at hres ⊢; exact flat_rel rp ds v hf hres
      have hblkI : ∀ j u, ιl j = some u → BRel Im' ιl w' (xs.getD j .none) u := fun j u hj => by
        have hb := hml.hv j u hj
        rcases hcase with hf | ⟨_, hf⟩
        · exact BRel.later (hsame hf) (fun _ _ _ => rfl) hb
        · rw [← hxs] at hb ⊢; exact flat_blks rb ds1 j u hf hb
      let hpX : List Blk := (List.range hp'.length).map fun b => if σ.contains b = true ∨ hp.length ≤ b then hp'.getD b .none else .none
      have hpX_get : ∀ b, hpX.getD b .none = if b < hp'.length then (if σ.contains b = true ∨ hp.length ≤ b then hp'.getD b .none else .none) else .none := fun b => getD_map_range
      -- where a named block comes from
      have hsrc : ∀ b u, ι' b = some u → hpX.getD b .none = .none ∨ ∃ i, i < rb.length ∧ b = rmS σ hp.length i ∧ ιl i = some u ∧ hpX.getD b .none = (xs.getD i .none).ren (rmS σ hp.length) := fun b u hb => by
        by_cases h1 : hp.length ≤ b ∧ b < hp.length + k2
        · right
          refine ⟨n0 + (b - hp.length), by omega, ?_, ?_, ?_⟩
          · rw [hrm_ge _ (Nat.le_add_right _ _)]; omega
          · rw [← hι'new (b - hp.length) (by omega), show hp.length + (b - hp.length) = b from by omega]; exact hb
          · rw [hpX_get, if_pos (by rw [hhp'len]; exact h1.2), if_pos (.inr h1.1), ← hget_new _ (by omega), show hp.length + (b - hp.length) = b from by omega]
        · by_cases h2 : b ∈ σ
          · obtain ⟨j, hj, rfl⟩ := hσget b h2
            have hlt' := hσlt _ h2
            right
            refine ⟨j, by omega, (hrm_lt j hj).symm, ?_, ?_⟩
            · rw [← hagree j (by omega), hrm_lt j hj]; exact hb
            · rw [hpX_get, if_pos (by rw [hhp'len]; omega), if_pos (.inl (by simpa using h2)), hget_old j hj]
          · left
            rw [hpX_get]
            split
            · rename_i h3
              rw [hhp'len] at h3
              rw [if_neg]
              rintro (h4 | h4)
              · exact h2 (by simpa using h4)
              · exact h1 ⟨h4, h3⟩
            · rfl
      have hMg : ∀ b, (maskH σ 0 hp).getD b .none = if σ.contains b then hp.getD b .none else .none := fun b => by
        rw [maskH_getD, Nat.zero_add]
      have hrminj : ∀ i j, i < rb.length → j < rb.length → i = j → rmS σ hp.length i = rmS σ hp.length j := fun i j _ _ h => by rw [h]
      have hX : Mem C (partEnt w Im ι σ (maskH σ 0 hp)) hpX Im' ι' w' := by
        have hFF : ∀ r, (∃ i v, i < n0 ∧ ιW ι m i = some v ∧ live (hpl.getD i .none) = true ∧ foot v = some r) → (partEnt w Im ι σ (maskH σ 0 hp)).F r := by
          rintro r ⟨i, u, h1, h2, h3, h4⟩
          refine ⟨σ.getD i 0, u, by simpa using hσmem i h1, by rw [← hιW i h1]; exact h2, ?_, h4⟩
          rw [hMg, if_pos (by simpa using hσmem i h1)]
          exact (hσ i h1).2
        have hll' : Later Im ι w Im' ι' w' := ⟨hlaterIm, fun b u hb => by
          rw [hι'old b fun h => by rw [hnone b h.1 h.2] at hb; cases hb]
          exact hb, fun i hi => hll.mem i (.inl hi)⟩
        refine ⟨fun b u hb => ?_, ⟨fun r hr => hml.mr.imlt r hr.1, fun b u r h1 h2 h3 => ?_, fun b b' u u' r h1 h2 h3 h4 h5 h6 => ?_, fun b u r h1 h2 h3 => ?_⟩, ⟨hml.since.os, hml.since.tape, hml.since.output, hml.since.size, fun k h1 h2 => hml.since.block k h1 fun h => h2 (hFF k h), hll'.hd, hlaterIm, fun i h => ?_⟩, hm.glob.later hll'⟩
        · rcases hsrc b u hb with h | ⟨i, h1, rfl, h2, h3⟩
          · rw [h]; trivial
          · rw [h3]
            exact (BRel.ren fun c hc => hagree c (hbelow c (List.mem_append_right _ (hsB_get xs i c hc)))).2 (hblkI i u h2)
        · rcases hsrc b u h2 with h | ⟨i, g1, rfl, g2, g3⟩
          · rw [h] at h1; cases h1
          · rw [g3, live_ren] at h1
            exact fun hr => hml.mr.imm i u r h1 g2 h3 hr.1
        · rcases hsrc b u h3 with h | ⟨i, g1, rfl, g2, g3⟩
          · rw [h] at h1; cases h1
          · rcases hsrc b' u' h4 with h | ⟨j, k1, rfl, k2', k3⟩
            · rw [h] at h2; cases h2
            · rw [g3, live_ren] at h1
              rw [k3, live_ren] at h2
              exact hrminj i j g1 k1 (hml.mr.sep i j u u' r h1 h2 g2 k2' h5 h6)
        · rcases hsrc b u h2 with h | ⟨i, g1, rfl, g2, g3⟩
          · rw [h] at h1; cases h1
          · rw [g3, live_ren] at h1
            exact (hml.mr.mine i u r h1 g2 h3).imp id (hFF r)
        · rcases hml.since.imnew i h.1 with h1 | h1 | h1
          · exact .inl (h1.resolve_right h.2)
          · exact .inr (.inl h1)
          · exact .inr (.inr (hFF i h1))
      have hF : Mem C E hp' Im' ι' w' := Mem.frame (hpM := maskH σ 0 hp) (n := hp.length) (k := k2) hm hMg hX hι'old (fun b h1 h2 => hnone b h1 h2)
        (fun b hb => by
          rw [hpX_get]
          rcases hb with h | h
          · rw [if_pos (by rw [hhp'len]; have := hσlt b (by simpa using h); omega), if_pos (.inl h)]
          · rw [if_pos (by rw [hhp'len]; exact h.2), if_pos (.inr h.1)])
        (fun b h1 h2 => by
          by_cases h3 : b < hp.length
          · exact hget_oth b h3 (by simpa using h1)
          · rw [List.getD_eq_getElem?_getD, List.getD_eq_getElem?_getD, List.getElem?_eq_none (by rw [hhp'len]; omega), List.getElem?_eq_none (by omega)])
      refine ⟨v, _, hp', Im', ι', rfl, hK, (VRel.ren sv v fun b hb => hagree b (hbelow b (List.mem_append_left _ hb))).2 hresI, hF, by rw [hhp'len]; omega, fun b hb => hι'old b (by rw [← hhp'len]; exact hb), ⟨hlaterIm, fun b u hb => ?_, fun i hi => hll.mem i (.inl hi)⟩⟩
      rw [hι'old b fun h => by rw [hnone b h.1 h.2] at hb; cases hb]
      exact hb
/-- A contract that is shown is one that callers may use. -/
theorem spec_ct {C : Ctx} (hC : C.Ok) {f : FuncId} {fn : Func} {c : Code} (hf : C.P.funcs[f]? = some fn) (hb : fn.body = some c) (ann : List Dat → Ann) {ct : Ct} {k : Nat} (hlenps : ct.ps.length + k = fn.ntmps) (hcall : ∀ vs : Array Value, ∀ w, vs.size = ct.ps.length → (callFunc f vs).run C.P w = .ok (.enter f vs) w)
    (hvc : ct.VC C fn.results.toList fn.ntmps k c ann) : SpecOk C f (mkF ct) := by
  intro svs hp K R h E Im ι w vs hm hRn hv
  unfold mkF at h
  split at h
  · rename_i svs' hpl ds m hw
    split at h
    · rename_i σ hσ
      obtain ⟨hpre, h⟩ := h
      obtain ⟨ds1, ds2, m1, rfl, h1, h2, h3, h4⟩ := weakL_all hw
      have f1 := convs_le (D := noneAt ct.bs) h1
      have f2 := convBs_le (D := noneAt ct.bs) h2
      have fine := fine_of f1 f2 h3 h4
      have hlenB : hpl.length = ct.bs.length := (convBs_all h2).2.2
      obtain ⟨hσl, hσs⟩ := sigma_spec hσ
      have hvl := convs_rel hm.hv fine.ok h1 f2.1 hv
      -- the local memory
      have hm0 : Mem C ⟨w, Im, fun _ => none, fun r => ∃ b v, ι b = some v ∧ live (hp.getD b .none) = true ∧ foot v = some r⟩ hp Im ι w :=
        ⟨hm.hv, ⟨hm.mr.imlt, hm.mr.imm, hm.mr.sep, fun b v r a1 a2 a3 => .inr ⟨b, v, a2, a1, a3⟩⟩, ⟨rfl, rfl, rfl, Nat.le_refl _, fun _ _ _ => rfl, (fun b v h => by cases h), fun _ h => h, fun _ h => .inl h⟩, hm.glob⟩
      have hm1 := weak_mem hm0 fine hlenB (fun j v hj => by
        have := convBs_rel hm.hv fine.ok h2 (.refl _) j v (by rw [Nat.zero_add]; exact hj)
        rwa [Nat.zero_add] at this) (fun j hj => convBs_none h2 j hj) (fun _ _ => rfl) hC.globE
      have hfine : ∀ i, ct.bs.length ≤ i → ιW ι m i = none := fun i hi => ιW_lt fine hi
      have hml : Mem C ⟨w, ImW Im ι hp m, ιW ι m, fun r => ∃ i v, i < ct.bs.length ∧ ιW ι m i = some v ∧ live (hpl.getD i .none) = true ∧ foot v = some r⟩ hpl (ImW Im ι hp m) (ιW ι m) w := by
        refine ⟨hm1.hv, ⟨hm1.mr.imlt, hm1.mr.imm, hm1.mr.sep, fun b v r a1 a2 a3 => .inr ⟨b, v, ?_, a2, a1, a3⟩⟩, ⟨rfl, rfl, rfl, Nat.le_refl _, fun _ _ _ => rfl, fun _ _ h => h, fun _ h => h, fun _ h => .inl h⟩, hm1.glob⟩
        rcases Nat.lt_or_ge b ct.bs.length with hlt | hge
        · exact hlt
        · rw [hfine b hge] at a2; cases a2
      have e1 := (convBs_all h2).1 _ ((convs_all h1).1 _ hvc)
      have i1 := (convs_all h1).2 []
      have i2 := (convBs_all h2).2.1 []
      rw [List.append_nil] at i1 i2
      have e2 := imps_elim ct.ps ds1 vs _ (by rw [i1]; exact hvl) e1
      have e3 := impBs_elim (hs_vrels svs' vs hvl) ct.bs 0 ds2 _ (fun j v hj => by rw [i2]; exact hm1.hv j v (by rw [← hj]; congr 1; omega)) e2
      have e4 := e3 hpre
      have hlsv : svs'.length = ct.ps.length := by
        have : ∀ (ps : List Pat) (ds : List Dat), (instPs ps ds).1.length = ps.length := by
          intro ps
          induction ps with
          | nil => intro ds; rfl
          | cons p ps ih => intro ds; simp [instPs, ih]
        have := this ct.ps ds1
        rwa [i1] at this
      have hbody := bodyE_sound (E := ⟨w, ImW Im ι hp m, ιW ι m, fun r => ∃ i v, i < ct.bs.length ∧ ιW ι m i = some v ∧ live (hpl.getD i .none) = true ∧ foot v = some r⟩) hC hf hb (ann (ds1 ++ ds2)) (svs := svs') (hp := hpl) (r := ct.res (ds1 ++ ds2)) (k := k) (by omega) (by omega) (fun b hb => hfine b (by rw [← hlenB]; exact hb)) (by rw [hlenB]; exact e4) hml (fun b hb => hfine b (by rw [← hlenB]; exact hb)) hvl
      rw [hlenB] at hbody
      have ok0 : m.Ok (fun _ => False) := (convBs_le h2).2 ((convs_le h1).2 ⟨fun i h => (by cases h), fun i b h => (by cases h)⟩)
      have hinj : ∀ i b, i < ct.bs.length → rhoI m.ρ i = some b → rhoB m.β b = some i := fun i b _ hb => (ok0.inj i b hb).resolve_left id
      refine .inl ⟨hcall _ _ ?_, Calls.mono hbody fun e w' hp0 => ?_⟩
      · have := vrels_length hvl
        simp; omega
      · exact lift_post hC hm hinj fine.apart (fun j hj => by have := hσs j hj; rwa [Nat.zero_add] at this) hσl hfine hRn _ h hp0 fun i v a1 a2 a3 => by
          have := (hσs i a3).2
          exact this
    · exact h.elim
  · exact h.elim
end Go.Avc
