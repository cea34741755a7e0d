/-
  AVC, part G: literals, make, append, operators.
-/
import Derived.Test.YtfikklbaceidfaaDoorAvcF
namespace Go.Avc
set_option linter.unusedVariables false
set_option linter.unusedSimpArgs false
section
variable {P : Program} {Im : Nat → Prop} {ι : Nat → Option Value} {w : World}

/-! ### Zero values -/
/-- What a table of zero values says is so. -/
def ZeroOk (P : Program) (zero : TypeId → Option (List SV)) : Prop :=
  ∀ T cs, zero T = some cs → ∃ i z, P.info? T = some i ∧ i.zero = some z ∧ z.cells.size = i.size ∧ ∀ Im ι w, CellsRel Im ι w cs z.cells.toList
theorem put_run : ∀ (xs : List Value) (off k : Nat) (cur : Array Value), off + k + xs.length ≤ cur.size →
    ((xs.zipIdx k).foldl (fun cs (x : Value × Nat) => cs.setIfInBounds (off + x.2) x.1) cur).toList = cur.toList.take (off + k) ++ xs ++ cur.toList.drop (off + k + xs.length)
  | [], off, k, cur, h => by simp
  | x :: xs, off, k, cur, h => by
    rw [List.zipIdx_cons, List.foldl_cons]
    have ih := put_run xs off (k + 1) (cur.setIfInBounds (off + k) x) (by simp at h ⊢; omega)
    rw [ih, Array.toList_setIfInBounds]
    have := list_seg_step cur.toList (off + k) x xs (by simp at h ⊢; omega)
    rw [show off + (k + 1) = off + k + 1 by omega]
    rw [this]
    simp
theorem fill_put {place : Nat → Option (Nat × Nat)} {cur : Array Value} {i off size : Nat} {v : Value} {rest : List (Nat × Value)} {va vm vd : List Value} (hp : place i = some (off, size)) (hcur : cur.toList = va ++ (vm ++ vd)) (hl : va.length = off) (hm : vm.length = size) (hv : v.cells.toList.length = size) :
    Instr.fill place cur ((i, v) :: rest) = Instr.fill place (va ++ (v.cells.toList ++ vd)).toArray rest := by
  have hsz : ¬ ((v.cells.size ≠ size || off + v.cells.size > cur.size) = true) := by
    have h1 : cur.size = va.length + (vm.length + vd.length) := by rw [← Array.length_toList, hcur]; simp
    simp at hv ⊢
    omega
  have e : v.cells.zipIdx.foldl (fun (cs : Array Value) (x : Value × Nat) => cs.setIfInBounds (off + x.2) x.1) cur = (va ++ (v.cells.toList ++ vd)).toArray := by
    apply Array.ext'
    rw [← Array.foldl_toList, Array.toList_zipIdx]
    have h1 : cur.size = va.length + (vm.length + vd.length) := by rw [← Array.length_toList, hcur]; simp
    have hv2 : v.cells.size = size := by simpa using hv
    have := put_run v.cells.toList off 0 cur (by rw [Array.length_toList]; omega)
    simp only [Nat.add_zero] at this
    rw [List.toList_toArray]
    refine this.trans ?_
    rw [hcur]
    have e1 : (va ++ (vm ++ vd)).take off = va := by rw [← hl]; simp
    have e2 : (va ++ (vm ++ vd)).drop (off + v.cells.toList.length) = vd := by
      rw [← List.append_assoc]
      exact List.drop_left' (by rw [List.length_append, hl, hm, hv])
    rw [e1, e2, List.append_assoc]
  conv => lhs; unfold Instr.fill
  simp only [hp]
  rw [if_neg hsz]
  exact congrArg (fun x => Instr.fill place x rest) e
/-- Parts, as they are handed over. -/
def PartsRel (Im : Nat → Prop) (ι : Nat → Option Value) (w : World) : List (Nat × SV) → List (Nat × Value) → Prop
  | [], vs => vs = []
  | (i, s) :: ps, vs => ∃ v vs', vs = (i, v) :: vs' ∧ VRel Im ι w s v ∧ PartsRel Im ι w ps vs'
theorem putParts_sem {place : Nat → Option (Nat × Nat)} : ∀ {parts : List (Nat × SV)} {vparts : List (Nat × Value)} {z cs : List SV} {zc : Array Value}, PartsRel Im ι w parts vparts → CellsRel Im ι w z zc.toList → putParts place z parts = some cs →
    ∃ r : Array Value, Instr.fill place zc vparts = some r ∧ CellsRel Im ι w cs r.toList
  | [], vparts, z, cs, zc, hp, hz, h => by
    cases (show vparts = [] from hp)
    simp only [putParts, Option.some.injEq] at h
    subst h
    exact ⟨zc, rfl, hz⟩
  | (i, s) :: rest, vparts, z, cs, zc, hp, hz, h => by
    obtain ⟨v, vs', rfl, hv, hr⟩ := hp
    unfold putParts at h
    split at h
    · rename_i off size xs hpl hxs
      split at h
      · rename_i hsz
        have hvc := cells_rel hxs hv
        have hvl : v.cells.toList.length = size := (cellsRel_length hvc).trans hsz
        split at h
        · rename_i a n k l d hsp
          obtain ⟨va, vr, hzc, hl, h5, h6⟩ := splitC_rel hsp hz
          obtain ⟨hln, vd, rfl, h7⟩ := cellsRel_arrI_inv h6
          split at h
          · rename_i k' x
            split at h
            · rename_i hk
              subst hk
              split at h
              · rename_i hn
                obtain ⟨u, hu, hx⟩ := cellsRel_one_inv (s := .int k x) rfl hvc
                have hux : u = .int k x := hx
                subst hux
                obtain ⟨y, ys, rfl⟩ := List.exists_cons_of_ne_nil (show l ≠ [] by intro e; subst e; simp at hln; omega)
                have hs1 : size = 1 := by rw [← hvl, hu]; rfl
                have hf := fill_put (place := place) (cur := zc) (v := v) (rest := vs') (vm := [.int k y]) (vd := ys.map (Value.int k) ++ vd) hpl (by rw [hzc]; simp) hl (by simp [hs1]) hvl
                rw [hf]
                refine putParts_sem hr ?_ h
                rw [hu]
                have := cellsRel_append h5 (cellsRel_arrI_mk (n := n) (k := k) (l := (y :: ys).set 0 x) (by simpa using hln) h7)
                simpa using this
              · cases h
            · cases h
          · rename_i m k' l'
            split at h
            · rename_i hk
              subst hk
              split at h
              · rename_i hmn
                subst hmn
                obtain ⟨hlm, vz, hvc', hz'⟩ := cellsRel_arrI_inv hvc
                cases (show vz = [] from hz')
                simp only [List.append_nil] at hvc'
                have hf := fill_put (place := place) (cur := zc) (v := v) (rest := vs') (vm := l.map (Value.int k)) (vd := vd) hpl hzc hl (by rw [← hvl, hvc']; simp; omega) hvl
                rw [hf]
                refine putParts_sem hr ?_ h
                rw [hvc']
                exact cellsRel_append h5 (cellsRel_arrI_mk hlm h7)
              · cases h
            · cases h
          · cases h
        · rename_i a r _ hsp
          obtain ⟨va, vr, hzc, hl, h5, h6⟩ := splitC_rel hsp hz
          split at h
          · rename_i m d hsm
            obtain ⟨vm, vd, rfl, hlm, h7, h8⟩ := splitC_rel hsm h6
            have hf := fill_put (place := place) (cur := zc) (v := v) (rest := vs') hpl hzc hl hlm hvl
            rw [hf]
            refine putParts_sem hr ?_ h
            rw [List.append_assoc]
            exact cellsRel_append h5 (cellsRel_append hvc h8)
          · cases h
        · cases h
      · cases h
    · cases h
theorem run_zeroValue {zero : TypeId → Option (List SV)} (hz : ZeroOk P zero) {T : TypeId} {cs : List SV} (h : zero T = some cs) : ∃ z, (zeroValue T).run P w = .ok z w ∧ z.cells.size = P.cellsOf T ∧ ∀ Im ι w, CellsRel Im ι w cs z.cells.toList := by
  obtain ⟨i, z, h1, h2, h3, h4⟩ := hz T cs h
  exact ⟨z, by simp [zeroValue, typeInfo, h1, h2], by simp [Program.cellsOf, h1, h3], h4⟩
theorem mapM_places {P : Program} {w : World} : ∀ (fs : List Field), (∀ f ∈ fs, P.cellsOf f.type ≠ 0) → (fs.mapM fun f => (do pure (f.offset, ← sizeOf f.type) : Sem (Nat × Nat))).run P w = .ok (fs.map fun f => (f.offset, P.cellsOf f.type)) w
  | [], _ => by simp
  | f :: fs, h => by
    have h1 := run_sizeOf' (P := P) (w := w) (h f (by simp))
    have h2 := mapM_places (w := w) fs (fun g hg => h g (by simp [hg]))
    simp [List.mapM_cons, h1] at h2 ⊢
    simp [h2]
theorem evBuild_sem {zero : TypeId → Option (List SV)} (hz : ZeroOk P zero) {T : TypeId} {parts : List (Nat × SV)} {vparts : Array (Nat × Value)} (hp : PartsRel Im ι w parts vparts.toList) :
    ORSem P Im ι w ((do let y ← Instr.build T vparts; pure (.value y) : Sem Next).run P w) (evBuild P zero T parts) := by
  unfold evBuild
  split
  · rename_i fs z hu hzT
    split
    · rename_i hall
      obtain ⟨z', h1, h2, h3⟩ := run_zeroValue (w := w) hz hzT
      split
      · rename_i cs hcs
        have hfield : ∀ f ∈ fs.toList, P.cellsOf f.type ≠ 0 := by
          intro f hf
          have := List.all_eq_true.1 hall f hf
          simpa using this
        have hm := mapM_places (P := P) (w := w) fs.toList hfield
        obtain ⟨r, h4, h5⟩ := putParts_sem (zc := z'.cells) hp (h3 Im ι w) hcs
        have hplace : (fun i => ((fs.toList.map fun f => (f.offset, P.cellsOf f.type)).toArray)[i]?) = fieldPlaces P fs.toList := by
          funext i
          unfold fieldPlaces
          simp only [List.getElem?_toArray, List.getElem?_map]
          cases fs.toList[i]? <;> rfl
        have hm2 : (fs.mapM fun f => (do pure (f.offset, ← sizeOf f.type) : Sem (Nat × Nat))).run P w = .ok ((fs.toList.map fun f => (f.offset, P.cellsOf f.type)).toArray) w := by
          rw [Array.mapM_eq_mapM_toList]
          simp only [Sem.run_map, hm, Result.andThen_ok]
        refine ⟨.agg r, ?_, r.toList, by simp, h5⟩
        have hbuild : (Instr.build T vparts).run P w = .ok (.agg r) w := by
          unfold Instr.build
          simp only [Sem.run_bind, h1, Result.andThen_ok, run_underlying hu, hm2]
          rw [hplace, h4]
          rfl
        exact run_val hbuild
      · trivial
    · trivial
  · rename_i n E z hu hzT
    split
    · trivial
    · rename_i hE
      obtain ⟨z', h1, h2, h3⟩ := run_zeroValue (w := w) hz hzT
      split
      · rename_i cs hcs
        obtain ⟨r, h4, h5⟩ := putParts_sem (zc := z'.cells) hp (h3 Im ι w) hcs
        refine ⟨.agg r, ?_, r.toList, by simp, h5⟩
        have hbuild : (Instr.build T vparts).run P w = .ok (.agg r) w := by
          unfold Instr.build
          simp only [Sem.run_bind, h1, Result.andThen_ok, run_underlying hu, run_sizeOf' hE]
          rw [h4]
          rfl
        exact run_val hbuild
      · trivial
  · trivial
end
end Go.Avc
