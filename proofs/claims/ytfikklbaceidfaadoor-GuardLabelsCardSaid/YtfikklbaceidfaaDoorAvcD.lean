/-
  AVC, part D: what one operation's evaluation promises of the model's run, and loads, stores, addresses.
-/
import Derived.Test.YtfikklbaceidfaaDoorAvcC
namespace Go.Avc
set_option linter.unusedVariables false
set_option linter.unusedSimpArgs false

section
variable (P : Program) (Im : Nat → Prop) (ι : Nat → Option Value) (w : World)

/-- What is known of the call's own memory. -/
def HV (hp : List Blk) : Prop := ∀ b v, ι b = some v → BRel Im ι w (hp.getD b .none) v

/-- What an evaluation says of the operation's run. -/
def ORSem (run : Result Next) : OR → Prop
  | .bad => True
  | .need p r => p → ORSem run r
  | .know p r => p ∧ ORSem run r
  | .split b r1 r2 => (b = true → ORSem run r1) ∧ (b = false → ORSem run r2)
  | .val sv => ∃ v, run = .ok (.value v) w ∧ VRel Im ι w sv v
  | .new T cs => ∃ vs : List Value, run = .ok (.value (.pointer (some ⟨w.heap.size, 0, none⟩))) (w.alloc (.cells vs.toArray T)) ∧ CellsRel Im ι w cs vs
  | .newRo sv => ∃ v w', run = .ok (.value v) w' ∧ w.grownBy w' none ∧ VRel (fun i => Im i ∨ (w.heap.size ≤ i ∧ i < w'.heap.size)) ι w' sv v
  | .newOwn T e l => ∃ v w' xs, run = .ok (.value v) w' ∧ w.grownBy w' none ∧ (∃ a n c, v = .slice a n c) ∧ OwnV w' T e.length v l.length xs ∧ FlatRel Im w e l xs ∧ ∀ k, foot v = some k → w.heap.size ≤ k
  | .upd b (.cells T cs) => ∃ r vs cur T', ι b = some (.pointer (some ⟨r, 0, none⟩)) ∧ w.heap[r]? = some (.cells cur T (0, 0)) ∧ T' = T ∧ run = .ok .skip (w.setRow r (List.toArray vs)) ∧ CellsRel Im ι w cs vs
  | .upd b (.own T e l) => ∃ v w' xs, ι b = some v ∧ run = .ok .skip w' ∧ w.grownBy w' (foot v) ∧ w'.heap.size = w.heap.size ∧ OwnV w' T e.length v l.length xs ∧ FlatRel Im w e l xs
  | .upd _ _ => False
  | .app b T e l => ∃ v v' w' xs, ι b = some v ∧ run = .ok (.value v') w' ∧ w.grownBy w' (foot v) ∧ (∃ a n c, v' = .slice a n c) ∧ OwnV w' T e.length v' l.length xs ∧ FlatRel Im w e l xs ∧ ∀ k, foot v' = some k → foot v = some k ∨ w.heap.size ≤ k
  | .anyB f => ∃ β, run = .ok (.value (.bool β)) w ∧ f β
  | .call f svs => ∃ vs : List Value, VRels Im ι w svs vs ∧ run = (callFunc f vs.toArray).run P w
end

section
variable {P : Program} {Im : Nat → Prop} {ι : Nat → Option Value} {w : World}

theorem info_of_underlying {T : TypeId} {d : TypeDesc} (h : P.underlying T = some d) : ∃ i, P.info? T = some i := by
  unfold Program.underlying at h
  cases hi : P.info? T with
  | none => rw [hi] at h; cases h
  | some i => exact ⟨i, rfl⟩
theorem underlying_of_aggT {T : TypeId} {b : Bool} (h : aggT P T = some b) : ∃ d, P.underlying T = some d := by
  unfold aggT at h
  cases hu : P.underlying T with
  | none => rw [hu] at h; cases h
  | some d => exact ⟨d, rfl⟩
theorem run_isAgg {T : TypeId} {b : Bool} (h : aggT P T = some b) : (isAgg T).run P w = .ok b w := by
  obtain ⟨d, hd⟩ := underlying_of_aggT h
  unfold aggT at h
  rw [hd] at h
  unfold isAgg
  rw [Sem.run_bind, run_underlying hd]
  cases d <;> simp_all
theorem run_sizeOf {T : TypeId} {d : TypeDesc} (h : P.underlying T = some d) : (sizeOf T).run P w = .ok (P.cellsOf T) w := by
  obtain ⟨i, hi⟩ := info_of_underlying h
  simp [sizeOf, typeInfo, hi, Program.cellsOf]
theorem run_loadVar_agg {T : TypeId} {ad : Addr} (vs : List Value) (h : aggT P T = some true) (hl : vs.length = P.cellsOf T) (hc : ∀ j x, vs[j]? = some x → w.cell? (ad.add j) = some x) :
    (loadVar T ad).run P w = .ok (.agg vs.toArray) w := by
  obtain ⟨d, hd⟩ := underlying_of_aggT h
  have h1 := run_loadCells_list (P := P) w ad vs hc
  rw [hl] at h1
  simp only [loadVar, Sem.run_bind, run_isAgg h, Result.andThen_ok, if_true, run_sizeOf hd, h1, Sem.run_pure]
theorem run_loadVar_one {T : TypeId} {ad : Addr} {x : Value} (h : aggT P T = some false) (hc : w.cell? ad = some x) : (loadVar T ad).run P w = .ok x w := by
  simp only [loadVar, Sem.run_bind, run_isAgg h, Result.andThen_ok, Bool.false_eq_true, if_false, run_load, hc]
theorem add_plain' (r o j : Nat) : (⟨r, o, none⟩ : Addr).add j = ⟨r, o + j, none⟩ := by unfold Addr.add; split <;> simp_all
theorem add_add (ad : Addr) (i j : Nat) (h : ad.spot = none) : (ad.add i).add j = ad.add (i + j) := by
  cases ad with
  | mk b o s =>
    cases h
    rw [add_plain', add_plain', add_plain', Nat.add_assoc]
theorem spot_of_cell {ad : Addr} {x : Value} {j : Nat} (h : w.cell? (ad.add j) = some x) (hj : j = 0 ∨ True) : (ad.add j).spot = none := by
  unfold World.cell? at h
  split at h
  · cases hs : (ad.add j).spot with
    | none => rfl
    | some _ => rw [hs] at h; simp at h
  · cases h
theorem cell_add {ad : Addr} {i j : Nat} {x : Value} (h : w.cell? (ad.add (i + j)) = some x) (h0 : ad.spot = none) : w.cell? ((ad.add i).add j) = some x := by
  rw [add_add _ _ _ h0]; exact h
theorem ifAgg_sem {T : TypeId} {run : Result Next} {x y : OR} (hx : aggT P T = some true → ORSem P Im ι w run x) (hy : aggT P T = some false → ORSem P Im ι w run y) : ORSem P Im ι w run (ifAgg P T x y) := by
  unfold ifAgg
  split
  · exact hx ‹_›
  · exact hy ‹_›
  · trivial

/-- The cells of a block of the call's own. -/
theorem HV.cells {hp : List Blk} (h : HV Im ι w hp) {b : Nat} {T : TypeId} {cs : List SV} {v : Value} (hb : hp.getD b .none = .cells T cs) (hv : ι b = some v) :
    ∃ (r : Nat) (vs : List Value), v = .pointer (some ⟨r, 0, none⟩) ∧ w.heap[r]? = some (.cells vs.toArray T (0, 0)) ∧ CellsRel Im ι w cs vs := by
  have := h b v hv
  rw [hb] at this
  exact this
theorem HV.own {hp : List Blk} (h : HV Im ι w hp) {b : Nat} {T : TypeId} {e : List CSh} {l : List (List CD)} {v : Value} (hb : hp.getD b .none = .own T e l) (hv : ι b = some v) :
    ∃ xs, OwnV w T e.length v l.length xs ∧ FlatRel Im w e l xs := by
  have := h b v hv
  rw [hb] at this
  exact this
theorem HV.ro {hp : List Blk} (h : HV Im ι w hp) {b : Nat} {e : List CSh} {l : List (List CD)} {v : Value} (hb : hp.getD b .none = .ro e l) (hv : ι b = some v) : CRel Im w (.sl e) (.sl l) v := by
  have := h b v hv
  rw [hb] at this
  exact this
theorem cell_vs {r : Nat} {vs : List Value} {T : TypeId} {fr : Nat × Nat} (h : w.heap[r]? = some (.cells vs.toArray T fr)) (c : Nat) : w.cell? ⟨r, c, none⟩ = vs[c]? := by
  rw [cell_of_row w r c _ T fr h]; simp
theorem cell_mid {r : Nat} {va vm vd : List Value} {T : TypeId} {fr : Nat × Nat} (h : w.heap[r]? = some (.cells (va ++ (vm ++ vd)).toArray T fr)) : ∀ j x, vm[j]? = some x → w.cell? ((⟨r, va.length, none⟩ : Addr).add j) = some x := by
  intro j x hx
  have hj : j < vm.length := (List.getElem?_eq_some_iff.1 hx).1
  rw [add_plain', cell_vs h, List.getElem?_append_right (by omega), Nat.add_sub_cancel_left, List.getElem?_append_left hj, hx]

/-! ### Loads -/
theorem evLoadCells_sem {T : TypeId} {cs : List SV} {c : Nat} {r : Nat} {vs : List Value} {T' : TypeId} {fr : Nat × Nat}
    (hb : w.heap[r]? = some (.cells vs.toArray T' fr)) (hc : CellsRel Im ι w cs vs) :
    ORSem P Im ι w ((do let x ← Instr.loadAt T (.pointer (some ⟨r, c, none⟩)); pure (.value x) : Sem Next).run P w) (evLoadCells P T cs c) := by
  unfold evLoadCells
  split
  · rename_i a rs hsp
    obtain ⟨va, vd, rfl, hl, h1, h2⟩ := splitC_rel hsp hc
    refine ifAgg_sem (fun ht => ?_) (fun ht => ?_)
    · split
      · rename_i m ds hsm
        obtain ⟨vm, vz, rfl, hlm, h3, h4⟩ := splitC_rel hsm h2
        subst hl
        have := run_loadVar_agg (P := P) (w := w) (ad := ⟨r, va.length, none⟩) vm ht hlm (cell_mid hb)
        exact ⟨.agg vm.toArray, by simp [Instr.loadAt, Instr.sureAddr, this], vm, rfl, h3⟩
      · trivial
    · split
      · rename_i s rs'
        split
        · rename_i ho
          obtain ⟨vx, vy, rfl, hl1, h3, h4⟩ := cellsRel_cons h2
          obtain ⟨x, rfl, hx⟩ := cellsRel_one_inv ho h3
          have hcell : w.cell? ⟨r, c, none⟩ = some x := by
            have := cell_mid hb 0 x rfl
            rw [add_plain', Nat.add_zero, hl] at this
            exact this
          exact ⟨x, by simp [Instr.loadAt, Instr.sureAddr, run_loadVar_one ht hcell], hx⟩
        · trivial
      · trivial
  · trivial

/-- Rows of data at an address: where element i's cell c lies. -/
theorem rowSV_rel {e0 : List CSh} {l : List (List CD)} {xs : List Value} (h : FlatRel Im w e0 l xs) {i : Nat} (hi : i < l.length) : ∀ (e : List CSh) (c : Nat), (∀ k sh, e[k]? = some sh → e0[c + k]? = some sh) →
    CellsRel Im ι w (rowSV l i e c) ((xs.drop (i * e0.length + c)).take e.length)
  | [], c, _ => by simp [rowSV, CellsRel]
  | sh :: e, c, hk => by
    have h0 : e0[c]? = some sh := by simpa using hk 0 sh rfl
    obtain ⟨v, hv, hr⟩ := h.get i c sh hi h0
    have hlt : i * e0.length + c < xs.length := (List.getElem?_eq_some_iff.1 hv).1
    have hd : xs.drop (i * e0.length + c) = v :: xs.drop (i * e0.length + (c + 1)) := by
      rw [List.drop_eq_getElem_cons hlt]
      congr 1
      have := List.getElem?_eq_getElem hlt
      rw [hv] at this
      exact (Option.some.inj this).symm
    rw [hd, List.length_cons, List.take_succ_cons]
    have ih := rowSV_rel h hi e (c + 1) (fun k sh' h' => by
      have := hk (k + 1) sh' (by simpa using h')
      rwa [show c + (k + 1) = c + 1 + k by omega] at this)
    exact cellsRel_cons_mk (va := [v]) (cellsRel_one (ofCD_one _ _) (ofCD_rel hr)) ih
theorem ints_rel {k : IntKind} : ∀ {l : List (List CD)} {xs : List Value}, FlatRel Im w [.int k] l xs → xs = (l.map fun r => (r.getD 0 .d0).toInt).map (Value.int k)
  | _, _, .nil _ => rfl
  | _, _, .cons _ row vs l xs h1 h2 => by
    cases h1 with
    | cons sh cd v e row' vs' h3 h4 =>
      cases h4
      cases h3
      simp [ints_rel h2, CD.toInt]
theorem evLoadRows_sem {T : TypeId} {e : List CSh} {l : List (List CD)} {i c : Nat} {ad : Addr} {xs : List Value} (hf : FlatRel Im w e l xs) (hc : ∀ j x, xs[j]? = some x → w.cell? (ad.add j) = some x) :
    ORSem P Im ι w ((do let x ← Instr.loadAt T (.pointer (some (ad.add (i * e.length + c)))); pure (.value x) : Sem Next).run P w) (evLoadRows P T e l i c) := by
  have hsub : ∀ (n : Nat) j x, ((xs.drop (i * e.length + c)).take n)[j]? = some x → w.cell? ((ad.add (i * e.length + c)).add j) = some x := by
    intro n j x hx
    rw [List.getElem?_take] at hx
    split at hx
    · rw [List.getElem?_drop] at hx
      have h1 := hc _ _ hx
      have h0 : ad.spot = none := by
        by_cases hz : xs = []
        · subst hz; simp at hx
        · obtain ⟨y, ys, rfl⟩ := List.exists_cons_of_ne_nil hz
          have := hc 0 y rfl
          have h2 := spot_of_cell this (.inl rfl)
          simpa [Addr.add] using h2
      exact cell_add h1 h0
    · cases hx
  unfold evLoadRows
  refine ifAgg_sem (fun ht => ?_) (fun ht => ?_)
  · split
    · rename_i k
      intro hn
      have hsp := (hf.split i (by omega)).2
      have hsp2 := (hsp.split (P.cellsOf T) (by simp; omega)).1
      have hxs := ints_rel hsp2
      simp only [List.length_singleton, Nat.mul_one, Nat.add_zero] at hsub hxs hsp hsp2 ⊢
      have hlen : ((xs.drop i).take (P.cellsOf T)).length = P.cellsOf T := by
        have := hf.length
        simp at this ⊢
        omega
      have := run_loadVar_agg (P := P) (w := w) (ad := ad.add i) _ ht hlen (hsub _)
      refine ⟨.agg ((xs.drop i).take (P.cellsOf T)).toArray, by simp [Instr.loadAt, Instr.sureAddr, this], _, rfl, ?_⟩
      rw [hxs]
      exact cellsRel_arrI (by simp; omega)
    · split
      · rename_i e' c' _ hle
        intro hi
        have hlx := hf.length
        have hb : i * e.length + c + P.cellsOf T ≤ xs.length := by
          rw [hlx]
          have : (i + 1) * e.length ≤ l.length * e.length := Nat.mul_le_mul_right _ hi
          rw [Nat.add_mul] at this
          omega
        have hlen : ((xs.drop (i * e.length + c)).take (P.cellsOf T)).length = P.cellsOf T := by simp; omega
        have := run_loadVar_agg (P := P) (w := w) (ad := ad.add (i * e.length + c)) _ ht hlen (hsub _)
        refine ⟨.agg ((xs.drop (i * e.length + c)).take (P.cellsOf T)).toArray, by simp [Instr.loadAt, Instr.sureAddr, this], _, rfl, ?_⟩
        have hr := rowSV_rel (ι := ι) hf hi ((e.drop c).take (P.cellsOf T)) c (fun k sh hk => by
          rw [List.getElem?_take] at hk
          split at hk
          · rw [List.getElem?_drop] at hk; exact hk
          · cases hk)
        have he : ((e.drop c).take (P.cellsOf T)).length = P.cellsOf T := by simp; omega
        rwa [he] at hr
      · trivial
  · split
    · rename_i sh hsh
      intro hi
      obtain ⟨v, hv, hr⟩ := hf.get i c sh hi hsh
      have hcell := hc _ _ hv
      exact ⟨v, by simp [Instr.loadAt, Instr.sureAddr, run_loadVar_one ht hcell], ofCD_rel hr⟩
    · trivial
theorem OwnV.at {T : TypeId} {sz : Nat} {r n cap n' : Nat} {xs : List Value} (h : OwnV w T sz (.slice (some ⟨r, 0, none⟩) n cap) n' xs) (hcap : 0 < cap) :
    ∃ cur, w.heap[r]? = some (.cells cur T (0, 0)) ∧ n = n' ∧ n ≤ cap ∧ cap ≤ maxLen ∧ cur.size = cap * sz ∧ cur.toList.take (n * sz) = xs := by
  rcases h.2 with ⟨a, h1, _⟩ | ⟨g, c, cur, h1, h2, h3, h4, h5, h6, h7⟩
  · injection h1 with _ _ h3; omega
  · injection h1 with h8 h9 h10
    injection h8 with h8
    injection h8 with h8
    subst h8 h9 h10
    exact ⟨cur, h2, rfl, h3, h5, h6, h7⟩
theorem own_cells {T : TypeId} {sz : Nat} {r n cap n' : Nat} {xs : List Value} (h : OwnV w T sz (.slice (some ⟨r, 0, none⟩) n cap) n' xs) (hcap : 0 < cap) : ∀ j x, xs[j]? = some x → w.cell? ((⟨r, 0, none⟩ : Addr).add j) = some x := by
  obtain ⟨cur, hg, _, _, _, _, ht⟩ := h.at hcap
  intro j x hx
  rw [add_plain', Nat.zero_add, cell_of_row w r j cur T (0, 0) hg]
  rw [← ht, List.getElem?_take] at hx
  split at hx
  · simpa using hx
  · cases hx
theorem evLoad_sem {hp : List Blk} {T : TypeId} {s : SV} {v : Value} (hh : HV Im ι w hp) (hv : VRel Im ι w s v) :
    ORSem P Im ι w ((do let x ← Instr.loadAt T v; pure (.value x) : Sem Next).run P w) (evLoad P hp T s) := by
  unfold evLoad
  split
  · rename_i b c
    obtain ⟨r, h1, rfl⟩ := hv
    split
    · rename_i T' cs hb
      obtain ⟨r', vs, h2, h3, h4⟩ := hh.cells hb h1
      cases h2
      exact evLoadCells_sem h3 h4
    · trivial
  · rename_i b c i
    obtain ⟨r, h1, rfl⟩ := hv
    split
    · rename_i T' cs hb
      obtain ⟨r', vs, h2, h3, h4⟩ := hh.cells hb h1
      cases h2
      split
      · rename_i a n k l d hsp
        obtain ⟨va, vd, rfl, hl, h5, h6⟩ := splitC_rel hsp h4
        obtain ⟨hln, vz, rfl, h7⟩ := cellsRel_arrI_inv h6
        subst hl
        refine ifAgg_sem (fun ht => ?_) (fun ht => ?_)
        · intro hn
          have hcells : ∀ j x, (((l.drop i).take (P.cellsOf T)).map (Value.int k))[j]? = some x → w.cell? ((⟨r, va.length + i, none⟩ : Addr).add j) = some x := by
            intro j x hx
            rw [List.getElem?_map, List.getElem?_take] at hx
            split at hx
            · rw [List.getElem?_drop] at hx
              have := cell_mid (vm := l.map (Value.int k)) h3 (i + j) x (by rw [List.getElem?_map]; exact hx)
              rwa [add_plain', ← Nat.add_assoc, ← add_plain'] at this
            · simp at hx
          have := run_loadVar_agg (P := P) (w := w) _ ht (by simp; omega) hcells
          exact ⟨.agg (((l.drop i).take (P.cellsOf T)).map (Value.int k)).toArray, by simp [Instr.loadAt, Instr.sureAddr, this], _, rfl, cellsRel_arrI (by simp; omega)⟩
        · intro hn
          have hcell : w.cell? ⟨r, va.length + i, none⟩ = some (.int k (l.getD i 0)) := by
            have := cell_mid (vm := l.map (Value.int k)) h3 i (.int k (l.getD i 0)) (by rw [List.getElem?_map]; simp [List.getD, List.getElem?_eq_getElem (show i < l.length by omega)])
            rwa [add_plain'] at this
          exact ⟨_, by simp [Instr.loadAt, Instr.sureAddr, run_loadVar_one ht hcell], rfl⟩
      · rename_i a n l d hsp
        obtain ⟨va, vd, rfl, hl, h5, h6⟩ := splitC_rel hsp h4
        obtain ⟨hln, vz, rfl, h7⟩ := cellsRel_arrB_inv h6
        subst hl
        refine ifAgg_sem (fun ht => ?_) (fun ht => ?_)
        · intro hn
          have hcells : ∀ j x, (((l.drop i).take (P.cellsOf T)).map Value.bool)[j]? = some x → w.cell? ((⟨r, va.length + i, none⟩ : Addr).add j) = some x := by
            intro j x hx
            rw [List.getElem?_map, List.getElem?_take] at hx
            split at hx
            · rw [List.getElem?_drop] at hx
              have := cell_mid (vm := l.map Value.bool) h3 (i + j) x (by rw [List.getElem?_map]; exact hx)
              rwa [add_plain', ← Nat.add_assoc, ← add_plain'] at this
            · simp at hx
          have := run_loadVar_agg (P := P) (w := w) _ ht (by simp; omega) hcells
          exact ⟨.agg (((l.drop i).take (P.cellsOf T)).map Value.bool).toArray, by simp [Instr.loadAt, Instr.sureAddr, this], _, rfl, cellsRel_arrB (by simp; omega)⟩
        · intro hn
          have hcell : w.cell? ⟨r, va.length + i, none⟩ = some (.bool (l.getD i false)) := by
            have := cell_mid (vm := l.map Value.bool) h3 i (.bool (l.getD i false)) (by rw [List.getElem?_map]; simp [List.getD, List.getElem?_eq_getElem (show i < l.length by omega)])
            rwa [add_plain'] at this
          exact ⟨_, by simp [Instr.loadAt, Instr.sureAddr, run_loadVar_one ht hcell], rfl⟩
      · trivial
    · trivial
  · rename_i e l i c
    obtain ⟨ad, xs, rfl, h1, h2, h3⟩ := hv
    exact evLoadRows_sem h2 h3
  · rename_i b sz i c
    obtain ⟨r, n, cap, h1, hcap, rfl⟩ := hv
    split
    · rename_i T' e l hb
      obtain ⟨xs, h2, h3⟩ := hh.own hb h1
      split
      · rename_i hsz
        subst hsz
        have := evLoadRows_sem (P := P) (ι := ι) (T := T) (i := i) (c := c) h3 (own_cells h2 hcap)
        rwa [add_plain', Nat.zero_add] at this
      · trivial
    · trivial
  · trivial
end
end Go.Avc
