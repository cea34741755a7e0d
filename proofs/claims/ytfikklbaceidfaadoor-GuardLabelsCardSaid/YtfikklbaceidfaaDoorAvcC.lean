/-
  AVC, part C: what the evaluator says of one operation is what the model does. First half: cells, loads, addresses.
-/
import Derived.Test.YtfikklbaceidfaaDoorAvcB
namespace Go.Avc
set_option linter.unusedVariables false
set_option linter.unusedSimpArgs false

/-! ### Lists of cells -/
section
variable {Im : Nat → Prop} {ι : Nat → Option Value} {w : World}

theorem one_cell : ∀ {s : SV} {v : Value}, s.one = true → VRel Im ι w s v → v.oneCell' = true
  | .int .., _, _, h => by cases h; rfl
  | .bool _, _, _, h => by cases h; rfl
  | .str _, _, _, h => by obtain ⟨rfl, _⟩ := h; rfl
  | .nilp, _, _, h => by cases h; rfl
  | .ptr .., _, _, h => by obtain ⟨r, _, rfl⟩ := h; rfl
  | .aptr .., _, _, h => by obtain ⟨r, _, rfl⟩ := h; rfl
  | .rd .., _, _, h => by cases h <;> rfl
  | .e0, _, _, h => by obtain ⟨_, rfl⟩ := h; rfl
  | .nils, _, _, h => by cases h; rfl
  | .own b, v, _, h => by obtain ⟨_, _, _, _, rfl⟩ := h; rfl
  | .win .., _, _, h => by obtain ⟨_, _, _, rfl, _⟩ := h; rfl
  | .eptr .., _, _, h => by obtain ⟨_, _, rfl, _⟩ := h; rfl
  | .optr .., _, _, h => by obtain ⟨_, _, _, _, _, rfl⟩ := h; rfl
  | .fn .., _, _, h => by obtain ⟨_, rfl, _⟩ := h; rfl
  | .sls _, _, _, h => by obtain ⟨_, _, rfl, _⟩ := h; rfl
  | .nili, _, _, h => by cases h; rfl
  | .iface .., _, _, h => by obtain ⟨_, rfl, _⟩ := h; rfl
  | .dead, _, h, _ => by simp [SV.one] at h
  | .agg _, _, h, _ => by simp [SV.one] at h
  | .arrI .., _, h, _ => by simp [SV.one] at h
  | .arrB .., _, h, _ => by simp [SV.one] at h
  | .tup _, _, h, _ => by simp [SV.one] at h
  | .val _, _, h, _ => by simp [SV.one] at h

theorem size_one : ∀ {s : SV}, s.one = true → s.size = 1
  | .arrI .., h => by simp [SV.one] at h
  | .arrB .., h => by simp [SV.one] at h
  | .int .., _ | .bool _, _ | .str _, _ | .nilp, _ | .ptr .., _ | .aptr .., _ | .rd .., _ | .e0, _ | .nils, _ | .own _, _ | .win .., _ | .eptr .., _ | .optr .., _ | .fn .., _ | .sls _, _ | .nili, _ | .iface .., _ => rfl
  | .dead, h | .agg _, h | .tup _, h | .val _, h => by simp [SV.one] at h

/-- The first part of a row, by its own cells. -/
theorem cellsRel_cons {s : SV} {cs : List SV} {vs : List Value} (h : CellsRel Im ι w (s :: cs) vs) :
    ∃ va vb, vs = va ++ vb ∧ va.length = s.size ∧ CellsRel Im ι w [s] va ∧ CellsRel Im ι w cs vb := by
  unfold CellsRel at h
  split at h
  · obtain ⟨h1, vs', rfl, h2⟩ := h
    exact ⟨_, vs', rfl, by simpa [SV.size] using h1, by unfold CellsRel; exact ⟨h1, [], by simp, rfl⟩, h2⟩
  · obtain ⟨h1, vs', rfl, h2⟩ := h
    exact ⟨_, vs', rfl, by simpa [SV.size] using h1, by unfold CellsRel; exact ⟨h1, [], by simp, rfl⟩, h2⟩
  · rename_i h1 h2
    obtain ⟨v, vs', rfl, h3, h4, h5⟩ := h
    refine ⟨[v], vs', rfl, ?_, ?_, h5⟩
    · cases s <;> first | rfl | exact absurd rfl (h1 _ _ _) | exact absurd rfl (h2 _ _)
    · unfold CellsRel
      split
      · exact absurd rfl (h1 _ _ _)
      · exact absurd rfl (h2 _ _)
      · exact ⟨v, [], rfl, h3, h4, rfl⟩
theorem cellsRel_cons_mk {s : SV} {cs : List SV} {va vb : List Value} (h1 : CellsRel Im ι w [s] va) (h2 : CellsRel Im ι w cs vb) : CellsRel Im ι w (s :: cs) (va ++ vb) := by
  unfold CellsRel at h1 ⊢
  split at h1
  · obtain ⟨e1, vs', rfl, rfl⟩ := h1
    exact ⟨e1, vb, by simp, h2⟩
  · obtain ⟨e1, vs', rfl, rfl⟩ := h1
    exact ⟨e1, vb, by simp, h2⟩
  · obtain ⟨v, vs', rfl, h3, h4, rfl⟩ := h1
    exact ⟨v, vb, by simp, h3, h4, h2⟩
theorem cellsRel_one {s : SV} {v : Value} (h : s.one = true) (hv : VRel Im ι w s v) : CellsRel Im ι w [s] [v] := by
  unfold CellsRel
  split
  · simp [SV.one] at h
  · simp [SV.one] at h
  · exact ⟨v, [], rfl, hv, one_cell h hv, rfl⟩
theorem cellsRel_one_inv {s : SV} {vs : List Value} (h : s.one = true) (hv : CellsRel Im ι w [s] vs) : ∃ v, vs = [v] ∧ VRel Im ι w s v := by
  unfold CellsRel at hv
  split at hv
  · simp [SV.one] at h
  · simp [SV.one] at h
  · obtain ⟨v, vs', rfl, h1, _, rfl⟩ := hv
    exact ⟨v, rfl, h1⟩
theorem cellsRel_append : ∀ {cs ds : List SV} {vs us : List Value}, CellsRel Im ι w cs vs → CellsRel Im ι w ds us → CellsRel Im ι w (cs ++ ds) (vs ++ us)
  | [], ds, vs, us, h, k => by
    cases (show vs = [] from h)
    exact k
  | s :: cs, ds, vs, us, h, k => by
    obtain ⟨va, vb, rfl, _, h1, h2⟩ := cellsRel_cons h
    rw [List.cons_append, List.append_assoc]
    exact cellsRel_cons_mk h1 (cellsRel_append h2 k)
theorem splitC_rel : ∀ {cs : List SV} {n : Nat} {a d : List SV} {vs : List Value}, splitC cs n = some (a, d) → CellsRel Im ι w cs vs →
    ∃ va vd, vs = va ++ vd ∧ va.length = n ∧ CellsRel Im ι w a va ∧ CellsRel Im ι w d vd
  | cs, 0, a, d, vs, h, k => by
    simp only [splitC, Option.some.injEq, Prod.mk.injEq] at h
    obtain ⟨rfl, rfl⟩ := h
    exact ⟨[], vs, rfl, rfl, rfl, k⟩
  | [], n + 1, a, d, vs, h, k => by simp [splitC] at h
  | s :: cs, n + 1, a, d, vs, h, k => by
    unfold splitC at h
    split at h
    · rename_i hs
      split at h
      · rename_i a' d' hsp
        simp only [Option.some.injEq, Prod.mk.injEq] at h
        obtain ⟨rfl, rfl⟩ := h
        obtain ⟨va, vb, rfl, hl, h1, h2⟩ := cellsRel_cons k
        obtain ⟨vc, vd, rfl, hl2, h3, h4⟩ := splitC_rel hsp h2
        exact ⟨va ++ vc, vd, by simp, by simp [hl, hl2]; omega, cellsRel_cons_mk h1 h3, h4⟩
      · cases h
    · cases h
theorem cellsRel_length : ∀ {cs : List SV} {vs : List Value}, CellsRel Im ι w cs vs → vs.length = szs cs
  | [], vs, h => by cases (show vs = [] from h); rfl
  | s :: cs, vs, h => by
    obtain ⟨va, vb, rfl, hl, _, h2⟩ := cellsRel_cons h
    simp [szs, hl, cellsRel_length h2]
theorem cellsRel_arrI {n : Nat} {k : IntKind} {l : List Int} (h : l.length = n) : CellsRel Im ι w [.arrI n k l] (l.map (Value.int k)) := by
  unfold CellsRel
  exact ⟨h, [], by simp, rfl⟩
theorem cellsRel_arrB {n : Nat} {l : List Bool} (h : l.length = n) : CellsRel Im ι w [.arrB n l] (l.map Value.bool) := by
  unfold CellsRel
  exact ⟨h, [], by simp, rfl⟩
theorem cellsRel_arrI_inv {n : Nat} {k : IntKind} {l : List Int} {cs : List SV} {vs : List Value} (h : CellsRel Im ι w (.arrI n k l :: cs) vs) :
    l.length = n ∧ ∃ vs', vs = l.map (Value.int k) ++ vs' ∧ CellsRel Im ι w cs vs' := by unfold CellsRel at h; exact h
theorem cellsRel_arrB_inv {n : Nat} {l : List Bool} {cs : List SV} {vs : List Value} (h : CellsRel Im ι w (.arrB n l :: cs) vs) :
    l.length = n ∧ ∃ vs', vs = l.map Value.bool ++ vs' ∧ CellsRel Im ι w cs vs' := by unfold CellsRel at h; exact h
theorem cellsRel_arrI_mk {n : Nat} {k : IntKind} {l : List Int} {cs : List SV} {vs : List Value} (h : l.length = n) (hc : CellsRel Im ι w cs vs) :
    CellsRel Im ι w (.arrI n k l :: cs) (l.map (Value.int k) ++ vs) := by unfold CellsRel; exact ⟨h, vs, rfl, hc⟩
theorem cellsRel_arrB_mk {n : Nat} {l : List Bool} {cs : List SV} {vs : List Value} (h : l.length = n) (hc : CellsRel Im ι w cs vs) :
    CellsRel Im ι w (.arrB n l :: cs) (l.map Value.bool ++ vs) := by unfold CellsRel; exact ⟨h, vs, rfl, hc⟩
theorem cellsRel_cells : ∀ {cs : List SV} {vs : List Value}, CellsRel Im ι w cs vs → ∀ v ∈ vs, v.oneCell' = true
  | [], vs, h, v, hv => by cases (show vs = [] from h); cases hv
  | s :: cs, vs, h, v, hv => by
    unfold CellsRel at h
    split at h
    · obtain ⟨_, vs', rfl, h2⟩ := h
      rcases List.mem_append.1 hv with h | h
      · obtain ⟨_, _, rfl⟩ := List.mem_map.1 h; rfl
      · exact cellsRel_cells h2 v h
    · obtain ⟨_, vs', rfl, h2⟩ := h
      rcases List.mem_append.1 hv with h | h
      · obtain ⟨_, _, rfl⟩ := List.mem_map.1 h; rfl
      · exact cellsRel_cells h2 v h
    · obtain ⟨u, vs', rfl, _, h3, h2⟩ := h
      rcases List.mem_cons.1 hv with rfl | h
      · exact h3
      · exact cellsRel_cells h2 v h
/-- The cells of a value. -/
theorem cells_rel {s : SV} {xs : List SV} {v : Value} (h : s.cells = some xs) (hv : VRel Im ι w s v) : CellsRel Im ι w xs v.cells.toList := by
  unfold SV.cells at h
  split at h
  · simp only [Option.some.injEq] at h
    subst h
    obtain ⟨vs, rfl, hc⟩ := hv
    simpa [Value.cells] using hc
  · split at h
    · rename_i ho
      simp only [Option.some.injEq] at h
      subst h
      have h1 := one_cell ho hv
      have : v.cells.toList = [v] := by cases v <;> first | rfl | (simp [Value.oneCell'] at h1)
      rw [this]
      exact cellsRel_one ho hv
    · cases h

/-! ### Rows of data -/
theorem RowRel.length : ∀ {e : List CSh} {row : List CD} {vs : List Value}, RowRel Im w e row vs → vs.length = e.length ∧ row.length = e.length
  | _, _, _, .nil => by simp
  | _, _, _, .cons sh cd v e row vs h1 h2 => by have := h2.length; simp [this]
theorem RowRel.get : ∀ {e : List CSh} {row : List CD} {vs : List Value}, RowRel Im w e row vs → ∀ (c : Nat) (sh : CSh), e[c]? = some sh → ∃ v, vs[c]? = some v ∧ CRel Im w sh (row.getD c .d0) v
  | _, _, _, .nil, c, sh, h => by simp at h
  | _, _, _, .cons sh0 cd v e row vs h1 h2, 0, sh, h => by
    simp only [List.getElem?_cons_zero, Option.some.injEq] at h
    subst h
    exact ⟨v, rfl, h1⟩
  | _, _, _, .cons sh0 cd v e row vs h1 h2, c + 1, sh, h => by
    simp only [List.getElem?_cons_succ] at h
    simpa using h2.get c sh h
theorem FlatRel.length : ∀ {e : List CSh} {l : List (List CD)} {xs : List Value}, FlatRel Im w e l xs → xs.length = l.length * e.length
  | _, _, _, .nil e => by simp
  | _, _, _, .cons e row vs l xs h1 h2 => by
    simp only [List.length_append, List.length_cons, h1.length.1, h2.length, Nat.add_mul]
    omega
theorem FlatRel.append : ∀ {e : List CSh} {l m : List (List CD)} {xs ys : List Value}, FlatRel Im w e l xs → FlatRel Im w e m ys → FlatRel Im w e (l ++ m) (xs ++ ys)
  | _, _, _, _, _, .nil e, k => k
  | _, _, m, _, ys, .cons e row vs l xs h1 h2, k => by
    rw [List.cons_append, List.append_assoc]
    exact .cons e row vs _ _ h1 (h2.append k)
/-- One row out of many. -/
theorem FlatRel.row : ∀ {e : List CSh} {l : List (List CD)} {xs : List Value}, FlatRel Im w e l xs → ∀ i, i < l.length →
    ∃ vs, RowRel Im w e (l.getD i []) vs ∧ ∀ c v, vs[c]? = some v → xs[i * e.length + c]? = some v
  | _, _, _, .nil e, i, h => by simp at h
  | _, _, _, .cons e row vs l xs h1 h2, 0, _ => ⟨vs, by simpa using h1, fun c v hv => by
      have hc : c < vs.length := (List.getElem?_eq_some_iff.1 hv).1
      rw [Nat.zero_mul, Nat.zero_add, List.getElem?_append_left hc]
      exact hv⟩
  | _, _, _, .cons e row vs l xs h1 h2, i + 1, h => by
    obtain ⟨us, hu, hc⟩ := h2.row i (by simpa using h)
    refine ⟨us, by simpa using hu, fun c v hv => ?_⟩
    have hl := h1.length.1
    rw [List.getElem?_append_right (by rw [hl, Nat.add_mul]; omega)]
    rw [show (i + 1) * e.length + c - vs.length = i * e.length + c by rw [hl, Nat.add_mul]; omega]
    exact hc c v hv
theorem FlatRel.get {e : List CSh} {l : List (List CD)} {xs : List Value} (h : FlatRel Im w e l xs) (i c : Nat) (sh : CSh) (hi : i < l.length) (hc : e[c]? = some sh) :
    ∃ v, xs[i * e.length + c]? = some v ∧ CRel Im w sh ((l.getD i []).getD c .d0) v := by
  obtain ⟨vs, hr, hx⟩ := h.row i hi
  obtain ⟨v, hv, hv'⟩ := hr.get c sh hc
  exact ⟨v, hx c v hv, hv'⟩
theorem FlatRel.split : ∀ {e : List CSh} {l : List (List CD)} {xs : List Value}, FlatRel Im w e l xs → ∀ n, n ≤ l.length → FlatRel Im w e (l.take n) (xs.take (n * e.length)) ∧ FlatRel Im w e (l.drop n) (xs.drop (n * e.length))
  | _, _, _, h, 0, _ => by simp only [List.take_zero, Nat.zero_mul, List.drop_zero]; exact ⟨.nil _, h⟩
  | _, _, _, .nil e, n + 1, hn => by simp at hn
  | _, _, _, .cons e row vs l xs h1 h2, n + 1, hn => by
    have hl := h1.length.1
    have ih := h2.split n (by simpa using hn)
    have hk : (n + 1) * e.length = vs.length + n * e.length := by rw [hl, Nat.add_mul]; omega
    rw [hk, List.take_append, List.drop_append]
    simp only [Nat.add_sub_cancel_left, List.take_succ_cons, List.drop_succ_cons, List.take_of_length_le (Nat.le_add_right _ _), List.drop_eq_nil_of_le (Nat.le_add_right _ _), List.nil_append]
    exact ⟨.cons e row vs _ _ h1 ih.1, ih.2⟩
theorem ofCD_rel {sh : CSh} {cd : CD} {v : Value} (h : CRel Im w sh cd v) : VRel Im ι w (ofCD sh cd) v := by
  cases h with
  | int k n => rfl
  | bool b => rfl
  | str l hl => exact ⟨rfl, hl⟩
  | sl0 e a cap hc => exact .sl0 e a cap hc
  | sl e l ad cap xs h1 h2 h3 h4 h5 => exact .sl e l ad cap xs h1 h2 h3 h4 h5
theorem ofCD_one (sh : CSh) (cd : CD) : (ofCD sh cd).one = true := by cases sh <;> rfl
theorem RowRel.cells : ∀ {e : List CSh} {row : List CD} {vs : List Value}, RowRel Im w e row vs → ∀ v ∈ vs, v.oneCell' = true
  | _, _, _, .nil, _, h => by cases h
  | _, _, _, .cons sh cd v e row vs h1 h2, u, h => by
    rcases List.mem_cons.1 h with rfl | h
    · cases h1 <;> rfl
    · exact h2.cells u h
theorem FlatRel.cells : ∀ {e : List CSh} {l : List (List CD)} {xs : List Value}, FlatRel Im w e l xs → ∀ v ∈ xs, v.oneCell' = true
  | _, _, _, .nil e, _, h => by cases h
  | _, _, _, .cons e row vs l xs h1 h2, u, h => by
    rcases List.mem_append.1 h with h | h
    · exact h1.cells u h
    · exact h2.cells u h
theorem toCD_rel {sh : CSh} {s : SV} {d : CD} {v : Value} (h : toCD sh s = some d) (hv : VRel Im ι w s v) : CRel Im w sh d v := by
  unfold toCD at h
  split at h
  · split at h
    · simp only [Option.some.injEq] at h
      subst h
      rename_i hk
      subst hk
      cases hv
      exact .int _ _
    · cases h
  · simp only [Option.some.injEq] at h; subst h; cases hv; exact .bool _
  · simp only [Option.some.injEq] at h; subst h; obtain ⟨rfl, hl⟩ := hv; exact .str _ hl
  · split at h
    · rename_i hb
      simp only [Option.some.injEq] at h; subst h
      rw [CSh.beqs_eq _ _ hb]
      exact hv
    · cases h
  · simp only [Option.some.injEq] at h; subst h; cases hv; exact .sl0 _ _ _ (by simp [maxLen])
  · simp only [Option.some.injEq] at h; subst h; obtain ⟨a, rfl⟩ := hv; exact .sl0 _ _ _ (by simp [maxLen])
  · cases h
theorem toCDs_rel : ∀ {e : List CSh} {cs : List SV} {row : List CD} {vs : List Value}, toCDs e cs = some row → CellsRel Im ι w cs vs → RowRel Im w e row vs
  | [], [], row, vs, h, hc => by
    simp only [toCDs, Option.some.injEq] at h
    subst h
    cases (show vs = [] from hc)
    exact .nil
  | sh :: e, s :: cs, row, vs, h, hc => by
    unfold toCDs at h
    split at h
    · rename_i d ds hd hds
      simp only [Option.some.injEq] at h
      subst h
      obtain ⟨va, vb, rfl, hl, h1, h2⟩ := cellsRel_cons hc
      have ho : s.one = true := by
        cases s <;> first | rfl | (simp [toCD] at hd)
      obtain ⟨v, rfl, hv⟩ := cellsRel_one_inv ho h1
      exact .cons _ _ _ _ _ _ (toCD_rel hd hv) (toCDs_rel hds h2)
    · cases h
  | [], _ :: _, _, _, h, _ => by simp [toCDs] at h
  | _ :: _, [], _, _, h, _ => by simp [toCDs] at h
end
end Go.Avc
