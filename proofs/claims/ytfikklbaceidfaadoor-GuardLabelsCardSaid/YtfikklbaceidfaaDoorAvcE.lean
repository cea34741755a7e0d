/-
  AVC, part E: stores, addresses, parts, slices, conversions.
-/
import Derived.Test.YtfikklbaceidfaaDoorAvcD
namespace Go.Avc
set_option linter.unusedVariables false
set_option linter.unusedSimpArgs false
section
variable {P : Program} {Im : Nat → Prop} {ι : Nat → Option Value} {w : World}

/-! ### Stores -/
theorem info_of_cells {T : TypeId} (h : P.cellsOf T ≠ 0) : ∃ i, P.info? T = some i := by
  unfold Program.cellsOf at h
  cases hi : P.info? T with
  | none => rw [hi] at h; simp at h
  | some i => exact ⟨i, rfl⟩
theorem run_sizeOf' {T : TypeId} (h : P.cellsOf T ≠ 0) : (sizeOf T).run P w = .ok (P.cellsOf T) w := by
  obtain ⟨i, hi⟩ := info_of_cells h
  simp [sizeOf, typeInfo, hi, Program.cellsOf]
theorem run_storeVar {T : TypeId} (hu : P.cellsOf T ≠ 0) {r c : Nat} {v : Value} {T' : TypeId} {va vm vd : List Value}
    (hb : w.heap[r]? = some (.cells (va ++ (vm ++ vd)).toArray T' (0, 0))) (hc : va.length = c) (hl : v.cells.toList.length = P.cellsOf T) (hm : vm.length = P.cellsOf T) (h1 : ∀ x ∈ v.cells.toList, x.oneCell' = true) :
    (storeVar T ⟨r, c, none⟩ v).run P w = .ok () (w.setRow r (va ++ (v.cells.toList ++ vd)).toArray) := by
  have hst := run_storeCells_at P r c T' v.cells.toList 0 _ w hb (by simp at hl hm ⊢; omega) h1
  simp only [Nat.add_zero] at hst
  have hsz : ¬ (v.cells.size ≠ P.cellsOf T) := by simpa using hl
  simp only [storeVar, Sem.run_bind, run_sizeOf' hu, Result.andThen_ok, if_neg hsz, hst]
  have e1 : (va ++ (vm ++ vd)).take c = va := by rw [← hc]; simp
  have e2 : (va ++ (vm ++ vd)).drop (c + v.cells.toList.length) = vd := by
    rw [← List.append_assoc]
    exact List.drop_left' (by simp at hl hm ⊢; omega)
  rw [e1, e2, List.append_assoc]
theorem run_storeAt {T : TypeId} {a : Addr} {v : Value} {w' : World} (h : (storeVar T a v).run P w = .ok () w') : (do Instr.storeAt T (.pointer (some a)) v; pure .skip : Sem Next).run P w = .ok .skip w' := by
  simp [Instr.storeAt, Instr.sureAddr, h]
theorem take_set_drop {α : Type} : ∀ (l : List α) (i : Nat) (v : α), i < l.length → l.set i v = l.take i ++ ([v] ++ l.drop (i + 1))
  | [], i, v, h => by simp at h
  | x :: l, 0, v, _ => by simp
  | x :: l, i + 1, v, h => by simp [take_set_drop l i v (by simpa using h)]
/-- A store inside a run of cells of one kind. -/
theorem seg_parts {α : Type} (l : List α) (i m : Nat) (h : i + m ≤ l.length) : l = l.take i ++ ((l.drop i).take m ++ l.drop (i + m)) := by
  rw [← List.drop_drop, List.take_append_drop, List.take_append_drop]
theorem RowRel.set : ∀ {e : List CSh} {row : List CD} {vs : List Value}, RowRel Im w e row vs → ∀ (c : Nat) (sh : CSh) (d : CD) (v : Value), e[c]? = some sh → CRel Im w sh d v → RowRel Im w e (row.set c d) (vs.set c v)
  | _, _, _, .nil, c, sh, d, v, h, _ => by simp at h
  | _, _, _, .cons sh0 cd u e row vs h1 h2, 0, sh, d, v, h, k => by
    simp only [List.getElem?_cons_zero, Option.some.injEq] at h
    subst h
    exact .cons _ _ _ _ _ _ k h2
  | _, _, _, .cons sh0 cd u e row vs h1 h2, c + 1, sh, d, v, h, k => .cons _ _ _ _ _ _ h1 (h2.set c sh d v (by simpa using h) k)
theorem FlatRel.set : ∀ {e : List CSh} {l : List (List CD)} {xs : List Value}, FlatRel Im w e l xs → ∀ (i c : Nat) (sh : CSh) (d : CD) (v : Value), i < l.length → e[c]? = some sh → CRel Im w sh d v →
    FlatRel Im w e (l.set i ((l.getD i []).set c d)) (xs.set (i * e.length + c) v)
  | _, _, _, .nil e, i, c, sh, d, v, h, _, _ => by simp at h
  | _, _, _, .cons e row vs l xs h1 h2, 0, c, sh, d, v, _, h, k => by
    have hl := h1.length.1
    have hc : c < e.length := (List.getElem?_eq_some_iff.1 h).1
    rw [Nat.zero_mul, Nat.zero_add, List.set_append_left _ _ (by omega)]
    exact .cons _ _ _ _ _ (by simpa using h1.set c sh d v h k) h2
  | _, _, _, .cons e row vs l xs h1 h2, i + 1, c, sh, d, v, hi, h, k => by
    have hl := h1.length.1
    have hc : c < e.length := (List.getElem?_eq_some_iff.1 h).1
    rw [List.set_append_right _ _ (by rw [hl, Nat.add_mul]; omega)]
    rw [show (i + 1) * e.length + c - vs.length = i * e.length + c by rw [hl, Nat.add_mul]; omega]
    exact .cons _ _ _ _ _ h1 (by simpa using h2.set i c sh d v (by simpa using hi) h k)
theorem list_set_take {α : Type} (l : List α) (i n : Nat) (v : α) : (l.set i v).take n = (l.take n).set i v := by
  apply List.ext_getElem?
  intro j
  simp only [List.getElem?_take, List.getElem?_set, List.length_take]
  by_cases hj : j < n
  · by_cases hi : i = j
    · subst hi
      have e : (i < min n l.length) = (i < l.length) := by simp; omega
      simp [hj, e]
    · simp [hi, hj]
  · by_cases hi : i = j
    · subst hi; simp [hj]; omega
    · simp [hi, hj]
theorem evStore_sem {hp : List Blk} {T : TypeId} {p x : SV} {vp vx : Value} (hh : HV Im ι w hp) (hv : VRel Im ι w p vp) (hx : VRel Im ι w x vx) :
    ORSem P Im ι w ((do Instr.storeAt T vp vx; pure .skip : Sem Next).run P w) (evStore P hp T p x) := by
  unfold evStore
  split
  · trivial
  rename_i hT
  split
  · rename_i b c
    obtain ⟨r, h1, rfl⟩ := hv
    split
    · rename_i T' cs xs hb hxc
      obtain ⟨r', vs, h2, h3, h4⟩ := hh.cells hb h1
      cases h2
      split
      · rename_i a rs hsp
        obtain ⟨va, vr, rfl, hl, h5, h6⟩ := splitC_rel hsp h4
        split
        · rename_i m d hsm
          obtain ⟨vm, vd, rfl, hlm, h7, h8⟩ := splitC_rel hsm h6
          split
          · rename_i hsz
            have hxr := cells_rel hxc hx
            have hst := run_storeVar hT h3 hl ((cellsRel_length hxr).trans hsz) hlm (cellsRel_cells hxr)
            refine ⟨r, _, _, T', h1, h3, rfl, run_storeAt hst, ?_⟩
            rw [List.append_assoc]
            exact cellsRel_append h5 (cellsRel_append hxr h8)
          · trivial
        · trivial
      · trivial
    · trivial
  · rename_i b c i
    obtain ⟨r, h1, rfl⟩ := hv
    split
    · rename_i T' cs hb
      obtain ⟨r', vs, h2, h3, h4⟩ := hh.cells hb h1
      cases h2
      split
      · rename_i a n k l d hsp
        obtain ⟨va, vr, rfl, hl, h5, h6⟩ := splitC_rel hsp h4
        obtain ⟨hln, vz, rfl, h7⟩ := cellsRel_arrI_inv h6
        split
        · rename_i k' v
          cases hx
          split
          · rename_i hk
            subst hk
            split
            · rename_i h1T
              intro hn
              have hq := seg_parts (l.map (Value.int k)) i 1 (by simp; omega)
              rw [hq, List.append_assoc, List.append_assoc, ← List.append_assoc va] at h3
              have hst := run_storeVar (v := .int k v) hT (c := c + i) h3 (by simp; omega) (by simp [Value.cells, h1T]) (by simp [h1T]; omega) (by simp [Value.cells, Value.oneCell'])
              refine ⟨r, _, _, T', h1, h3, rfl, run_storeAt hst, ?_⟩
              have he : va ++ List.take i (l.map (Value.int k)) ++ ((Value.int k v).cells.toList ++ (List.drop (i + 1) (l.map (Value.int k)) ++ vz)) = va ++ ((l.set i v).map (Value.int k) ++ vz) := by
                rw [take_set_drop l i v (by omega)]
                simp [Value.cells, List.map_take, List.map_drop]
              rw [he]
              exact cellsRel_append h5 (cellsRel_arrI_mk (by simpa using hln) h7)
            · trivial
          · trivial
        · rename_i m k' l'
          obtain ⟨us, rfl, hu⟩ := hx
          obtain ⟨hlm, uz, rfl, hz⟩ := cellsRel_arrI_inv hu
          cases (show uz = [] from hz)
          split
          · rename_i hk
            subst hk
            split
            · rename_i h1T
              intro hn
              have hq := seg_parts (l.map (Value.int k)) i m (by simp; omega)
              rw [hq, List.append_assoc, List.append_assoc, ← List.append_assoc va] at h3
              have hst := run_storeVar (v := .agg (l'.map (Value.int k) ++ []).toArray) hT (c := c + i) h3 (by simp; omega) (by simp [Value.cells, hlm, h1T]) (by simp; omega) (by simp [Value.cells]; intro x _; rfl)
              refine ⟨r, _, _, T', h1, h3, rfl, run_storeAt hst, ?_⟩
              have he : va ++ List.take i (l.map (Value.int k)) ++ ((Value.agg (l'.map (Value.int k) ++ []).toArray).cells.toList ++ (List.drop (i + m) (l.map (Value.int k)) ++ vz)) = va ++ ((l.take i ++ l' ++ l.drop (i + m)).map (Value.int k) ++ vz) := by
                simp [Value.cells, List.map_take, List.map_drop]
              rw [he]
              exact cellsRel_append h5 (cellsRel_arrI_mk (by simp; omega) h7)
            · trivial
          · trivial
        · trivial
      · rename_i a n l d hsp
        obtain ⟨va, vr, rfl, hl, h5, h6⟩ := splitC_rel hsp h4
        obtain ⟨hln, vz, rfl, h7⟩ := cellsRel_arrB_inv h6
        split
        · rename_i v
          cases hx
          split
          · rename_i h1T
            intro hn
            have hq := seg_parts (l.map Value.bool) i 1 (by simp; omega)
            rw [hq, List.append_assoc, List.append_assoc, ← List.append_assoc va] at h3
            have hst := run_storeVar (v := .bool v) hT (c := c + i) h3 (by simp; omega) (by simp [Value.cells, h1T]) (by simp [h1T]; omega) (by simp [Value.cells, Value.oneCell'])
            refine ⟨r, _, _, T', h1, h3, rfl, run_storeAt hst, ?_⟩
            have he : va ++ List.take i (l.map Value.bool) ++ ((Value.bool v).cells.toList ++ (List.drop (i + 1) (l.map Value.bool) ++ vz)) = va ++ ((l.set i v).map Value.bool ++ vz) := by
              rw [take_set_drop l i v (by omega)]
              simp [Value.cells, List.map_take, List.map_drop]
            rw [he]
            exact cellsRel_append h5 (cellsRel_arrB_mk (by simpa using hln) h7)
          · trivial
        · rename_i m l'
          obtain ⟨us, rfl, hu⟩ := hx
          obtain ⟨hlm, uz, rfl, hz⟩ := cellsRel_arrB_inv hu
          cases (show uz = [] from hz)
          split
          · rename_i h1T
            intro hn
            have hq := seg_parts (l.map Value.bool) i m (by simp; omega)
            rw [hq, List.append_assoc, List.append_assoc, ← List.append_assoc va] at h3
            have hst := run_storeVar (v := .agg (l'.map Value.bool ++ []).toArray) hT (c := c + i) h3 (by simp; omega) (by simp [Value.cells, hlm, h1T]) (by simp; omega) (by simp only [Value.cells, List.append_nil, List.mem_map]; rintro x ⟨y, _, rfl⟩; rfl)
            refine ⟨r, _, _, T', h1, h3, rfl, run_storeAt hst, ?_⟩
            have he : va ++ List.take i (l.map Value.bool) ++ ((Value.agg (l'.map Value.bool ++ []).toArray).cells.toList ++ (List.drop (i + m) (l.map Value.bool) ++ vz)) = va ++ ((l.take i ++ l' ++ l.drop (i + m)).map Value.bool ++ vz) := by
              simp [Value.cells, List.map_take, List.map_drop]
            rw [he]
            exact cellsRel_append h5 (cellsRel_arrB_mk (by simp; omega) h7)
          · trivial
        · trivial
      · trivial
    · trivial
  · rename_i b sz i c
    obtain ⟨r, n, cap, h1, hcap, rfl⟩ := hv
    split
    · rename_i T' e l hb
      obtain ⟨xs, h2, h3⟩ := hh.own hb h1
      split
      · rename_i hsz
        subst hsz
        split
        · rename_i sh hsh
          split
          · rename_i d hd
            split
            · rename_i h1T
              intro hi
              obtain ⟨cur, hg, rfl, hnc, hcm, hcs, ht⟩ := h2.at hcap
              have hcr := toCD_rel hd hx
              have ho : x.one = true := by
                cases x <;> first | rfl | (simp [toCD] at hd)
              have hvo := one_cell ho hx
              have hvc : vx.cells.toList = [vx] := by cases vx <;> first | rfl | (simp [Value.oneCell'] at hvo)
              have hce : c < e.length := (List.getElem?_eq_some_iff.1 hsh).1
              have hlt : i * e.length + c < l.length * e.length := by
                have : (i + 1) * e.length ≤ l.length * e.length := Nat.mul_le_mul_right _ hi
                rw [Nat.add_mul] at this
                omega
              have hlt2 : i * e.length + c < cur.toList.length := by
                have : l.length * e.length ≤ cap * e.length := Nat.mul_le_mul_right _ hnc
                simp
                omega
              have hq := seg_parts cur.toList (i * e.length + c) 1 (by omega)
              have hg2 : w.heap[r]? = some (.cells (cur.toList.take (i * e.length + c) ++ ((cur.toList.drop (i * e.length + c)).take 1 ++ cur.toList.drop (i * e.length + c + 1))).toArray T' (0, 0)) := by
                rw [← hq]; simpa using hg
              have hst := run_storeVar (P := P) (v := vx) hT (c := i * e.length + c) hg2 (by simp at hlt2 ⊢; omega) (by rw [hvc, h1T]; rfl) (by simp at hlt2 ⊢; omega) (by rw [hvc]; simpa using hvo)
              rw [hvc, ← take_set_drop _ _ _ hlt2] at hst
              refine ⟨_, _, xs.set (i * e.length + c) vx, h1, run_storeAt hst, ⟨rfl, rfl, rfl, by simp, fun k _ hk => setRow_other w r k _ (fun he => hk (by subst he; simp [foot]; omega))⟩, by simp, ?_, ?_⟩
              · refine ⟨by simpa using h2.1, .inr ⟨r, cap, _, by simp, setRow_heap w r _ _ _ _ hg, by simpa using hnc, hcap, hcm, by simpa using hcs, ?_⟩⟩
                rw [← ht]
                simp only [List.length_set]
                exact list_set_take _ _ _ _
              · exact h3.set i c sh d vx hi hsh hcr
            · trivial
          · trivial
        · trivial
      · trivial
    · trivial
  · trivial

/-! ### Addresses -/
theorem run_indexAt_arr {T E : TypeId} {len : Nat} (hu : P.underlying T = some (.array len E)) (hE : ∃ i, P.info? E = some i) {a : Addr} {k : IntKind} {n : Int} (h : 0 ≤ n ∧ n < len) :
    (Instr.indexAt T (.pointer (some a)) (.int k n)).run P w = .ok (.pointer (some (a.add (n.toNat * P.cellsOf E)))) w := by
  obtain ⟨i, hi⟩ := hE
  simp [Instr.indexAt, asIntOf, run_underlying hu, Instr.sureAddr, h.1, h.2, sizeOf, typeInfo, hi, Program.cellsOf]
theorem run_indexAt_slice {T E : TypeId} (hu : P.underlying T = some (.slice E)) (hE : ∃ i, P.info? E = some i) {a : Addr} {len cap : Nat} {k : IntKind} {n : Int} (h : 0 ≤ n ∧ n < len) :
    (Instr.indexAt T (.slice (some a) len cap) (.int k n)).run P w = .ok (.pointer (some (a.add (n.toNat * P.cellsOf E)))) w := by
  obtain ⟨i, hi⟩ := hE
  simp [Instr.indexAt, asIntOf, run_underlying hu, h.1, h.2, sizeOf, typeInfo, hi, Program.cellsOf]
theorem run_val {x : Sem Value} {v : Value} {w' : World} (h : x.run P w = .ok v w') : (do let y ← x; pure (.value y) : Sem Next).run P w = .ok (.value v) w' := by simp [h]
theorem spot_of_rows {e : List CSh} {l : List (List CD)} {xs : List Value} {ad : Addr} (hf : FlatRel Im w e l xs) (hc : ∀ j x, xs[j]? = some x → w.cell? (ad.add j) = some x) (hl : 0 < l.length) (he : 0 < e.length) : ad.spot = none := by
  have h1 := hf.length
  have h2 : 0 < xs.length := by rw [h1]; exact Nat.mul_pos hl he
  have h3 := hc 0 xs[0] (by simp [h2])
  have h4 := spot_of_cell h3 (.inl rfl)
  simpa [Addr.add] using h4
theorem CRel.slice {e : List CSh} {l : List (List CD)} {v : Value} (h : CRel Im w (.sl e) (.sl l) v) : ∃ a cap, v = .slice a l.length cap ∧ l.length ≤ cap ∧ cap ≤ maxLen ∧
    (0 < l.length → ∃ ad xs, a = some ad ∧ Im ad.block ∧ FlatRel Im w e l xs ∧ ∀ j x, xs[j]? = some x → w.cell? (ad.add j) = some x) := by
  cases h with
  | sl0 e a cap h => exact ⟨a, cap, rfl, Nat.zero_le _, h, fun h => by simp at h⟩
  | sl e l ad cap xs h1 h2 h3 h4 h5 => exact ⟨some ad, cap, rfl, h1, h2, fun _ => ⟨ad, xs, rfl, h3, h4, h5⟩⟩
theorem OwnV.slice {T : TypeId} {sz : Nat} {v : Value} {n : Nat} {xs : List Value} (h : OwnV w T sz v n xs) : ∃ a cap, v = .slice a n cap ∧ n ≤ cap ∧ cap ≤ maxLen ∧
    (0 < cap → ∃ g cur, a = some ⟨g, 0, none⟩ ∧ w.heap[g]? = some (.cells cur T (0, 0)) ∧ cur.size = cap * sz ∧ cur.toList.take (n * sz) = xs) := by
  rcases h.2 with ⟨a, rfl, rfl⟩ | ⟨g, cap, cur, rfl, h2, h3, h4, h5, h6, h7⟩
  · exact ⟨a, 0, rfl, Nat.le_refl _, Nat.zero_le _, fun h => by simp at h⟩
  · exact ⟨_, cap, rfl, h3, h5, fun _ => ⟨g, cur, rfl, h2, h6, h7⟩⟩
theorem evIndexAddr_sem {hp : List Blk} {T : TypeId} {x ix : SV} {vx vi : Value} (hh : HV Im ι w hp) (hx : VRel Im ι w x vx) (hi : VRel Im ι w ix vi) :
    ORSem P Im ι w ((do let y ← Instr.indexAt T vx vi; pure (.value y) : Sem Next).run P w) (evIndexAddr P hp T x ix) := by
  unfold evIndexAddr
  split
  · rename_i k n
    cases hi
    split
    · rename_i len E b c hu
      obtain ⟨r, h1, rfl⟩ := hx
      split
      · trivial
      · rename_i hE
        split
        · rename_i T' cs hb
          intro hn
          have h2 := run_indexAt_arr (w := w) (k := k) (a := ⟨r, c, none⟩) hu (info_of_cells hE) hn
          rw [add_plain'] at h2
          split
          · exact ⟨_, run_val h2, r, h1, rfl⟩
          · exact ⟨_, run_val h2, r, h1, rfl⟩
        · trivial
    · rename_i len E b c i hu
      obtain ⟨r, h1, rfl⟩ := hx
      split
      · trivial
      · rename_i hE
        intro hn
        have h2 := run_indexAt_arr (w := w) (k := k) (a := ⟨r, c + i, none⟩) hu (info_of_cells hE) hn
        rw [add_plain'] at h2
        exact ⟨_, run_val h2, r, h1, by rw [Nat.add_assoc]⟩
    · rename_i len E e l i c hu
      obtain ⟨ad, xs, rfl, h1, h2, h3⟩ := hx
      split
      · trivial
      · rename_i hE
        split
        · rename_i hs
          split
          · rename_i hc
            subst hc
            intro hn
            have h4 := run_indexAt_arr (w := w) (k := k) (a := ad.add (i * e.length + 0)) hu (info_of_cells hE) ⟨hn.1, hn.2.1⟩
            have h5 := spot_of_rows h2 h3 (by omega) (by omega)
            rw [add_add _ _ _ h5, hs] at h4
            exact ⟨_, run_val h4, ad, xs, by rw [Nat.add_mul, Nat.add_zero, Nat.add_zero], h1, h2, h3⟩
          · trivial
        · trivial
    · rename_i E e l hu
      split
      · trivial
      · rename_i hE
        split
        · rename_i hs
          intro hn
          obtain ⟨a, cap, rfl, _, _, h4⟩ := hx.slice
          obtain ⟨ad, xs, rfl, h5, h6, h7⟩ := h4 (by omega)
          have h8 := run_indexAt_slice (w := w) (k := k) (a := ad) (cap := cap) hu (info_of_cells hE) hn
          rw [hs] at h8
          exact ⟨_, run_val h8, ad, xs, by rw [Nat.add_zero], h5, h6, h7⟩
        · trivial
    · rename_i E b hu
      split
      · trivial
      · rename_i hE
        obtain ⟨h1, a', n', c', rfl⟩ := hx
        split
        · rename_i T' e l hb
          split
          · rename_i hs
            intro hn
            obtain ⟨xs, h2, h3⟩ := hh.own hb h1
            obtain ⟨a, cap, h4, h5, h6, h7⟩ := h2.slice
            injection h4 with e1 e2 e3
            subst e1 e2 e3
            obtain ⟨g, cur, rfl, h8, h9, h10⟩ := h7 (by omega)
            have h11 := run_indexAt_slice (w := w) (k := k) (a := ⟨g, 0, none⟩) (cap := c') hu (info_of_cells hE) hn
            rw [hs, add_plain', Nat.zero_add] at h11
            exact ⟨_, run_val h11, g, _, _, h1, by omega, by rw [Nat.add_zero]⟩
          · trivial
        · rename_i e l hb
          split
          · rename_i hs
            intro hn
            have h2 := hh.ro hb h1
            obtain ⟨a, cap, h4, _, _, h7⟩ := h2.slice
            injection h4 with e1 e2 e3
            subst e1 e2 e3
            obtain ⟨ad, xs, rfl, h8, h9, h10⟩ := h7 (by omega)
            have h11 := run_indexAt_slice (w := w) (k := k) (a := ad) (cap := c') hu (info_of_cells hE) hn
            rw [hs] at h11
            exact ⟨_, run_val h11, ad, xs, by rw [Nat.add_zero], h8, h9, h10⟩
          · trivial
        · trivial
    · rename_i E b c N lo m hu
      split
      · rename_i hE
        obtain ⟨r, cap, h1, rfl, h2, h3, _⟩ := hx
        intro hn
        have h4 := run_indexAt_slice (w := w) (k := k) (a := ⟨r, c + lo, none⟩) (cap := cap) hu (info_of_cells (by omega)) hn
        rw [hE, Nat.mul_one, add_plain', Nat.add_assoc] at h4
        exact ⟨_, run_val h4, r, h1, rfl⟩
      · trivial
    · trivial
  · trivial

/-! ### Parts -/
theorem run_part_agg {T : TypeId} (h : aggT P T = some true) {va vm vd : List Value} {off : Nat} (hl : va.length = off) (hm : vm.length = P.cellsOf T) :
    (part T (va ++ (vm ++ vd)).toArray off).run P w = .ok (.agg vm.toArray) w := by
  obtain ⟨d, hd⟩ := underlying_of_aggT h
  simp only [part, Sem.run_bind, run_isAgg h, Result.andThen_ok, if_true, run_sizeOf hd, Sem.run_pure]
  congr 2
  apply Array.ext'
  simp only [Array.toList_extract, List.toList_toArray]
  subst hl
  rw [← hm]
  simp [List.extract_eq_take_drop]
theorem run_part_one {T : TypeId} (h : aggT P T = some false) {cs : Array Value} {off : Nat} {x : Value} (hx : cs[off]? = some x) : (part T cs off).run P w = .ok x w := by
  simp only [part, Sem.run_bind, run_isAgg h, Result.andThen_ok, Bool.false_eq_true, if_false, hx, Sem.run_pure]
theorem mid_get {va vm vd : List Value} (j : Nat) (x : Value) (h : vm[j]? = some x) : (va ++ (vm ++ vd)).toArray[va.length + j]? = some x := by
  have hj : j < vm.length := (List.getElem?_eq_some_iff.1 h).1
  simp only [List.getElem?_toArray]
  rw [List.getElem?_append_right (by omega), Nat.add_sub_cancel_left, List.getElem?_append_left hj, h]
theorem part_sem {T : TypeId} {cs : List SV} {vs : List Value} {off : Nat} (hc : CellsRel Im ι w cs vs) :
    ORSem P Im ι w ((do let y ← part T vs.toArray off; pure (.value y) : Sem Next).run P w) (evLoadCells P T cs off) := by
  unfold evLoadCells
  split
  · rename_i a rs hsp
    obtain ⟨va, vd, rfl, hl, h1, h2⟩ := splitC_rel hsp hc
    refine ifAgg_sem (fun ht => ?_) (fun ht => ?_)
    · split
      · rename_i m ds hsm
        obtain ⟨vm, vz, rfl, hlm, h3, h4⟩ := splitC_rel hsm h2
        exact ⟨_, run_val (run_part_agg ht hl hlm), vm, rfl, h3⟩
      · trivial
    · split
      · rename_i s rs'
        split
        · rename_i ho
          obtain ⟨vx, vy, rfl, hl1, h3, h4⟩ := cellsRel_cons h2
          obtain ⟨x, rfl, hx⟩ := cellsRel_one_inv ho h3
          have := mid_get (va := va) (vm := [x]) (vd := vy) 0 x rfl
          rw [Nat.add_zero, hl] at this
          exact ⟨x, run_val (run_part_one ht this), hx⟩
        · trivial
      · trivial
  · trivial
theorem run_fieldAt {S : TypeId} {fs : Array Field} {f : Nat} {fd : Field} (hu : P.underlying S = some (.struct fs)) (hf : fs[f]? = some fd) (hs : P.cellsOf fd.type ≠ 0) {a : Addr} :
    (Instr.fieldAt S (.pointer (some a)) f).run P w = .ok (.pointer (some (a.add fd.offset))) w := by
  simp [Instr.fieldAt, run_underlying hu, hf, Instr.sureAddr, fieldPlace, run_sizeOf' hs, hs]
theorem evFieldAddr_sem {S : TypeId} {x : SV} {f : Nat} {vx : Value} (hx : VRel Im ι w x vx) :
    ORSem P Im ι w ((do let y ← Instr.fieldAt S vx f; pure (.value y) : Sem Next).run P w) (evFieldAddr P S x f) := by
  unfold evFieldAddr
  split
  · rename_i fs hu
    split
    · rename_i fd hf
      split
      · trivial
      · rename_i hs
        split
        · rename_i b c
          obtain ⟨r, h1, rfl⟩ := hx
          have := run_fieldAt (w := w) (a := ⟨r, c, none⟩) hu hf hs
          rw [add_plain'] at this
          exact ⟨_, run_val this, r, h1, rfl⟩
        · rename_i e l i c
          obtain ⟨ad, xs, rfl, h1, h2, h3⟩ := hx
          split
          · trivial
          · rename_i he
            intro hi
            have := run_fieldAt (w := w) (a := ad.add (i * e.length + c)) hu hf hs
            rw [add_add _ _ _ (spot_of_rows h2 h3 (by omega) (by omega)), Nat.add_assoc] at this
            exact ⟨_, run_val this, ad, xs, rfl, h1, h2, h3⟩
        · rename_i b sz i c
          obtain ⟨r, n, cap, h1, h2, rfl⟩ := hx
          have := run_fieldAt (w := w) (a := ⟨r, i * sz + c, none⟩) hu hf hs
          rw [add_plain', Nat.add_assoc] at this
          exact ⟨_, run_val this, r, n, cap, h1, h2, rfl⟩
        · trivial
    · trivial
  · trivial
theorem evField_sem {S : TypeId} {x : SV} {f : Nat} {vx : Value} (hx : VRel Im ι w x vx) :
    ORSem P Im ι w ((do let y ← Instr.field S vx f; pure (.value y) : Sem Next).run P w) (evField P S x f) := by
  unfold evField
  split
  · rename_i fs cs hu
    obtain ⟨vs, rfl, hc⟩ := hx
    split
    · rename_i fd hf
      have := part_sem (P := P) (T := fd.type) (off := fd.offset) hc
      simpa [Instr.field, run_underlying hu, hf, asAgg] using this
    · trivial
  · trivial
theorem run_index_arr {T E : TypeId} {len : Nat} (hu : P.underlying T = some (.array len E)) (hE : ∃ i, P.info? E = some i) {cs : Array Value} {k : IntKind} {n : Int} (h : 0 ≤ n ∧ n < len) :
    (Instr.index T (.agg cs) (.int k n)).run P w = (part E cs (n.toNat * P.cellsOf E)).run P w := by
  obtain ⟨i, hi⟩ := hE
  simp [Instr.index, asIntOf, run_underlying hu, h.1, h.2, sizeOf, typeInfo, hi, Program.cellsOf]
theorem evIndex_sem {T : TypeId} {x ix : SV} {vx vi : Value} (hx : VRel Im ι w x vx) (hi : VRel Im ι w ix vi) :
    ORSem P Im ι w ((do let y ← Instr.index T vx vi; pure (.value y) : Sem Next).run P w) (evIndex P T x ix) := by
  unfold evIndex
  split
  · rename_i k n
    cases hi
    split
    · rename_i len E m k' l hu
      obtain ⟨vs, rfl, hc⟩ := hx
      obtain ⟨hlm, vz, rfl, hz⟩ := cellsRel_arrI_inv hc
      cases (show vz = [] from hz)
      refine ifAgg_sem (fun ht => ?_) (fun ht => ?_)
      · intro hn
        obtain ⟨d, hd⟩ := underlying_of_aggT ht
        have h1 := run_index_arr (w := w) (k := k) (cs := (l.map (Value.int k') ++ []).toArray) hu (info_of_underlying hd) ⟨hn.1, hn.2.1⟩
        have hle : n.toNat * P.cellsOf E + P.cellsOf E ≤ m := by have := hn.2.2; rwa [Nat.add_mul, Nat.one_mul] at this
        have hq := seg_parts (l.map (Value.int k')) (n.toNat * P.cellsOf E) (P.cellsOf E) (by simp; omega)
        have h2 := run_part_agg (w := w) (va := (l.map (Value.int k')).take (n.toNat * P.cellsOf E)) (vm := ((l.map (Value.int k')).drop (n.toNat * P.cellsOf E)).take (P.cellsOf E)) (vd := (l.map (Value.int k')).drop (n.toNat * P.cellsOf E + P.cellsOf E)) (off := n.toNat * P.cellsOf E) ht (by simp; omega) (by simp; omega)
        rw [← hq] at h2
        simp only [List.append_nil] at h1 ⊢
        refine ⟨_, run_val (h1.trans h2), _, rfl, ?_⟩
        rw [← List.map_drop, ← List.map_take]
        exact cellsRel_arrI (by simp; omega)
      · intro hn
        obtain ⟨d, hd⟩ := underlying_of_aggT ht
        have h1 := run_index_arr (w := w) (k := k) (cs := (l.map (Value.int k') ++ []).toArray) hu (info_of_underlying hd) ⟨hn.1, hn.2.1⟩
        have h2 := run_part_one (w := w) (cs := (l.map (Value.int k') ++ []).toArray) (off := n.toNat * P.cellsOf E) (x := .int k' (l.getD (n.toNat * P.cellsOf E) 0)) ht (by
          have : n.toNat * P.cellsOf E < l.length := by omega
          simp [List.getD, List.getElem?_eq_getElem this])
        exact ⟨_, run_val (h1.trans h2), rfl⟩
    · rename_i len E m l hu
      obtain ⟨vs, rfl, hc⟩ := hx
      obtain ⟨hlm, vz, rfl, hz⟩ := cellsRel_arrB_inv hc
      cases (show vz = [] from hz)
      refine ifAgg_sem (fun ht => ?_) (fun ht => ?_)
      · intro hn
        obtain ⟨d, hd⟩ := underlying_of_aggT ht
        have h1 := run_index_arr (w := w) (k := k) (cs := (l.map Value.bool ++ []).toArray) hu (info_of_underlying hd) ⟨hn.1, hn.2.1⟩
        have hle : n.toNat * P.cellsOf E + P.cellsOf E ≤ m := by have := hn.2.2; rwa [Nat.add_mul, Nat.one_mul] at this
        have hq := seg_parts (l.map Value.bool) (n.toNat * P.cellsOf E) (P.cellsOf E) (by simp; omega)
        have h2 := run_part_agg (w := w) (va := (l.map Value.bool).take (n.toNat * P.cellsOf E)) (vm := ((l.map Value.bool).drop (n.toNat * P.cellsOf E)).take (P.cellsOf E)) (vd := (l.map Value.bool).drop (n.toNat * P.cellsOf E + P.cellsOf E)) (off := n.toNat * P.cellsOf E) ht (by simp; omega) (by simp; omega)
        rw [← hq] at h2
        simp only [List.append_nil] at h1 ⊢
        refine ⟨_, run_val (h1.trans h2), _, rfl, ?_⟩
        rw [← List.map_drop, ← List.map_take]
        exact cellsRel_arrB (by simp; omega)
      · intro hn
        obtain ⟨d, hd⟩ := underlying_of_aggT ht
        have h1 := run_index_arr (w := w) (k := k) (cs := (l.map Value.bool ++ []).toArray) hu (info_of_underlying hd) ⟨hn.1, hn.2.1⟩
        have h2 := run_part_one (w := w) (cs := (l.map Value.bool ++ []).toArray) (off := n.toNat * P.cellsOf E) (x := .bool (l.getD (n.toNat * P.cellsOf E) false)) ht (by
          have : n.toNat * P.cellsOf E < l.length := by omega
          simp [List.getD, List.getElem?_eq_getElem this])
        exact ⟨_, run_val (h1.trans h2), rfl⟩
    · rename_i len E cs _ _ hu
      obtain ⟨vs, rfl, hc⟩ := hx
      split
      · rename_i a r hsp
        obtain ⟨va, vr, rfl, hl, h3, h4⟩ := splitC_rel hsp hc
        refine ifAgg_sem (fun ht => ?_) (fun ht => ?_)
        · obtain ⟨d, hd⟩ := underlying_of_aggT ht
          split
          · rename_i m d2 hsm
            obtain ⟨vm, vz, rfl, hlm, h5, h6⟩ := splitC_rel hsm h4
            intro hn
            have h1 := run_index_arr (w := w) (k := k) (cs := (va ++ (vm ++ vz)).toArray) hu (info_of_underlying hd) hn
            exact ⟨_, run_val (h1.trans (run_part_agg ht hl hlm)), vm, rfl, h5⟩
          · trivial
        · obtain ⟨d, hd⟩ := underlying_of_aggT ht
          split
          · rename_i s rs
            split
            · rename_i ho
              intro hn
              obtain ⟨vx, vy, rfl, hl1, h5, h6⟩ := cellsRel_cons h4
              obtain ⟨x, rfl, hx⟩ := cellsRel_one_inv ho h5
              have h1 := run_index_arr (w := w) (k := k) (cs := (va ++ ([x] ++ vy)).toArray) hu (info_of_underlying hd) hn
              have h2 := mid_get (va := va) (vm := [x]) (vd := vy) 0 x rfl
              rw [Nat.add_zero, hl] at h2
              exact ⟨x, run_val (h1.trans (run_part_one ht h2)), hx⟩
            · trivial
          · trivial
      · trivial
    · rename_i l hu
      obtain ⟨rfl, hl⟩ := hx
      intro hn
      have h0 : n.toNat < l.length := by omega
      refine ⟨.int .u8 ((l.getD n.toNat 0).toNat : Int), ?_, rfl⟩
      have : (⟨l.toArray⟩ : ByteArray)[n.toNat]? = some (l.getD n.toNat 0) := by
        rw [ByteArray.getElem?_lt' _ _ (by simpa [ByteArray.size] using h0)]
        congr 1
        show l.toArray[n.toNat] = _
        simp [List.getD, List.getElem?_eq_getElem h0]
      simp [Instr.index, asIntOf, run_underlying hu, hn.1, this]
    · trivial
  · trivial
end
end Go.Avc
