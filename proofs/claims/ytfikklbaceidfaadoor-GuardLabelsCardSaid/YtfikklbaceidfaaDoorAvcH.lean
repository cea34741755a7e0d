/-
  AVC, part H: slices that are made, and grow.
-/
import Derived.Test.YtfikklbaceidfaaDoorAvcG
namespace Go.Avc
set_option linter.unusedVariables false
set_option linter.unusedSimpArgs false
section
variable {P : Program} {Im : Nat → Prop} {ι : Nat → Option Value} {w : World}

theorem partRows_sem {e : List CSh} {sz : Nat} (he : e.length = sz) : ∀ {parts : List (Nat × SV)} {vparts : List (Nat × Value)} {j : Nat} {rows : List (List CD)} {cur : Array Value} {va vr : List Value}, PartsRel Im ι w parts vparts → partRows e j parts = some rows →
    cur.toList = va ++ vr → va.length = j * sz → vr.length = parts.length * sz → ∃ (r : Array Value) (xs : List Value), Instr.fill (fun i => some (i * sz, sz)) cur vparts = some r ∧ r.toList = va ++ xs ∧ FlatRel Im w e rows xs
  | [], vparts, j, rows, cur, va, vr, hp, h, hc, hl, hr => by
    cases (show vparts = [] from hp)
    simp only [partRows, Option.some.injEq] at h
    subst h
    have : vr = [] := List.eq_nil_of_length_eq_zero (by simpa using hr)
    subst this
    exact ⟨cur, [], rfl, hc, .nil e⟩
  | (i, s) :: rest, vparts, j, rows, cur, va, vr, hp, h, hc, hl, hr => by
    obtain ⟨v, vs', rfl, hv, hr'⟩ := hp
    unfold partRows at h
    split at h
    · rename_i hij
      subst hij
      split at h
      · rename_i xs hxs
        split at h
        · rename_i row rows' hrow hrows
          simp only [Option.some.injEq] at h
          subst h
          have hvc := cells_rel hxs hv
          have hrr := toCDs_rel hrow hvc
          have hvl : v.cells.toList.length = sz := hrr.length.1.trans he
          have hvr : sz ≤ vr.length := by rw [hr]; simp [Nat.add_mul]
          have hf := fill_put (place := fun i => some (i * sz, sz)) (cur := cur) (i := i) (v := v) (rest := vs') (vm := vr.take sz) (vd := vr.drop sz) rfl (by rw [hc]; simp) hl (by simp; omega) hvl
          have hadd : (i + 1) * sz = i * sz + sz := by rw [Nat.add_mul, Nat.one_mul]
          obtain ⟨r, ys, h1, h2, h3⟩ := partRows_sem he (cur := (va ++ (v.cells.toList ++ vr.drop sz)).toArray) (va := va ++ v.cells.toList) (vr := vr.drop sz) hr' hrows (by simp) (by rw [List.length_append, hl, hvl, hadd]) (by simp [hr, Nat.add_mul])
          exact ⟨r, v.cells.toList ++ ys, by rw [hf]; exact h1, by rw [h2, List.append_assoc], .cons _ _ _ _ _ hrr h3⟩
        · cases h
      · cases h
    · cases h
theorem partsRel_length : ∀ {parts : List (Nat × SV)} {vparts : List (Nat × Value)}, PartsRel Im ι w parts vparts → vparts.length = parts.length
  | [], _, h => by cases (show _ = [] from h); rfl
  | (i, s) :: rest, _, h => by
    obtain ⟨v, vs', rfl, _, hr⟩ := h
    simp [partsRel_length hr]
theorem partRows_length {e : List CSh} : ∀ {parts : List (Nat × SV)} {j : Nat} {rows : List (List CD)}, partRows e j parts = some rows → rows.length = parts.length
  | [], j, rows, h => by simp only [partRows, Option.some.injEq] at h; subst h; rfl
  | (i, s) :: rest, j, rows, h => by
    unfold partRows at h
    split at h
    · split at h
      · split at h
        · rename_i h2
          simp only [Option.some.injEq] at h
          subst h
          simp [partRows_length h2]
        · cases h
      · cases h
    · cases h
theorem partSls_sem : ∀ {parts : List (Nat × SV)} {vparts : List (Nat × Value)} {j : Nat} {svs : List SV} {cur : Array Value} {va vr : List Value}, PartsRel Im ι w parts vparts → partSls j parts = some svs →
    cur.toList = va ++ vr → va.length = j → vr.length = parts.length → ∃ (r : Array Value) (xs : List Value), Instr.fill (fun i => some (i * 1, 1)) cur vparts = some r ∧ r.toList = va ++ xs ∧ VRels Im ι w svs xs ∧ svs.length = parts.length
  | [], vparts, j, svs, cur, va, vr, hp, h, hc, hl, hr => by
    cases (show vparts = [] from hp)
    simp only [partSls, Option.some.injEq] at h
    subst h
    have : vr = [] := List.eq_nil_of_length_eq_zero (by simpa using hr)
    subst this
    exact ⟨cur, [], rfl, hc, rfl, rfl⟩
  | (i, s) :: rest, vparts, j, svs, cur, va, vr, hp, h, hc, hl, hr => by
    obtain ⟨v, vs', rfl, hv, hr'⟩ := hp
    unfold partSls at h
    split at h
    · rename_i hij
      subst hij
      split at h
      · rename_i hone
        split at h
        · rename_i xs hxs
          simp only [Option.some.injEq] at h
          subst h
          have hcells : v.cells.toList = [v] := by
            have h1 := one_cell hone hv
            cases v <;> first | rfl | (simp [Value.oneCell'] at h1)
          have hvr : 1 ≤ vr.length := by rw [hr]; simp
          have hf := fill_put (place := fun i => some (i * 1, 1)) (cur := cur) (i := i) (v := v) (rest := vs') (va := va) (vm := vr.take 1) (vd := vr.drop 1) rfl (by rw [hc, List.take_append_drop]) (by omega) (by simp; omega) (by rw [hcells]; rfl)
          rw [hcells] at hf
          obtain ⟨r, ys, h1, h2, h3, h4⟩ := partSls_sem (cur := (va ++ ([v] ++ vr.drop 1)).toArray) (va := va ++ [v]) (vr := vr.drop 1) hr' hxs (by simp) (by simp [hl]) (by simp [hr])
          exact ⟨r, v :: ys, by rw [hf]; exact h1, by rw [h2, List.append_assoc]; rfl, ⟨v, ys, rfl, hv, h3⟩, by simp [h4]⟩
        · cases h
      · cases h
    · cases h
/-- A new row of data. -/
theorem newRow_own {e : List CSh} {rows : List (List CD)} {xs : List Value} {E : TypeId} {n : Nat} (hf : FlatRel Im w e rows xs) (hn : rows.length = n) (hm : n ≤ maxLen) :
    OwnV (w.alloc (.cells xs.toArray E)) E e.length (.slice (some ⟨w.heap.size, 0, none⟩) n n) rows.length xs := by
  subst hn
  refine ⟨hf.length, ?_⟩
  rcases Nat.eq_zero_or_pos rows.length with h0 | h0
  · exact .inl ⟨_, by rw [h0], h0⟩
  · exact .inr ⟨w.heap.size, rows.length, xs.toArray, rfl, heap_alloc_new w _, Nat.le_refl _, h0, hm, by simp [hf.length], by rw [← hf.length]; simp⟩
theorem evBuildSlice_sem {zero : TypeId → Option (List SV)} (hz : ZeroOk P zero) (hIm : ∀ i, Im i → i < w.heap.size) {T : TypeId} {len : Nat} {parts : List (Nat × SV)} {vparts : Array (Nat × Value)} (hp : PartsRel Im ι w parts vparts.toList) :
    ORSem P Im ι w ((do let y ← Instr.buildSlice T len vparts; pure (.value y) : Sem Next).run P w) (evBuildSlice P zero T len parts) := by
  unfold evBuildSlice
  split
  · rename_i E hu
    split
    · rename_i e z he hzE
      split
      · rename_i hlen
        split
        · rename_i hsz
          split
          · rename_i rows hrows
            split
            · rename_i hsmall
              split
              · trivial
              · rename_i he0
                obtain ⟨z', h1, h2, h3⟩ := run_zeroValue (w := w) hz hzE
                have hrl := partRows_length hrows
                have hcellsE : P.cellsOf E ≠ 0 := by omega
                -- the cells ahead of the parts
                have hbig : ¬ len * P.cellsOf E > 2 ^ 24 := by rw [← hsz]; omega
                have key : ∀ zc : Array Value, ∃ xs, Instr.fill (fun i => some (i * P.cellsOf E, P.cellsOf E)) ((Array.range (len * P.cellsOf E)).map (zc[· % zc.size]!)) vparts.toList = some (List.toArray xs) ∧ FlatRel Im w e rows xs := by
                  intro zc
                  obtain ⟨r, xs, h4, h5, h6⟩ := partRows_sem (cur := (Array.range (len * P.cellsOf E)).map (zc[· % zc.size]!)) (va := []) (vr := ((Array.range (len * P.cellsOf E)).map (zc[· % zc.size]!)).toList) (j := 0) hsz hp hrows rfl (by simp) (by rw [hlen]; simp)
                  have hr : r = xs.toArray := by apply Array.ext'; simpa using h5
                  exact ⟨xs, by rw [← hr]; exact h4, h6⟩
                have hbuild : ∃ xs, (Instr.buildSlice T len vparts).run P w = .ok (.slice (some ⟨w.heap.size, 0, none⟩) len len) (w.alloc (.cells (List.toArray xs) E)) ∧ FlatRel Im w e rows xs := by
                  by_cases h0 : len * P.cellsOf E = 0
                  · obtain ⟨xs, h4, h6⟩ := key #[]
                    refine ⟨xs, ?_, h6⟩
                    unfold Instr.buildSlice
                    simp only [Sem.run_bind, run_underlying hu, Result.andThen_ok, run_sizeOf' hcellsE, if_neg hbig, if_pos h0, Sem.run_pure, h4]
                    rfl
                  · obtain ⟨xs, h4, h6⟩ := key z'.cells
                    refine ⟨xs, ?_, h6⟩
                    unfold Instr.buildSlice
                    simp only [Sem.run_bind, run_underlying hu, Result.andThen_ok, run_sizeOf' hcellsE, if_neg hbig, if_neg h0, h1, Sem.run_pure, h4]
                    rfl
                obtain ⟨xs, hbuild, h6⟩ := hbuild
                refine ⟨_, _, xs, run_val hbuild, World.grownBy_alloc w _ none, ⟨_, _, _, rfl⟩, newRow_own h6 (by omega) (by simp [maxLen]; have : len ≤ len * e.length := Nat.le_mul_of_pos_right _ (by omega); omega), h6, fun k hk => ?_⟩
                simp only [foot] at hk
                split at hk
                · cases hk
                · cases hk; exact Nat.le_refl _
            · trivial
          · split
            · rename_i svs hsvs
              split
              · rename_i he1
                split
                · rename_i hsmall
                  have hc1 : P.cellsOf E = 1 := by omega
                  obtain ⟨z', h1, h2, h3⟩ := run_zeroValue (w := w) hz hzE
                  have hbig : ¬ len * P.cellsOf E > 2 ^ 24 := by rw [hc1]; omega
                  have key : ∀ zc : Array Value, ∃ xs, Instr.fill (fun i => some (i * P.cellsOf E, P.cellsOf E)) ((Array.range (len * P.cellsOf E)).map (zc[· % zc.size]!)) vparts.toList = some (List.toArray xs) ∧ VRels Im ι w svs xs ∧ svs.length = len := by
                    intro zc
                    rw [hc1]
                    obtain ⟨r, xs, h4, h5, h6, h7⟩ := partSls_sem (cur := (Array.range (len * 1)).map (zc[· % zc.size]!)) (va := []) (vr := ((Array.range (len * 1)).map (zc[· % zc.size]!)).toList) (j := 0) hp hsvs rfl rfl (by rw [hlen]; simp)
                    have hr : r = xs.toArray := by apply Array.ext'; simpa using h5
                    exact ⟨xs, by rw [← hr]; exact h4, h6, by omega⟩
                  have hbuild : ∃ xs, (Instr.buildSlice T len vparts).run P w = .ok (.slice (some ⟨w.heap.size, 0, none⟩) len len) (w.alloc (.cells (List.toArray xs) E)) ∧ VRels Im ι w svs xs ∧ svs.length = len := by
                    by_cases h0 : len * P.cellsOf E = 0
                    · obtain ⟨xs, h4, h6⟩ := key #[]
                      refine ⟨xs, ?_, h6⟩
                      unfold Instr.buildSlice
                      simp only [Sem.run_bind, run_underlying hu, Result.andThen_ok, run_sizeOf' (show P.cellsOf E ≠ 0 by omega), if_neg hbig, if_pos h0, Sem.run_pure, h4]
                      rfl
                    · obtain ⟨xs, h4, h6⟩ := key z'.cells
                      refine ⟨xs, ?_, h6⟩
                      unfold Instr.buildSlice
                      simp only [Sem.run_bind, run_underlying hu, Result.andThen_ok, run_sizeOf' (show P.cellsOf E ≠ 0 by omega), if_neg hbig, if_neg h0, h1, Sem.run_pure, h4]
                      rfl
                  obtain ⟨xs, hbuild, h6, h7⟩ := hbuild
                  refine ⟨_, _, run_val hbuild, World.grownBy_alloc w _ none, ?_⟩
                  have hsize : (w.alloc (.cells (List.toArray xs) E)).heap.size = w.heap.size + 1 := Array.size_push _
                  have hlat : Later Im ι w (fun i => Im i ∨ (w.heap.size ≤ i ∧ i < (w.alloc (.cells (List.toArray xs) E)).heap.size)) ι (w.alloc (.cells (List.toArray xs) E)) := ⟨fun _ h => .inl h, fun _ _ h => h, fun i hi => heap_alloc_old w _ _ (hIm i hi)⟩
                  refine ⟨⟨w.heap.size, 0, none⟩, xs, by rw [h7], by rw [h7]; simp [maxLen]; omega, .inr ⟨Nat.le_refl _, by rw [hsize]; exact Nat.lt_succ_self _⟩, VRels.mono hlat _ _ h6, fun j x hx => ?_⟩
                  have e1 : (⟨w.heap.size, 0, none⟩ : Addr).add j = ⟨w.heap.size, j, none⟩ := by
                    unfold Addr.add
                    split
                    · rename_i h; subst h; rfl
                    · simp
                  rw [e1, World.cell?_alloc_at _ _ _ _ rfl, List.getElem?_toArray]
                  exact hx
                · trivial
              · trivial
            · trivial
        · trivial
      · trivial
    · trivial
  · trivial

/-! ### make -/
theorem made_flat {zc : Array Value} (h0 : 0 < zc.size) : ∀ n, (List.range (n * zc.size)).map (fun j => zc[j % zc.size]!) = (List.replicate n zc.toList).flatten
  | 0 => by simp
  | n + 1 => by
    rw [Nat.add_mul, Nat.one_mul, Nat.add_comm, List.range_add, List.map_append, List.map_map, List.replicate_succ, List.flatten_cons]
    congr 1
    · apply List.ext_getElem?
      intro j
      by_cases hj : j < zc.size
      · simp [hj, Nat.mod_eq_of_lt hj]
      · simp [hj]
    · rw [← made_flat h0 n]
      apply List.map_congr_left
      intro j _
      simp
theorem flat_replicate {e : List CSh} {row : List CD} {vs : List Value} (h : RowRel Im w e row vs) : ∀ n, FlatRel Im w e (List.replicate n row) (List.replicate n vs).flatten
  | 0 => .nil e
  | n + 1 => by
    rw [List.replicate_succ, List.replicate_succ, List.flatten_cons]
    exact .cons _ _ _ _ _ h (flat_replicate h n)
theorem made_take {zc : Array Value} (h0 : 0 < zc.size) {n m : Nat} (h : n ≤ m) : ((madeCells zc (m * zc.size)).toList.take (n * zc.size)) = (List.replicate n zc.toList).flatten := by
  rw [← made_flat h0]
  have : n * zc.size ≤ m * zc.size := Nat.mul_le_mul_right _ h
  simp only [madeCells, Array.toList_map, Array.toList_range, ← List.map_take, List.take_range]
  rw [Nat.min_eq_left this]
theorem evMakeSlice_sem {zero : TypeId → Option (List SV)} (hz : ZeroOk P zero) {T : TypeId} {len cap : SV} {vl vc : Value} (hl : VRel Im ι w len vl) (hc : VRel Im ι w cap vc) :
    ORSem P Im ι w ((do let y ← Instr.makeSlice T vl vc; pure (.value y) : Sem Next).run P w) (evMakeSlice P zero T len cap) := by
  unfold evMakeSlice
  split
  · rename_i E k n k' c hu
    cases hl
    cases hc
    split
    · rename_i e z he hzE
      split
      · rename_i row hrow
        split
        · trivial
        · rename_i he0
          intro hn
          obtain ⟨i, zv, h1, h2, h3, h4⟩ := hz E z hzE
          have hrr := toCDs_rel hrow (h4 Im ι w)
          have hsz : zv.cells.size = e.length := by simpa using hrr.length.1
          have hb : (i.bytes : Int) * c ≤ 281474976710656 := by
            have : P.bytesOf E = i.bytes := by simp [Program.bytesOf, h1]
            rw [← this]; omega
          have hr := run_make (P := P) w T E i zv hu h1 h2 k k' n c hn.1 hn.2.1 hb hn.2.2.2
          rw [← h3] at hr
          refine ⟨_, _, (List.replicate n.toNat zv.cells.toList).flatten, run_val hr, World.grownBy_alloc w _ none, ⟨_, _, _, rfl⟩, ⟨?_, ?_⟩, flat_replicate hrr n.toNat, ?_⟩
          · rw [(flat_replicate hrr n.toNat).length]
          · simp only [List.length_replicate]
            by_cases hc0 : c.toNat = 0
            · left
              have hn0 : n.toNat = 0 := by omega
              exact ⟨_, by rw [hc0, hn0], hn0⟩
            · right
              refine ⟨w.heap.size, c.toNat, _, rfl, heap_alloc_new w _, by omega, by omega, by simp [maxLen]; omega, by rw [size_madeCells, hsz], ?_⟩
              rw [← hsz]
              exact made_take (by omega) (by omega)
          · intro g hg
            simp only [foot] at hg
            split at hg
            · cases hg
            · simp only [Option.some.injEq] at hg
              omega
      · trivial
    · trivial
  · trivial

/-! ### append -/
theorem append_nothing {T T2 E ty : TypeId} {i : TypeInfo} {d2 : TypeDesc} (ht : P.underlying T = some (.slice E)) (ht2 : P.underlying T2 = some d2) (hd2 : d2 = .string ∨ ∃ E2, d2 = .slice E2) (hi : P.info? E = some i)
    {a : Option Addr} {n cap : Nat} {x : Value} {m : Nat} {news : List Value} (hlen : (Builtin.lenOf x).run P w = .ok m w) (hnew : (Builtin.firstCells i.size m x).run P w = .ok news.toArray w) (hroom : n + m ≤ cap) {w' : World}
    (hst : ∀ b, a = some b → (storeCells (b.add (n * i.size)) news).run P w = .ok () w') (hnone : a = none → w' = w) :
    (Builtin.append_ #[T, T2] ty #[.slice a n cap, x]).run P w = .ok (.slice a (n + m) cap) w' := by
  cases a with
  | none =>
    cases hnone rfl
    rcases hd2 with rfl | ⟨E2, rfl⟩ <;> simp [Builtin.append_, run_underlying ht, run_underlying ht2, sizeOf, typeInfo, hi, hlen, hroom, hnew]
  | some b =>
    have h := hst b rfl
    rcases hd2 with rfl | ⟨E2, rfl⟩ <;> simp [Builtin.append_, run_underlying ht, run_underlying ht2, sizeOf, typeInfo, hi, hlen, hroom, hnew, h]
theorem append_grows {T T2 E ty : TypeId} {i : TypeInfo} {z : Value} {d2 : TypeDesc} (ht : P.underlying T = some (.slice E)) (ht2 : P.underlying T2 = some d2) (hd2 : d2 = .string ∨ ∃ E2, d2 = .slice E2) (hi : P.info? E = some i) (hz : i.zero = some z)
    {a : Option Addr} {n cap : Nat} {x : Value} {m : Nat} {olds news : List Value} (hlen : (Builtin.lenOf x).run P w = .ok m w) (hold : (Builtin.firstCells i.size n (.slice a n cap)).run P w.drew = .ok olds.toArray w.drew)
    (hnew : (Builtin.firstCells i.size m x).run P w.drew = .ok news.toArray w.drew) (hroom : cap < n + m) (h63 : n + m ≤ 9223372036854775807) (hfit : Builtin.nextslicecap (n + m) cap * i.bytes ≤ 281474976710656) :
    (Builtin.append_ #[T, T2] ty #[.slice a n cap, x]).run P w =
      .ok (.slice (some ⟨w.heap.size, 0, none⟩) (n + m) (grownCap w (n + m) cap E)) (w.drew.alloc (.cells (olds.toArray ++ news.toArray ++ Builtin.zeroCells z.cells (grownCap w (n + m) cap E - (n + m))) E)) := by
  have hn : ¬ (n + m ≤ cap) := by omega
  have h63' : ¬ (9223372036854775807 < ((n : Int) + (m : Int))) := by omega
  have h48' : ¬ (281474976710656 < Builtin.nextslicecap (n + m) cap * i.bytes) := by omega
  rcases hd2 with rfl | ⟨E2, rfl⟩ <;> simp [Builtin.append_, run_underlying ht, run_underlying ht2, sizeOf, typeInfo, zeroValue, hi, hz, hlen, hn, h63', h48', Question.forced, hold, hnew, newRow, grownCap] <;> (congr 2; apply Array.ext'; simp [List.append_assoc])
theorem run_append_gen {T T2 E ty : TypeId} {i : TypeInfo} {z : Value} {d2 : TypeDesc} (ht : P.underlying T = some (.slice E)) (ht2 : P.underlying T2 = some d2) (hd2 : d2 = .string ∨ ∃ E2, d2 = .slice E2) (hi : P.info? E = some i) (hz : i.zero = some z)
    {sz : Nat} (hsz : i.size = sz) (hsz0 : 0 < sz) (hzs : z.cells.size = sz) {v : Value} {n : Nat} {xs : List Value} (hown : OwnV w E sz v n xs)
    {x : Value} {m : Nat} {news : List Value} (hlen : (Builtin.lenOf x).run P w = .ok m w) (hnl : news.length = m * sz)
    (hnew : ∀ w' : World, w'.heap = w.heap → (Builtin.firstCells sz m x).run P w' = .ok news.toArray w') (h1 : ∀ u ∈ news, u.oneCell' = true)
    (h63 : n + m ≤ 9223372036854775807) (hbytes : (n + m) * i.bytes ≤ 140737488355328) :
    ∃ v' w', (Builtin.append_ #[T, T2] ty #[v, x]).run P w = .ok v' w' ∧ w.grownBy w' (foot v) ∧ (∃ a n c, v' = .slice a n c) ∧ OwnV w' E sz v' (n + m) (xs ++ news) ∧ ∀ k, foot v' = some k → foot v = some k ∨ w.heap.size ≤ k := by
  subst hsz
  have hxl := hown.1
  have hlx : (xs ++ news).length = (n + m) * i.size := by rw [List.length_append, hxl, hnl, Nat.add_mul]
  -- the new array
  have grown : ∀ (old : Nat), old < n + m → ∀ row : Option Nat,
      OwnV (w.drew.alloc (.cells (xs.toArray ++ news.toArray ++ Builtin.zeroCells z.cells (grownCap w (n + m) old E - (n + m))) E)) E i.size (.slice (some ⟨w.heap.size, 0, none⟩) (n + m) (grownCap w (n + m) old E)) (n + m) (xs ++ news) ∧
      w.grownBy (w.drew.alloc (.cells (xs.toArray ++ news.toArray ++ Builtin.zeroCells z.cells (grownCap w (n + m) old E - (n + m))) E)) row ∧
      ∀ k, foot (.slice (some ⟨w.heap.size, 0, none⟩) (n + m) (grownCap w (n + m) old E)) = some k → w.heap.size ≤ k := by
    intro old ho row
    have hge := grownCap_ge w (n + m) old E
    have hcm : grownCap w (n + m) old E ≤ maxLen := grownCap_le_maxLen w (n + m) old E (by simp [maxLen]; omega)
    refine ⟨⟨hlx, .inr ⟨w.heap.size, _, _, rfl, heap_alloc_new w.drew _, hge, by omega, hcm, ?_, ?_⟩⟩, ⟨rfl, rfl, rfl, by simp, fun k hk _ => (heap_alloc_old w.drew _ k hk : _)⟩, ?_⟩
    · simp only [Array.size_append, List.size_toArray, size_zeroCells, hzs, hxl, hnl, ← Nat.add_mul]
      congr 1
      omega
    · simp only [Array.toList_append, List.append_assoc]
      rw [← List.append_assoc, ← hlx]
      exact List.take_left
    · intro k hk
      simp only [foot] at hk
      split at hk
      · cases hk
      · simp only [Option.some.injEq] at hk; omega
  have hold : ∀ (a : Option Addr) (cap : Nat), (∀ j u, xs[j]? = some u → ∃ b, a = some b ∧ w.cell? (b.add j) = some u) → (Builtin.firstCells i.size n (.slice a n cap)).run P w.drew = .ok xs.toArray w.drew := by
    intro a cap ha
    cases a with
    | none =>
      have : xs = [] := by
        cases xs with
        | nil => rfl
        | cons u us => obtain ⟨b, hb, _⟩ := ha 0 u rfl; cases hb
      subst this
      exact run_firstCells_none w.drew i.size n n cap
    | some b => exact run_firstCells_some (P := P) w.drew i.size n b n cap xs hxl (fun j u hu => by obtain ⟨b', hb, hc⟩ := ha j u hu; cases hb; simpa using hc)
  rcases hown.2 with ⟨a, rfl, rfl⟩ | ⟨g, cap, cur, rfl, hg, hnc, hc0, hcm, hcs, htake⟩
  · have hx : xs = [] := List.eq_nil_of_length_eq_zero (by simpa using hxl)
    subst hx
    by_cases hm : m = 0
    · subst hm
      have hn : news = [] := List.eq_nil_of_length_eq_zero (by simpa using hnl)
      subst hn
      refine ⟨.slice a 0 0, w, ?_, ⟨rfl, rfl, rfl, Nat.le_refl _, fun _ _ _ => rfl⟩, ⟨_, _, _, rfl⟩, ⟨by simp, .inl ⟨a, rfl, rfl⟩⟩, fun k hk => by cases a <;> simp [foot] at hk⟩
      exact append_nothing ht ht2 hd2 hi hlen (hnew w rfl) (Nat.le_refl _) (fun b _ => rfl) (fun _ => rfl)
    · have hgr := grown 0 (by omega) (foot (.slice a 0 0))
      exact ⟨_, _, append_grows ht ht2 hd2 hi hz hlen (hold a 0 (fun j u hu => by simp at hu)) (hnew w.drew rfl) (by omega) h63 (growslice_fits (by omega) hbytes), hgr.2.1, ⟨_, _, _, rfl⟩, hgr.1, fun k hk => .inr (hgr.2.2 k hk)⟩
  · by_cases hroom : n + m ≤ cap
    · have hfit : n * i.size + news.length ≤ cur.size := by rw [hnl, hcs, ← Nat.add_mul]; exact Nat.mul_le_mul_right _ hroom
      have hst := run_storeCells_at P g (n * i.size) E news 0 cur w hg (by simpa using hfit) h1
      simp only [Nat.add_zero] at hst
      have hst' : ∀ b, some (⟨g, 0, none⟩ : Addr) = some b → (storeCells (b.add (n * i.size)) news).run P w = .ok () (w.setRow g (cur.toList.take (n * i.size) ++ news ++ cur.toList.drop (n * i.size + news.length)).toArray) := by
        intro b hb
        cases hb
        rw [add_plain', Nat.zero_add]
        exact hst
      have hfg : foot (.slice (some ⟨g, 0, none⟩) n cap) = some g := by simp only [foot]; rw [if_neg (by omega)]
      refine ⟨_, _, append_nothing ht ht2 hd2 hi hlen (hnew w rfl) hroom hst' (fun h => by cases h), ⟨rfl, rfl, rfl, by simp, fun k _ hk => setRow_other w g k _ (fun e => hk (by rw [hfg, e]))⟩, ⟨_, _, _, rfl⟩, ⟨hlx, .inr ⟨g, cap, _, rfl, setRow_heap w g cur _ E _ hg, hroom, hc0, hcm, ?_, ?_⟩⟩, fun k hk => .inl ?_⟩
      · simp only [List.size_toArray, List.length_append, List.length_take, List.length_drop, Array.length_toList]
        omega
      · rw [htake, ← hlx]
        exact List.take_left
      · rw [hfg]
        simp only [foot] at hk
        rw [if_neg (by omega)] at hk
        exact hk
    · have hgr := grown cap (by omega) (foot (.slice (some ⟨g, 0, none⟩) n cap))
      exact ⟨_, _, append_grows ht ht2 hd2 hi hz hlen (hold (some ⟨g, 0, none⟩) cap (fun j u hu => ⟨_, rfl, own_cells hown (by omega) j u hu⟩)) (hnew w.drew rfl) (by omega) h63 (growslice_fits (by omega) hbytes), hgr.2.1, ⟨_, _, _, rfl⟩, hgr.1, fun k hk => .inr (hgr.2.2 k hk)⟩
end
end Go.Avc
