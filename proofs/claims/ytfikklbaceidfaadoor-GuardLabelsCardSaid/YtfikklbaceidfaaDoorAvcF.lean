/-
  AVC, part F: slices, conversions, operators.
-/
import Derived.Test.YtfikklbaceidfaaDoorAvcE
import Derived.Lib.ConvBytes
import Derived.Laws.IdiomStrings
import Derived.Laws.Slices
import Derived.IntWalk
namespace Go.Avc
set_option linter.unusedVariables false
set_option linter.unusedSimpArgs false
section
variable {P : Program} {Im : Nat → Prop} {ι : Nat → Option Value} {w : World}

def BoundV (o : Option Value) (d n : Int) : Prop := (o = none ∧ n = d) ∨ ∃ k, o = some (.int k n)
/-- An operand that may be absent. -/
def OptRel (Im : Nat → Prop) (ι : Nat → Option Value) (w : World) : Option SV → Option Value → Prop
  | none, v => v = none
  | some s, v => ∃ x, v = some x ∧ VRel Im ι w s x
theorem evBound_rel {o : Option SV} {v : Option Value} {d n : Int} (h : evBound o d = some n) (hv : OptRel Im ι w o v) : BoundV v d n := by
  unfold evBound at h
  split at h
  · simp only [Option.some.injEq] at h
    exact .inl ⟨hv, h.symm⟩
  · rename_i k m
    simp only [Option.some.injEq] at h
    obtain ⟨x, rfl, hx⟩ := hv
    cases hx
    exact .inr ⟨k, by rw [h]⟩
  · cases h
theorem run_bounds2 {isS : Bool} {len cap : Nat} {lo hi : Option Value} {a b : Int} (hlo : BoundV lo 0 a) (hhi : BoundV hi len b) (h0 : 0 ≤ a) (hab : a ≤ b) (hb : b ≤ len) (hc : len ≤ cap) :
    (Instr.sliceBounds isS len cap lo hi none).run P w = .ok (a.toNat, b.toNat, cap) w := by
  have eb : (b.toNat : Int) = b := Int.toNat_of_nonneg (by omega)
  have hb' : b ≤ cap := by omega
  have hb0 : 0 ≤ b := by omega
  rcases hlo with ⟨rfl, rfl⟩ | ⟨kl, rfl⟩ <;> rcases hhi with ⟨rfl, rfl⟩ | ⟨kh, rfl⟩
  · simp [Instr.sliceBounds]
  · simp [Instr.sliceBounds, run_sliceBound, hb', hb0]
  · simp [Instr.sliceBounds, run_sliceBound, h0, hab]
  · simp [Instr.sliceBounds, run_sliceBound, h0, hab, hb', hb0, eb]
theorem run_bounds3 {isS : Bool} {len cap : Nat} {lo : Option Value} {k1 k2 : IntKind} {a b m : Int} (hlo : BoundV lo 0 a) (h0 : 0 ≤ a) (hab : a ≤ b) (hb : b ≤ m) (hm : m ≤ cap) :
    (Instr.sliceBounds isS len cap lo (some (.int k1 b)) (some (.int k2 m))).run P w = .ok (a.toNat, b.toNat, m.toNat) w := by
  have eb : (b.toNat : Int) = b := Int.toNat_of_nonneg (by omega)
  have em : (m.toNat : Int) = m := Int.toNat_of_nonneg (by omega)
  have hb0 : 0 ≤ b := by omega
  have hm0 : 0 ≤ m := by omega
  rcases hlo with ⟨rfl, rfl⟩ | ⟨kl, rfl⟩
  · simp [Instr.sliceBounds, run_sliceBound, hb, em, hm, hb0, hm0]
  · simp [Instr.sliceBounds, run_sliceBound, h0, hab, hb, eb, em, hm, hb0, hm0]

/-- A part of rows, as a slice. -/
theorem CRel.sub {e : List CSh} {l : List (List CD)} {a : Option Addr} {len cap : Nat} (h : CRel Im w (.sl e) (.sl l) (.slice a len cap)) (he : 0 < e.length) {i j m : Nat} (hij : i ≤ j) (hj : j ≤ l.length) (hjm : j ≤ m) (hm : m ≤ cap) :
    CRel Im w (.sl e) (.sl ((l.take j).drop i)) (.slice (if m = i then a else a.map (·.add (i * e.length))) (j - i) (m - i)) := by
  obtain ⟨a', cap', h1, h2, h3, h4⟩ := h.slice
  injection h1 with e1 e2 e3
  subst e1 e2 e3
  by_cases hz : j - i = 0
  · have : (l.take j).drop i = [] := by apply List.drop_eq_nil_of_le; simp; omega
    rw [this, hz]
    exact .sl0 e _ _ (by omega)
  · obtain ⟨ad, xs, rfl, h5, h6, h7⟩ := h4 (by omega)
    have hmi : ¬ m = i := by omega
    rw [if_neg hmi]
    have hlen : ((l.take j).drop i).length = j - i := by simp; omega
    have hs := (((h6.split j hj).1).split i (by simp; omega)).2
    have h0 := spot_of_rows h6 h7 (by omega) he
    have hbl : (ad.add (i * e.length)).block = ad.block := by unfold Addr.add; split <;> rfl
    have := CRel.sl (Im := Im) (w := w) e ((l.take j).drop i) (ad.add (i * e.length)) (m - i) _ (by omega) (by omega) (by rw [hbl]; exact h5) hs (fun y x hx => by
      rw [List.getElem?_drop, List.getElem?_take] at hx
      split at hx
      · rw [add_add _ _ _ h0]
        exact h7 _ _ hx
      · cases hx)
    rw [hlen] at this
    exact this
theorem run_sliceAt_arr {T E : TypeId} {n : Nat} (hu : P.underlying T = some (.array n E)) (hE : P.cellsOf E = 1) {a : Addr} {lo hi : Option Value} {i j : Int} (hlo : BoundV lo 0 i) (hhi : BoundV hi n j) (h0 : 0 ≤ i) (hij : i ≤ j) (hj : j ≤ n) (hin : i < n) :
    (Instr.sliceAt T (.pointer (some a)) lo hi none).run P w = .ok (.slice (some (a.add i.toNat)) (j.toNat - i.toNat) (n - i.toNat)) w := by
  have h1 := run_bounds2 (P := P) (w := w) (isS := false) hlo hhi h0 hij hj (Nat.le_refl n)
  have hni : ¬ n = i.toNat := by omega
  simp only [Instr.sliceAt, Sem.run_bind, run_underlying hu, Result.andThen_ok, Instr.sureAddr, Sem.run_pure, h1, run_sizeOf' (show P.cellsOf E ≠ 0 by omega), hE, Nat.mul_one, if_neg hni]
theorem run_slice_slice {T E : TypeId} (hu : P.underlying T = some (.slice E)) (hE : P.cellsOf E ≠ 0) {a : Option Addr} {len cap : Nat} {lo hi mx : Option Value} {i j m : Nat}
    (h : (Instr.sliceBounds true len cap lo hi mx).run P w = .ok (i, j, m) w) :
    (Instr.sliceAt T (.slice a len cap) lo hi mx).run P w = .ok (.slice (if m = i then a else a.map (·.add (i * P.cellsOf E))) (j - i) (m - i)) w := by
  simp only [Instr.sliceAt, Instr.slice, Sem.run_bind, run_underlying hu, Result.andThen_ok, h, run_sizeOf' hE, Sem.run_pure]
theorem run_slice_string {T : TypeId} (hu : P.underlying T = some .string) {s : ByteArray} {lo hi : Option Value} {i j : Nat}
    (h : (Instr.sliceBounds false s.size s.size lo hi none).run P w = .ok (i, j, s.size) w) :
    (Instr.sliceAt T (.string s) lo hi none).run P w = .ok (.string (s.extract i j)) w := by
  simp [Instr.sliceAt, Instr.slice, run_underlying hu, h]
theorem extract_bytes (l : List UInt8) (i j : Nat) (h : j ≤ l.length) : (⟨l.toArray⟩ : ByteArray).extract i j = ⟨((l.take j).drop i).toArray⟩ := by
  have hd : ((⟨l.toArray⟩ : ByteArray).extract i j).data = (⟨((l.take j).drop i).toArray⟩ : ByteArray).data := by
    rw [ByteArray.data_extract]
    apply Array.ext'
    simp [List.extract_eq_take_drop, List.drop_take]
  cases h1 : (⟨l.toArray⟩ : ByteArray).extract i j
  rw [h1] at hd
  exact congrArg ByteArray.mk hd
theorem size_bytes (l : List UInt8) : (⟨l.toArray⟩ : ByteArray).size = l.length := by simp [ByteArray.size]
theorem arrLen_rel {cs : List SV} {c n : Nat} {vs : List Value} (h : arrLen cs c = some n) (hc : CellsRel Im ι w cs vs) : c + n ≤ vs.length := by
  unfold arrLen at h
  split at h
  · rename_i a n' k l d hsp
    simp only [Option.some.injEq] at h
    subst h
    obtain ⟨va, vd, rfl, hl, h1, h2⟩ := splitC_rel hsp hc
    obtain ⟨h3, vz, rfl, h4⟩ := cellsRel_arrI_inv h2
    simp; omega
  · rename_i a n' l d hsp
    simp only [Option.some.injEq] at h
    subst h
    obtain ⟨va, vd, rfl, hl, h1, h2⟩ := splitC_rel hsp hc
    obtain ⟨h3, vz, rfl, h4⟩ := cellsRel_arrB_inv h2
    simp; omega
  · cases h
theorem evSlice_sem {hp : List Blk} {T : TypeId} {x : SV} {lo hi mx : Option SV} {vx : Value} {vlo vhi vmx : Option Value} (hh : HV Im ι w hp) (hx : VRel Im ι w x vx)
    (hlo : OptRel Im ι w lo vlo) (hhi : OptRel Im ι w hi vhi) (hmx : OptRel Im ι w mx vmx) :
    ORSem P Im ι w ((do let y ← Instr.sliceAt T vx vlo vhi vmx; pure (.value y) : Sem Next).run P w) (evSlice P hp T x lo hi mx) := by
  unfold evSlice
  split
  · rename_i l hu
    obtain ⟨rfl, hl⟩ := hx
    split
    · rename_i a b h1 h2
      cases (show vmx = none from hmx)
      intro hn
      have h3 := run_bounds2 (P := P) (w := w) (isS := false) (cap := l.length) (evBound_rel h1 hlo) (evBound_rel h2 hhi) hn.1 hn.2.1 hn.2.2 (Nat.le_refl _)
      rw [← size_bytes l] at h3
      have h4 := run_slice_string (s := ⟨l.toArray⟩) hu (by rw [size_bytes] at h3 ⊢; exact h3)
      rw [extract_bytes _ _ _ (by omega)] at h4
      exact ⟨_, run_val h4, rfl, by simp; omega⟩
    · trivial
  · rename_i E e l hu
    split
    · rename_i hE
      split
      · trivial
      · rename_i he
        obtain ⟨a, cap, rfl, hlc, hcm, _⟩ := CRel.slice hx
        split
        · rename_i i hi' h1
          cases (show vmx = none from hmx)
          split
          · rename_i j h2
            intro hn
            have h3 := run_bounds2 (P := P) (w := w) (isS := true) (cap := cap) (evBound_rel h1 hlo) (evBound_rel h2 hhi) hn.1 hn.2.1 hn.2.2 hlc
            have h4 := run_slice_slice (a := a) hu (by omega) h3
            refine ⟨_, run_val h4, ?_⟩
            rw [hE]
            exact CRel.sub hx (by omega) (by omega) (by omega) (by omega) (Nat.le_refl _)
          · trivial
        · rename_i i k1 b k2 m h1
          obtain ⟨_, rfl, hb⟩ := hhi
          obtain ⟨_, rfl, hm⟩ := hmx
          cases hb
          cases hm
          intro hn
          have h3 := run_bounds3 (P := P) (w := w) (isS := true) (len := l.length) (cap := cap) (k1 := k1) (k2 := k2) (evBound_rel h1 hlo) hn.1 hn.2.1 hn.2.2.1 (by omega)
          have h4 := run_slice_slice (a := a) hu (by omega) h3
          refine ⟨_, run_val h4, ?_⟩
          rw [hE]
          exact CRel.sub hx (by omega) (by omega) (by omega) (by omega) (by omega)
        · trivial
    · trivial
  · rename_i len E b c hu
    obtain ⟨r, h1, rfl⟩ := hx
    split
    · rename_i T' cs hb
      split
      · rename_i hE
        split
        · rename_i ha
          split
          · rename_i hlen
            split
            · rename_i i j h2 h3
              cases (show vmx = none from hmx)
              intro hn
              have h4 := run_sliceAt_arr (w := w) (a := ⟨r, c, none⟩) hu hE (evBound_rel h2 hlo) (evBound_rel h3 hhi) hn.1 hn.2.1 hn.2.2.1 hn.2.2.2
              rw [add_plain'] at h4
              exact ⟨_, run_val h4, r, _, h1, rfl, by omega, by simp [maxLen]; omega, by omega⟩
            · trivial
          · trivial
        · trivial
      · trivial
    · trivial
  · trivial

/-! ### A slice value as data -/
theorem ints_flat {k : IntKind} : ∀ (l : List Int), FlatRel Im w [.int k] (l.map fun x => [CD.int x]) (l.map (Value.int k))
  | [] => .nil _
  | x :: l => .cons _ _ [.int k x] _ _ (.cons _ _ _ _ _ _ (.int k x) .nil) (ints_flat l)
theorem view_sem {hp : List Blk} {x : SV} {vx : Value} {e : List CSh} {l : List (List CD)} (hh : HV Im ι w hp) (h : view hp x = some (e, l)) (hx : VRel Im ι w x vx) :
    ∃ a cap, vx = .slice a l.length cap ∧ l.length ≤ cap ∧ cap ≤ maxLen ∧ (0 < l.length → ∃ ad xs, a = some ad ∧ FlatRel Im w e l xs ∧ ∀ j x, xs[j]? = some x → w.cell? (ad.add j) = some x) := by
  unfold view at h
  split at h
  · rename_i e' l'
    simp only [Option.some.injEq, Prod.mk.injEq] at h
    obtain ⟨rfl, rfl⟩ := h
    obtain ⟨a, cap, h1, h2, h3, h4⟩ := CRel.slice hx
    exact ⟨a, cap, h1, h2, h3, fun hl => by obtain ⟨ad, xs, k1, _, k2, k3⟩ := h4 hl; exact ⟨ad, xs, k1, k2, k3⟩⟩
  · rename_i b
    obtain ⟨h1, a', n', c', rfl⟩ := hx
    split at h
    · rename_i T' e' l' hb
      simp only [Option.some.injEq, Prod.mk.injEq] at h
      obtain ⟨rfl, rfl⟩ := h
      obtain ⟨xs, h2, h3⟩ := hh.own hb h1
      obtain ⟨a, cap, h4, h5, h6, h7⟩ := h2.slice
      refine ⟨a, cap, h4, h5, h6, fun hl => ?_⟩
      obtain ⟨g, cur, rfl, h8, h9, h10⟩ := h7 (by omega)
      injection h4 with e1 e2 e3
      subst e1 e2 e3
      exact ⟨_, xs, rfl, h3, own_cells h2 (by omega)⟩
    · rename_i e' l' hb
      simp only [Option.some.injEq, Prod.mk.injEq] at h
      obtain ⟨rfl, rfl⟩ := h
      obtain ⟨a, cap, h1, h2, h3, h4⟩ := CRel.slice (hh.ro hb h1)
      exact ⟨a, cap, h1, h2, h3, fun hl => by obtain ⟨ad, xs, k1, _, k2, k3⟩ := h4 hl; exact ⟨ad, xs, k1, k2, k3⟩⟩
    · cases h
  · rename_i b c N lo n
    obtain ⟨r, cap, h1, rfl, h2, h3, h4⟩ := hx
    split at h
    · rename_i T' cs hb
      split at h
      · rename_i a N' k L d hsp
        split at h
        · rename_i hN
          subst hN
          simp only [Option.some.injEq, Prod.mk.injEq] at h
          obtain ⟨rfl, rfl⟩ := h
          obtain ⟨r', vs, h5, h6, h7⟩ := hh.cells hb h1
          cases h5
          obtain ⟨va, vd, rfl, hl, h8, h9⟩ := splitC_rel hsp h7
          obtain ⟨hLn, vz, rfl, h10⟩ := cellsRel_arrI_inv h9
          have hlen : (((L.drop lo).take n).map fun x => [CD.int x]).length = n := by simp; omega
          rw [hlen]
          refine ⟨_, cap, rfl, h2, h3, fun _ => ⟨_, _, rfl, ints_flat _, fun j x hx => ?_⟩⟩
          rw [List.getElem?_map, List.getElem?_take] at hx
          split at hx
          · rw [List.getElem?_drop] at hx
            have := cell_mid (vm := L.map (Value.int k)) h6 (lo + j) x (by rw [List.getElem?_map]; exact hx)
            rw [add_plain', hl, ← Nat.add_assoc, ← add_plain'] at this
            exact this
          · simp at hx
        · cases h
      · cases h
    · cases h
  · cases h

/-! ### Conversions -/
theorem bytes_nums {l : List (List CD)} {xs : List Value} (h : FlatRel Im w [.int .u8] l xs) : xs = ((l.map fun r => (r.getD 0 .d0).toInt)).map (Value.int .u8) := ints_rel h
theorem evConvert_sem {hp : List Blk} {src dst : TypeId} {x : SV} {vx : Value} (hh : HV Im ι w hp) (hx : VRel Im ι w x vx) :
    ORSem P Im ι w ((do let y ← convert src dst vx; pure (.value y) : Sem Next).run P w) (evConvert P hp src dst x) := by
  unfold evConvert
  split
  · rename_i k1 k k2 n h1 h2
    cases hx
    exact ⟨.int k (k.wrap n), by simp [convert, run_underlying h1, run_underlying h2, Conv.intToInt], rfl⟩
  · rename_i l h1 h2
    obtain ⟨rfl, hl⟩ := hx
    exact ⟨.string ⟨l.toArray⟩, by simp [convert, run_underlying h1, run_underlying h2], rfl, hl⟩
  · rename_i E l h1 h2
    obtain ⟨rfl, hl⟩ := hx
    split
    · rename_i h3
      have h4 := run_bytes_of_string (P := P) w src dst E ⟨l.toArray⟩ h1 h2 h3
      refine ⟨_, _, run_val h4, ⟨rfl, rfl, rfl, by simp, fun k hk _ => (heap_alloc_old w.drew _ k hk : _)⟩, ?_⟩
      have hcap := grownCap_ge w (ByteArray.mk l.toArray).size 0 E
      have hcm := grownCap_le_maxLen w (ByteArray.mk l.toArray).size 0 E (by rw [size_bytes]; exact hl)
      have hlen : (rowsOfBytes l).length = (ByteArray.mk l.toArray).size := by simp [rowsOfBytes, size_bytes]
      have hf : FlatRel (fun i => Im i ∨ (w.heap.size ≤ i ∧ i < w.heap.size + 1)) (w.drew.alloc (.cells (bytesRow ⟨l.toArray⟩ (grownCap w (ByteArray.mk l.toArray).size 0 E)) E ((bytesRow ⟨l.toArray⟩ (grownCap w (ByteArray.mk l.toArray).size 0 E)).size, (bytesRow ⟨l.toArray⟩ (grownCap w (ByteArray.mk l.toArray).size 0 E)).size + 1))) [.int .u8] (rowsOfBytes l) ((l.map fun b => (b.toNat : Int)).map (Value.int .u8)) := by
        have e1 : rowsOfBytes l = (l.map fun b => (b.toNat : Int)).map fun x => [CD.int x] := by simp [rowsOfBytes, Function.comp_def]
        rw [e1]
        exact ints_flat _
      have := CRel.sl _ _ ⟨w.heap.size, 0, none⟩ (grownCap w (ByteArray.mk l.toArray).size 0 E) _ (by rw [hlen]; exact hcap) hcm (.inr ⟨Nat.le_refl _, by simp⟩) hf (fun j x hx => by
        rw [add_plain', Nat.zero_add]
        have hnew := heap_alloc_new w.drew (.cells (bytesRow ⟨l.toArray⟩ (grownCap w (ByteArray.mk l.toArray).size 0 E)) E ((bytesRow ⟨l.toArray⟩ (grownCap w (ByteArray.mk l.toArray).size 0 E)).size, (bytesRow ⟨l.toArray⟩ (grownCap w (ByteArray.mk l.toArray).size 0 E)).size + 1))
        rw [show w.drew.heap.size = w.heap.size from rfl] at hnew
        rw [cell_of_row _ _ j _ E _ hnew]
        have hj : j < l.length := by
          have := (List.getElem?_eq_some_iff.1 hx).1
          simpa using this
        simp only [bytesRow]
        rw [Array.getElem?_append_left (by simpa using hj)]
        simp only [List.map_toArray, List.getElem?_toArray]
        rw [← hx]
        simp [Function.comp_def])
      rw [hlen] at this
      simpa [VRel] using this
    · trivial
  · rename_i E h1 h2
    cases hx
    split
    · rename_i h3
      refine ⟨.string ⟨#[]⟩, ?_, rfl, by simp⟩
      exact run_val (run_convert_bytes_nil w src E h1 h3 0 0 dst h2)
    · trivial
  · rename_i x' E h1 h2 hnil
    split
    · rename_i h3
      split
      · rename_i l hv
        obtain ⟨a, cap, rfl, hlc, hcm, h4⟩ := view_sem hh hv hx
        refine ⟨.string ⟨(bytesOfRows l).toArray⟩, ?_, rfl, by simp [bytesOfRows]; omega⟩
        have hconv := run_convert_bytes_string w src dst E a l.length cap h1 h3 h2
        by_cases hz : l = []
        · subst hz
          cases a with
          | none => exact run_val (run_convert_bytes_nil w src E h1 h3 _ _ dst h2)
          | some ad =>
            have h5 := run_loadCells_list (P := P) w ad [] (by simp)
            have h6 := run_bytesToString w ad 0 cap [] (by simpa using h5)
            exact run_val (hconv.trans h6)
        · obtain ⟨ad, xs, rfl, h5, h6⟩ := h4 (List.length_pos_iff.2 hz)
          have h7 := run_loadCells_list (P := P) w ad xs h6
          have hxl : xs.length = l.length := by simpa using h5.length
          rw [hxl, bytes_nums h5] at h7
          have h8 := run_bytesToString w ad l.length cap _ h7
          rw [foldl_push_bytes] at h8
          refine run_val (hconv.trans (h8.trans ?_))
          congr 3
          simp [bytesOfRows]
      · trivial
    · trivial
  · trivial
theorem evToArray_sem {hp : List Blk} {A : TypeId} {x : SV} {vx : Value} (hh : HV Im ι w hp) (hx : VRel Im ι w x vx) :
    ORSem P Im ι w ((do let y ← Instr.arrayAt A vx; pure (.value y) : Sem Next).run P w) (evToArray P hp A x) := by
  unfold evToArray
  split
  · rename_i n E e l hu
    split
    · trivial
    · rename_i hn0
      intro hn
      obtain ⟨a, cap, rfl, hlc, hcm, h4⟩ := CRel.slice hx
      obtain ⟨ad, xs, rfl, h5, h6, h7⟩ := h4 (by omega)
      refine ⟨.pointer (some ad), ?_, ad, xs, by simp [Addr.add], h5, h6, h7⟩
      simp [Instr.arrayAt, run_underlying hu, show ¬ l.length < n by omega]
  · rename_i n E b hu
    split
    · trivial
    · rename_i hn0
      obtain ⟨h1, a', n', c', rfl⟩ := hx
      split
      · rename_i T' e l hb
        intro hn
        obtain ⟨xs, h2, h3⟩ := hh.own hb h1
        obtain ⟨a, cap, h4, h5, h6, h7⟩ := h2.slice
        injection h4 with e1 e2 e3
        subst e1 e2 e3
        obtain ⟨g, cur, rfl, h8, h9, h10⟩ := h7 (by omega)
        refine ⟨.pointer (some ⟨g, 0, none⟩), ?_, g, _, _, h1, by omega, by simp⟩
        simp [Instr.arrayAt, run_underlying hu, show ¬ l.length < n by omega]
      · rename_i e l hb
        intro hn
        obtain ⟨a, cap, h4, hlc, hcm, h7⟩ := CRel.slice (hh.ro hb h1)
        injection h4 with e1 e2 e3
        subst e1 e2 e3
        obtain ⟨ad, xs, rfl, h5, h6, h8⟩ := h7 (by omega)
        refine ⟨.pointer (some ad), ?_, ad, xs, by simp [Addr.add], h5, h6, h8⟩
        simp [Instr.arrayAt, run_underlying hu, show ¬ l.length < n by omega]
      · trivial
  · rename_i n E b c N lo m hu
    obtain ⟨r, cap, h1, rfl, h2, h3, h4⟩ := hx
    intro hn
    refine ⟨_, ?_, r, h1, rfl⟩
    simp [Instr.arrayAt, run_underlying hu, show ¬ m < n by omega]
  · trivial
end
end Go.Avc
