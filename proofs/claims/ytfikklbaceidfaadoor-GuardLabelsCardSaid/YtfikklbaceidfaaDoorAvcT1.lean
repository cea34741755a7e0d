/-
  AVC, part T1: what comes in to a law, as values of this reckoning; a law's call.
-/
import Derived.Test.YtfikklbaceidfaaDoorAvcT0
import GoSem.ClaimJoined
import Derived.Below
namespace Go.Avc
set_option linter.unusedVariables false
set_option linter.unusedSimpArgs false

/-! ### Numbers in their ranges -/
mutual
def wfC : CSh → CD → Prop
  | .int k, .int n => k.min ≤ n ∧ n ≤ k.max
  | .sl e, .sl l => ∀ row ∈ l, wfRow e row
  | _, _ => True
def wfRow : List CSh → List CD → Prop
  | [], _ => True
  | sh :: e, row => (match row with | cd :: row => wfC sh cd ∧ wfRow e row | [] => True)
end
section
variable (P : Program)
def runOff : List Field → Nat → Bool
  | [], _ => true
  | f :: fs, o => Nat.beq f.offset o && runOff fs (o + P.cellsOf f.type)
def sumR (f : TypeId → Option (List CSh)) : List Field → Option (List CSh)
  | [] => some []
  | fd :: fs => match f fd.type, sumR f fs with | some a, some b => (bif Nat.beq a.length (P.cellsOf fd.type) then some (a ++ b) else none) | _, _ => none
/-- The cells of a type of data; they lie one behind the other. -/
def rsh : Nat → TypeId → Option (List CSh)
  | 0, _ => none
  | d + 1, T => match P.underlying T with
    | some (.int k) => some [.int k]
    | some .bool => some [.bool]
    | some .string => some [.str]
    | some (.slice E) => (match rsh d E with | some e => (bif Nat.beq e.length (P.cellsOf E) && !Nat.beq e.length 0 then some [.sl e] else none) | none => none)
    | some (.struct fs) => (match sumR P (rsh d) fs.toList with | some e => (bif runOff P fs.toList 0 && Nat.beq e.length (P.cellsOf T) then some e else none) | none => none)
    | some (.array n E) => (match rsh d E with | some e => (bif Nat.beq e.length (P.cellsOf E) && Nat.beq (n * e.length) (P.cellsOf T) then some (List.replicate n e).flatten else none) | none => none)
    | _ => none
end
section

variable {P : Program} {W : World} {H : Type} {enc : TypeId × Value → H}
abbrev oldIm (W : World) : Nat → Prop := fun i => i < W.heap.size
theorem row_append {Im : Nat → Prop} {w : World} : ∀ {e1 e2 : List CSh} {r1 r2 : List CD} {v1 v2 : List Value}, RowRel Im w e1 r1 v1 → RowRel Im w e2 r2 v2 → RowRel Im w (e1 ++ e2) (r1 ++ r2) (v1 ++ v2) := by
  intro e1
  induction e1 with
  | nil => intro e2 r1 r2 v1 v2 h k; cases h; exact k
  | cons sh e1 ih =>
    intro e2 r1 r2 v1 v2 h k
    cases h with
    | cons _ cd v _ row vs h1 h2 => exact .cons _ _ _ _ _ _ h1 (ih h2 k)
theorem wfRow_append : ∀ {e1 e2 : List CSh} {r1 r2 : List CD}, e1.length = r1.length → wfRow e1 r1 → wfRow e2 r2 → wfRow (e1 ++ e2) (r1 ++ r2)
  | [], e2, [], r2, _, _, k => k
  | [], _, _ :: _, _, h, _, _ => by simp at h
  | _ :: _, _, [], _, h, _, _ => by simp at h
  | sh :: e1, e2, cd :: r1, r2, hl, h, k => ⟨h.1, wfRow_append (by simpa using hl) h.2 k⟩
theorem cells_get {w : World} {a : Addr} {n : Nat} : ∀ {cs : List Value}, (List.range n).mapM (fun i => w.cell? (a.add i)) = some cs → cs.length = n ∧ ∀ j x, cs[j]? = some x → w.cell? (a.add j) = some x := by
  induction n with
  | zero => intro cs h; simp at h; subst h; exact ⟨rfl, fun j x h => by simp at h⟩
  | succ n ih =>
    intro cs h
    rw [List.range_succ, List.mapM_append] at h
    cases h1 : (List.range n).mapM (fun i => w.cell? (a.add i)) with
    | none => rw [h1] at h; simp at h
    | some l =>
      rw [h1] at h
      cases h2 : w.cell? (a.add n) with
      | none => simp [h2] at h
      | some x =>
        simp [h2] at h
        subst h
        obtain ⟨k1, k2⟩ := ih h1
        refine ⟨by simp [k1], fun j y hy => ?_⟩
        rcases Nat.lt_or_ge j l.length with hj | hj
        · rw [List.getElem?_append_left hj] at hy; exact k2 j y hy
        · rw [List.getElem?_append_right hj] at hy
          cases hz : j - l.length with
          | zero =>
            rw [hz] at hy
            simp at hy
            subst hy
            rw [show j = n from by omega]; exact h2
          | succ m => rw [hz] at hy; simp at hy
theorem cell_lt {w : World} {a : Addr} {x : Value} (h : w.cell? a = some x) : a.block < w.heap.size := by
  unfold World.cell? at h
  split at h
  · rename_i heq
    exact (Array.getElem?_eq_some_iff.1 heq).1
  · cases h
theorem add_block (a : Addr) (j : Nat) : (a.add j).block = a.block := by unfold Addr.add; split <;> rfl
def IHr (P : Program) (W : World) (enc : TypeId × Value → H) (fuel : Nat) : Prop := ∀ T cs d ps, DataW.trod enc P W 0 (fun _ => true) true fuel T cs = some (d, ps) → ∀ D e, rsh P D T = some e → ∃ row, RowRel (oldIm W) W e row cs ∧ wfRow e row
theorem fields_row {fuel D : Nat} (ih : IHr P W enc fuel) {cs : List Value} : ∀ {fs : List Field} {o : Nat} {e : List CSh} {xs : List (DataW H × List MemPlace)}, runOff P fs o = true → sumR P (rsh P D) fs = some e →
    fs.mapM (fun f => DataW.trod enc P W 0 (fun _ => true) true fuel f.type ((cs.drop f.offset).take (P.cellsOf f.type))) = some xs → ∃ row, RowRel (oldIm W) W e row ((cs.drop o).take e.length) ∧ wfRow e row
  | [], o, e, xs, h1, h2, h3 => by
    simp only [sumR, Option.some.injEq] at h2
    subst h2
    exact ⟨[], by simpa using RowRel.nil, trivial⟩
  | f :: fs, o, e, xs, h1, h2, h3 => by
    simp only [runOff, Bool.and_eq_true] at h1
    have ho := beq_true.1 h1.1
    simp only [sumR] at h2
    split at h2
    · rename_i a b ha hb
      cases hl : Nat.beq a.length (P.cellsOf f.type) with
      | false => rw [hl] at h2; cases h2
      | true =>
        rw [hl] at h2
        cases h2
        have hal := beq_true.1 hl
        rw [List.mapM_cons] at h3
        cases hx : DataW.trod enc P W 0 (fun _ => true) true fuel f.type ((cs.drop f.offset).take (P.cellsOf f.type)) with
        | none => rw [hx] at h3; simp at h3
        | some x =>
          rw [hx] at h3
          cases hxs : fs.mapM (fun f => DataW.trod enc P W 0 (fun _ => true) true fuel f.type ((cs.drop f.offset).take (P.cellsOf f.type))) with
          | none => simp [hxs] at h3
          | some ys =>
            obtain ⟨r1, k1, k2⟩ := ih _ _ _ _ hx D a ha
            obtain ⟨r2, k3, k4⟩ := fields_row ih h1.2 hb hxs
            have hlen := RowRel.length k1
            refine ⟨r1 ++ r2, ?_, wfRow_append hlen.2.symm k2 k4⟩
            have := row_append k1 k3
            rw [ho, ← hal] at this
            have e1 : (cs.drop o).take a.length ++ (cs.drop (o + a.length)).take b.length = (cs.drop o).take (a ++ b).length := by
              rw [List.length_append, List.take_add, List.drop_drop]
            rw [← e1]; exact this
    · cases h2
theorem items_row {fuel D : Nat} (ih : IHr P W enc fuel) {cs : List Value} {E : TypeId} {e : List CSh} (he : rsh P D E = some e) (hl : e.length = P.cellsOf E) : ∀ (n : Nat) {xs : List (DataW H × List MemPlace)},
    (List.range n).mapM (fun i => DataW.trod enc P W 0 (fun _ => true) true fuel E ((cs.drop (i * P.cellsOf E)).take (P.cellsOf E))) = some xs → ∃ row, RowRel (oldIm W) W (List.replicate n e).flatten row (cs.take (n * e.length)) ∧ wfRow (List.replicate n e).flatten row
  | 0, xs, h => ⟨[], by simpa using RowRel.nil, trivial⟩
  | n + 1, xs, h => by
    rw [List.range_succ, List.mapM_append] at h
    cases h1 : (List.range n).mapM (fun i => DataW.trod enc P W 0 (fun _ => true) true fuel E ((cs.drop (i * P.cellsOf E)).take (P.cellsOf E))) with
    | none => rw [h1] at h; simp at h
    | some l =>
      rw [h1] at h
      cases h2 : DataW.trod enc P W 0 (fun _ => true) true fuel E ((cs.drop (n * P.cellsOf E)).take (P.cellsOf E)) with
      | none => simp [h2] at h
      | some x =>
        obtain ⟨r1, k1, k2⟩ := items_row ih he hl n h1
        obtain ⟨r2, k3, k4⟩ := ih _ _ _ _ h2 D e he
        have hlen := RowRel.length k1
        have e0 : (List.replicate (n + 1) e).flatten = (List.replicate n e).flatten ++ e := by
          rw [show n + 1 = n + 1 from rfl, List.replicate_succ', List.flatten_append]; simp
        refine ⟨r1 ++ r2, ?_, by rw [e0]; exact wfRow_append hlen.2.symm k2 k4⟩
        rw [e0, Nat.succ_mul, List.take_add]
        rw [hl] at k1 ⊢
        exact row_append k1 k3
theorem elems_row {fuel D : Nat} (ih : IHr P W enc fuel) {a : Addr} {E : TypeId} {e : List CSh} (he : rsh P D E = some e) (hl : e.length = P.cellsOf E) : ∀ (n : Nat) {xs : List (DataW H × List MemPlace)},
    (List.range n).mapM (fun i => (W.cells? 0 (a.add (i * P.cellsOf E)) (P.cellsOf E)).bind (DataW.trod enc P W 0 (fun _ => true) true fuel E)) = some xs →
      ∃ rows vs, rows.length = n ∧ FlatRel (oldIm W) W e rows vs ∧ (∀ j x, vs[j]? = some x → W.cell? (a.add j) = some x) ∧ ∀ row ∈ rows, wfRow e row
  | 0, xs, h => ⟨[], [], rfl, .nil _, fun j x h => by simp at h, fun r h => by simp at h⟩
  | n + 1, xs, h => by
    rw [List.range_succ, List.mapM_append] at h
    cases h1 : (List.range n).mapM (fun i => (W.cells? 0 (a.add (i * P.cellsOf E)) (P.cellsOf E)).bind (DataW.trod enc P W 0 (fun _ => true) true fuel E)) with
    | none => rw [h1] at h; simp at h
    | some l =>
      rw [h1] at h
      cases h2 : W.cells? 0 (a.add (n * P.cellsOf E)) (P.cellsOf E) with
      | none => simp [h2] at h
      | some cs =>
        cases h3 : DataW.trod enc P W 0 (fun _ => true) true fuel E cs with
        | none => simp [h2, h3] at h
        | some x =>
          obtain ⟨rows, vs, k1, k2, k3, k4⟩ := elems_row ih he hl n h1
          obtain ⟨row, g1, g2⟩ := ih _ _ _ _ h3 D e he
          unfold World.cells? at h2
          rw [if_pos (Nat.zero_le _)] at h2
          obtain ⟨g3, g4⟩ := cells_get h2
          have hvl := FlatRel.length k2
          refine ⟨rows ++ [row], vs ++ cs, by simp [k1], ?_, fun j y hy => ?_, fun r hr => ?_⟩
          · have := FlatRel.append k2 (.cons e row cs [] [] g1 (.nil e))
            simpa using this
          · rcases Nat.lt_or_ge j vs.length with hj | hj
            · rw [List.getElem?_append_left hj] at hy; exact k3 j y hy
            · rw [List.getElem?_append_right hj] at hy
              have hc := g4 _ y hy
              have ha : a.spot = none := by
                have hcs : 0 < cs.length := by have := (List.getElem?_eq_some_iff.1 hy).1; omega
                have h00 : ∀ (x : Value), W.cell? (a.add 0) = some x → a.spot = none := fun x hx => by
                  have := spot_of_cell hx (.inl rfl)
                  simpa [Addr.add] using this
                rcases Nat.eq_zero_or_pos n with hn | hn
                · subst hn
                  have := g4 0 cs[0] (List.getElem?_eq_getElem hcs)
                  rw [Nat.zero_mul] at this
                  have e0 : (a.add 0).add 0 = a.add 0 := by simp [Addr.add]
                  rw [e0] at this
                  exact h00 _ this
                · have hvp : 0 < vs.length := by rw [hvl, k1]; exact Nat.mul_pos hn (by omega)
                  exact h00 _ (k3 0 vs[0] (List.getElem?_eq_getElem hvp))
              rw [add_add _ _ _ ha] at hc
              rw [show j = n * P.cellsOf E + (j - vs.length) from by rw [hvl, k1, hl] at *; omega]
              rw [hvl, k1, hl] at hc ⊢
              simpa using hc
          · rcases List.mem_append.1 hr with hr | hr
            · exact k4 r hr
            · simp at hr; subst hr; exact g2
theorem trod_row : ∀ fuel, IHr P W enc fuel
  | 0 => fun T cs d ps h => by simp [DataW.trod] at h
  | fuel + 1 => fun T cs d ps h D e he => by
    have ih := trod_row fuel
    cases D with
    | zero => cases he
    | succ D =>
      unfold DataW.trod at h
      simp only [rsh] at he
      cases hu : P.underlying T with
      | none => rw [hu] at he; cases he
      | some td =>
        rw [hu] at he h
        cases td with
        | bool =>
          cases he
          split at h <;> try cases h
          all_goals (rename_i heq; cases heq)
          exact ⟨[.bool _], .cons _ _ _ _ _ _ (.bool _) .nil, trivial, trivial⟩
        | int k =>
          cases he
          split at h <;> try cases h
          all_goals (rename_i heq; cases heq)
          split at h
          · rename_i hk
            obtain ⟨rfl, hw⟩ := hk
            refine ⟨[.int _], .cons _ _ _ _ _ _ (.int _ _) .nil, ?_, trivial⟩
            unfold Lit.wf at hw
            simpa [wfC] using hw
          · cases h
        | string =>
          cases he
          split at h <;> try cases h
          all_goals (rename_i heq; cases heq)
          split at h
          · rename_i s hs
            obtain ⟨⟨l⟩⟩ := s
            exact ⟨[.str l], .cons _ _ _ _ _ _ (.str l hs) .nil, trivial, trivial⟩
          · cases h
        | slice E =>
          simp only at he h
          split at he
          · rename_i e' he'
            cases hl : (Nat.beq e'.length (P.cellsOf E) && !Nat.beq e'.length 0) with
            | false => rw [hl] at he; cases he
            | true =>
              rw [hl] at he
              cases he
              simp only [Bool.and_eq_true, Bool.not_eq_true'] at hl
              have hl' := beq_true.1 hl.1
              have hl0 := beq_false.1 hl.2
              split at h <;> try cases h
              all_goals (rename_i heq; cases heq)
              · exact ⟨[.sl []], .cons _ _ _ _ _ _ (.sl0 _ _ _ (Nat.zero_le _)) .nil, (fun r hr => by simp at hr), trivial⟩
              · rename_i a len cap
                split at h
                · rename_i hc
                  obtain ⟨_, hc1, hc2⟩ := hc
                  cases hm : (List.range len).mapM (fun i => (W.cells? 0 (a.add (i * P.cellsOf E)) (P.cellsOf E)).bind (DataW.trod enc P W 0 (fun _ => true) true fuel E)) with
                  | none => rw [hm] at h; simp at h
                  | some xs =>
                    obtain ⟨rows, vs, k1, k2, k3, k4⟩ := elems_row ih he' hl' len hm
                    refine ⟨[.sl rows], .cons _ _ _ _ _ _ ?_ .nil, k4, trivial⟩
                    rcases Nat.eq_zero_or_pos len with h0 | h0
                    · subst h0
                      have : rows = [] := List.length_eq_zero_iff.1 k1
                      subst this
                      exact .sl0 _ _ _ hc2
                    · subst k1
                      refine .sl _ _ a cap vs hc1 hc2 ?_ k2 k3
                      have hvl := FlatRel.length k2
                      have hpos : 0 < vs.length := by rw [hvl]; exact Nat.mul_pos h0 (by omega)
                      have := k3 0 vs[0] (List.getElem?_eq_getElem hpos)
                      have := cell_lt this
                      rwa [add_block] at this
                · cases h
          · cases he
        | struct fs =>
          simp only at he h
          split at he
          · rename_i e' he'
            cases hl : (runOff P fs.toList 0 && Nat.beq e'.length (P.cellsOf T)) with
            | false => rw [hl] at he; cases he
            | true =>
              rw [hl] at he
              cases he
              simp only [Bool.and_eq_true] at hl
              have hl' := beq_true.1 hl.2
              split at h
              · rename_i hcl
                cases hm : fs.toList.mapM (fun f => DataW.trod enc P W 0 (fun _ => true) true fuel f.type ((cs.drop f.offset).take (P.cellsOf f.type))) with
                | none => rw [hm] at h; simp at h
                | some xs =>
                  obtain ⟨row, k1, k2⟩ := fields_row ih hl.1 he' hm
                  rw [List.drop_zero, hl', ← hcl, List.take_length] at k1
                  exact ⟨row, k1, k2⟩
              · cases h
          · cases he
        | array n E =>
          simp only at he h
          split at he
          · rename_i e' he'
            cases hl : (Nat.beq e'.length (P.cellsOf E) && Nat.beq (n * e'.length) (P.cellsOf T)) with
            | false => rw [hl] at he; cases he
            | true =>
              rw [hl] at he
              cases he
              simp only [Bool.and_eq_true] at hl
              have hl1 := beq_true.1 hl.1
              have hl2 := beq_true.1 hl.2
              split at h
              · rename_i hcl
                cases hm : (List.range n).mapM (fun i => DataW.trod enc P W 0 (fun _ => true) true fuel E ((cs.drop (i * P.cellsOf E)).take (P.cellsOf E))) with
                | none => rw [hm] at h; simp at h
                | some xs =>
                  obtain ⟨row, k1, k2⟩ := items_row ih he' hl1 n hm
                  rw [hl2, ← hcl, List.take_length] at k1
                  exact ⟨row, k1, k2⟩
              · cases h
          · cases he
        | _ => cases he

/-! ### A struct's cells -/
def svRow : List CSh → List CD → List SV
  | sh :: e, cd :: row => ofCD sh cd :: svRow e row
  | _, _ => []
theorem cells_of_row {Im : Nat → Prop} {ι : Nat → Option Value} {w : World} : ∀ {e : List CSh} {row : List CD} {vs : List Value}, RowRel Im w e row vs → CellsRel Im ι w (svRow e row) vs := by
  intro e
  induction e with
  | nil => intro row vs h; cases h; rfl
  | cons sh e ih =>
    intro row vs h
    cases h with
    | cons _ cd v _ row vs h1 h2 => exact cellsRel_cons_mk (va := [v]) (cellsRel_one (ofCD_one sh cd) (ofCD_rel h1)) (ih h2)

theorem flat_rows {Im : Nat → Prop} {w : World} {e : List CSh} : ∀ {l : List (List CD)} {xs : List Value}, FlatRel Im w e l xs → ∀ row ∈ l, ∃ vs, RowRel Im w e row vs := by
  intro l
  induction l with
  | nil => intro xs _ row h; cases h
  | cons r l ih =>
    intro xs h row hr
    cases h with
    | cons _ _ vs _ xs h1 h2 =>
      rcases List.mem_cons.1 hr with rfl | hr
      · exact ⟨vs, h1⟩
      · exact ih h2 row hr
theorem crel_rows {Im : Nat → Prop} {w : World} {e : List CSh} {l : List (List CD)} {v : Value} (h : CRel Im w (.sl e) (.sl l) v) : ∀ row ∈ l, ∃ vs, RowRel Im w e row vs := by
  cases h with
  | sl0 => intro row h; cases h
  | sl _ _ ad cap xs _ _ _ hf _ => exact flat_rows hf
/-- A slice that came in. -/
theorem slice_in {T : TypeId} {e : List CSh} (D : Nat) (hr : rsh P D T = some [.sl e]) {v : Value} {d : DataW H} {ps : List MemPlace} (hv : ∃ a n c, v = .slice a n c) (h : DataW.Trod enc P W 0 (fun _ => true) true T v d ps) :
    ∃ l, CRel (oldIm W) W (.sl e) (.sl l) v ∧ ∀ row ∈ l, wfRow e row := by
  obtain ⟨a, n, c, rfl⟩ := hv
  obtain ⟨fuel, hf⟩ := h
  obtain ⟨row, h1, h2⟩ := trod_row fuel _ _ _ _ hf D _ hr
  have h1' : RowRel (oldIm W) W [.sl e] row [.slice a n c] := h1
  cases h1' with
  | cons _ cd _ _ row vs k1 k2 =>
    cases k1 with
    | sl0 e a cap h => exact ⟨[], .sl0 _ _ _ h, fun row hr => by cases hr⟩
    | sl e l ad _ xs q1 q2 q3 q4 q5 => exact ⟨l, .sl e l ad _ xs q1 q2 q3 q4 q5, h2.1⟩

/-! ### A law's call -/
theorem law_calls {C : Ctx} {f : FuncId} {F : List SV → List Blk → CR} (hs : SpecOk C f F) {W : World} {svs : List SV} {vs : List Value} (hcall : (callFunc f vs.toArray).run C.P W = .ok (.enter f vs.toArray) W)
    (hv : VRels (oldIm W) (fun _ => none) W svs vs) (hg : Globs C (oldIm W) (fun _ => none) W) (hK : (F svs []).wp [] fun sv _ => sv = .bool true) :
    Calls C.P f vs.toArray W fun e w' => e = .returned (.bool true) ∧ RowKit.Below W.heap.size W w' := by
  have hm : Mem C ⟨W, oldIm W, fun _ => none, fun _ => False⟩ [] (oldIm W) (fun _ => none) W :=
    ⟨(fun b v h => by cases h), ⟨fun i h => h, (fun b v r _ h => by cases h), (fun b b' v v' r _ _ h => by cases h), fun b v r _ h => by cases h⟩,
      ⟨rfl, rfl, rfl, Nat.le_refl _, fun _ _ _ => rfl, (fun b v h => by cases h), fun _ h => h, fun _ h => .inl h⟩, hg⟩
  have h := hs svs [] (fun sv _ => sv = .bool true) (fun _ => True) (CR.wp_mono (fun sv hp h => ⟨h, fun _ _ _ => trivial⟩) _ hK) _ _ _ W vs hm (fun _ _ => rfl) hv
  rcases h with ⟨_, h⟩ | ⟨v, h, _⟩
  · refine Calls.mono h ?_
    rintro e w' ⟨v, sv, hp', Im', ι', rfl, rfl, hv, hm', _⟩
    have hv' : v = .bool true := hv
    subst hv'
    exact ⟨rfl, hm'.since.os, hm'.since.tape, hm'.since.output, hm'.since.size, fun k hk => hm'.since.block k hk id⟩
  · rw [hcall] at h; cases h
end
end Go.Avc
