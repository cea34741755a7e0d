/-
  AVC, part K: one operation, whatever it is.
-/
import Derived.Test.YtganbceicojfmaaDoorAvcJ
namespace Go.Avc
set_option linter.unusedVariables false
set_option linter.unusedSimpArgs false
section
variable {P : Program} {Im : Nat → Prop} {ι : Nat → Option Value} {w : World}

theorem vrels_map {ρ : Operand → SV} {e : Operand → Value} : ∀ (xs : List Operand), (∀ x ∈ xs, VRel Im ι w (ρ x) (e x)) → VRels Im ι w (xs.map ρ) (xs.map e)
  | [], _ => rfl
  | x :: xs, h => ⟨_, _, rfl, h x (by simp), vrels_map xs fun y hy => h y (by simp [hy])⟩
theorem vrels_append : ∀ {xs ys : List SV} {us vs : List Value}, VRels Im ι w xs us → VRels Im ι w ys vs → VRels Im ι w (xs ++ ys) (us ++ vs)
  | [], ys, us, vs, h, k => by cases (show us = [] from h); exact k
  | x :: xs, ys, us, vs, h, k => by
    obtain ⟨v, us', rfl, h1, h2⟩ := h
    exact ⟨v, us' ++ vs, rfl, h1, vrels_append h2 k⟩
theorem vrels_get : ∀ {xs : List SV} {us : List Value}, VRels Im ι w xs us → ∀ (i : Nat) (s : SV), xs[i]? = some s → ∃ v, us[i]? = some v ∧ VRel Im ι w s v
  | [], us, h, i, s, hi => by simp at hi
  | x :: xs, us, h, 0, s, hi => by
    obtain ⟨v, us', rfl, h1, h2⟩ := h
    simp only [List.getElem?_cons_zero, Option.some.injEq] at hi
    subst hi
    exact ⟨v, rfl, h1⟩
  | x :: xs, us, h, i + 1, s, hi => by
    obtain ⟨v, us', rfl, h1, h2⟩ := h
    simpa using vrels_get h2 i s (by simpa using hi)
theorem partsRel_map {ρ : Operand → SV} {e : Operand → Value} : ∀ (xs : List (Nat × Operand)), (∀ x ∈ xs.map (·.2), VRel Im ι w (ρ x) (e x)) → PartsRel Im ι w (xs.map fun (i, x) => (i, ρ x)) (xs.map fun (i, x) => (i, e x))
  | [], _ => rfl
  | (i, x) :: xs, h => ⟨_, _, rfl, h x (by simp), partsRel_map xs fun y hy => h y (by
      rw [List.map_cons]
      exact List.mem_cons_of_mem _ hy)⟩
theorem optRel_map {ρ : Operand → SV} {e : Operand → Value} (o : Option Operand) (h : ∀ x, o = some x → VRel Im ι w (ρ x) (e x)) : OptRel Im ι w (o.map ρ) (o.map e) := by
  cases o with
  | none => rfl
  | some x => exact ⟨_, rfl, h x rfl⟩
theorem optRel_map' {ρ : Operand → SV} {e : Operand → Value} (o : Option Operand) (h : ∀ x ∈ o.toArray, VRel Im ι w (ρ x) (e x)) : OptRel Im ι w (o.map ρ) (o.map e) :=
  optRel_map o fun x hx => h x (by subst hx; simp)

theorem evOp_sem {zero : TypeId → Option (List SV)} (hz : ZeroOk P zero) (hIm : ∀ i, Im i → i < w.heap.size) {hp : List Blk} (hh : HV Im ι w hp) {ρ : Operand → SV} {e : Operand → Value} {o : Oper}
    (hρ : ∀ x ∈ o.op.operands, VRel Im ι w (ρ x) (e x)) : ORSem P Im ι w ((execOp e o).run P w) (evOp P zero ρ hp o.op) := by
  obtain ⟨dst, op, type, pos, after, guard⟩ := o
  cases op <;> simp only [evOp] <;> (try exact trivial) <;> simp only [Op.operands] at hρ
  case move x => exact ⟨_, rfl, hρ x (by simp)⟩
  case assign x => exact ⟨_, rfl, hρ x (by simp)⟩
  case pick c a b =>
    have hc := hρ c (by simp)
    split
    · rename_i t ht
      rw [ht] at hc
      have hc' : e c = .bool t := hc
      refine ⟨fun h => ⟨_, ?_, hρ a (by simp)⟩, fun h => ⟨_, ?_, hρ b (by simp)⟩⟩
      · simp [execOp, hc', asBool, h]
      · simp [execOp, hc', asBool, h]
    · trivial
  case alloc T =>
    split
    · rename_i cs hcs
      obtain ⟨z, h1, _, h3⟩ := run_zeroValue (w := w) hz hcs
      exact ⟨z.cells.toList, by simp [execOp, Instr.alloc, h1, newVar, newRow], h3 Im ι w⟩
    · trivial
  case box T x =>
    split
    · rename_i cs hcs
      exact ⟨(e x).cells.toList, by simp [execOp, Instr.box, newVar, newRow], cells_rel hcs (hρ x (by simp))⟩
    · trivial
  case build T parts =>
    have := evBuild_sem (P := P) (w := w) (Im := Im) (ι := ι) hz (T := T) (parts := parts.toList.map fun (i, x) => (i, ρ x)) (vparts := parts.map fun (i, x) => (i, e x)) (by
      rw [Array.toList_map]
      exact partsRel_map _ fun x hx => hρ x (by simpa using hx))
    exact this
  case buildSlice T n parts =>
    have := evBuildSlice_sem (P := P) (w := w) (Im := Im) (ι := ι) hz hIm (T := T) (len := n) (parts := parts.toList.map fun (i, x) => (i, ρ x)) (vparts := parts.map fun (i, x) => (i, e x)) (by
      rw [Array.toList_map]
      exact partsRel_map _ fun x hx => hρ x (by simpa using hx))
    exact this
  case load T a => exact evLoad_sem hh (hρ a (by simp))
  case store T a x => exact evStore_sem hh (hρ a (by simp)) (hρ x (by simp))
  case nilCheck x =>
    have hx := hρ x (by simp)
    split
    · rename_i hp'
      rw [hp'] at hx
      obtain ⟨r, h1, h2⟩ := hx
      exact ⟨_, by simp only [execOp, h2]; rfl, r, h1, rfl⟩
    · rename_i hp'
      rw [hp'] at hx
      obtain ⟨r, h1, h2⟩ := hx
      exact ⟨_, by simp only [execOp, h2]; rfl, r, h1, rfl⟩
    · rename_i hp'
      rw [hp'] at hx
      obtain ⟨ad, xs, h1, h2⟩ := hx
      exact ⟨_, by simp only [execOp, h1]; rfl, ad, xs, rfl, h2⟩
    · rename_i hp'
      rw [hp'] at hx
      obtain ⟨r, n, cap, h1, h2, h3⟩ := hx
      exact ⟨_, by simp only [execOp, h3]; rfl, r, n, cap, h1, h2, rfl⟩
    · trivial
  case binOp op T x y yT => exact evBin_sem (hρ x (by simp)) (hρ y (by simp))
  case unOp op T x => exact evUn_sem (hρ x (by simp))
  case convert src dst x => exact evConvert_sem hh (hρ x (by simp))
  case sliceToArrayPointer A x => exact evToArray_sem hh (hρ x (by simp))
  case makeSlice T l c => exact evMakeSlice_sem hz (hρ l (by simp)) (hρ c (by simp))
  case slice T x lo hi mx =>
    exact evSlice_sem hh (hρ x (by simp)) (optRel_map' lo fun y hy => hρ y (by simp at hy ⊢; simp [hy])) (optRel_map' hi fun y hy => hρ y (by simp at hy ⊢; simp [hy])) (optRel_map' mx fun y hy => hρ y (by simp at hy ⊢; simp [hy]))
  case fieldAddr S x f => exact evFieldAddr_sem (hρ x (by simp))
  case field S x f => exact evField_sem (hρ x (by simp))
  case indexAddr T x ix => exact evIndexAddr_sem hh (hρ x (by simp)) (hρ ix (by simp))
  case index T x ix => exact evIndex_sem (hρ x (by simp)) (hρ ix (by simp))
  case extract t i =>
    have ht := hρ t (by simp)
    split
    · rename_i vs hvs
      rw [hvs] at ht
      obtain ⟨us, h1, h2⟩ := ht
      split
      · rename_i s hs
        obtain ⟨v, h3, h4⟩ := vrels_get h2 i s hs
        exact ⟨v, by simp [execOp, Instr.extract, h1, h3], h4⟩
      · trivial
    · trivial
  case makeFunc fn first captured =>
    cases fn <;> simp only <;> try exact trivial
    rename_i f
    split
    · rename_i hf
      have hf' : first = #[] := Array.eq_empty_of_size_eq_zero hf
      subst hf'
      refine ⟨.func (.func f) #[] (captured.map e), by simp [execOp, Instr.makeFunc], (captured.map e).toList, by rw [Array.toArray_toList], ?_⟩
      rw [Array.toList_map]
      exact vrels_map _ fun x hx => hρ x (by simpa using hx)
    · trivial
  case call c =>
    obtain ⟨callee, args, argTypes⟩ := c
    cases callee <;> simp only <;> (try exact trivial) <;> simp only [Call.operands] at hρ
    case value f =>
      have hf := hρ f (by simp)
      have ha := vrels_map (ρ := ρ) (e := e) (Im := Im) (ι := ι) (w := w) args.toList (fun x hx => hρ x (by simp at hx ⊢; simp [hx]))
      unfold evCall
      split
      · rename_i g caps hg
        rw [hg] at hf
        obtain ⟨vs, h1, h2⟩ := hf
        refine ⟨args.toList.map e ++ vs, vrels_append ha h2, ?_⟩
        have e1 : (args.toList.map e ++ vs).toArray = #[] ++ args.map e ++ vs.toArray := by
          apply Array.ext'
          simp
        simp only [execOp, resolve, h1, Deferred.ofValue, pure_bind, invoke, e1]
      · trivial
    case builtin b =>
      have ha := vrels_map (ρ := ρ) (e := e) (Im := Im) (ι := ι) (w := w) args.toList (fun x hx => hρ x (by simp at hx ⊢; simp [hx]))
      have := evBuiltin_sem (P := P) (w := w) hz hh (b := b) (Ts := argTypes.toList) (ty := type) (consts := args.map fun | .const _ => true | _ => false) ha
      have e1 : (args.toList.map e).toArray = args.map e := by apply Array.ext'; simp
      rw [e1, Array.toArray_toList] at this
      simp only [execOp, resolve, pure_bind, invoke]
      exact this
end
end Go.Avc
