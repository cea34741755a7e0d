/-
  AVC, part K: one operation, whatever it is.
-/
import Derived.Test.YtfikklbaceidfaaDoorAvcJ
namespace Go.Avc
set_option linter.unusedVariables false
set_option linter.unusedSimpArgs false
section
variable {P : Program} {Im : Nat → Prop} {ι : Nat → Option Value} {w : World}

theorem vrels_map {ρ : Operand → SV} {e : Operand → Value} : ∀ (xs : List Operand), (∀ x ∈ xs, VRel Im ι w (ρ x) (e x)) → VRels Im ι w (xs.map ρ) (xs.map e)
  | [], _ => rfl
  | x :: xs, h => ⟨_, _, rfl, h x (by simp), vrels_map xs fun y hy => h y (by simp [hy])⟩
theorem vrels_append : ∀ {xs ys : List SV} {us vs : List Value}, VRels Im ι w xs us → VRels Im ι w ys vs → VRels Im ι w (xs ++ ys) (us ++ vs)
  | [], ys, us, vs, h, k => by cases (show us = [] from h); exact k
  | x :: xs, ys, us, vs, h, k => by
    obtain ⟨v, us', rfl, h1, h2⟩ := h
    exact ⟨v, us' ++ vs, rfl, h1, vrels_append h2 k⟩
theorem vrels_get : ∀ {xs : List SV} {us : List Value}, VRels Im ι w xs us → ∀ (i : Nat) (s : SV), xs[i]? = some s → ∃ v, us[i]? = some v ∧ VRel Im ι w s v
  | [], us, h, i, s, hi => by simp at hi
  | x :: xs, us, h, 0, s, hi => by
    obtain ⟨v, us', rfl, h1, h2⟩ := h
    simp only [List.getElem?_cons_zero, Option.some.injEq] at hi
    subst hi
    exact ⟨v, rfl, h1⟩
  | x :: xs, us, h, i + 1, s, hi => by
    obtain ⟨v, us', rfl, h1, h2⟩ := h
    simpa using vrels_get h2 i s (by simpa using hi)
theorem partsRel_map {ρ : Operand → SV} {e : Operand → Value} : ∀ (xs : List (Nat × Operand)), (∀ x ∈ xs.map (·.2), VRel Im ι w (ρ x) (e x)) → PartsRel Im ι w (xs.map fun (i, x) => (i, ρ x)) (xs.map fun (i, x) => (i, e x))
  | [], _ => rfl
  | (i, x) :: xs, h => ⟨_, _, rfl, h x (by simp), partsRel_map xs fun y hy => h y (by
      rw [List.map_cons]
      exact List.mem_cons_of_mem _ hy)⟩
theorem optRel_map {ρ : Operand → SV} {e : Operand → Value} (o : Option Operand) (h : ∀ x, o = some x → VRel Im ι w (ρ x) (e x)) : OptRel Im ι w (o.map ρ) (o.map e) := by
  cases o with
  | none => rfl
  | some x => exact ⟨_, rfl, h x rfl⟩
theorem optRel_map' {ρ : Operand → SV} {e : Operand → Value} (o : Option Operand) (h : ∀ x ∈ o.toArray, VRel Im ι w (ρ x) (e x)) : OptRel Im ι w (o.map ρ) (o.map e) :=
  optRel_map o fun x hx => h x (by subst hx; simp)

theorem equalIn_nn (d : Nat) {T : TypeId} {ms} (hu : P.underlying T = some (.interface ms)) : (Op.equalIn (d + 1) T .nilIface .nilIface).run P w = .ok true w := by
  unfold Op.equalIn
  simp [run_underlying hu]
theorem equalIn_in (d : Nat) {T t : TypeId} {v : Value} {ms} (hu : P.underlying T = some (.interface ms)) : (Op.equalIn (d + 1) T (.iface t v) .nilIface).run P w = .ok false w := by
  unfold Op.equalIn
  simp [run_underlying hu]
theorem evNilI_sem {op : BinOp} {T : TypeId} {ox oy : Operand} {x : SV} {vx vy : Value} (hx : VRel Im ι w x vx) (hy : VRel Im ι w .nili vy) :
    ORSem P Im ι w ((do let r ← (do eqGuard op T ox oy vx vy; binOp op T vx vy : Sem Value); pure (.value r) : Sem Next).run P w) (evNilI P op T (isConst ox || isConst oy) x) := by
  have hy' : vy = .nilIface := hy
  subst hy'
  unfold evNilI
  split
  · rename_i ms hu
    cases (show vx = .nilIface from hx)
    split
    · rename_i hc
      refine ⟨.bool true, ?_, rfl⟩
      have hg : (eqGuard .eql T ox oy .nilIface .nilIface).run P w = .ok () w := by
        cases ox <;> cases oy <;> first | (simp [isConst] at hc; done) | rfl
      have h := equalIn_nn (w := w) 9999 hu
      exact run_bin hg (by simp only [binOp, Sem.run_bind]; rw [show (Op.equal T .nilIface .nilIface).run P w = .ok true w from h]; rfl)
    · trivial
  · rename_i ms hu
    cases (show vx = .nilIface from hx)
    split
    · rename_i hc
      refine ⟨.bool false, ?_, rfl⟩
      have hg : (eqGuard .neq T ox oy .nilIface .nilIface).run P w = .ok () w := by
        cases ox <;> cases oy <;> first | (simp [isConst] at hc; done) | rfl
      have h := equalIn_nn (w := w) 9999 hu
      exact run_bin hg (by simp only [binOp, Sem.run_bind]; rw [show (Op.equal T .nilIface .nilIface).run P w = .ok true w from h]; rfl)
    · trivial
  · rename_i ms t s hu
    obtain ⟨v', rfl, _⟩ := hx
    have h := equalIn_in (w := w) (t := t) (v := v') 9999 hu
    exact ⟨.bool false, run_bin (by rfl) (by simp only [binOp, Sem.run_bind]; rw [show (Op.equal T (.iface t v') .nilIface).run P w = .ok false w from h]; rfl), rfl⟩
  · rename_i ms t s hu
    obtain ⟨v', rfl, _⟩ := hx
    have h := equalIn_in (w := w) (t := t) (v := v') 9999 hu
    exact ⟨.bool true, run_bin (by rfl) (by simp only [binOp, Sem.run_bind]; rw [show (Op.equal T (.iface t v') .nilIface).run P w = .ok false w from h]; rfl), rfl⟩
  · trivial
theorem evMkI_sem {T : TypeId} {x : SV} {vx : Value} (hx : VRel Im ι w x vx) : ORSem P Im ι w ((do let r ← Instr.makeInterface T vx; pure (.value r) : Sem Next).run P w) (evMkI P T x) := by
  unfold evMkI
  split
  · trivial
  · rename_i d hd hu
    refine ⟨.iface T vx, ?_, vx, rfl, hx⟩
    cases d <;> first | (exact (hd _ rfl).elim) | simp [Instr.makeInterface, run_underlying hu]
  · trivial
theorem follow_sem : ∀ {path : List FieldStep} {t xt : TypeId} {s s' : SV} {v : Value}, evFollow P path t s = some (xt, s') → VRel Im ι w s v → ∃ v', (follow path t (.val v)).run P w = .ok (xt, .val v') w ∧ VRel Im ι w s' v'
  | [], t, xt, s, s', v, h, hv => by
    simp only [evFollow, Option.some.injEq, Prod.mk.injEq] at h
    obtain ⟨rfl, rfl⟩ := h
    exact ⟨v, by simp [follow], hv⟩
  | st :: rest, t, xt, s, s', v, h, hv => by
    unfold evFollow at h
    split at h
    · cases h
    · rename_i hd
      split at h
      · rename_i fs cs hu
        split at h
        · rename_i f hf
          split at h
          · rename_i s1 h1
            obtain ⟨vs, rfl, hc⟩ := hv
            have hp := part_sem (P := P) (T := f.type) (off := f.offset) hc
            rw [h1] at hp
            obtain ⟨v1, g1, g2⟩ := hp
            obtain ⟨v', k1, k2⟩ := follow_sem h g2
            refine ⟨v', ?_, k2⟩
            have g3 : (part f.type vs.toArray f.offset).run P w = .ok v1 w := by
              cases hr : (part f.type vs.toArray f.offset).run P w <;> simp [hr] at g1
              rename_i a w'
              obtain ⟨rfl, rfl⟩ := g1
              rfl
            unfold follow
            simp [run_underlying hu, hf, hd, g3, k1]
          · cases h
        · cases h
      · cases h
theorem evInvoke_sem {ρ : Operand → SV} {recv : Operand} {vr : Value} {name : String} {args : List Operand} {vas : List Value} (hr : VRel Im ι w (ρ recv) vr) (ha : VRels Im ι w (args.map ρ) vas) :
    ORSem P Im ι w ((callMethod vr name vas.toArray).run P w) (evInvoke P ρ recv name args) := by
  unfold evInvoke
  split
  · rename_i t s hs
    rw [hs] at hr
    obtain ⟨v, rfl, hv⟩ := hr
    split
    · rename_i i hi
      split
      · rename_i m hm
        split
        · rename_i xt s' hf
          split
          · rename_i f ptr hfn
            split
            · rename_i r hrc
              obtain ⟨v', h1, h2⟩ := follow_sem (w := w) hf hv
              have h3 : VRel Im ι w r v' ∧ (receiverAt xt (.val v') ptr (if m.path.isEmpty then some ((name.splitOn ".").getLastD name) else none)).run P w = .ok v' w := by
                unfold evRecv at hrc
                split at hrc
                · rename_i E hu
                  split at hrc
                  · rename_i hp
                    cases hrc
                    subst hp
                    exact ⟨h2, by simp [receiverAt, run_underlying hu, Place.get]⟩
                  · cases hrc
                · rename_i d hd hu
                  split at hrc
                  · cases hrc
                  · rename_i hp
                    cases hrc
                    have hp' : ptr = false := by simpa using hp
                    subst hp'
                    refine ⟨h2, ?_⟩
                    cases d <;> first | (exact (hd _ rfl).elim) | simp [receiverAt, run_underlying hu, Place.get]
                · cases hrc
              refine ⟨v' :: vas, ⟨v', vas, rfl, h3.1, ha⟩, ?_⟩
              have e1 : (v' :: vas).toArray = #[v'] ++ vas.toArray := by apply Array.ext'; simp
              have hmeth : (method (P.types.size + Made.depth) t v name).run P w = .ok (f, v') w := by
                obtain ⟨k, hk⟩ : ∃ k, P.types.size + Made.depth = k + 1 := ⟨P.types.size + Made.depth - 1, by
                  have h0 : 0 < Made.depth := by decide
                  omega⟩
                rw [hk]
                unfold method
                have h4 := h3.2
                simp only [Array.isEmpty_iff, List.getLastD_eq_getLast?] at h4
                simp [typeInfo, hi, hm, h1, hfn, h4]
              rw [e1]
              unfold callMethod
              simp only [Sem.run_bind, run_program, hmeth, Result.andThen_ok]
            · trivial
          · trivial
        · trivial
      · trivial
    · trivial
  · trivial
theorem evOp_sem {zero : TypeId → Option (List SV)} (hz : ZeroOk P zero) (hIm : ∀ i, Im i → i < w.heap.size) {hp : List Blk} (hh : HV Im ι w hp) {ρ : Operand → SV} {e : Operand → Value} {o : Oper}
    (hρ : ∀ x ∈ o.op.operands, VRel Im ι w (ρ x) (e x)) : ORSem P Im ι w ((execOp e o).run P w) (evOp P zero ρ hp o.op) := by
  obtain ⟨dst, op, type, pos, after, guard⟩ := o
  cases op <;> simp only [evOp] <;> (try exact trivial) <;> simp only [Op.operands] at hρ
  case move x => exact ⟨_, rfl, hρ x (by simp)⟩
  case assign x => exact ⟨_, rfl, hρ x (by simp)⟩
  case pick c a b =>
    have hc := hρ c (by simp)
    split
    · rename_i t ht
      rw [ht] at hc
      have hc' : e c = .bool t := hc
      refine ⟨fun h => ⟨_, ?_, hρ a (by simp)⟩, fun h => ⟨_, ?_, hρ b (by simp)⟩⟩
      · simp [execOp, hc', asBool, h]
      · simp [execOp, hc', asBool, h]
    · trivial
  case alloc T =>
    split
    · rename_i cs hcs
      obtain ⟨z, h1, _, h3⟩ := run_zeroValue (w := w) hz hcs
      exact ⟨z.cells.toList, by simp [execOp, Instr.alloc, h1, newVar, newRow], h3 Im ι w⟩
    · trivial
  case box T x =>
    split
    · rename_i cs hcs
      exact ⟨(e x).cells.toList, by simp [execOp, Instr.box, newVar, newRow], cells_rel hcs (hρ x (by simp))⟩
    · trivial
  case build T parts =>
    have := evBuild_sem (P := P) (w := w) (Im := Im) (ι := ι) hz (T := T) (parts := parts.toList.map fun (i, x) => (i, ρ x)) (vparts := parts.map fun (i, x) => (i, e x)) (by
      rw [Array.toList_map]
      exact partsRel_map _ fun x hx => hρ x (by simpa using hx))
    exact this
  case buildSlice T n parts =>
    have := evBuildSlice_sem (P := P) (w := w) (Im := Im) (ι := ι) hz hIm (T := T) (len := n) (parts := parts.toList.map fun (i, x) => (i, ρ x)) (vparts := parts.map fun (i, x) => (i, e x)) (by
      rw [Array.toList_map]
      exact partsRel_map _ fun x hx => hρ x (by simpa using hx))
    exact this
  case load T a => exact evLoad_sem hh (hρ a (by simp))
  case store T a x => exact evStore_sem hh (hρ a (by simp)) (hρ x (by simp))
  case nilCheck x =>
    have hx := hρ x (by simp)
    split
    · rename_i hp'
      rw [hp'] at hx
      obtain ⟨r, h1, h2⟩ := hx
      exact ⟨_, by simp only [execOp, h2]; rfl, r, h1, rfl⟩
    · rename_i hp'
      rw [hp'] at hx
      obtain ⟨r, h1, h2⟩ := hx
      exact ⟨_, by simp only [execOp, h2]; rfl, r, h1, rfl⟩
    · rename_i hp'
      rw [hp'] at hx
      obtain ⟨ad, xs, h1, h2⟩ := hx
      exact ⟨_, by simp only [execOp, h1]; rfl, ad, xs, rfl, h2⟩
    · rename_i hp'
      rw [hp'] at hx
      obtain ⟨r, n, cap, h1, h2, h3⟩ := hx
      exact ⟨_, by simp only [execOp, h3]; rfl, r, n, cap, h1, h2, rfl⟩
    · trivial
  case binOp op T x y yT =>
    have hx := hρ x (by simp)
    have hy := hρ y (by simp)
    split
    · rename_i hn
      rw [hn] at hy
      exact evNilI_sem hx hy
    · exact evBin_sem hx hy
  case makeInterface T x => exact evMkI_sem (hρ x (by simp))
  case unOp op T x => exact evUn_sem (hρ x (by simp))
  case convert src dst x => exact evConvert_sem hh (hρ x (by simp))
  case sliceToArrayPointer A x => exact evToArray_sem hh (hρ x (by simp))
  case makeSlice T l c => exact evMakeSlice_sem hz (hρ l (by simp)) (hρ c (by simp))
  case slice T x lo hi mx =>
    exact evSlice_sem hh (hρ x (by simp)) (optRel_map' lo fun y hy => hρ y (by simp at hy ⊢; simp [hy])) (optRel_map' hi fun y hy => hρ y (by simp at hy ⊢; simp [hy])) (optRel_map' mx fun y hy => hρ y (by simp at hy ⊢; simp [hy]))
  case fieldAddr S x f => exact evFieldAddr_sem (hρ x (by simp))
  case field S x f => exact evField_sem (hρ x (by simp))
  case indexAddr T x ix => exact evIndexAddr_sem hh (hρ x (by simp)) (hρ ix (by simp))
  case index T x ix => exact evIndex_sem (hρ x (by simp)) (hρ ix (by simp))
  case extract t i =>
    have ht := hρ t (by simp)
    split
    · rename_i vs hvs
      rw [hvs] at ht
      obtain ⟨us, h1, h2⟩ := ht
      split
      · rename_i s hs
        obtain ⟨v, h3, h4⟩ := vrels_get h2 i s hs
        exact ⟨v, by simp [execOp, Instr.extract, h1, h3], h4⟩
      · trivial
    · trivial
  case makeFunc fn first captured =>
    cases fn <;> simp only <;> try exact trivial
    rename_i f
    split
    · rename_i hf
      have hf' : first = #[] := Array.eq_empty_of_size_eq_zero hf
      subst hf'
      refine ⟨.func (.func f) #[] (captured.map e), by simp [execOp, Instr.makeFunc], (captured.map e).toList, by rw [Array.toArray_toList], ?_⟩
      rw [Array.toList_map]
      exact vrels_map _ fun x hx => hρ x (by simpa using hx)
    · trivial
  case call c =>
    obtain ⟨callee, args, argTypes⟩ := c
    cases callee <;> simp only <;> (try exact trivial) <;> simp only [Call.operands] at hρ
    case value f =>
      have hf := hρ f (by simp)
      have ha := vrels_map (ρ := ρ) (e := e) (Im := Im) (ι := ι) (w := w) args.toList (fun x hx => hρ x (by simp at hx ⊢; simp [hx]))
      unfold evCall
      split
      · rename_i g caps hg
        rw [hg] at hf
        obtain ⟨vs, h1, h2⟩ := hf
        refine ⟨args.toList.map e ++ vs, vrels_append ha h2, ?_⟩
        have e1 : (args.toList.map e ++ vs).toArray = #[] ++ args.map e ++ vs.toArray := by
          apply Array.ext'
          simp
        simp only [execOp, resolve, h1, Deferred.ofValue, pure_bind, invoke, e1]
      · trivial
    case builtin b =>
      have ha := vrels_map (ρ := ρ) (e := e) (Im := Im) (ι := ι) (w := w) args.toList (fun x hx => hρ x (by simp at hx ⊢; simp [hx]))
      have := evBuiltin_sem (P := P) (w := w) hz hh (b := b) (Ts := argTypes.toList) (ty := type) (consts := args.map fun | .const _ => true | _ => false) ha
      have e1 : (args.toList.map e).toArray = args.map e := by apply Array.ext'; simp
      rw [e1, Array.toArray_toList] at this
      simp only [execOp, resolve, pure_bind, invoke]
      exact this
    case invoke recv name =>
      have hr := hρ recv (by simp)
      have ha := vrels_map (ρ := ρ) (e := e) (Im := Im) (ι := ι) (w := w) args.toList (fun x hx => hρ x (by simp at hx ⊢; simp [hx]))
      have := evInvoke_sem (P := P) (w := w) (Im := Im) (ι := ι) (ρ := ρ) (name := name) (args := args.toList) hr ha
      have e2 : (#[e recv] ++ args.map e)[0]? = some (e recv) := by rw [Array.getElem?_append_left (by simp)]; rfl
      have e3 : (#[e recv] ++ args.map e).extract 1 (#[e recv] ++ args.map e).size = (args.toList.map e).toArray := by
        apply Array.ext'
        rw [Array.toList_extract, Array.toList_append]
        simp only [List.extract_eq_take_drop, List.drop_succ_cons, List.drop_zero, List.cons_append, List.nil_append]
        rw [Array.toList_map]
        exact List.take_of_length_le (by simp)
      simp only [execOp, resolve, pure_bind, invoke, e2, e3]
      exact this
end
end Go.Avc
