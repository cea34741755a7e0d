/-
  AVC, part J: operators with two operands, and the whole of one operation.
-/
import Derived.Test.YtfikklbaceidfaaDoorAvcI
import Derived.ChangeKeysEq
namespace Go.Avc
set_option linter.unusedVariables false
set_option linter.unusedSimpArgs false
section
variable {P : Program} {Im : Nat → Prop} {ι : Nat → Option Value} {w : World}

theorem binOp_int (op : BinOp) (T : TypeId) (k : IntKind) (a b : Int) : binOp op T (.int k a) (.int k b) = binOp op 0 (.int k a) (.int k b) := by cases op <;> simp [binOp]
theorem depth_succ (P : Program) : ∃ n, P.depth = n + 2 := ⟨2 * (P.types.size + Made.depth), rfl⟩
theorem run_eqGuard_other {op : BinOp} {T : TypeId} {x y : Operand} {a b : Value} (h : (∀ c d, ¬ (a = .agg c ∧ b = .agg d)) ∧ ¬ (a = .nilIface ∧ b = .nilIface)) : (eqGuard op T x y a b).run P w = .ok () w := by
  unfold eqGuard
  cases op <;> cases a <;> cases b <;> first
    | rfl
    | (exfalso; exact h.1 _ _ ⟨rfl, rfl⟩)
    | (exfalso; exact h.2 ⟨rfl, rfl⟩)
/-- The look ahead of '==' at two structs or arrays without interfaces. -/
theorem run_eqGuard_agg {op : BinOp} {T : TypeId} {x y : Operand} {a b : Array Value} (h : P.eqGuardType P.depth T = false) : (eqGuard op T x y (.agg a) (.agg b)).run P w = .ok () w := by
  unfold eqGuard
  cases op <;> first
    | rfl
    | simp [h]

theorem eqFieldsSV_sem : ∀ {fs : List Field} {j : Nat} {cs ds : List SV} {r : Bool} {pa pb va vb : List Value} {d : Nat}, eqFieldsSV P fs j cs ds = some r → CellsRel Im ι w cs va → CellsRel Im ι w ds vb → pa.length = j → pb.length = j →
    (Op.eqFields (d + 1) (pa ++ va).toArray (pb ++ vb).toArray fs).run P w = .ok r w
  | [], j, [], [], r, pa, pb, va, vb, d, h, h1, h2, _, _ => by
    simp only [eqFieldsSV, Option.some.injEq] at h
    subst h
    rfl
  | f :: fs, j, c :: cs, e :: ds, r, pa, pb, va, vb, d, h, h1, h2, hpa, hpb => by
    unfold eqFieldsSV at h
    split at h
    · rename_i hoff
      split at h
      · cases h
      · rename_i hname
        have step : ∀ (x y : Value) (va' vb' : List Value) (q : Bool) (u : TypeDesc), va = x :: va' → vb = y :: vb' → P.underlying f.type = some u → aggT P f.type = some false →
            (Op.equalIn (d + 1) f.type x y).run P w = .ok q w → ∀ r', (Op.eqFields (d + 1) (pa ++ va).toArray (pb ++ vb).toArray fs).run P w = .ok r' w →
            (Op.eqFields (d + 1) (pa ++ va).toArray (pb ++ vb).toArray (f :: fs)).run P w = .ok (q && r') w := by
          intro x y va' vb' q u hva hvb hu hag hq r' hr'
          have g1 : (pa ++ va).toArray[f.offset]? = some x := by rw [hva, hoff]; simp [← hpa]
          have g2 : (pb ++ vb).toArray[f.offset]? = some y := by rw [hvb, hoff]; simp [← hpb]
          unfold Op.eqFields
          rw [if_pos hname]
          simp only [Sem.run_bind, run_part_one hag g1, run_part_one hag g2, Result.andThen_ok, hq, Sem.run_ite, Sem.run_pure]
          cases q <;> simp [hr']
        have rest : ∀ (x y : Value) (va' vb' : List Value) (r' : Bool), va = x :: va' → vb = y :: vb' → CellsRel Im ι w cs va' → CellsRel Im ι w ds vb' → eqFieldsSV P fs (j + 1) cs ds = some r' →
            (Op.eqFields (d + 1) (pa ++ va).toArray (pb ++ vb).toArray fs).run P w = .ok r' w := by
          intro x y va' vb' r' hva hvb k1 k2 k3
          have := eqFieldsSV_sem (pa := pa ++ [x]) (pb := pb ++ [y]) (d := d) k3 k1 k2 (by simp [hpa]) (by simp [hpb])
          rw [hva, hvb]
          simpa using this
        split at h
        · rename_i k0 k a k' b hu
          split at h
          · rename_i hk
            subst hk
            split at h
            · rename_i r' hr'
              simp only [Option.some.injEq] at h
              subst h
              obtain ⟨xa, va', rfl, _, k1, k2⟩ := cellsRel_cons h1
              obtain ⟨x, rfl, hx⟩ := cellsRel_one_inv (s := .int k a) rfl k1
              cases hx
              obtain ⟨xb, vb', rfl, _, k3, k4⟩ := cellsRel_cons h2
              obtain ⟨y, rfl, hy⟩ := cellsRel_one_inv (s := .int k b) rfl k3
              cases hy
              refine step _ _ va' vb' _ _ rfl rfl hu (by simp [aggT, hu]) ?_ r' (rest _ _ va' vb' r' rfl rfl k2 k4 hr')
              simp [Op.equalIn, run_underlying hu]
              rfl
            · cases h
          · cases h
        · rename_i a b hu
          split at h
          · rename_i r' hr'
            simp only [Option.some.injEq] at h
            subst h
            obtain ⟨xa, va', rfl, _, k1, k2⟩ := cellsRel_cons h1
            obtain ⟨x, rfl, hx⟩ := cellsRel_one_inv (s := .bool a) rfl k1
            cases hx
            obtain ⟨xb, vb', rfl, _, k3, k4⟩ := cellsRel_cons h2
            obtain ⟨y, rfl, hy⟩ := cellsRel_one_inv (s := .bool b) rfl k3
            cases hy
            refine step _ _ va' vb' _ _ rfl rfl hu (by simp [aggT, hu]) ?_ r' (rest _ _ va' vb' r' rfl rfl k2 k4 hr')
            simp [Op.equalIn, run_underlying hu]
            rfl
          · cases h
        · rename_i a b hu
          split at h
          · rename_i r' hr'
            simp only [Option.some.injEq] at h
            subst h
            obtain ⟨xa, va', rfl, _, k1, k2⟩ := cellsRel_cons h1
            obtain ⟨x, rfl, hx⟩ := cellsRel_one_inv (s := .str a) rfl k1
            obtain ⟨rfl, _⟩ := hx
            obtain ⟨xb, vb', rfl, _, k3, k4⟩ := cellsRel_cons h2
            obtain ⟨y, rfl, hy⟩ := cellsRel_one_inv (s := .str b) rfl k3
            obtain ⟨rfl, _⟩ := hy
            refine step _ _ va' vb' _ _ rfl rfl hu (by simp [aggT, hu]) ?_ r' (rest _ _ va' vb' r' rfl rfl k2 k4 hr')
            have hb : ((⟨a.toArray⟩ : ByteArray) == ⟨b.toArray⟩) = decide (a = b) := by
              rw [beq_toListBytes, ByteArray.toList_eq, ByteArray.toList_eq]
              simp only [List.toList_toArray]
              by_cases hab : a = b
              · subst hab; simp
              · rw [decide_eq_false hab]; exact beq_eq_false_iff_ne.2 hab
            simp [Op.equalIn, run_underlying hu, hb]
          · cases h
        · cases h
    · cases h
  | [], _, [], _ :: _, _, _, _, _, _, _, h, _, _, _, _ => by simp [eqFieldsSV] at h
  | [], _, _ :: _, _, _, _, _, _, _, _, h, _, _, _, _ => by simp [eqFieldsSV] at h
  | _ :: _, _, [], _, _, _, _, _, _, _, h, _, _, _, _ => by simp [eqFieldsSV] at h
  | _ :: _, _, _ :: _, [], _, _, _, _, _, _, h, _, _, _, _ => by simp [eqFieldsSV] at h
theorem eqFields_guard : ∀ {fs : List Field} {j : Nat} {cs ds : List SV} {r : Bool} {n : Nat}, eqFieldsSV P fs j cs ds = some r → (fs.any fun f => f.name != "_" && P.eqGuardType (n + 1) f.type) = false
  | [], _, _, _, _, _, _ => rfl
  | f :: fs, j, c :: cs, e :: ds, r, n, h => by
    unfold eqFieldsSV at h
    split at h
    · split at h
      · cases h
      · have sub : ∀ {r' : Bool}, eqFieldsSV P fs (j + 1) cs ds = some r' → P.eqGuardType (n + 1) f.type = false → ((f :: fs).any fun f => f.name != "_" && P.eqGuardType (n + 1) f.type) = false := by
          intro r' hr' hg
          rw [List.any_cons, hg, Bool.and_false, Bool.false_or]
          exact eqFields_guard hr'
        split at h
        · rename_i hu
          split at h
          · split at h
            · rename_i hr'
              exact sub hr' (by simp [Program.eqGuardType, hu])
            · cases h
          · cases h
        · rename_i hu
          split at h
          · rename_i hr'
            exact sub hr' (by simp [Program.eqGuardType, hu])
          · cases h
        · rename_i hu
          split at h
          · rename_i hr'
            exact sub hr' (by simp [Program.eqGuardType, hu])
          · cases h
        · cases h
    · cases h
  | _ :: _, _, [], _, _, _, h => by simp [eqFieldsSV] at h
  | _ :: _, _, _ :: _, [], _, _, h => by simp [eqFieldsSV] at h
theorem run_eqItems_ints {E : TypeId} {k0 k : IntKind} (hE : P.underlying E = some (.int k0)) (l l' : List Int) (d : Nat) : ∀ is : List Nat, (∀ i ∈ is, i < l.length ∧ i < l'.length) →
    (Op.eqItems (d + 1) E 1 (l.map (Value.int k)).toArray (l'.map (Value.int k)).toArray is).run P w = .ok (is.all fun i => decide (l.getD i 0 = l'.getD i 0)) w
  | [], _ => by simp [Op.eqItems]
  | i :: is, h => by
    have hi := h i (by simp)
    have ih := run_eqItems_ints (k := k) hE l l' d is (fun j hj => h j (by simp [hj]))
    have px : (part E (l.map (Value.int k)).toArray (i * 1)).run P w = .ok (.int k (l.getD i 0)) w := run_part_one (by simp [aggT, hE]) (by simp [List.getD, List.getElem?_eq_getElem hi.1])
    have py : (part E (l'.map (Value.int k)).toArray (i * 1)).run P w = .ok (.int k (l'.getD i 0)) w := run_part_one (by simp [aggT, hE]) (by simp [List.getD, List.getElem?_eq_getElem hi.2])
    have pe : (Op.equalIn (d + 1) E (.int k (l.getD i 0)) (.int k (l'.getD i 0))).run P w = .ok (decide (l.getD i 0 = l'.getD i 0)) w := by
      simp [Op.equalIn, run_underlying hE]
      rfl
    simp only [Op.eqItems, Sem.run_bind, px, py, pe, Result.andThen_ok, List.all_cons]
    cases decide (l.getD i 0 = l'.getD i 0) <;> simp [ih]
theorem all_getD {l l' : List Int} {n : Nat} (h1 : l.length = n) (h2 : l'.length = n) : ((List.range n).all fun i => decide (l.getD i 0 = l'.getD i 0)) = decide (l = l') := by
  by_cases h : l = l'
  · subst h; simp
  · rw [decide_eq_false h, List.all_eq_false]
    refine Classical.byContradiction fun hn => h ?_
    apply List.ext_getElem (h1.trans h2.symm)
    intro i hi hi'
    have : ¬ ¬ decide (l.getD i 0 = l'.getD i 0) = true := fun hc => hn ⟨i, List.mem_range.2 (by omega), hc⟩
    simpa [List.getD, hi, hi'] using this
theorem run_equalIn_ints {T E : TypeId} {n : Nat} {k0 k : IntKind} (hu : P.underlying T = some (.array n E)) (hE : P.underlying E = some (.int k0)) (hsz : P.cellsOf E = 1) {l l' : List Int} (h1 : l.length = n) (h2 : l'.length = n) (d : Nat) :
    (Op.equalIn (d + 2) T (.agg (l.map (Value.int k)).toArray) (.agg (l'.map (Value.int k)).toArray)).run P w = .ok (decide (l = l')) w := by
  obtain ⟨i, hi⟩ := info_of_underlying hE
  rw [run_equalIn_array w (d + 1) _ _ hu hi, hsz, run_eqItems_ints hE l l' d _ (fun j hj => by have := List.mem_range.1 hj; omega), all_getD h1 h2]
theorem eqAgg_sem {T : TypeId} {cs ds : List SV} {r : Bool} {va vb : List Value} (h : eqAgg P T cs ds = some r) (h1 : CellsRel Im ι w cs va) (h2 : CellsRel Im ι w ds vb) :
    (Op.equal T (.agg va.toArray) (.agg vb.toArray)).run P w = .ok r w ∧ P.eqGuardType P.depth T = false := by
  obtain ⟨dd, hdd⟩ := depth_succ P
  unfold eqAgg at h
  split at h
  · rename_i n E hu
    split at h
    · rename_i k0 m k l m' k' l' hE
      split at h
      · rename_i hm
        split at h
        · rename_i hm'
          split at h
          · rename_i hk
            split at h
            · rename_i hsz
              simp only [Option.some.injEq] at h
              subst h hk hm hm'
              obtain ⟨e1, vz, rfl, hz⟩ := cellsRel_arrI_inv h1
              cases (show vz = [] from hz)
              obtain ⟨e2, vz', rfl, hz'⟩ := cellsRel_arrI_inv h2
              cases (show vz' = [] from hz')
              simp only [List.append_nil]
              exact ⟨run_equalIn_ints hu hE hsz e1 e2 9998, by rw [hdd]; simp [Program.eqGuardType, hu, hE]⟩
            · cases h
          · cases h
        · cases h
      · cases h
    · cases h
  · rename_i fs hu
    split at h
    · rename_i hst
      have hf : P.fieldsOf T = fs := by simp [Program.fieldsOf, hu]
      have h3 := eqFieldsSV_sem (pa := []) (pb := []) (d := 9998) h h1 h2 rfl rfl
      have h4 := run_equalIn_struct (P := P) w 9999 T va.toArray vb.toArray (by rw [hf]; exact hu) hst
      rw [hf] at h4
      refine ⟨h4.trans (by simpa using h3), ?_⟩
      rw [hdd]
      have h5 := eqFields_guard (n := dd) h
      simp only [Program.eqGuardType, hu]
      rw [← Array.any_toList]
      exact h5
    · cases h
  · cases h
theorem binOp_eq {T : TypeId} {a b : Value} (h : (∀ k n, ¬ (a = .int k n)) ∧ (∀ s, a ≠ .string s) ∧ (∀ k n, a ≠ .float k n) ∧ (∀ k n m, a ≠ .complex k n m)) :
    binOp .eql T a b = (do pure (.bool (← Op.equal T a b))) ∧ binOp .neq T a b = (do pure (.bool (!(← Op.equal T a b)))) := by
  cases a <;> first
    | (exfalso; exact h.1 _ _ rfl)
    | (exfalso; exact h.2.1 _ rfl)
    | (exfalso; exact h.2.2.1 _ _ rfl)
    | (exfalso; exact h.2.2.2 _ _ _ rfl)
    | exact ⟨rfl, rfl⟩
theorem equalIn_pnil (d : Nat) {T E : TypeId} (hu : P.underlying T = some (.pointer E)) (o : Option Addr) : (Op.equalIn (d + 1) T (.pointer o) (.pointer none)).run P w = .ok o.isNone w := by
  cases o <;> simp [Op.equalIn, run_underlying hu]
theorem equalIn_snil (d : Nat) {T E : TypeId} (hu : P.underlying T = some (.slice E)) (o : Option Addr) (n c : Nat) : (Op.equalIn (d + 1) T (.slice o n c) (.slice none 0 0)).run P w = .ok o.isNone w := by
  cases o <;> simp [Op.equalIn, run_underlying hu]
def negIf (neg b : Bool) : Bool := if neg then !b else b
def negOR (neg : Bool) (r : OR) : OR := if neg then negAny r else r
theorem nilEqP_sem {x : SV} {vx : Value} (hx : VRel Im ι w x vx) {run : Result Next} (neg : Bool)
    (hr : ∀ o : Option Addr, vx = .pointer o → run = .ok (.value (.bool (negIf neg o.isNone))) w) : ORSem P Im ι w run (negOR neg (nilEqP x)) := by
  unfold nilEqP
  split
  · cases hx
    have := hr none rfl
    cases neg <;> exact ⟨_, this, rfl⟩
  · obtain ⟨r, _, rfl⟩ := hx
    have := hr _ rfl
    cases neg <;> exact ⟨_, this, rfl⟩
  · obtain ⟨r, _, rfl⟩ := hx
    have := hr _ rfl
    cases neg <;> exact ⟨_, this, rfl⟩
  · obtain ⟨r, _, rfl, _⟩ := hx
    have := hr _ rfl
    cases neg <;> exact ⟨_, this, rfl⟩
  · obtain ⟨r, _, _, _, _, rfl⟩ := hx
    have := hr _ rfl
    cases neg <;> exact ⟨_, this, rfl⟩
  · cases neg <;> trivial
theorem nilEqS_sem {x : SV} {vx : Value} (hx : VRel Im ι w x vx) {run : Result Next} (neg : Bool)
    (hr : ∀ (o : Option Addr) n c, vx = .slice o n c → run = .ok (.value (.bool (negIf neg o.isNone))) w) : ORSem P Im ι w run (negOR neg (nilEqS x)) := by
  unfold nilEqS
  split
  · cases hx
    have := hr none _ _ rfl
    cases neg <;> exact ⟨_, this, rfl⟩
  · obtain ⟨a, rfl⟩ := hx
    have := hr _ _ _ rfl
    cases neg <;> exact ⟨_, this, trivial⟩
  · rename_i e l
    have key : ∃ o n c, vx = .slice o n c ∧ (o.isNone = true → l = []) := by
      obtain ⟨a, cap, h1, _, _, h4⟩ := CRel.slice hx
      refine ⟨a, _, cap, h1, fun ha => ?_⟩
      cases l with
      | nil => rfl
      | cons r rs =>
        obtain ⟨ad, xs, rfl, _⟩ := h4 (by simp)
        simp at ha
    obtain ⟨o, n, c, rfl, hl⟩ := key
    have := hr _ _ _ rfl
    cases neg
    · exact ⟨_, this, hl⟩
    · exact ⟨_, this, fun h => hl (by simpa [negIf] using h)⟩
  · cases neg <;> trivial
theorem bytes_beq (a b : List UInt8) : ((⟨a.toArray⟩ : ByteArray).toList == (⟨b.toArray⟩ : ByteArray).toList) = decide (a = b) := by
  rw [ByteArray.toList_eq, ByteArray.toList_eq]
  simp only [List.toList_toArray]
  by_cases hab : a = b
  · subst hab; simp
  · rw [decide_eq_false hab]; exact beq_eq_false_iff_ne.2 hab
theorem bytes_append (a b : List UInt8) : (⟨a.toArray⟩ : ByteArray) ++ ⟨b.toArray⟩ = ⟨(a ++ b).toArray⟩ := by
  have hd : ((⟨a.toArray⟩ : ByteArray) ++ ⟨b.toArray⟩).data = (⟨(a ++ b).toArray⟩ : ByteArray).data := by
    rw [ByteArray.data_append]; simp
  cases h1 : (⟨a.toArray⟩ : ByteArray) ++ ⟨b.toArray⟩
  rw [h1] at hd
  exact congrArg ByteArray.mk hd
theorem vrel_notAgg {x : SV} {vx : Value} (h : x.one = true) (hx : VRel Im ι w x vx) : ∀ c, vx ≠ .agg c := by
  intro c e
  have := one_cell h hx
  subst e
  simp [Value.oneCell'] at this
/-- The guard ahead of a comparison, and the comparison. -/
theorem run_bin {op : BinOp} {T : TypeId} {x y : Operand} {a b v : Value} (h1 : (eqGuard op T x y a b).run P w = .ok () w) (h2 : (binOp op T a b).run P w = .ok v w) :
    ((do let r ← (do eqGuard op T x y a b; binOp op T a b : Sem Value); pure (.value r) : Sem Next)).run P w = .ok (.value v) w := by
  simp [h1, h2]
theorem orsem_bin {op : BinOp} {T : TypeId} {x y : Operand} {a b : Value} {r : OR} (h1 : (eqGuard op T x y a b).run P w = .ok () w) (h2 : ORSem P Im ι w ((do let r ← binOp op T a b; pure (.value r) : Sem Next).run P w) r) :
    ORSem P Im ι w ((do let r ← (do eqGuard op T x y a b; binOp op T a b : Sem Value); pure (.value r) : Sem Next).run P w) r := by
  have e : ((do let r ← (do eqGuard op T x y a b; binOp op T a b : Sem Value); pure (.value r) : Sem Next)).run P w = (do let r ← binOp op T a b; pure (.value r) : Sem Next).run P w := by simp [h1]
  rw [e]; exact h2
theorem evBin_sem {hp : List Blk} {op : BinOp} {T : TypeId} {ox oy : Operand} {x y : SV} {vx vy : Value} (hx : VRel Im ι w x vx) (hy : VRel Im ι w y vy) :
    ORSem P Im ι w ((do let r ← (do eqGuard op T ox oy vx vy; binOp op T vx vy : Sem Value); pure (.value r) : Sem Next).run P w) (evBin P hp op T x y) := by
  unfold evBin
  split
  · rename_i k a k' b
    cases hx
    cases hy
    intro h0
    have h1 : ¬ b < 0 := by omega
    exact ⟨_, run_bin (run_eqGuard_other (by simp)) (by simp [binOp, Op.shift, h1]; rfl), rfl⟩
  · rename_i k a k' b
    cases hx
    cases hy
    intro h0
    have h1 : ¬ b < 0 := by omega
    exact ⟨_, run_bin (run_eqGuard_other (by simp)) (by simp [binOp, Op.shift, h1]; rfl), rfl⟩
  · rename_i op' k a k' b h1 h2
    cases hx
    cases hy
    split
    · rename_i hk
      subst hk
      refine orsem_bin (run_eqGuard_other (by simp)) ?_
      rw [binOp_int]
      exact evInt_sem ⟨h1, h2⟩
    · trivial
  · rename_i a b
    cases hx
    cases hy
    split
    · rename_i hu
      exact ⟨_, run_bin (run_eqGuard_other (by simp)) (by simp [binOp, run_equal_bool (P := P) w T a b hu]), rfl⟩
    · trivial
  · rename_i a b
    cases hx
    cases hy
    split
    · rename_i hu
      exact ⟨_, run_bin (run_eqGuard_other (by simp)) (by simp [binOp, run_equal_bool (P := P) w T a b hu]; rfl), by cases a <;> cases b <;> rfl⟩
    · trivial
  · rename_i a b
    obtain ⟨rfl, _⟩ := hx
    obtain ⟨rfl, _⟩ := hy
    exact ⟨.bool (decide (a = b)), run_bin (run_eqGuard_other (by simp)) (by simp only [binOp, Op.stringOp, bytes_beq, Sem.run_pure]), rfl⟩
  · rename_i a b
    obtain ⟨rfl, _⟩ := hx
    obtain ⟨rfl, _⟩ := hy
    exact ⟨.bool (decide (a ≠ b)), run_bin (run_eqGuard_other (by simp)) (by simp only [binOp, Op.stringOp, bytes_beq, Sem.run_pure, decide_not, ne_eq]), rfl⟩
  · rename_i a b
    obtain ⟨rfl, _⟩ := hx
    obtain ⟨rfl, _⟩ := hy
    intro hn
    have h1 : ¬ (((⟨a.toArray⟩ : ByteArray).size + (⟨b.toArray⟩ : ByteArray).size : Nat) : Int) > IntKind.i64.max := by
      rw [size_bytes, size_bytes]
      simp [IntKind.max, IntKind.signed, IntKind.bits]
      omega
    refine ⟨.string ⟨(a ++ b).toArray⟩, run_bin (run_eqGuard_other (by simp)) ?_, rfl, by simp [maxLen]; omega⟩
    simp only [binOp, Op.stringOp, if_neg h1, bytes_append, Sem.run_pure]
  · rename_i cs ds
    obtain ⟨va, rfl, h1⟩ := hx
    obtain ⟨vb, rfl, h2⟩ := hy
    split
    · rename_i r hr
      obtain ⟨h3, h4⟩ := eqAgg_sem hr h1 h2
      exact ⟨_, run_bin (run_eqGuard_agg h4) (by simp [binOp, h3]), rfl⟩
    · trivial
  · rename_i cs ds
    obtain ⟨va, rfl, h1⟩ := hx
    obtain ⟨vb, rfl, h2⟩ := hy
    split
    · rename_i r hr
      obtain ⟨h3, h4⟩ := eqAgg_sem hr h1 h2
      exact ⟨_, run_bin (run_eqGuard_agg h4) (by simp [binOp, h3]), rfl⟩
    · trivial
  · rename_i x'
    cases hy
    split
    · rename_i E hu
      refine nilEqP_sem hx false (fun o ho => ?_)
      subst ho
      have h := equalIn_pnil (w := w) 9999 hu o
      exact run_bin (run_eqGuard_other (by simp)) (by simp only [binOp, Sem.run_bind]; rw [show (Op.equal T (.pointer o) (.pointer none)).run P w = .ok o.isNone w from h]; rfl)
    · trivial
  · rename_i x'
    cases hy
    split
    · rename_i E hu
      refine nilEqP_sem hx true (fun o ho => ?_)
      subst ho
      have h := equalIn_pnil (w := w) 9999 hu o
      exact run_bin (run_eqGuard_other (by simp)) (by simp only [binOp, Sem.run_bind]; rw [show (Op.equal T (.pointer o) (.pointer none)).run P w = .ok o.isNone w from h]; rfl)
    · trivial
  · rename_i x'
    cases hy
    split
    · rename_i E hu
      refine nilEqS_sem hx false (fun o n c ho => ?_)
      subst ho
      have h := equalIn_snil (w := w) 9999 hu o n c
      exact run_bin (run_eqGuard_other (by simp)) (by simp only [binOp, Sem.run_bind]; rw [show (Op.equal T (.slice o n c) (.slice none 0 0)).run P w = .ok o.isNone w from h]; rfl)
    · trivial
  · rename_i x'
    cases hy
    split
    · rename_i E hu
      refine nilEqS_sem hx true (fun o n c ho => ?_)
      subst ho
      have h := equalIn_snil (w := w) 9999 hu o n c
      exact run_bin (run_eqGuard_other (by simp)) (by simp only [binOp, Sem.run_bind]; rw [show (Op.equal T (.slice o n c) (.slice none 0 0)).run P w = .ok o.isNone w from h]; rfl)
    · trivial
  · trivial
theorem evUn_sem {op : UnOp} {x : SV} {vx : Value} (hx : VRel Im ι w x vx) : ORSem P Im ι w ((do let r ← Op.unary op vx; pure (.value r) : Sem Next).run P w) (evUn op x) := by
  unfold evUn
  split
  · cases hx
    exact ⟨_, by simp [Op.unary], rfl⟩
  · cases hx
    exact evArith_sem (by simp [Op.unary, Op.intArith])
  · trivial
end
end Go.Avc
