/-
  AVC, part I: builtins and operators.
-/
import Derived.Test.YtfikklbaceidfaaDoorAvcH
namespace Go.Avc
set_option linter.unusedVariables false
set_option linter.unusedSimpArgs false
section
variable {P : Program} {Im : Nat → Prop} {ι : Nat → Option Value} {w : World}

theorem firstCells_none (w' : World) (sz c : Nat) : (Builtin.firstCells sz 0 (.slice none 0 c)).run P w' = .ok #[] w' := run_firstCells_none w' sz 0 0 c
theorem newRows_sem {hp : List Blk} (hh : HV Im ι w hp) {y : SV} {vy : Value} {e : List CSh} {m : List (List CD)} (h : newRows hp y = some (e, m)) (hy : VRel Im ι w y vy) :
    ∃ news : List Value, (Builtin.lenOf vy).run P w = .ok m.length w ∧ news.length = m.length * e.length ∧ (∀ w' : World, w'.heap = w.heap → (Builtin.firstCells e.length m.length vy).run P w' = .ok news.toArray w') ∧ FlatRel Im w e m news := by
  unfold newRows at h
  split at h
  · rename_i l
    simp only [Option.some.injEq, Prod.mk.injEq] at h
    obtain ⟨rfl, rfl⟩ := h
    obtain ⟨rfl, hl⟩ := hy
    refine ⟨(l.map fun b => (b.toNat : Int)).map (Value.int .u8), ?_, ?_, ?_, ?_⟩
    · simp [Builtin.lenOf, size_bytes, rowsOfBytes]
    · simp [rowsOfBytes]
    · intro w' _
      have e1 : (⟨l.toArray⟩ : ByteArray).extract 0 (rowsOfBytes l).length = ⟨l.toArray⟩ := by
        rw [extract_bytes _ _ _ (by simp [rowsOfBytes])]
        simp [rowsOfBytes]
      simp only [Builtin.firstCells, e1, Sem.run_pure]
      congr 1
      simp [Function.comp_def]
    · have e1 : rowsOfBytes l = (l.map fun b => (b.toNat : Int)).map fun x => [CD.int x] := by simp [rowsOfBytes, Function.comp_def]
      rw [e1]
      exact ints_flat _
  · obtain ⟨a, cap, rfl, h1, h2, h3⟩ := view_sem hh h hy
    have hlen : (Builtin.lenOf (.slice a m.length cap)).run P w = .ok m.length w := by simp [Builtin.lenOf]
    by_cases hz : m = []
    · subst hz
      refine ⟨[], hlen, by simp, fun w' _ => ?_, .nil e⟩
      cases a with
      | none => exact firstCells_none w' _ _
      | some ad => exact run_firstCells_some (P := P) w' e.length 0 ad 0 cap [] (by simp) (by simp)
    · obtain ⟨ad, xs, rfl, h4, h5⟩ := h3 (List.length_pos_iff.2 hz)
      refine ⟨xs, hlen, h4.length, fun w' hw => ?_, h4⟩
      exact run_firstCells_some (P := P) w' e.length m.length ad m.length cap xs h4.length (fun j u hu => by
        have := h5 j u hu
        simpa [World.cell?, hw] using this)
theorem evAppend_sem {zero : TypeId → Option (List SV)} (hz : ZeroOk P zero) {hp : List Blk} (hh : HV Im ι w hp) {T T2 ty : TypeId} {x y : SV} {vx vy : Value} (hx : VRel Im ι w x vx) (hy : VRel Im ι w y vy) :
    ORSem P Im ι w ((do let r ← Builtin.append_ #[T, T2] ty #[vx, vy]; pure (.value r) : Sem Next).run P w) (evAppend P hp zero T T2 x y) := by
  unfold evAppend
  split
  · rename_i E d2 hu hu2
    split
    · rename_i e z he hzE
      split
      · rename_i hsz
        split
        · trivial
        · rename_i he0
          split
          · rename_i hd2
            have hd2' : d2 = .string ∨ ∃ E2, d2 = .slice E2 := by
              cases d2 <;> simp [isRun] at hd2 ⊢
            split
            · rename_i e2 m hm
              split
              · rename_i hbe
                have hee := CSh.beqs_eq _ _ hbe
                subst hee
                obtain ⟨i, zv, h1, h2, h3, h4⟩ := hz E z hzE
                have hisz : i.size = e.length := by rw [hsz]; simp [Program.cellsOf, h1]
                have hby : P.bytesOf E = i.bytes := by simp [Program.bytesOf, h1]
                have hnews : ∃ news : List Value, (Builtin.lenOf vy).run P w = .ok m.length w ∧ news.length = m.length * e.length ∧ (∀ w' : World, w'.heap = w.heap → (Builtin.firstCells e.length m.length vy).run P w' = .ok news.toArray w') ∧ FlatRel Im w e m news := by
                  split at hm
                  · simp only [Option.some.injEq, Prod.mk.injEq] at hm
                    obtain ⟨_, rfl⟩ := hm
                    cases hy
                    exact ⟨[], by simp [Builtin.lenOf], by simp, fun w' _ => firstCells_none w' _ _, .nil e⟩
                  · simp only [Option.some.injEq, Prod.mk.injEq] at hm
                    obtain ⟨_, rfl⟩ := hm
                    obtain ⟨a, rfl⟩ := hy
                    refine ⟨[], by simp [Builtin.lenOf], by simp, fun w' _ => ?_, .nil e⟩
                    cases a with
                    | none => exact firstCells_none w' _ _
                    | some ad => exact run_firstCells_some (P := P) w' e.length 0 ad 0 0 [] (by simp) (by simp)
                  · exact newRows_sem hh hm hy
                obtain ⟨news, n1, n2, n3, n4⟩ := hnews
                split
                · cases hx
                  rintro ⟨hb1, hb2⟩
                  have hown : OwnV w E e.length (.slice none 0 0) 0 [] := ⟨by simp, .inl ⟨none, rfl, rfl⟩⟩
                  obtain ⟨v', w', r1, r2, r3, r4, r5⟩ := run_append_gen (ty := ty) hu hu2 hd2' h1 h2 hisz (by omega) (by rw [h3, hisz]) hown n1 n2 n3 n4.cells (by omega) (by rw [← hby, Nat.zero_add]; omega)
                  simp only [Nat.zero_add, List.nil_append] at r4
                  exact ⟨v', w', news, run_val r1, r2, r3, r4, n4, fun k hk => (r5 k hk).resolve_left (by simp [foot])⟩
                · obtain ⟨a, rfl⟩ := hx
                  rintro ⟨hb1, hb2⟩
                  have hown : OwnV w E e.length (.slice a 0 0) 0 [] := ⟨by simp, .inl ⟨a, rfl, rfl⟩⟩
                  obtain ⟨v', w', r1, r2, r3, r4, r5⟩ := run_append_gen (ty := ty) hu hu2 hd2' h1 h2 hisz (by omega) (by rw [h3, hisz]) hown n1 n2 n3 n4.cells (by omega) (by rw [← hby, Nat.zero_add]; omega)
                  simp only [Nat.zero_add, List.nil_append] at r4
                  have hf : foot (.slice a 0 0) = none := by cases a <;> simp [foot]
                  rw [hf] at r2 r5
                  exact ⟨v', w', news, run_val r1, r2, r3, r4, n4, fun k hk => (r5 k hk).resolve_left (by simp)⟩
                · rename_i b
                  obtain ⟨hb, _⟩ := hx
                  split
                  · rename_i E' e' l hbl
                    split
                    · rename_i hEE
                      subst hEE
                      split
                      · rename_i hbe'
                        have hee' := CSh.beqs_eq _ _ hbe'
                        subst hee'
                        rintro ⟨hb1, hb2⟩
                        obtain ⟨xs, hown, hf⟩ := hh.own hbl hb
                        obtain ⟨v', w', r1, r2, r3, r4, r5⟩ := run_append_gen (ty := ty) hu hu2 hd2' h1 h2 hisz (by omega) (by rw [h3, hisz]) hown n1 n2 n3 n4.cells (by omega) (by rw [← hby]; omega)
                        refine ⟨vx, v', w', xs ++ news, hb, run_val r1, r2, r3, ?_, hf.append n4, r5⟩
                        rw [List.length_append]
                        exact r4
                      · trivial
                    · trivial
                  · trivial
                · trivial
              · trivial
            · trivial
          · trivial
      · trivial
    · trivial
  · trivial
theorem lenOf_sem {hp : List Blk} (hh : HV Im ι w hp) {x : SV} {vx : Value} {run : Result Next} (hx : VRel Im ι w x vx)
    (hr : ∀ (n : Nat) a c, vx = .slice a n c → run = .ok (.value (goInt n)) w) : ORSem P Im ι w run (lenOf hp x) := by
  unfold lenOf
  split
  · rename_i e l
    obtain ⟨a, cap, rfl, h1, h2, _⟩ := CRel.slice hx
    exact ⟨by simp [maxLen] at h2; omega, _, hr _ _ _ rfl, rfl⟩
  · cases hx
    exact ⟨_, hr 0 _ _ rfl, rfl⟩
  · obtain ⟨a, rfl⟩ := hx
    exact ⟨_, hr 0 _ _ rfl, rfl⟩
  · rename_i b c N lo n
    obtain ⟨r, cap, h1, rfl, h2, h3, h4⟩ := hx
    exact ⟨by simp [maxLen] at h3; omega, _, hr _ _ _ rfl, rfl⟩
  · rename_i b
    obtain ⟨h1, _⟩ := hx
    split
    · rename_i T e l hb
      obtain ⟨xs, h2, h3⟩ := hh.own hb h1
      obtain ⟨a, cap, rfl, h4, h5, _⟩ := h2.slice
      exact ⟨by simp [maxLen] at h5; omega, _, hr _ _ _ rfl, rfl⟩
    · rename_i e l hb
      obtain ⟨a, cap, rfl, h4, h5, _⟩ := CRel.slice (hh.ro hb h1)
      exact ⟨by simp [maxLen] at h5; omega, _, hr _ _ _ rfl, rfl⟩
    · trivial
  · trivial
theorem wrap_in (k : IntKind) (n : Int) (h : k = .i64) (h2 : inI64 n) : k.wrap n = n := by
  subst h
  rw [IntKind.wrap_i64]
  unfold inI64 at h2
  omega
theorem evArith_sem {k : IntKind} {n : Int} {run : Result Next} (hr : run = .ok (.value (.int k (k.wrap n))) w) : ORSem P Im ι w run (evArith k n) := by
  unfold evArith
  split
  · intro hn
    rw [wrap_in _ n rfl hn] at hr
    exact ⟨_, hr, rfl⟩
  · exact ⟨_, hr, rfl⟩
theorem wrap_nonneg (k : IntKind) (n : Int) (h0 : 0 ≤ n) (h1 : n ≤ k.max) : k.wrap n = n := by
  cases k <;> simp [IntKind.wrap, IntKind.max, IntKind.signed, IntKind.bits] at * <;> omega
theorem evInt_sem {op : BinOp} {k : IntKind} {a b : Int} (hop : op ≠ .shl ∧ op ≠ .shr) :
    ORSem P Im ι w ((do let y ← binOp op 0 (.int k a) (.int k b); pure (.value y) : Sem Next).run P w) (evInt op k a b) := by
  cases op <;> simp only [evInt]
  case add => exact evArith_sem (by simp [binOp, Op.intArith])
  case sub => exact evArith_sem (by simp [binOp, Op.intArith])
  case mul => exact evArith_sem (by simp [binOp, Op.intArith])
  case quo =>
    rintro ⟨h0, h1, h2⟩
    have h3 : ¬ b = 0 := by omega
    have h4 : a.tdiv b = a / b := Int.tdiv_eq_ediv_of_nonneg h0
    have h5 : k.wrap (a / b) = a / b := wrap_nonneg k _ (Int.ediv_nonneg h0 (by omega)) (Int.le_trans (Int.ediv_le_self _ h0) h2)
    exact ⟨_, by simp [binOp, Op.intDiv, h3, h4, h5], rfl⟩
  case rem =>
    rintro ⟨h0, h1⟩
    have h3 : ¬ b = 0 := by omega
    have h4 : a.tmod b = a % b := Int.tmod_eq_emod_of_nonneg h0
    exact ⟨_, by simp [binOp, Op.intDiv, h3, h4], rfl⟩
  case and => exact ⟨_, by simp [binOp, Op.intBits, bAnd], rfl⟩
  case or => exact ⟨_, by simp [binOp, Op.intBits, bOr], rfl⟩
  case xor => exact ⟨_, by simp [binOp, Op.intBits, bXor], rfl⟩
  case andNot => exact ⟨_, by simp [binOp, Op.intBits, bAndNot], rfl⟩
  case shl => exact absurd rfl hop.1
  case shr => exact absurd rfl hop.2
  case eql => exact ⟨_, by simp [binOp, Op.intCmp]; rfl, rfl⟩
  case neq => exact ⟨_, by simp [binOp, Op.intCmp]; rfl, rfl⟩
  case lss => exact ⟨_, by simp [binOp, Op.intCmp], rfl⟩
  case leq => exact ⟨_, by simp [binOp, Op.intCmp], rfl⟩
  case gtr => exact ⟨_, by simp [binOp, Op.intCmp], rfl⟩
  case geq => exact ⟨_, by simp [binOp, Op.intCmp], rfl⟩
theorem evBuiltin_sem {zero : TypeId → Option (List SV)} (hz : ZeroOk P zero) {hp : List Blk} (hh : HV Im ι w hp) {b : Builtin} {Ts : List TypeId} {ty : TypeId} {consts : Array Bool} {xs : List SV} {vs : List Value} (hx : VRels Im ι w xs vs) :
    ORSem P Im ι w ((builtin b Ts.toArray ty consts vs.toArray).run P w) (evBuiltin P hp zero b Ts xs) := by
  unfold evBuiltin
  split
  · rename_i T x
    obtain ⟨vx, vs', rfl, h1, h2⟩ := hx
    cases (show vs' = [] from h2)
    split
    · rename_i n E x' hu
      exact ⟨_, by simp [builtin, Builtin.len_, run_underlying hu]; rfl, rfl⟩
    · rename_i l hu
      obtain ⟨rfl, hl⟩ := h1
      exact ⟨by simpa [maxLen] using hl, _, by simp [builtin, Builtin.len_, run_underlying hu, size_bytes]; rfl, rfl⟩
    · rename_i E hu
      refine lenOf_sem hh h1 (fun n a c hn => ?_)
      subst hn
      simp [builtin, Builtin.len_, run_underlying hu]
    · trivial
  · rename_i T T2 x y
    obtain ⟨vx, vs', rfl, h1, vy, vs'', rfl, h2, h3⟩ := hx
    cases (show vs'' = [] from h3)
    exact evAppend_sem hz hh h1 h2
  · rename_i k a k' b'
    obtain ⟨vx, vs', rfl, h1, vy, vs'', rfl, h2, h3⟩ := hx
    cases (show vs'' = [] from h3)
    cases h1
    cases h2
    split
    · rename_i hk
      subst hk
      refine ⟨.int k (min a b'), ?_, rfl⟩
      have : (if b' < a then b' else a) = min a b' := by rw [Int.min_def]; split <;> split <;> omega
      simp [builtin, Builtin.min_, Builtin.min2, this]
    · trivial
  · rename_i k a k' b'
    obtain ⟨vx, vs', rfl, h1, vy, vs'', rfl, h2, h3⟩ := hx
    cases (show vs'' = [] from h3)
    cases h1
    cases h2
    split
    · rename_i hk
      subst hk
      refine ⟨.int k (max a b'), ?_, rfl⟩
      have : (if a < b' then b' else a) = max a b' := by rw [Int.max_def]; split <;> split <;> omega
      simp [builtin, Builtin.max_, Builtin.max2, this]
    · trivial
  · trivial
end
end Go.Avc
