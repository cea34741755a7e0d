/-
  AVC, part Y: patterns of states: what a state is like, but for its data; a state is told by a pattern with other names of blocks, and less of it.
-/
import Derived.Test.YtfikklbaceidfaaDoorAvcXD
import Derived.Test.YtfikklbaceidfaaDoorAvcU
namespace Go.Avc
set_option linter.unusedVariables false
set_option linter.unusedSimpArgs false

inductive Dat where
  | i (n : Int) | b (b : Bool) | s (l : List UInt8) | r (l : List (List CD)) | li (l : List Int) | lb (l : List Bool)
inductive Pat where
  | skip
  | int (k : IntKind)
  | bool
  | str
  | rd (e : List CSh)
  | own (i : Nat)
  | ptr (i c : Nat)
  | nilp
  | nils
  | agg (ps : List Pat)
  | arrI (n : Nat) (k : IntKind)
  | arrB (n : Nat)
  | tup (ps : List Pat)
  | fn (f : FuncId) (ps : List Pat)
  | nili
  | iface (t : TypeId) (p : Pat)
inductive BPat where
  | none
  | cells (T : TypeId) (ps : List Pat)
  | own (T : TypeId) (e : List CSh)

/-! ### Whatever fits -/
mutual
def allP : Pat → (SV → List Dat → Prop) → Prop
  | .skip, F => F .dead []
  | .int k, F => ∀ n, F (.int k n) [.i n]
  | .bool, F => ∀ b, F (.bool b) [.b b]
  | .str, F => ∀ l, F (.str l) [.s l]
  | .rd e, F => ∀ l, F (.rd e l) [.r l]
  | .own i, F => F (.own i) []
  | .ptr i c, F => F (.ptr i c) []
  | .nilp, F => F .nilp []
  | .nils, F => F .nils []
  | .agg ps, F => allPs ps fun svs ds => F (.agg svs) ds
  | .arrI n k, F => ∀ l, F (.arrI n k l) [.li l]
  | .arrB n, F => ∀ l, F (.arrB n l) [.lb l]
  | .tup ps, F => allPs ps fun svs ds => F (.tup svs) ds
  | .fn f ps, F => allPs ps fun svs ds => F (.fn f svs) ds
  | .nili, F => F .nili []
  | .iface t p, F => allP p fun sv ds => F (.iface t sv) ds
def allPs : List Pat → (List SV → List Dat → Prop) → Prop
  | [], F => F [] []
  | p :: ps, F => allP p fun sv d => allPs ps fun svs ds => F (sv :: svs) (d ++ ds)
end
def allB : BPat → (Blk → List Dat → Prop) → Prop
  | .none, F => F .none []
  | .cells T ps, F => allPs ps fun svs ds => F (.cells T svs) ds
  | .own T e, F => ∀ l, F (.own T e l) [.r l]
def allBs : List BPat → (List Blk → List Dat → Prop) → Prop
  | [], F => F [] []
  | p :: ps, F => allB p fun x d => allBs ps fun xs ds => F (x :: xs) (d ++ ds)
/-! ### The value of data -/
mutual
def instP : Pat → List Dat → SV × List Dat
  | .skip, ds => (.dead, ds)
  | .int k, .i n :: ds => (.int k n, ds)
  | .bool, .b b :: ds => (.bool b, ds)
  | .str, .s l :: ds => (.str l, ds)
  | .rd e, .r l :: ds => (.rd e l, ds)
  | .own i, ds => (.own i, ds)
  | .ptr i c, ds => (.ptr i c, ds)
  | .nilp, ds => (.nilp, ds)
  | .nils, ds => (.nils, ds)
  | .agg ps, ds => match instPs ps ds with | (svs, ds) => (.agg svs, ds)
  | .arrI n k, .li l :: ds => (.arrI n k l, ds)
  | .arrB n, .lb l :: ds => (.arrB n l, ds)
  | .tup ps, ds => match instPs ps ds with | (svs, ds) => (.tup svs, ds)
  | .fn f ps, ds => match instPs ps ds with | (svs, ds) => (.fn f svs, ds)
  | .nili, ds => (.nili, ds)
  | .iface t p, ds => match instP p ds with | (sv, ds) => (.iface t sv, ds)
  | _, ds => (.dead, ds)
def instPs : List Pat → List Dat → List SV × List Dat
  | [], ds => ([], ds)
  | p :: ps, ds => match instP p ds with | (sv, ds) => match instPs ps ds with | (svs, ds) => (sv :: svs, ds)
end
def instB : BPat → List Dat → Blk × List Dat
  | .none, ds => (.none, ds)
  | .cells T ps, ds => match instPs ps ds with | (svs, ds) => (.cells T svs, ds)
  | .own T e, .r l :: ds => (.own T e l, ds)
  | _, ds => (.none, ds)
def instBs : List BPat → List Dat → List Blk × List Dat
  | [], ds => ([], ds)
  | p :: ps, ds => match instB p ds with | (x, ds) => match instBs ps ds with | (xs, ds) => (x :: xs, ds)

/-! ### What is known of data that a value is told by -/
abbrev bigLen : Nat := 9223372036854775807
mutual
def impP : Pat → List Dat → (List Dat → Prop) → Prop
  | .int _, .i _ :: ds, K => K ds
  | .bool, .b _ :: ds, K => K ds
  | .str, .s l :: ds, K => l.length ≤ 9223372036854775807 → K ds
  | .rd _, .r l :: ds, K => l.length ≤ 9223372036854775807 → K ds
  | .agg ps, ds, K => impPs ps ds K
  | .arrI n _, .li l :: ds, K => l.length = n → K ds
  | .arrB n, .lb l :: ds, K => l.length = n → K ds
  | .tup ps, ds, K => impPs ps ds K
  | .fn _ ps, ds, K => impPs ps ds K
  | .iface _ p, ds, K => impP p ds K
  | _, ds, K => K ds
def impPs : List Pat → List Dat → (List Dat → Prop) → Prop
  | [], ds, K => K ds
  | p :: ps, ds, K => impP p ds fun ds => impPs ps ds K
end
def impB : BPat → List Dat → (List Dat → Prop) → Prop
  | .none, ds, K => K ds
  | .cells _ ps, ds, K => impPs ps ds K
  | .own _ _, .r l :: ds, K => l.length ≤ 9223372036854775807 → K ds
  | .own _ _, ds, K => K ds
/-- Of the blocks that values name. -/
def impBs (hs : List Nat) : Nat → List BPat → List Dat → (List Dat → Prop) → Prop
  | _, [], ds, K => K ds
  | i, p :: ps, ds, K => bif hs.contains i then impB p ds fun ds => impBs hs (i + 1) ps ds K else impBs hs (i + 1) ps (instB p ds).2 K

/-! ### A value told by a pattern -/
/-- ρ: a block's number, and its number in the pattern (β: the same, but for what came in and isn't told any more); fz: what is read alone from now on; nw: nothing, told as an own slice. -/
structure MS where
  ρ : List (Nat × Nat)
  β : List (Nat × Nat)
  fz : List Nat
  nw : List Nat
def memN : List Nat → Nat → Bool
  | [], _ => false
  | a :: l, b => bif Nat.beq a b then true else memN l b
def rhoI : List (Nat × Nat) → Nat → Option Nat
  | [], _ => none
  | (b, i) :: l, j => bif Nat.beq i j then some b else rhoI l j
def rhoB : List (Nat × Nat) → Nat → Option Nat
  | [], _ => none
  | (b, i) :: l, c => bif Nat.beq b c then some i else rhoB l c
def MS.bind (m : MS) (b i : Nat) : Option MS :=
  match m with
  | ⟨ρ, β, fz, nw⟩ => match rhoI ρ i, rhoB β b with
    | some b', some i' => bif Nat.beq b b' then (bif Nat.beq i i' then some ⟨ρ, β, fz, nw⟩ else none) else none
    | none, none => bif memN nw i then none else some ⟨(b, i) :: ρ, (b, i) :: β, fz, nw⟩
    | _, _ => none
def MS.freeze (m : MS) (b : Nat) : MS := match m with | ⟨ρ, β, fz, nw⟩ => bif memN fz b then ⟨ρ, β, fz, nw⟩ else ⟨ρ, β, b :: fz, nw⟩
def MS.new (m : MS) (i : Nat) : Option MS :=
  match m with
  | ⟨ρ, β, fz, nw⟩ => match rhoI ρ i with
    | none => bif memN nw i then none else some ⟨ρ, β, fz, i :: nw⟩
    | _ => none
section
variable (hp : List Blk)
def convRd0 (e : List CSh) (m : MS) : SV → Option (SV × List Dat × MS)
  | .rd e' l => bif CSh.beqs e e' then some (.rd e l, [.r l], m) else none
  | .nils => some (.rd e [], [.r []], m)
  | .e0 => some (.rd e [], [.r []], m)
  | .own b => (match hp.getD b .none with
    | .own _ e' l => bif CSh.beqs e e' then some (.rd e l, [.r l], m.freeze b) else none
    | _ => none)
  | .win b c N lo n => (match hp.getD b .none with
    | .cells _ cs => (match splitC cs c with
      | some (_, .arrI N' k l :: _) => bif Nat.beq N' N then (bif CSh.beqs e [.int k] then some (.rd e (((l.drop lo).take n).map fun x => [.int x]), [.r (((l.drop lo).take n).map fun x => [.int x])], m.freeze b) else none) else none
      | _ => none)
    | _ => none)
  | _ => none
def convRdL (e : List CSh) : List SV → MS → Option (List (List CD) × MS)
  | [], m => some ([], m)
  | sv :: svs, m => (match convRd0 hp e m sv with
    | some (.rd _ l, _, m) => (match convRdL e svs m with | some (rows, m) => some ([.sl l] :: rows, m) | none => none)
    | _ => none)
def convRd (e : List CSh) (m : MS) (sv : SV) : Option (SV × List Dat × MS) :=
  match sv with
  | .sls svs => (match e with
    | [.sl e1] => (match convRdL hp e1 svs m with | some (rows, m) => some (.rd e rows, [.r rows], m) | none => none)
    | _ => none)
  | sv => convRd0 hp e m sv
mutual
def conv : Pat → SV → MS → Option (SV × List Dat × MS)
  | .skip, sv, m => (match sv with | .arrI .. => none | .arrB .. => none | _ => some (.dead, [], m))
  | .int k, sv, m => (match sv with | .int k' n => if k' = k then some (.int k n, [.i n], m) else none | _ => none)
  | .bool, sv, m => (match sv with | .bool b => some (.bool b, [.b b], m) | _ => none)
  | .str, sv, m => (match sv with | .str l => some (.str l, [.s l], m) | _ => none)
  | .rd e, sv, m => convRd hp e m sv
  | .own i, sv, m => (match sv with
    | .own b => (match m.bind b i with | some m => some (.own i, [], m) | none => none)
    | .nils => (match m.new i with | some m => some (.own i, [], m) | none => none)
    | _ => none)
  | .ptr i c, sv, m => (match sv with
    | .ptr b c' => bif Nat.beq c c' then (match m.bind b i with | some m => some (.ptr i c, [], m) | none => none) else none
    | _ => none)
  | .nilp, sv, m => (match sv with | .nilp => some (.nilp, [], m) | _ => none)
  | .nils, sv, m => (match sv with | .nils => some (.nils, [], m) | _ => none)
  | .agg ps, sv, m => (match sv with | .agg cs => (match convs ps cs m with | some (svs, ds, m) => some (.agg svs, ds, m) | none => none) | _ => none)
  | .arrI n k, sv, m => (match sv with | .arrI n' k' l => if k' = k then (bif Nat.beq n n' then some (.arrI n k l, [.li l], m) else none) else none | _ => none)
  | .arrB n, sv, m => (match sv with | .arrB n' l => bif Nat.beq n n' then some (.arrB n l, [.lb l], m) else none | _ => none)
  | .tup ps, sv, m => (match sv with | .tup cs => (match convs ps cs m with | some (svs, ds, m) => some (.tup svs, ds, m) | none => none) | _ => none)
  | .fn f ps, sv, m => (match sv with | .fn f' cs => bif Nat.beq f f' then (match convs ps cs m with | some (svs, ds, m) => some (.fn f svs, ds, m) | none => none) else none | _ => none)
  | .nili, sv, m => (match sv with | .nili => some (.nili, [], m) | _ => none)
  | .iface t p, sv, m => (match sv with | .iface t' v => bif Nat.beq t t' then (match conv p v m with | some (sv, ds, m) => some (.iface t sv, ds, m) | none => none) else none | _ => none)
def convs : List Pat → List SV → MS → Option (List SV × List Dat × MS)
  | [], svs, m => (match svs with | [] => some ([], [], m) | _ => none)
  | p :: ps, svs, m => (match svs with
    | sv :: svs => (match conv p sv m with
      | some (sv, d, m) => (match convs ps svs m with | some (svs, ds, m) => some (sv :: svs, d ++ ds, m) | none => none)
      | none => none)
    | [] => none)
end
/-- Slots: what is skipped isn't looked at. -/
def convT (get : Nat → SV) : List Pat → Nat → MS → Option (List SV × List Dat × MS)
  | [], _, m => some ([], [], m)
  | .skip :: ps, t, m => (match convT get ps (t + 1) m with | some (svs, ds, m) => some (.dead :: svs, ds, m) | none => none)
  | p :: ps, t, m => (match conv hp p (get t) m with
    | some (sv, d, m) => (match convT get ps (t + 1) m with | some (svs, ds, m) => some (sv :: svs, d ++ ds, m) | none => none)
    | none => none)
def convB (i : Nat) (m : MS) (p : BPat) : Option (Blk × List Dat × MS) :=
  match rhoI m.ρ i with
  | some b => (match p with
    | .none => some (.none, [], m)
    | .cells T ps => (match hp.getD b .none with
      | .cells T' cs => bif Nat.beq T' T then (match convs hp ps cs m with | some (svs, ds, m) => some (.cells T svs, ds, m) | none => none) else none
      | _ => none)
    | .own T e => (match hp.getD b .none with
      | .own T' e' l => bif Nat.beq T' T then (bif CSh.beqs e e' then some (.own T e l, [.r l], m) else none) else none
      | _ => none))
  | none => (match p with
    | .none => some (.none, [], m)
    | .own T e => bif memN m.nw i then some (.own T e [], [.r []], m) else none
    | _ => none)
def convBs : List BPat → Nat → MS → Option (List Blk × List Dat × MS)
  | [], _, m => some ([], [], m)
  | p :: ps, i, m => (match convB hp i m p with
    | some (x, d, m) => (match convBs ps (i + 1) m with | some (xs, ds, m) => some (x :: xs, d ++ ds, m) | none => none)
    | none => none)
end
def idRho : Nat → List (Nat × Nat)
  | 0 => []
  | n + 1 => (n, n) :: idRho n
def apart : List Nat → List (Nat × Nat) → Bool
  | [], _ => true
  | b :: l, ρ => match rhoB ρ b with | none => apart l ρ | some _ => false
def lastOk (n : Nat) (m : MS) : List (Nat × Nat) → Bool
  | [] => true
  | (b, i) :: l => Nat.blt i n && lastOk n m l
def below (n : Nat) : List Nat → Bool
  | [] => true
  | b :: l => Nat.blt b n && below n l
/-- What is known behind the looking: the frozen aren't named, all names lie in the pattern. -/
def idB : Nat → Nat → List BPat → List (Nat × Nat)
  | _, 0, _ => []
  | _, _, [] => []
  | i, k + 1, p :: ps => match p with | .none => idB (i + 1) k ps | _ => (i, i) :: idB (i + 1) k ps
def MS.fine (n : Nat) (m : MS) : Bool := apart m.fz m.β && (lastOk n m m.ρ && below n m.nw)
/-- A memory and values by patterns: the values, the memory, the data. -/
def weakL (n0 : Nat) (hp : List Blk) (ps : List Pat) (svs : List SV) (bps : List BPat) : Option (List SV × List Blk × List Dat × MS) :=
  match convs hp ps svs ⟨idRho n0, idB 0 n0 bps, [], []⟩ with
  | some (svs', ds, m) => (match convBs hp bps 0 m with
    | some (hp', ds', m) => bif Nat.ble n0 bps.length && m.fine bps.length then some (svs', hp', ds ++ ds', m) else none
    | none => none)
  | none => none
def weakT (n0 : Nat) (hp : List Blk) (get : Nat → SV) (ps : List Pat) (bps : List BPat) : Option (List SV × List Blk × List Dat × MS) :=
  match convT hp get ps 0 ⟨idRho n0, idB 0 n0 bps, [], []⟩ with
  | some (svs', ds, m) => (match convBs hp bps 0 m with
    | some (hp', ds', m) => bif Nat.ble n0 bps.length && m.fine bps.length then some (svs', hp', ds ++ ds', m) else none
    | none => none)
  | none => none

/-! ### What is told fits the pattern -/
theorem convRd0_shape {hp : List Blk} {e : List CSh} {m m' : MS} {sv sv' : SV} {ds : List Dat} (h : convRd0 hp e m sv = some (sv', ds, m')) : ∃ l, sv' = .rd e l ∧ ds = [.r l] := by
  unfold convRd0 at h
  split at h
  · rename_i e' l
    cases hb : CSh.beqs e e' <;> rw [hb] at h <;> cases h
    exact ⟨_, rfl, rfl⟩
  · cases h; exact ⟨_, rfl, rfl⟩
  · cases h; exact ⟨_, rfl, rfl⟩
  · split at h
    · rename_i e' l _
      cases hb : CSh.beqs e e' <;> rw [hb] at h <;> cases h
      exact ⟨_, rfl, rfl⟩
    · cases h
  · split at h
    · split at h
      · rename_i N _ _ _ N' k l _ _
        revert h
        cases hb : Nat.beq N' _ <;> intro h
        · cases h
        · simp only [cond_true] at h
          revert h
          cases hb2 : CSh.beqs e [.int k] <;> intro h
          · cases h
          · cases h; exact ⟨_, rfl, rfl⟩
      · cases h
    · cases h
  · cases h
theorem convRd_shape {hp : List Blk} {e : List CSh} {m m' : MS} {sv sv' : SV} {ds : List Dat} (h : convRd hp e m sv = some (sv', ds, m')) : ∃ l, sv' = .rd e l ∧ ds = [.r l] := by
  unfold convRd at h
  split at h
  · split at h
    · split at h
      · cases h; exact ⟨_, rfl, rfl⟩
      · cases h
    · cases h
  · exact convRd0_shape h
mutual
theorem conv_all {hp : List Blk} : ∀ {p : Pat} {sv sv' : SV} {m m' : MS} {ds : List Dat}, conv hp p sv m = some (sv', ds, m') → (∀ F, allP p F → F sv' ds) ∧ ∀ rest, instP p (ds ++ rest) = (sv', rest)
  | .skip, sv, sv', m, m', ds, h => by
    simp only [conv] at h
    split at h
    · cases h
    · cases h
    · cases h; exact ⟨fun F hF => hF, fun rest => rfl⟩
  | .int k, sv, sv', m, m', ds, h => by
    simp only [conv] at h
    split at h
    · split at h
      · cases h; exact ⟨fun F hF => hF _, fun rest => rfl⟩
      · cases h
    · cases h
  | .bool, sv, sv', m, m', ds, h => by
    simp only [conv] at h
    split at h
    · cases h; exact ⟨fun F hF => hF _, fun rest => rfl⟩
    · cases h
  | .str, sv, sv', m, m', ds, h => by
    simp only [conv] at h
    split at h
    · cases h; exact ⟨fun F hF => hF _, fun rest => rfl⟩
    · cases h
  | .rd e, sv, sv', m, m', ds, h => by
    simp only [conv] at h
    have : ∃ l, sv' = .rd e l ∧ ds = [.r l] := convRd_shape h
    obtain ⟨l, rfl, rfl⟩ := this
    exact ⟨fun F hF => hF _, fun rest => rfl⟩
  | .own i, sv, sv', m, m', ds, h => by
    simp only [conv] at h
    split at h
    · split at h
      · cases h; exact ⟨fun F hF => hF, fun rest => rfl⟩
      · cases h
    · split at h
      · cases h; exact ⟨fun F hF => hF, fun rest => rfl⟩
      · cases h
    · cases h
  | .ptr i c, sv, sv', m, m', ds, h => by
    simp only [conv] at h
    split at h
    · rename_i b c'
      cases hb : Nat.beq c c' <;> rw [hb] at h
      · cases h
      · simp only [cond_true] at h
        split at h
        · cases h; exact ⟨fun F hF => hF, fun rest => rfl⟩
        · cases h
    · cases h
  | .nilp, sv, sv', m, m', ds, h => by
    simp only [conv] at h
    split at h
    · cases h; exact ⟨fun F hF => hF, fun rest => rfl⟩
    · cases h
  | .nils, sv, sv', m, m', ds, h => by
    simp only [conv] at h
    split at h
    · cases h; exact ⟨fun F hF => hF, fun rest => rfl⟩
    · cases h
  | .agg ps, sv, sv', m, m', ds, h => by
    simp only [conv] at h
    split at h
    · split at h
      · rename_i svs ds' m1 hc
        cases h
        obtain ⟨h1, h2⟩ := convs_all hc
        exact ⟨fun F hF => h1 _ hF, fun rest => by simp only [instP, h2 rest]⟩
      · cases h
    · cases h
  | .arrI n k, sv, sv', m, m', ds, h => by
    simp only [conv] at h
    split at h
    · split at h
      · rename_i n' k' l hk
        cases hb : Nat.beq n n' <;> rw [hb] at h <;> cases h
        exact ⟨fun F hF => hF _, fun rest => rfl⟩
      · cases h
    · cases h
  | .arrB n, sv, sv', m, m', ds, h => by
    simp only [conv] at h
    split at h
    · rename_i n' l
      cases hb : Nat.beq n n' <;> rw [hb] at h <;> cases h
      exact ⟨fun F hF => hF _, fun rest => rfl⟩
    · cases h
  | .tup ps, sv, sv', m, m', ds, h => by
    simp only [conv] at h
    split at h
    · split at h
      · rename_i svs ds' m1 hc
        cases h
        obtain ⟨h1, h2⟩ := convs_all hc
        exact ⟨fun F hF => h1 _ hF, fun rest => by simp only [instP, h2 rest]⟩
      · cases h
    · cases h
  | .fn f ps, sv, sv', m, m', ds, h => by
    simp only [conv] at h
    split at h
    · rename_i f' cs
      cases hb : Nat.beq f f' <;> rw [hb] at h
      · cases h
      · simp only [cond_true] at h
        split at h
        · rename_i svs ds' m1 hc
          cases h
          obtain ⟨h1, h2⟩ := convs_all hc
          exact ⟨fun F hF => h1 _ hF, fun rest => by simp only [instP, h2 rest]⟩
        · cases h
    · cases h
  | .nili, sv, sv', m, m', ds, h => by
    simp only [conv] at h
    split at h
    · cases h; exact ⟨fun F hF => hF, fun rest => rfl⟩
    · cases h
  | .iface t p, sv, sv', m, m', ds, h => by
    simp only [conv] at h
    split at h
    · rename_i t' v
      cases hb : Nat.beq t t' <;> rw [hb] at h
      · cases h
      · simp only [cond_true] at h
        split at h
        · rename_i sv1 ds' m1 hc
          cases h
          obtain ⟨h1, h2⟩ := conv_all hc
          exact ⟨fun F hF => h1 _ hF, fun rest => by simp only [instP, h2 rest]⟩
        · cases h
    · cases h
theorem convs_all {hp : List Blk} : ∀ {ps : List Pat} {svs svs' : List SV} {m m' : MS} {ds : List Dat}, convs hp ps svs m = some (svs', ds, m') → (∀ F, allPs ps F → F svs' ds) ∧ ∀ rest, instPs ps (ds ++ rest) = (svs', rest)
  | [], svs, svs', m, m', ds, h => by
    simp only [convs] at h
    split at h
    · cases h; exact ⟨fun F hF => hF, fun rest => rfl⟩
    · cases h
  | p :: ps, svs, svs', m, m', ds, h => by
    simp only [convs] at h
    split at h
    · split at h
      · rename_i sv1 d m1 h1
        split at h
        · rename_i svs2 ds2 m2 h2
          cases h
          obtain ⟨a1, a2⟩ := conv_all h1
          obtain ⟨b1, b2⟩ := convs_all h2
          refine ⟨fun F hF => b1 _ (a1 _ hF), fun rest => ?_⟩
          simp only [instPs, List.append_assoc, a2, b2]
        · cases h
      · cases h
    · cases h
end
theorem convT_all {hp : List Blk} {get : Nat → SV} : ∀ {ps : List Pat} {t : Nat} {svs' : List SV} {m m' : MS} {ds : List Dat}, convT hp get ps t m = some (svs', ds, m') → (∀ F, allPs ps F → F svs' ds) ∧ ∀ rest, instPs ps (ds ++ rest) = (svs', rest)
  | [], t, svs', m, m', ds, h => by
    simp only [convT] at h
    cases h; exact ⟨fun F hF => hF, fun rest => rfl⟩
  | p :: ps, t, svs', m, m', ds, h => by
    have gen : (match conv hp p (get t) m with
        | some (sv, d, m) => (match convT hp get ps (t + 1) m with | some (svs, ds, m) => some (sv :: svs, d ++ ds, m) | none => none)
        | none => none) = some (svs', ds, m') → (∀ F, allPs (p :: ps) F → F svs' ds) ∧ ∀ rest, instPs (p :: ps) (ds ++ rest) = (svs', rest) := fun h => by
      split at h
      · rename_i sv1 d m1 h1
        split at h
        · rename_i svs2 ds2 m2 h2
          cases h
          obtain ⟨a1, a2⟩ := conv_all h1
          obtain ⟨b1, b2⟩ := convT_all h2
          refine ⟨fun F hF => b1 _ (a1 _ hF), fun rest => ?_⟩
          simp only [instPs, List.append_assoc, a2, b2]
        · cases h
      · cases h
    cases p with
    | skip =>
      simp only [convT] at h
      split at h
      · rename_i svs2 ds2 m2 h2
        cases h
        obtain ⟨b1, b2⟩ := convT_all h2
        exact ⟨fun F hF => b1 _ hF, fun rest => by simp only [instPs, instP, b2]⟩
      · cases h
    | _ => exact gen h
theorem convB_all {hp : List Blk} {i : Nat} {m m' : MS} {p : BPat} {x : Blk} {ds : List Dat} (h : convB hp i m p = some (x, ds, m')) : (∀ F, allB p F → F x ds) ∧ ∀ rest, instB p (ds ++ rest) = (x, rest) := by
  unfold convB at h
  split at h
  · cases p with
    | none => cases h; exact ⟨fun F hF => hF, fun rest => rfl⟩
    | cells T ps =>
      simp only at h
      split at h
      · rename_i T' cs _
        cases hb : Nat.beq T' T <;> rw [hb] at h
        · cases h
        · simp only [cond_true] at h
          split at h
          · rename_i svs ds' m1 hc
            cases h
            obtain ⟨h1, h2⟩ := convs_all hc
            exact ⟨fun F hF => h1 _ hF, fun rest => by simp only [instB, h2 rest]⟩
          · cases h
      · cases h
    | own T e =>
      simp only at h
      split at h
      · rename_i T' e' l _
        cases hb : Nat.beq T' T <;> rw [hb] at h
        · cases h
        · simp only [cond_true] at h
          cases hb2 : CSh.beqs e e' <;> rw [hb2] at h <;> cases h
          exact ⟨fun F hF => hF _, fun rest => rfl⟩
      · cases h
  · cases p with
    | none => cases h; exact ⟨fun F hF => hF, fun rest => rfl⟩
    | cells T ps => cases h
    | own T e =>
      simp only at h
      cases hb : memN m.nw i <;> rw [hb] at h <;> cases h
      exact ⟨fun F hF => hF _, fun rest => rfl⟩
theorem convBs_all {hp : List Blk} : ∀ {ps : List BPat} {i : Nat} {m m' : MS} {xs : List Blk} {ds : List Dat}, convBs hp ps i m = some (xs, ds, m') → (∀ F, allBs ps F → F xs ds) ∧ (∀ rest, instBs ps (ds ++ rest) = (xs, rest)) ∧ xs.length = ps.length
  | [], i, m, m', xs, ds, h => by
    simp only [convBs] at h
    cases h; exact ⟨fun F hF => hF, fun rest => rfl, rfl⟩
  | p :: ps, i, m, m', xs, ds, h => by
    simp only [convBs] at h
    split at h
    · rename_i x d m1 h1
      split at h
      · rename_i xs2 ds2 m2 h2
        cases h
        obtain ⟨a1, a2⟩ := convB_all h1
        obtain ⟨b1, b2, b3⟩ := convBs_all h2
        refine ⟨fun F hF => b1 _ (a1 _ hF), fun rest => ?_, by simp [b3]⟩
        simp only [instBs, List.append_assoc, a2, b2]
      · cases h
    · cases h
theorem weakL_all {n0 : Nat} {hp hp' : List Blk} {ps : List Pat} {svs svs' : List SV} {bps : List BPat} {ds : List Dat} {m : MS} (h : weakL n0 hp ps svs bps = some (svs', hp', ds, m)) :
    ∃ ds1 ds2 m1, ds = ds1 ++ ds2 ∧ convs hp ps svs ⟨idRho n0, idB 0 n0 bps, [], []⟩ = some (svs', ds1, m1) ∧ convBs hp bps 0 m1 = some (hp', ds2, m) ∧ n0 ≤ bps.length ∧ m.fine bps.length = true := by
  unfold weakL at h
  split at h
  · rename_i s1 d1 m1 h1
    split at h
    · rename_i x2 d2 m2 h2
      cases hb : (Nat.ble n0 bps.length && m2.fine bps.length) <;> rw [hb] at h <;> cases h
      simp only [Bool.and_eq_true, Nat.ble_eq] at hb
      exact ⟨d1, d2, m1, rfl, h1, h2, hb.1, hb.2⟩
    · cases h
  · cases h
theorem weakT_all {n0 : Nat} {hp hp' : List Blk} {ps : List Pat} {get : Nat → SV} {svs' : List SV} {bps : List BPat} {ds : List Dat} {m : MS} (h : weakT n0 hp get ps bps = some (svs', hp', ds, m)) :
    ∃ ds1 ds2 m1, ds = ds1 ++ ds2 ∧ convT hp get ps 0 ⟨idRho n0, idB 0 n0 bps, [], []⟩ = some (svs', ds1, m1) ∧ convBs hp bps 0 m1 = some (hp', ds2, m) ∧ n0 ≤ bps.length ∧ m.fine bps.length = true := by
  unfold weakT at h
  split at h
  · rename_i s1 d1 m1 h1
    split at h
    · rename_i x2 d2 m2 h2
      cases hb : (Nat.ble n0 bps.length && m2.fine bps.length) <;> rw [hb] at h <;> cases h
      simp only [Bool.and_eq_true, Nat.ble_eq] at hb
      exact ⟨d1, d2, m1, rfl, h1, h2, hb.1, hb.2⟩
    · cases h
  · cases h
end Go.Avc
