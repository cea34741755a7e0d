/-
  AVC, part Y: patterns of states: what a state is like, but for its data; a state is told by a pattern with other names of blocks, and less of it.
-/
import Derived.Test.YteiecapbaeajdaaGreatDoorJ3
import Derived.Test.YteiecapbaeajdaaGreatDoorProg
import Derived.KernelRfl
namespace Go.Avc
set_option linter.unusedVariables false
set_option linter.unusedSimpArgs false
inductive Dat where
  | i (n : Int) | b (b : Bool) | s (l : List UInt8) | r (l : List (List CD)) | li (l : List Int) | lb (l : List Bool)
inductive Pat where
  | skip
  | int (k : IntKind)
  | bool
  | str
  | rd (e : List CSh)
  | own (i : Nat)
  | ptr (i c : Nat)
  | nilp
  | nilf
  | nils
  | agg (ps : List Pat)
  | arrI (n : Nat) (k : IntKind)
  | arrB (n : Nat)
  | tup (ps : List Pat)
  | fn (f : FuncId) (ps : List Pat)
  | fb (f : FuncId) (ps : List Pat)
  | nili
  | iface (t : TypeId) (p : Pat)
inductive BPat where
  | none
  | cells (T : TypeId) (ps : List Pat)
  | own (T : TypeId) (e : List CSh)
/-! ### Whatever fits -/
mutual
def allP : Pat → (SV → List Dat → Prop) → Prop
  | .skip, F => F .dead []
  | .int k, F => ∀ n, F (.int k n) [.i n]
  | .bool, F => ∀ b, F (.bool b) [.b b]
  | .str, F => ∀ l, F (.str l) [.s l]
  | .rd e, F => ∀ l, F (.rd e l) [.r l]
  | .own i, F => F (.own i) []
  | .ptr i c, F => F (.ptr i c) []
  | .nilp, F => F .nilp []
  | .nilf, F => F .nilf []
  | .nils, F => F .nils []
  | .agg ps, F => allPs ps fun svs ds => F (.agg svs) ds
  | .arrI n k, F => ∀ l, F (.arrI n k l) [.li l]
  | .arrB n, F => ∀ l, F (.arrB n l) [.lb l]
  | .tup ps, F => allPs ps fun svs ds => F (.tup svs) ds
  | .fn f ps, F => allPs ps fun svs ds => F (.fn f svs) ds
  | .fb f ps, F => allPs ps fun svs ds => F (.fb f svs) ds
  | .nili, F => F .nili []
  | .iface t p, F => allP p fun sv ds => F (.iface t sv) ds
def allPs : List Pat → (List SV → List Dat → Prop) → Prop
  | [], F => F [] []
  | p :: ps, F => allP p fun sv d => allPs ps fun svs ds => F (sv :: svs) (d ++ ds)
end
def allB : BPat → (Blk → List Dat → Prop) → Prop
  | .none, F => F .none []
  | .cells T ps, F => allPs ps fun svs ds => F (.cells T svs) ds
  | .own T e, F => ∀ l, F (.own T e l) [.r l]
def allBs : List BPat → (List Blk → List Dat → Prop) → Prop
  | [], F => F [] []
  | p :: ps, F => allB p fun x d => allBs ps fun xs ds => F (x :: xs) (d ++ ds)
/-! ### The value of data -/
mutual
def instP : Pat → List Dat → SV × List Dat
  | .skip, ds => (.dead, ds)
  | .int k, .i n :: ds => (.int k n, ds)
  | .bool, .b b :: ds => (.bool b, ds)
  | .str, .s l :: ds => (.str l, ds)
  | .rd e, .r l :: ds => (.rd e l, ds)
  | .own i, ds => (.own i, ds)
  | .ptr i c, ds => (.ptr i c, ds)
  | .nilp, ds => (.nilp, ds)
  | .nilf, ds => (.nilf, ds)
  | .nils, ds => (.nils, ds)
  | .agg ps, ds => match instPs ps ds with | (svs, ds) => (.agg svs, ds)
  | .arrI n k, .li l :: ds => (.arrI n k l, ds)
  | .arrB n, .lb l :: ds => (.arrB n l, ds)
  | .tup ps, ds => match instPs ps ds with | (svs, ds) => (.tup svs, ds)
  | .fn f ps, ds => match instPs ps ds with | (svs, ds) => (.fn f svs, ds)
  | .fb f ps, ds => match instPs ps ds with | (svs, ds) => (.fb f svs, ds)
  | .nili, ds => (.nili, ds)
  | .iface t p, ds => match instP p ds with | (sv, ds) => (.iface t sv, ds)
  | _, ds => (.dead, ds)
def instPs : List Pat → List Dat → List SV × List Dat
  | [], ds => ([], ds)
  | p :: ps, ds => match instP p ds with | (sv, ds) => match instPs ps ds with | (svs, ds) => (sv :: svs, ds)
end
def instB : BPat → List Dat → Blk × List Dat
  | .none, ds => (.none, ds)
  | .cells T ps, ds => match instPs ps ds with | (svs, ds) => (.cells T svs, ds)
  | .own T e, .r l :: ds => (.own T e l, ds)
  | _, ds => (.none, ds)
def instBs : List BPat → List Dat → List Blk × List Dat
  | [], ds => ([], ds)
  | p :: ps, ds => match instB p ds with | (x, ds) => match instBs ps ds with | (xs, ds) => (x :: xs, ds)
/-! ### What is known of data that a value is told by -/
mutual
def impP : Pat → List Dat → (List Dat → Prop) → Prop
  | .int _, .i _ :: ds, K => K ds
  | .bool, .b _ :: ds, K => K ds
  | .str, .s l :: ds, K => l.length ≤ 9223372036854775807 → K ds
  | .rd _, .r l :: ds, K => l.length ≤ 9223372036854775807 → K ds
  | .agg ps, ds, K => impPs ps ds K
  | .arrI n _, .li l :: ds, K => l.length = n → K ds
  | .arrB n, .lb l :: ds, K => l.length = n → K ds
  | .tup ps, ds, K => impPs ps ds K
  | .fn _ ps, ds, K => impPs ps ds K
  | .fb _ ps, ds, K => impPs ps ds K
  | .iface _ p, ds, K => impP p ds K
  | _, ds, K => K ds
def impPs : List Pat → List Dat → (List Dat → Prop) → Prop
  | [], ds, K => K ds
  | p :: ps, ds, K => impP p ds fun ds => impPs ps ds K
end
def impB : BPat → List Dat → (List Dat → Prop) → Prop
  | .none, ds, K => K ds
  | .cells _ ps, ds, K => impPs ps ds K
  | .own _ _, .r l :: ds, K => l.length ≤ 9223372036854775807 → K ds
  | .own _ _, ds, K => K ds
/-- Of the blocks that values name. -/
def impBs (hs : List Nat) : Nat → List BPat → List Dat → (List Dat → Prop) → Prop
  | _, [], ds, K => K ds
  | i, p :: ps, ds, K => bif hs.contains i then impB p ds fun ds => impBs hs (i + 1) ps ds K else impBs hs (i + 1) ps (instB p ds).2 K
/-! ### A value told by a pattern -/
/-- ρ: a block's number, and its number in the pattern (β: the same, but for what came in and isn't told any more); fz: what is read alone from now on; nw: nothing, told as an own slice. -/
structure MS where
  ρ : List (Nat × Nat)
  β : List (Nat × Nat)
  fz : List Nat
  nw : List Nat
def memN : List Nat → Nat → Bool
  | [], _ => false
  | a :: l, b => bif Nat.beq a b then true else memN l b
def rhoI : List (Nat × Nat) → Nat → Option Nat
  | [], _ => none
  | (b, i) :: l, j => bif Nat.beq i j then some b else rhoI l j
def rhoB : List (Nat × Nat) → Nat → Option Nat
  | [], _ => none
  | (b, i) :: l, c => bif Nat.beq b c then some i else rhoB l c
def MS.bind (m : MS) (b i : Nat) : Option MS :=
  match m with
  | ⟨ρ, β, fz, nw⟩ => match rhoI ρ i, rhoB β b with
    | some b', some i' => bif Nat.beq b b' then (bif Nat.beq i i' then some ⟨ρ, β, fz, nw⟩ else none) else none
    | none, none => bif memN nw i then none else some ⟨(b, i) :: ρ, (b, i) :: β, fz, nw⟩
    | _, _ => none
def MS.freeze (m : MS) (b : Nat) : MS := match m with | ⟨ρ, β, fz, nw⟩ => bif memN fz b then ⟨ρ, β, fz, nw⟩ else ⟨ρ, β, b :: fz, nw⟩
def MS.new (m : MS) (i : Nat) : Option MS :=
  match m with
  | ⟨ρ, β, fz, nw⟩ => match rhoI ρ i with
    | none => bif memN nw i then none else some ⟨ρ, β, fz, i :: nw⟩
    | _ => none
section
variable (hp : List Blk)
def convRd0 (e : List CSh) (m : MS) : SV → Option (SV × List Dat × MS)
  | .rd e' l => bif CSh.beqs e e' then some (.rd e l, [.r l], m) else none
  | .nils => some (.rd e [], [.r []], m)
  | .e0 => some (.rd e [], [.r []], m)
  | .own b => (match hp.getD b .none with
    | .own _ e' l => bif CSh.beqs e e' then some (.rd e l, [.r l], m.freeze b) else none
    | _ => none)
  | .win b c N lo n => (match hp.getD b .none with
    | .cells _ cs => (match splitC cs c with
      | some (_, .arrI N' k l :: _) => bif Nat.beq N' N then (bif CSh.beqs e [.int k] then some (.rd e (((l.drop lo).take n).map fun x => [.int x]), [.r (((l.drop lo).take n).map fun x => [.int x])], m.freeze b) else none) else none
      | _ => none)
    | _ => none)
  | _ => none
def convRdL (e : List CSh) : List SV → MS → Option (List (List CD) × MS)
  | [], m => some ([], m)
  | sv :: svs, m => (match convRd0 hp e m sv with
    | some (.rd _ l, _, m) => (match convRdL e svs m with | some (rows, m) => some ([.sl l] :: rows, m) | none => none)
    | _ => none)
def convRd (e : List CSh) (m : MS) (sv : SV) : Option (SV × List Dat × MS) :=
  match sv with
  | .sls svs => (match e with
    | [.sl e1] => (match convRdL hp e1 svs m with | some (rows, m) => some (.rd e rows, [.r rows], m) | none => none)
    | _ => none)
  | sv => convRd0 hp e m sv
mutual
def conv : Pat → SV → MS → Option (SV × List Dat × MS)
  | .skip, sv, m => (match sv with | .arrI .. => none | .arrB .. => none | _ => some (.dead, [], m))
  | .int k, sv, m => (match sv with | .int k' n => if k' = k then some (.int k n, [.i n], m) else none | _ => none)
  | .bool, sv, m => (match sv with | .bool b => some (.bool b, [.b b], m) | _ => none)
  | .str, sv, m => (match sv with | .str l => some (.str l, [.s l], m) | _ => none)
  | .rd e, sv, m => convRd hp e m sv
  | .own i, sv, m => (match sv with
    | .own b => (match m.bind b i with | some m => some (.own i, [], m) | none => none)
    | .nils => (match m.new i with | some m => some (.own i, [], m) | none => none)
    | _ => none)
  | .ptr i c, sv, m => (match sv with
    | .ptr b c' => bif Nat.beq c c' then (match m.bind b i with | some m => some (.ptr i c, [], m) | none => none) else none
    | _ => none)
  | .nilp, sv, m => (match sv with | .nilp => some (.nilp, [], m) | _ => none)
  | .nilf, sv, m => (match sv with | .nilf => some (.nilf, [], m) | _ => none)
  | .nils, sv, m => (match sv with | .nils => some (.nils, [], m) | _ => none)
  | .agg ps, sv, m => (match sv with | .agg cs => (match convs ps cs m with | some (svs, ds, m) => some (.agg svs, ds, m) | none => none) | _ => none)
  | .arrI n k, sv, m => (match sv with | .arrI n' k' l => if k' = k then (bif Nat.beq n n' then some (.arrI n k l, [.li l], m) else none) else none | _ => none)
  | .arrB n, sv, m => (match sv with | .arrB n' l => bif Nat.beq n n' then some (.arrB n l, [.lb l], m) else none | _ => none)
  | .tup ps, sv, m => (match sv with | .tup cs => (match convs ps cs m with | some (svs, ds, m) => some (.tup svs, ds, m) | none => none) | _ => none)
  | .fn f ps, sv, m => (match sv with | .fn f' cs => bif Nat.beq f f' then (match convs ps cs m with | some (svs, ds, m) => some (.fn f svs, ds, m) | none => none) else none | _ => none)
  | .fb f ps, sv, m => (match sv with | .fb f' cs => bif Nat.beq f f' then (match convs ps cs m with | some (svs, ds, m) => some (.fb f svs, ds, m) | none => none) else none | _ => none)
  | .nili, sv, m => (match sv with | .nili => some (.nili, [], m) | _ => none)
  | .iface t p, sv, m => (match sv with | .iface t' v => bif Nat.beq t t' then (match conv p v m with | some (sv, ds, m) => some (.iface t sv, ds, m) | none => none) else none | _ => none)
def convs : List Pat → List SV → MS → Option (List SV × List Dat × MS)
  | [], svs, m => (match svs with | [] => some ([], [], m) | _ => none)
  | p :: ps, svs, m => (match svs with
    | sv :: svs => (match conv p sv m with
      | some (sv, d, m) => (match convs ps svs m with | some (svs, ds, m) => some (sv :: svs, d ++ ds, m) | none => none)
      | none => none)
    | [] => none)
end
/-- Slots: what is skipped isn't looked at. -/
def convT (get : Nat → SV) : List Pat → Nat → MS → Option (List SV × List Dat × MS)
  | [], _, m => some ([], [], m)
  | .skip :: ps, t, m => (match convT get ps (t + 1) m with | some (svs, ds, m) => some (.dead :: svs, ds, m) | none => none)
  | p :: ps, t, m => (match conv hp p (get t) m with
    | some (sv, d, m) => (match convT get ps (t + 1) m with | some (svs, ds, m) => some (sv :: svs, d ++ ds, m) | none => none)
    | none => none)
def convB (i : Nat) (m : MS) (p : BPat) : Option (Blk × List Dat × MS) :=
  match rhoI m.ρ i with
  | some b => (match p with
    | .none => some (.none, [], m)
    | .cells T ps => (match hp.getD b .none with
      | .cells T' cs => bif Nat.beq T' T then (match convs hp ps cs m with | some (svs, ds, m) => some (.cells T svs, ds, m) | none => none) else none
      | _ => none)
    | .own T e => (match hp.getD b .none with
      | .own T' e' l => bif Nat.beq T' T then (bif CSh.beqs e e' then some (.own T e l, [.r l], m) else none) else none
      | _ => none))
  | none => (match p with
    | .none => some (.none, [], m)
    | .own T e => bif memN m.nw i then some (.own T e [], [.r []], m) else none
    | _ => none)
def convBs : List BPat → Nat → MS → Option (List Blk × List Dat × MS)
  | [], _, m => some ([], [], m)
  | p :: ps, i, m => (match convB hp i m p with
    | some (x, d, m) => (match convBs ps (i + 1) m with | some (xs, ds, m) => some (x :: xs, d ++ ds, m) | none => none)
    | none => none)
end
def idRho : Nat → List (Nat × Nat)
  | 0 => []
  | n + 1 => (n, n) :: idRho n
def apart : List Nat → List (Nat × Nat) → Bool
  | [], _ => true
  | b :: l, ρ => match rhoB ρ b with | none => apart l ρ | some _ => false
def lastOk (n : Nat) (m : MS) : List (Nat × Nat) → Bool
  | [] => true
  | (b, i) :: l => Nat.blt i n && lastOk n m l
def below (n : Nat) : List Nat → Bool
  | [] => true
  | b :: l => Nat.blt b n && below n l
/-- What is known behind the looking: the frozen aren't named, all names lie in the pattern. -/
def idB : Nat → Nat → List BPat → List (Nat × Nat)
  | _, 0, _ => []
  | _, _, [] => []
  | i, k + 1, p :: ps => match p with | .none => idB (i + 1) k ps | _ => (i, i) :: idB (i + 1) k ps
def MS.fine (n : Nat) (m : MS) : Bool := apart m.fz m.β && (lastOk n m m.ρ && below n m.nw)
/-- A memory and values by patterns: the values, the memory, the data. -/
def weakL (n0 : Nat) (hp : List Blk) (ps : List Pat) (svs : List SV) (bps : List BPat) : Option (List SV × List Blk × List Dat × MS) :=
  match convs hp ps svs ⟨idRho n0, idB 0 n0 bps, [], []⟩ with
  | some (svs', ds, m) => (match convBs hp bps 0 m with
    | some (hp', ds', m) => bif Nat.ble n0 bps.length && m.fine bps.length then some (svs', hp', ds ++ ds', m) else none
    | none => none)
  | none => none
def weakT (n0 : Nat) (hp : List Blk) (get : Nat → SV) (ps : List Pat) (bps : List BPat) : Option (List SV × List Blk × List Dat × MS) :=
  match convT hp get ps 0 ⟨idRho n0, idB 0 n0 bps, [], []⟩ with
  | some (svs', ds, m) => (match convBs hp bps 0 m with
    | some (hp', ds', m) => bif Nat.ble n0 bps.length && m.fine bps.length then some (svs', hp', ds ++ ds', m) else none
    | none => none)
  | none => none
/-! ### What is told fits the pattern -/
theorem convRd0_shape {hp : List Blk} {e : List CSh} {m m' : MS} {sv sv' : SV} {ds : List Dat} (h : convRd0 hp e m sv = some (sv', ds, m')) : ∃ l, sv' = .rd e l ∧ ds = [.r l] := by
  unfold convRd0 at h
  split at h
  · rename_i e' l
    cases hb : CSh.beqs e e' <;> rw [hb] at h <;> cases h
    exact ⟨_, rfl, rfl⟩
  · cases h; exact ⟨_, rfl, rfl⟩
  · cases h; exact ⟨_, rfl, rfl⟩
  · split at h
    · rename_i e' l _
      cases hb : CSh.beqs e e' <;> rw [hb] at h <;> cases h
      exact ⟨_, rfl, rfl⟩
    · cases h
  · split at h
    · split at h
      · rename_i N _ _ _ N' k l _ _
        revert h
        cases hb : Nat.beq N' _ <;> intro h
        · cases h
        · simp only [cond_true] at h
          revert h
          cases hb2 : CSh.beqs e [.int k] <;> intro h
          · cases h
          · cases h; exact ⟨_, rfl, rfl⟩
      · cases h
    · cases h
  · cases h
theorem convRd_shape {hp : List Blk} {e : List CSh} {m m' : MS} {sv sv' : SV} {ds : List Dat} (h : convRd hp e m sv = some (sv', ds, m')) : ∃ l, sv' = .rd e l ∧ ds = [.r l] := by
  unfold convRd at h
  split at h
  · split at h
    · split at h
      · cases h; exact ⟨_, rfl, rfl⟩
      · cases h
    · cases h
  · exact convRd0_shape h
mutual
theorem conv_all {hp : List Blk} : ∀ {p : Pat} {sv sv' : SV} {m m' : MS} {ds : List Dat}, conv hp p sv m = some (sv', ds, m') → (∀ F, allP p F → F sv' ds) ∧ ∀ rest, instP p (ds ++ rest) = (sv', rest)
  | .skip, sv, sv', m, m', ds, h => by
    simp only [conv] at h
    split at h
    · cases h
    · cases h
    · cases h; exact ⟨fun F hF => hF, fun rest => rfl⟩
  | .int k, sv, sv', m, m', ds, h => by
    simp only [conv] at h
    split at h
    · split at h
      · cases h; exact ⟨fun F hF => hF _, fun rest => rfl⟩
      · cases h
    · cases h
  | .bool, sv, sv', m, m', ds, h => by
    simp only [conv] at h
    split at h
    · cases h; exact ⟨fun F hF => hF _, fun rest => rfl⟩
    · cases h
  | .str, sv, sv', m, m', ds, h => by
    simp only [conv] at h
    split at h
    · cases h; exact ⟨fun F hF => hF _, fun rest => rfl⟩
    · cases h
  | .rd e, sv, sv', m, m', ds, h => by
    simp only [conv] at h
    have : ∃ l, sv' = .rd e l ∧ ds = [.r l] := convRd_shape h
    obtain ⟨l, rfl, rfl⟩ := this
    exact ⟨fun F hF => hF _, fun rest => rfl⟩
  | .own i, sv, sv', m, m', ds, h => by
    simp only [conv] at h
    split at h
    · split at h
      · cases h; exact ⟨fun F hF => hF, fun rest => rfl⟩
      · cases h
    · split at h
      · cases h; exact ⟨fun F hF => hF, fun rest => rfl⟩
      · cases h
    · cases h
  | .ptr i c, sv, sv', m, m', ds, h => by
    simp only [conv] at h
    split at h
    · rename_i b c'
      cases hb : Nat.beq c c' <;> rw [hb] at h
      · cases h
      · simp only [cond_true] at h
        split at h
        · cases h; exact ⟨fun F hF => hF, fun rest => rfl⟩
        · cases h
    · cases h
  | .nilp, sv, sv', m, m', ds, h => by
    simp only [conv] at h
    split at h
    · cases h; exact ⟨fun F hF => hF, fun rest => rfl⟩
    · cases h
  | .nilf, sv, sv', m, m', ds, h => by
    simp only [conv] at h
    split at h
    · cases h; exact ⟨fun F hF => hF, fun rest => rfl⟩
    · cases h
  | .nils, sv, sv', m, m', ds, h => by
    simp only [conv] at h
    split at h
    · cases h; exact ⟨fun F hF => hF, fun rest => rfl⟩
    · cases h
  | .agg ps, sv, sv', m, m', ds, h => by
    simp only [conv] at h
    split at h
    · split at h
      · rename_i svs ds' m1 hc
        cases h
        obtain ⟨h1, h2⟩ := convs_all hc
        exact ⟨fun F hF => h1 _ hF, fun rest => by simp only [instP, h2 rest]⟩
      · cases h
    · cases h
  | .arrI n k, sv, sv', m, m', ds, h => by
    simp only [conv] at h
    split at h
    · split at h
      · rename_i n' k' l hk
        cases hb : Nat.beq n n' <;> rw [hb] at h <;> cases h
        exact ⟨fun F hF => hF _, fun rest => rfl⟩
      · cases h
    · cases h
  | .arrB n, sv, sv', m, m', ds, h => by
    simp only [conv] at h
    split at h
    · rename_i n' l
      cases hb : Nat.beq n n' <;> rw [hb] at h <;> cases h
      exact ⟨fun F hF => hF _, fun rest => rfl⟩
    · cases h
  | .tup ps, sv, sv', m, m', ds, h => by
    simp only [conv] at h
    split at h
    · split at h
      · rename_i svs ds' m1 hc
        cases h
        obtain ⟨h1, h2⟩ := convs_all hc
        exact ⟨fun F hF => h1 _ hF, fun rest => by simp only [instP, h2 rest]⟩
      · cases h
    · cases h
  | .fn f ps, sv, sv', m, m', ds, h => by
    simp only [conv] at h
    split at h
    · rename_i f' cs
      cases hb : Nat.beq f f' <;> rw [hb] at h
      · cases h
      · simp only [cond_true] at h
        split at h
        · rename_i svs ds' m1 hc
          cases h
          obtain ⟨h1, h2⟩ := convs_all hc
          exact ⟨fun F hF => h1 _ hF, fun rest => by simp only [instP, h2 rest]⟩
        · cases h
    · cases h
  | .fb f ps, sv, sv', m, m', ds, h => by
    simp only [conv] at h
    split at h
    · rename_i f' cs
      cases hb : Nat.beq f f' <;> rw [hb] at h
      · cases h
      · simp only [cond_true] at h
        split at h
        · rename_i svs ds' m1 hc
          cases h
          obtain ⟨h1, h2⟩ := convs_all hc
          exact ⟨fun F hF => h1 _ hF, fun rest => by simp only [instP, h2 rest]⟩
        · cases h
    · cases h
  | .nili, sv, sv', m, m', ds, h => by
    simp only [conv] at h
    split at h
    · cases h; exact ⟨fun F hF => hF, fun rest => rfl⟩
    · cases h
  | .iface t p, sv, sv', m, m', ds, h => by
    simp only [conv] at h
    split at h
    · rename_i t' v
      cases hb : Nat.beq t t' <;> rw [hb] at h
      · cases h
      · simp only [cond_true] at h
        split at h
        · rename_i sv1 ds' m1 hc
          cases h
          obtain ⟨h1, h2⟩ := conv_all hc
          exact ⟨fun F hF => h1 _ hF, fun rest => by simp only [instP, h2 rest]⟩
        · cases h
    · cases h
theorem convs_all {hp : List Blk} : ∀ {ps : List Pat} {svs svs' : List SV} {m m' : MS} {ds : List Dat}, convs hp ps svs m = some (svs', ds, m') → (∀ F, allPs ps F → F svs' ds) ∧ ∀ rest, instPs ps (ds ++ rest) = (svs', rest)
  | [], svs, svs', m, m', ds, h => by
    simp only [convs] at h
    split at h
    · cases h; exact ⟨fun F hF => hF, fun rest => rfl⟩
    · cases h
  | p :: ps, svs, svs', m, m', ds, h => by
    simp only [convs] at h
    split at h
    · split at h
      · rename_i sv1 d m1 h1
        split at h
        · rename_i svs2 ds2 m2 h2
          cases h
          obtain ⟨a1, a2⟩ := conv_all h1
          obtain ⟨b1, b2⟩ := convs_all h2
          refine ⟨fun F hF => b1 _ (a1 _ hF), fun rest => ?_⟩
          simp only [instPs, List.append_assoc, a2, b2]
        · cases h
      · cases h
    · cases h
end
theorem convT_all {hp : List Blk} {get : Nat → SV} : ∀ {ps : List Pat} {t : Nat} {svs' : List SV} {m m' : MS} {ds : List Dat}, convT hp get ps t m = some (svs', ds, m') → (∀ F, allPs ps F → F svs' ds) ∧ ∀ rest, instPs ps (ds ++ rest) = (svs', rest)
  | [], t, svs', m, m', ds, h => by
    simp only [convT] at h
    cases h; exact ⟨fun F hF => hF, fun rest => rfl⟩
  | p :: ps, t, svs', m, m', ds, h => by
    have gen : (match conv hp p (get t) m with
        | some (sv, d, m) => (match convT hp get ps (t + 1) m with | some (svs, ds, m) => some (sv :: svs, d ++ ds, m) | none => none)
        | none => none) = some (svs', ds, m') → (∀ F, allPs (p :: ps) F → F svs' ds) ∧ ∀ rest, instPs (p :: ps) (ds ++ rest) = (svs', rest) := fun h => by
      split at h
      · rename_i sv1 d m1 h1
        split at h
        · rename_i svs2 ds2 m2 h2
          cases h
          obtain ⟨a1, a2⟩ := conv_all h1
          obtain ⟨b1, b2⟩ := convT_all h2
          refine ⟨fun F hF => b1 _ (a1 _ hF), fun rest => ?_⟩
          simp only [instPs, List.append_assoc, a2, b2]
        · cases h
      · cases h
    cases p with
    | skip =>
      simp only [convT] at h
      split at h
      · rename_i svs2 ds2 m2 h2
        cases h
        obtain ⟨b1, b2⟩ := convT_all h2
        exact ⟨fun F hF => b1 _ hF, fun rest => by simp only [instPs, instP, b2]⟩
      · cases h
    | _ => exact gen h
theorem convB_all {hp : List Blk} {i : Nat} {m m' : MS} {p : BPat} {x : Blk} {ds : List Dat} (h : convB hp i m p = some (x, ds, m')) : (∀ F, allB p F → F x ds) ∧ ∀ rest, instB p (ds ++ rest) = (x, rest) := by
  unfold convB at h
  split at h
  · cases p with
    | none => cases h; exact ⟨fun F hF => hF, fun rest => rfl⟩
    | cells T ps =>
      simp only at h
      split at h
      · rename_i T' cs _
        cases hb : Nat.beq T' T <;> rw [hb] at h
        · cases h
        · simp only [cond_true] at h
          split at h
          · rename_i svs ds' m1 hc
            cases h
            obtain ⟨h1, h2⟩ := convs_all hc
            exact ⟨fun F hF => h1 _ hF, fun rest => by simp only [instB, h2 rest]⟩
          · cases h
      · cases h
    | own T e =>
      simp only at h
      split at h
      · rename_i T' e' l _
        cases hb : Nat.beq T' T <;> rw [hb] at h
        · cases h
        · simp only [cond_true] at h
          cases hb2 : CSh.beqs e e' <;> rw [hb2] at h <;> cases h
          exact ⟨fun F hF => hF _, fun rest => rfl⟩
      · cases h
  · cases p with
    | none => cases h; exact ⟨fun F hF => hF, fun rest => rfl⟩
    | cells T ps => cases h
    | own T e =>
      simp only at h
      cases hb : memN m.nw i <;> rw [hb] at h <;> cases h
      exact ⟨fun F hF => hF _, fun rest => rfl⟩
theorem convBs_all {hp : List Blk} : ∀ {ps : List BPat} {i : Nat} {m m' : MS} {xs : List Blk} {ds : List Dat}, convBs hp ps i m = some (xs, ds, m') → (∀ F, allBs ps F → F xs ds) ∧ (∀ rest, instBs ps (ds ++ rest) = (xs, rest)) ∧ xs.length = ps.length
  | [], i, m, m', xs, ds, h => by
    simp only [convBs] at h
    cases h; exact ⟨fun F hF => hF, fun rest => rfl, rfl⟩
  | p :: ps, i, m, m', xs, ds, h => by
    simp only [convBs] at h
    split at h
    · rename_i x d m1 h1
      split at h
      · rename_i xs2 ds2 m2 h2
        cases h
        obtain ⟨a1, a2⟩ := convB_all h1
        obtain ⟨b1, b2, b3⟩ := convBs_all h2
        refine ⟨fun F hF => b1 _ (a1 _ hF), fun rest => ?_, by simp [b3]⟩
        simp only [instBs, List.append_assoc, a2, b2]
      · cases h
    · cases h
theorem weakL_all {n0 : Nat} {hp hp' : List Blk} {ps : List Pat} {svs svs' : List SV} {bps : List BPat} {ds : List Dat} {m : MS} (h : weakL n0 hp ps svs bps = some (svs', hp', ds, m)) :
    ∃ ds1 ds2 m1, ds = ds1 ++ ds2 ∧ convs hp ps svs ⟨idRho n0, idB 0 n0 bps, [], []⟩ = some (svs', ds1, m1) ∧ convBs hp bps 0 m1 = some (hp', ds2, m) ∧ n0 ≤ bps.length ∧ m.fine bps.length = true := by
  unfold weakL at h
  split at h
  · rename_i s1 d1 m1 h1
    split at h
    · rename_i x2 d2 m2 h2
      cases hb : (Nat.ble n0 bps.length && m2.fine bps.length) <;> rw [hb] at h <;> cases h
      simp only [Bool.and_eq_true, Nat.ble_eq] at hb
      exact ⟨d1, d2, m1, rfl, h1, h2, hb.1, hb.2⟩
    · cases h
  · cases h
theorem weakT_all {n0 : Nat} {hp hp' : List Blk} {ps : List Pat} {get : Nat → SV} {svs' : List SV} {bps : List BPat} {ds : List Dat} {m : MS} (h : weakT n0 hp get ps bps = some (svs', hp', ds, m)) :
    ∃ ds1 ds2 m1, ds = ds1 ++ ds2 ∧ convT hp get ps 0 ⟨idRho n0, idB 0 n0 bps, [], []⟩ = some (svs', ds1, m1) ∧ convBs hp bps 0 m1 = some (hp', ds2, m) ∧ n0 ≤ bps.length ∧ m.fine bps.length = true := by
  unfold weakT at h
  split at h
  · rename_i s1 d1 m1 h1
    split at h
    · rename_i x2 d2 m2 h2
      cases hb : (Nat.ble n0 bps.length && m2.fine bps.length) <;> rw [hb] at h <;> cases h
      simp only [Bool.and_eq_true, Nat.ble_eq] at hb
      exact ⟨d1, d2, m1, rfl, h1, h2, hb.1, hb.2⟩
    · cases h
  · cases h
end Go.Avc
namespace Go.Avc
set_option linter.unusedVariables false
set_option linter.unusedSimpArgs false
section
variable (Im : Nat → Prop) (ι : Nat → Option Value) (hp : List Blk) (m : MS)
def ImW : Nat → Prop := fun r => Im r ∨ ∃ b v, memN m.fz b = true ∧ ι b = some v ∧ live (hp.getD b .none) = true ∧ foot v = some r
def ιW : Nat → Option Value := fun i => match rhoI m.ρ i with | some b => ι b | none => if memN m.nw i = true then some (.slice none 0 0) else none
end
structure MS.le (m m' : MS) : Prop where
  rho : ∀ b i, rhoI m.ρ i = some b → rhoI m'.ρ i = some b
  fz : ∀ b, memN m.fz b = true → memN m'.fz b = true
  nw : ∀ i, memN m.nw i = true → memN m'.nw i = true
structure MS.Ok (D : Nat → Prop) (m : MS) : Prop where
  nw : ∀ i, memN m.nw i = true → rhoI m.ρ i = none
  inj : ∀ i b, rhoI m.ρ i = some b → D i ∨ rhoB m.β b = some i
theorem MS.le.refl (m : MS) : m.le m := ⟨fun _ _ h => h, fun _ h => h, fun _ h => h⟩
theorem MS.le.trans {m m' m'' : MS} (h : m.le m') (k : m'.le m'') : m.le m'' := ⟨fun b i e => k.rho b i (h.rho b i e), fun b e => k.fz b (h.fz b e), fun i e => k.nw i (h.nw i e)⟩
theorem bind_le {D : Nat → Prop} {m m' : MS} {b i : Nat} (h : m.bind b i = some m') : m.le m' ∧ rhoI m'.ρ i = some b ∧ (m.Ok D → m'.Ok D) := by
  obtain ⟨ρ, β, fz, nw⟩ := m
  simp only [MS.bind] at h
  split at h
  · rename_i b' i' h1 h2
    cases hb : Nat.beq b b' <;> rw [hb] at h
    · cases h
    · simp only [cond_true] at h
      cases hi : Nat.beq i i' <;> rw [hi] at h <;> cases h
      refine ⟨.refl _, ?_, id⟩
      cases beq_true.1 hb
      exact h1
  · rename_i h1 h2
    cases hn : memN nw i <;> rw [hn] at h <;> cases h
    refine ⟨⟨fun b' j e => ?_, fun _ h => h, fun _ h => h⟩, ?_, fun hk => ⟨fun j hj => ?_, fun j c hj => ?_⟩⟩
    · show (bif Nat.beq i j then some b else rhoI ρ j) = some b'
      cases hij : Nat.beq i j with
      | false => exact e
      | true =>
        cases beq_true.1 hij
        rw [show rhoI ρ i = none from h1] at e
        cases e
    · show (bif Nat.beq i i then some b else rhoI ρ i) = some b
      rw [Nat.beq_refl]; rfl
    · show (bif Nat.beq i j then some b else rhoI ρ j) = none
      cases hij : Nat.beq i j with
      | false => exact hk.nw j hj
      | true => cases beq_true.1 hij; rw [hn] at hj; cases hj
    · have hj' : (bif Nat.beq i j then some b else rhoI ρ j) = some c := hj
      show D j ∨ (bif Nat.beq b c then some i else rhoB β c) = some j
      cases hij : Nat.beq i j with
      | true =>
        rw [hij] at hj'
        cases hj'
        cases beq_true.1 hij
        rw [Nat.beq_refl]; exact .inr rfl
      | false =>
        rw [hij] at hj'
        rcases hk.inj j c hj' with h | this
        · exact .inl h
        · right
          cases hbc : Nat.beq b c with
          | false => exact this
          | true =>
            cases beq_true.1 hbc
            rw [show rhoB β b = none from h2] at this
            cases this
  · cases h
theorem new_le {D : Nat → Prop} {m m' : MS} {i : Nat} (h : m.new i = some m') : m.le m' ∧ memN m'.nw i = true ∧ (m.Ok D → m'.Ok D) := by
  obtain ⟨ρ, β, fz, nw⟩ := m
  simp only [MS.new] at h
  split at h
  · rename_i h1
    cases hn : memN nw i <;> rw [hn] at h <;> cases h
    refine ⟨⟨fun _ _ h => h, fun _ h => h, fun j hj => ?_⟩, ?_, fun hk => ⟨fun j hj => ?_, hk.inj⟩⟩
    · show (bif Nat.beq i j then true else memN nw j) = true
      rw [show memN nw j = true from hj]; cases Nat.beq i j <;> rfl
    · show (bif Nat.beq i i then true else memN nw i) = true
      rw [Nat.beq_refl]; rfl
    · have hj' : (bif Nat.beq i j then true else memN nw j) = true := hj
      cases hij : Nat.beq i j with
      | true => cases beq_true.1 hij; exact h1
      | false => rw [hij] at hj'; exact hk.nw j hj'
  · cases h
theorem freeze_le {D : Nat → Prop} (m : MS) (b : Nat) : m.le (m.freeze b) ∧ memN (m.freeze b).fz b = true ∧ (m.Ok D → (m.freeze b).Ok D) := by
  obtain ⟨ρ, β, fz, nw⟩ := m
  simp only [MS.freeze]
  cases hn : memN fz b with
  | true => exact ⟨.refl _, hn, id⟩
  | false =>
    refine ⟨⟨fun _ _ h => h, fun c hc => ?_, fun _ h => h⟩, ?_, fun hk => ⟨hk.nw, hk.inj⟩⟩
    · show (bif Nat.beq b c then true else memN fz c) = true
      rw [show memN fz c = true from hc]; cases Nat.beq b c <;> rfl
    · show (bif Nat.beq b b then true else memN fz b) = true
      rw [Nat.beq_refl]; rfl
theorem convRd0_le {D : Nat → Prop} {hp : List Blk} {e : List CSh} {m m' : MS} {sv sv' : SV} {ds : List Dat} (h : convRd0 hp e m sv = some (sv', ds, m')) : m.le m' ∧ (m.Ok D → m'.Ok D) := by
  unfold convRd0 at h
  split at h
  · rename_i e' l
    cases hb : CSh.beqs e e' <;> rw [hb] at h <;> cases h
    exact ⟨.refl _, id⟩
  · cases h; exact ⟨.refl _, id⟩
  · cases h; exact ⟨.refl _, id⟩
  · split at h
    · rename_i e' l _
      cases hb : CSh.beqs e e' <;> rw [hb] at h <;> cases h
      exact ⟨(freeze_le (D := D) _ _).1, (freeze_le (D := D) _ _).2.2⟩
    · cases h
  · split at h
    · split at h
      · rename_i N _ _ _ N' k l _ _
        revert h
        cases hb : Nat.beq N' _ <;> intro h
        · cases h
        · simp only [cond_true] at h
          revert h
          cases hb2 : CSh.beqs e [.int k] <;> intro h
          · cases h
          · cases h; exact ⟨(freeze_le (D := D) _ _).1, (freeze_le (D := D) _ _).2.2⟩
      · cases h
    · cases h
  · cases h
theorem convRdL_le {D : Nat → Prop} {hp : List Blk} {e : List CSh} : ∀ {svs : List SV} {m m' : MS} {rows : List (List CD)}, convRdL hp e svs m = some (rows, m') → m.le m' ∧ (m.Ok D → m'.Ok D)
  | [], m, m', rows, h => by
    simp only [convRdL] at h
    cases h; exact ⟨.refl _, id⟩
  | sv :: svs, m, m', rows, h => by
    simp only [convRdL] at h
    split at h
    · rename_i m1 h1
      split at h
      · rename_i rows' m2 h2
        cases h
        obtain ⟨a1, a2⟩ := convRd0_le (D := D) h1
        obtain ⟨b1, b2⟩ := convRdL_le (D := D) h2
        exact ⟨a1.trans b1, fun k => b2 (a2 k)⟩
      · cases h
    · cases h
theorem convRd_le {D : Nat → Prop} {hp : List Blk} {e : List CSh} {m m' : MS} {sv sv' : SV} {ds : List Dat} (h : convRd hp e m sv = some (sv', ds, m')) : m.le m' ∧ (m.Ok D → m'.Ok D) := by
  unfold convRd at h
  split at h
  · split at h
    · split at h
      · rename_i h1
        cases h; exact convRdL_le h1
      · cases h
    · cases h
  · exact convRd0_le h
mutual
theorem conv_le {D : Nat → Prop} {hp : List Blk} : ∀ {p : Pat} {sv sv' : SV} {m m' : MS} {ds : List Dat}, conv hp p sv m = some (sv', ds, m') → m.le m' ∧ (m.Ok D → m'.Ok D)
  | .skip, sv, sv', m, m', ds, h => by
    simp only [conv] at h
    split at h <;> cases h
    exact ⟨.refl _, id⟩
  | .int k, sv, sv', m, m', ds, h => by
    simp only [conv] at h
    split at h
    · split at h <;> cases h
      exact ⟨.refl _, id⟩
    · cases h
  | .bool, sv, sv', m, m', ds, h => by
    simp only [conv] at h
    split at h <;> cases h
    exact ⟨.refl _, id⟩
  | .str, sv, sv', m, m', ds, h => by
    simp only [conv] at h
    split at h <;> cases h
    exact ⟨.refl _, id⟩
  | .rd e, sv, sv', m, m', ds, h => by
    simp only [conv] at h
    exact convRd_le h
  | .own i, sv, sv', m, m', ds, h => by
    simp only [conv] at h
    split at h
    · split at h
      · rename_i hb; cases h; exact ⟨(bind_le (D := D) hb).1, (bind_le (D := D) hb).2.2⟩
      · cases h
    · split at h
      · rename_i hb; cases h; exact ⟨(new_le (D := D) hb).1, (new_le (D := D) hb).2.2⟩
      · cases h
    · cases h
  | .ptr i c, sv, sv', m, m', ds, h => by
    simp only [conv] at h
    split at h
    · rename_i b c'
      cases hb : Nat.beq c c' <;> rw [hb] at h
      · cases h
      · simp only [cond_true] at h
        split at h
        · rename_i hb; cases h; exact ⟨(bind_le (D := D) hb).1, (bind_le (D := D) hb).2.2⟩
        · cases h
    · cases h
  | .nilp, sv, sv', m, m', ds, h => by
    simp only [conv] at h
    split at h <;> cases h
    exact ⟨.refl _, id⟩
  | .nilf, sv, sv', m, m', ds, h => by
    simp only [conv] at h
    split at h <;> cases h
    exact ⟨.refl _, id⟩
  | .nils, sv, sv', m, m', ds, h => by
    simp only [conv] at h
    split at h <;> cases h
    exact ⟨.refl _, id⟩
  | .agg ps, sv, sv', m, m', ds, h => by
    simp only [conv] at h
    split at h
    · split at h
      · rename_i hc; cases h; exact convs_le hc
      · cases h
    · cases h
  | .arrI n k, sv, sv', m, m', ds, h => by
    simp only [conv] at h
    split at h
    · split at h
      · rename_i n' k' l hk
        cases hb : Nat.beq n n' <;> rw [hb] at h <;> cases h
        exact ⟨.refl _, id⟩
      · cases h
    · cases h
  | .arrB n, sv, sv', m, m', ds, h => by
    simp only [conv] at h
    split at h
    · rename_i n' l
      cases hb : Nat.beq n n' <;> rw [hb] at h <;> cases h
      exact ⟨.refl _, id⟩
    · cases h
  | .tup ps, sv, sv', m, m', ds, h => by
    simp only [conv] at h
    split at h
    · split at h
      · rename_i hc; cases h; exact convs_le hc
      · cases h
    · cases h
  | .fn f ps, sv, sv', m, m', ds, h => by
    simp only [conv] at h
    split at h
    · rename_i f' cs
      cases hb : Nat.beq f f' <;> rw [hb] at h
      · cases h
      · simp only [cond_true] at h
        split at h
        · rename_i hc; cases h; exact convs_le hc
        · cases h
    · cases h
  | .fb f ps, sv, sv', m, m', ds, h => by
    simp only [conv] at h
    split at h
    · rename_i f' cs
      cases hb : Nat.beq f f' <;> rw [hb] at h
      · cases h
      · simp only [cond_true] at h
        split at h
        · rename_i hc; cases h; exact convs_le hc
        · cases h
    · cases h
  | .nili, sv, sv', m, m', ds, h => by
    simp only [conv] at h
    split at h <;> cases h
    exact ⟨.refl _, id⟩
  | .iface t p, sv, sv', m, m', ds, h => by
    simp only [conv] at h
    split at h
    · rename_i t' v
      cases hb : Nat.beq t t' <;> rw [hb] at h
      · cases h
      · simp only [cond_true] at h
        split at h
        · rename_i hc; cases h; exact conv_le hc
        · cases h
    · cases h
theorem convs_le {D : Nat → Prop} {hp : List Blk} : ∀ {ps : List Pat} {svs svs' : List SV} {m m' : MS} {ds : List Dat}, convs hp ps svs m = some (svs', ds, m') → m.le m' ∧ (m.Ok D → m'.Ok D)
  | [], svs, svs', m, m', ds, h => by
    simp only [convs] at h
    split at h <;> cases h
    exact ⟨.refl _, id⟩
  | p :: ps, svs, svs', m, m', ds, h => by
    simp only [convs] at h
    split at h
    · split at h
      · rename_i h1
        split at h
        · rename_i h2
          cases h
          exact ⟨(conv_le (D := D) h1).1.trans (convs_le (D := D) h2).1, fun hk => (convs_le h2).2 ((conv_le h1).2 hk)⟩
        · cases h
      · cases h
    · cases h
end
theorem convT_le {D : Nat → Prop} {hp : List Blk} {get : Nat → SV} : ∀ {ps : List Pat} {t : Nat} {svs' : List SV} {m m' : MS} {ds : List Dat}, convT hp get ps t m = some (svs', ds, m') → m.le m' ∧ (m.Ok D → m'.Ok D)
  | [], t, svs', m, m', ds, h => by
    simp only [convT] at h
    cases h; exact ⟨.refl _, id⟩
  | p :: ps, t, svs', m, m', ds, h => by
    have gen : (match conv hp p (get t) m with
        | some (sv, d, m) => (match convT hp get ps (t + 1) m with | some (svs, ds, m) => some (sv :: svs, d ++ ds, m) | none => none)
        | none => none) = some (svs', ds, m') → m.le m' ∧ (m.Ok D → m'.Ok D) := fun h => by
      split at h
      · rename_i h1
        split at h
        · rename_i h2
          cases h
          exact ⟨(conv_le (D := D) h1).1.trans (convT_le (D := D) h2).1, fun hk => (convT_le h2).2 ((conv_le h1).2 hk)⟩
        · cases h
      · cases h
    cases p with
    | skip =>
      simp only [convT] at h
      split at h
      · rename_i h2; cases h; exact convT_le h2
      · cases h
    | _ => exact gen h
theorem convB_le {D : Nat → Prop} {hp : List Blk} {i : Nat} {m m' : MS} {p : BPat} {x : Blk} {ds : List Dat} (h : convB hp i m p = some (x, ds, m')) : m.le m' ∧ (m.Ok D → m'.Ok D) := by
  unfold convB at h
  split at h
  · cases p with
    | none => cases h; exact ⟨.refl _, id⟩
    | cells T ps =>
      simp only at h
      split at h
      · rename_i T' cs _
        cases hb : Nat.beq T' T <;> rw [hb] at h
        · cases h
        · simp only [cond_true] at h
          split at h
          · rename_i hc; cases h; exact convs_le hc
          · cases h
      · cases h
    | own T e =>
      simp only at h
      split at h
      · rename_i T' e' l _
        cases hb : Nat.beq T' T <;> rw [hb] at h
        · cases h
        · simp only [cond_true] at h
          cases hb2 : CSh.beqs e e' <;> rw [hb2] at h <;> cases h
          exact ⟨.refl _, id⟩
      · cases h
  · cases p with
    | none => cases h; exact ⟨.refl _, id⟩
    | cells T ps => cases h
    | own T e =>
      simp only at h
      cases hb : memN m.nw i <;> rw [hb] at h <;> cases h
      exact ⟨.refl _, id⟩
theorem convBs_le {D : Nat → Prop} {hp : List Blk} : ∀ {ps : List BPat} {i : Nat} {m m' : MS} {xs : List Blk} {ds : List Dat}, convBs hp ps i m = some (xs, ds, m') → m.le m' ∧ (m.Ok D → m'.Ok D)
  | [], i, m, m', xs, ds, h => by
    simp only [convBs] at h
    cases h; exact ⟨.refl _, id⟩
  | p :: ps, i, m, m', xs, ds, h => by
    simp only [convBs] at h
    split at h
    · rename_i h1
      split at h
      · rename_i h2
        cases h
        exact ⟨(convB_le (D := D) h1).1.trans (convBs_le (D := D) h2).1, fun hk => (convBs_le h2).2 ((convB_le h1).2 hk)⟩
      · cases h
    · cases h
/-! ### Relations -/
section
variable {Im : Nat → Prop} {ι : Nat → Option Value} {w : World} {hp : List Blk} {mf : MS} {D : Nat → Prop}
theorem live_own {hp : List Blk} {b : Nat} {T e l} (h : hp.getD b .none = .own T e l) : live (hp.getD b .none) = true := by rw [h]; rfl
theorem convRd0_rel (hh : HV Im ι w hp) {e : List CSh} {m m' : MS} {sv sv' : SV} {ds : List Dat} {v : Value} (h : convRd0 hp e m sv = some (sv', ds, m')) (hle : m'.le mf) (hv : VRel Im ι w sv v) : VRel (ImW Im ι hp mf) (ιW ι mf) w sv' v := by
  have mono : ∀ {sh cd v}, CRel Im w sh cd v → CRel (ImW Im ι hp mf) w sh cd v := fun h => h.mono (fun _ => .inl) fun _ _ => rfl
  have fmono : ∀ {e l xs}, FlatRel Im w e l xs → FlatRel (ImW Im ι hp mf) w e l xs := fun h => h.mono (fun _ => .inl) fun _ _ => rfl
  unfold convRd0 at h
  split at h
  · rename_i e' l
    cases hb : CSh.beqs e e' <;> rw [hb] at h <;> cases h
    cases CSh.beqs_eq _ _ hb
    exact mono hv
  · cases h
    cases (show v = .slice none 0 0 from hv)
    exact CRel.sl0 _ _ _ (Nat.zero_le _)
  · cases h
    obtain ⟨a, rfl⟩ := hv
    exact CRel.sl0 _ _ _ (Nat.zero_le _)
  · rename_i b
    split at h
    · rename_i T' e' l hblk
      cases hb : CSh.beqs e e' <;> rw [hb] at h <;> cases h
      cases CSh.beqs_eq _ _ hb
      have hfz := hle.fz b (freeze_le (D := fun _ => True) m b).2.1
      obtain ⟨a, cap, h1, h2, h3, h4⟩ := view_sem (x := .own b) (e := e) (l := l) hh (by unfold view; simp only [hblk]) hv
      rcases Nat.eq_zero_or_pos l.length with h0 | h0
      · have : l = [] := List.length_eq_zero_iff.1 h0
        subst this
        subst h1
        exact CRel.sl0 _ _ _ h3
      · obtain ⟨ad, xs, rfl, h5, h6⟩ := h4 h0
        subst h1
        refine CRel.sl _ _ ad cap xs h2 h3 (.inr ⟨b, _, hfz, hv.1, live_own hblk, ?_⟩) (fmono h5) h6
        simp only [foot]
        rw [if_neg (by omega)]
    · cases h
  · rename_i b c N lo n
    split at h
    · rename_i T' cs hblk
      split at h
      · rename_i a N' k L d hsp
        revert h
        cases hb : Nat.beq N' N <;> intro h
        · cases h
        · simp only [cond_true] at h
          revert h
          cases hb2 : CSh.beqs e [.int k] <;> intro h
          · cases h
          · cases h
            cases CSh.beqs_eq _ _ hb2
            have hN := beq_true.1 hb
            have hfz := hle.fz b (freeze_le (D := fun _ => True) m b).2.1
            obtain ⟨a, cap, h1, h2, h3, h4⟩ := view_sem (x := .win b c N lo n) hh (by unfold view; simp only [hblk, hsp]; rw [if_pos hN]) hv
            generalize hl : (((L.drop lo).take n).map fun x => [CD.int x]) = l at h1 h2 h4 ⊢
            rcases Nat.eq_zero_or_pos l.length with h0 | h0
            · have : l = [] := List.length_eq_zero_iff.1 h0
              subst this
              subst h1
              exact CRel.sl0 _ _ _ h3
            · obtain ⟨ad, xs, rfl, h5, h6⟩ := h4 h0
              obtain ⟨r, cap', g1, g2, _⟩ := hv
              rw [h1] at g2
              injection g2 with g3 g4 g5
              injection g3 with g3
              subst g3
              subst h1
              refine CRel.sl _ _ _ cap xs h2 h3 (.inr ⟨b, _, hfz, g1, ?_, rfl⟩) (fmono h5) h6
              rw [hblk]; rfl
      · cases h
    · cases h
  · cases h
theorem convRdL_rel (hh : HV Im ι w hp) {e : List CSh} : ∀ {svs : List SV} {m m' : MS} {rows : List (List CD)} {vs : List Value}, convRdL hp e svs m = some (rows, m') → m'.le mf → VRels Im ι w svs vs →
    FlatRel (ImW Im ι hp mf) w [.sl e] rows vs ∧ rows.length = svs.length
  | [], m, m', rows, vs, h, hle, hv => by
    simp only [convRdL] at h
    cases h
    cases (show vs = [] from hv)
    exact ⟨.nil _, rfl⟩
  | sv :: svs, m, m', rows, vs, h, hle, hv => by
    simp only [convRdL] at h
    obtain ⟨v, vs', rfl, hv1, hv2⟩ := hv
    split at h
    · rename_i e' l ds' m1 h1
      split at h
      · rename_i rows' m2 h2
        cases h
        obtain ⟨l', hl, _⟩ := convRd0_shape h1
        cases hl
        have hle1 := ((convRdL_le (D := fun _ => True) h2).1).trans hle
        have hc := convRd0_rel hh h1 hle1 hv1
        obtain ⟨k1, k2⟩ := convRdL_rel hh h2 hle hv2
        exact ⟨.cons _ _ [v] _ _ (.cons _ _ _ _ _ _ hc .nil) k1, by simp [k2]⟩
      · cases h
    · cases h
theorem convRd_rel (hh : HV Im ι w hp) {e : List CSh} {m m' : MS} {sv sv' : SV} {ds : List Dat} {v : Value} (h : convRd hp e m sv = some (sv', ds, m')) (hle : m'.le mf) (hv : VRel Im ι w sv v) : VRel (ImW Im ι hp mf) (ιW ι mf) w sv' v := by
  unfold convRd at h
  split at h
  · rename_i svs
    split at h
    · split at h
      · rename_i rows m1 h1
        cases h
        obtain ⟨ad, vs, rfl, g1, g2, g3, g4⟩ := hv
        obtain ⟨k1, k2⟩ := convRdL_rel hh h1 hle g3
        show CRel (ImW Im ι hp mf) w (.sl _) (.sl rows) _
        rcases Nat.eq_zero_or_pos svs.length with h0 | h0
        · have : rows = [] := List.length_eq_zero_iff.1 (k2.trans h0)
          subst this
          rw [h0]
          exact CRel.sl0 _ _ _ (Nat.zero_le _)
        · have hc := CRel.sl (Im := ImW Im ι hp mf) (w := w) _ rows ad svs.length vs (by omega) g1 (.inl g2) k1 g4
          rw [k2] at hc
          exact hc
      · cases h
    · cases h
  · exact convRd0_rel hh h hle hv
theorem ιW_bind {b i : Nat} {v : Value} (h : rhoI mf.ρ i = some b) (hb : ι b = some v) : ιW ι mf i = some v := by unfold ιW; rw [h]; exact hb
theorem ιW_new (hk : mf.Ok D) {i : Nat} (h : memN mf.nw i = true) : ιW ι mf i = some (.slice none 0 0) := by unfold ιW; rw [hk.nw i h]; simp [h]
theorem conv_arrI {hp : List Blk} {p : Pat} {n : Nat} {k : IntKind} {l : List Int} {sv' : SV} {m m' : MS} {ds : List Dat} (h : conv hp p (.arrI n k l) m = some (sv', ds, m')) : sv' = .arrI n k l := by
  cases p <;> simp only [conv, convRd] at h <;> try cases h
  split at h
  · rename_i hk
    rename_i n0 k0
    revert h
    cases hb : Nat.beq n0 n <;> intro h <;> cases h
    cases beq_true.1 hb; subst hk; rfl
  · cases h
theorem conv_arrB {hp : List Blk} {p : Pat} {n : Nat} {l : List Bool} {sv' : SV} {m m' : MS} {ds : List Dat} (h : conv hp p (.arrB n l) m = some (sv', ds, m')) : sv' = .arrB n l := by
  cases p <;> simp only [conv, convRd] at h <;> try cases h
  rename_i n0
  revert h
  cases hb : Nat.beq n0 n <;> intro h <;> cases h
  cases beq_true.1 hb; rfl
def SV.isArr : SV → Bool | .arrI .. => true | .arrB .. => true | _ => false
theorem inst_noarr (p : Pat) (ds : List Dat) (h1 : ∀ n k, p ≠ .arrI n k) (h2 : ∀ n, p ≠ .arrB n) : (instP p ds).1.isArr = false := by
  cases p <;> first | exact absurd rfl (h1 _ _) | exact absurd rfl (h2 _) | rfl | (cases ds with | nil => rfl | cons d ds => cases d <;> rfl)
theorem conv_noarr {hp : List Blk} {p : Pat} {sv sv' : SV} {m m' : MS} {ds : List Dat} (ha : sv.isArr = false) (h : conv hp p sv m = some (sv', ds, m')) : sv'.isArr = false := by
  have h2 := (conv_all h).2 []
  have h3 : sv' = (instP p (ds ++ [])).1 := by rw [h2]
  rw [h3]
  refine inst_noarr p _ (fun n k e => ?_) (fun n e => ?_)
  · subst e
    cases sv <;> simp only [conv] at h <;> first | cases h | cases ha
  · subst e
    cases sv <;> simp only [conv] at h <;> first | cases h | cases ha
theorem cellsRel_noarr {Im : Nat → Prop} {ι : Nat → Option Value} {w : World} {s : SV} {cs : List SV} {vs : List Value} (ha : s.isArr = false) : CellsRel Im ι w (s :: cs) vs ↔ ∃ v vs', vs = v :: vs' ∧ VRel Im ι w s v ∧ v.oneCell' = true ∧ CellsRel Im ι w cs vs' := by
  rw [CellsRel.eq_def]
  cases s <;> first | rfl | cases ha
mutual
theorem conv_rel (hh : HV Im ι w hp) (hk : mf.Ok D) : ∀ {p : Pat} {sv sv' : SV} {m m' : MS} {ds : List Dat} {v : Value}, conv hp p sv m = some (sv', ds, m') → m'.le mf → VRel Im ι w sv v → VRel (ImW Im ι hp mf) (ιW ι mf) w sv' v
  | .skip, sv, sv', m, m', ds, v, h, hle, hv => by
    simp only [conv] at h
    split at h <;> cases h
    trivial
  | .int k, sv, sv', m, m', ds, v, h, hle, hv => by
    simp only [conv] at h
    split at h
    · split at h
      · rename_i hk; cases h; subst hk; exact hv
      · cases h
    · cases h
  | .bool, sv, sv', m, m', ds, v, h, hle, hv => by
    simp only [conv] at h
    split at h <;> cases h
    exact hv
  | .str, sv, sv', m, m', ds, v, h, hle, hv => by
    simp only [conv] at h
    split at h <;> cases h
    exact hv
  | .rd e, sv, sv', m, m', ds, v, h, hle, hv => by
    simp only [conv] at h
    exact convRd_rel hh h hle hv
  | .own i, sv, sv', m, m', ds, v, h, hle, hv => by
    simp only [conv] at h
    split at h
    · split at h
      · rename_i hb
        cases h
        exact ⟨ιW_bind (hle.rho _ _ (bind_le (D := D) hb).2.1) hv.1, hv.2⟩
      · cases h
    · split at h
      · rename_i hb
        cases h
        cases (show v = .slice none 0 0 from hv)
        exact ⟨ιW_new hk (hle.nw _ (new_le (D := D) hb).2.1), _, _, _, rfl⟩
      · cases h
    · cases h
  | .ptr i c, sv, sv', m, m', ds, v, h, hle, hv => by
    simp only [conv] at h
    split at h
    · rename_i b c'
      cases hb : Nat.beq c c' <;> rw [hb] at h
      · cases h
      · simp only [cond_true] at h
        split at h
        · rename_i hbd
          cases h
          cases beq_true.1 hb
          obtain ⟨r, h1, h2⟩ := hv
          exact ⟨r, ιW_bind (hle.rho _ _ (bind_le (D := D) hbd).2.1) h1, h2⟩
        · cases h
    · cases h
  | .nilp, sv, sv', m, m', ds, v, h, hle, hv => by
    simp only [conv] at h
    split at h <;> cases h
    exact hv
  | .nilf, sv, sv', m, m', ds, v, h, hle, hv => by
    simp only [conv] at h
    split at h <;> cases h
    exact hv
  | .nils, sv, sv', m, m', ds, v, h, hle, hv => by
    simp only [conv] at h
    split at h <;> cases h
    exact hv
  | .agg ps, sv, sv', m, m', ds, v, h, hle, hv => by
    simp only [conv] at h
    split at h
    · split at h
      · rename_i hc
        cases h
        obtain ⟨vs, h1, h2⟩ := hv
        exact ⟨vs, h1, convs_cells hh hk hc hle h2⟩
      · cases h
    · cases h
  | .arrI n k, sv, sv', m, m', ds, v, h, hle, hv => by
    cases sv <;> simp only [conv] at h <;> first | cases h | exact hv.elim
  | .arrB n, sv, sv', m, m', ds, v, h, hle, hv => by
    cases sv <;> simp only [conv] at h <;> first | cases h | exact hv.elim
  | .tup ps, sv, sv', m, m', ds, v, h, hle, hv => by
    simp only [conv] at h
    split at h
    · split at h
      · rename_i hc
        cases h
        obtain ⟨vs, h1, h2⟩ := hv
        exact ⟨vs, h1, convs_rel hh hk hc hle h2⟩
      · cases h
    · cases h
  | .fn f ps, sv, sv', m, m', ds, v, h, hle, hv => by
    simp only [conv] at h
    split at h
    · rename_i f' cs
      cases hb : Nat.beq f f' <;> rw [hb] at h
      · cases h
      · simp only [cond_true] at h
        split at h
        · rename_i hc
          cases h
          cases beq_true.1 hb
          obtain ⟨vs, h1, h2⟩ := hv
          exact ⟨vs, h1, convs_rel hh hk hc hle h2⟩
        · cases h
    · cases h
  | .fb f ps, sv, sv', m, m', ds, v, h, hle, hv => by
    simp only [conv] at h
    split at h
    · rename_i f' cs
      cases hb : Nat.beq f f' <;> rw [hb] at h
      · cases h
      · simp only [cond_true] at h
        split at h
        · rename_i hc
          cases h
          cases beq_true.1 hb
          obtain ⟨vs, h1, h2⟩ := hv
          exact ⟨vs, h1, convs_rel hh hk hc hle h2⟩
        · cases h
    · cases h
  | .nili, sv, sv', m, m', ds, v, h, hle, hv => by
    simp only [conv] at h
    split at h <;> cases h
    exact hv
  | .iface t p, sv, sv', m, m', ds, v, h, hle, hv => by
    simp only [conv] at h
    split at h
    · rename_i t' u
      cases hb : Nat.beq t t' <;> rw [hb] at h
      · cases h
      · simp only [cond_true] at h
        split at h
        · rename_i hc
          cases h
          cases beq_true.1 hb
          obtain ⟨v', h1, h2⟩ := hv
          exact ⟨v', h1, conv_rel hh hk hc hle h2⟩
        · cases h
    · cases h
theorem convs_rel (hh : HV Im ι w hp) (hk : mf.Ok D) : ∀ {ps : List Pat} {svs svs' : List SV} {m m' : MS} {ds : List Dat} {vs : List Value}, convs hp ps svs m = some (svs', ds, m') → m'.le mf → VRels Im ι w svs vs → VRels (ImW Im ι hp mf) (ιW ι mf) w svs' vs
  | [], svs, svs', m, m', ds, vs, h, hle, hv => by
    simp only [convs] at h
    split at h <;> cases h
    exact hv
  | p :: ps, svs, svs', m, m', ds, vs, h, hle, hv => by
    simp only [convs] at h
    split at h
    · split at h
      · rename_i h1
        split at h
        · rename_i h2
          cases h
          obtain ⟨v, vs', rfl, k1, k2⟩ := hv
          exact ⟨v, vs', rfl, conv_rel hh hk h1 ((convs_le (D := D) h2).1.trans hle) k1, convs_rel hh hk h2 hle k2⟩
        · cases h
      · cases h
    · cases h
theorem convs_cells (hh : HV Im ι w hp) (hk : mf.Ok D) : ∀ {ps : List Pat} {svs svs' : List SV} {m m' : MS} {ds : List Dat} {vs : List Value}, convs hp ps svs m = some (svs', ds, m') → m'.le mf → CellsRel Im ι w svs vs → CellsRel (ImW Im ι hp mf) (ιW ι mf) w svs' vs
  | [], svs, svs', m, m', ds, vs, h, hle, hv => by
    simp only [convs] at h
    split at h <;> cases h
    exact hv
  | p :: ps, svs, svs', m, m', ds, vs, h, hle, hv => by
    simp only [convs] at h
    split at h
    · rename_i sv svs0
      split at h
      · rename_i sv1 d m1 h1
        split at h
        · rename_i svs2 ds2 m2 h2
          cases h
          have ih := fun vs => convs_cells (vs := vs) hh hk h2 hle
          have ih1 := fun v => conv_rel (v := v) hh hk h1 ((convs_le (D := D) h2).1.trans hle)
          cases ha : sv.isArr with
          | false =>
            obtain ⟨v, vs', rfl, k1, k2, k3⟩ := (cellsRel_noarr ha).1 hv
            exact (cellsRel_noarr (conv_noarr ha h1)).2 ⟨v, vs', rfl, ih1 v k1, k2, ih vs' k3⟩
          | true =>
            cases sv <;> first | cases ha | skip
            · cases conv_arrI h1
              obtain ⟨k1, vs', rfl, k2⟩ := cellsRel_arrI_inv hv
              exact cellsRel_arrI_mk k1 (ih vs' k2)
            · cases conv_arrB h1
              obtain ⟨k1, vs', rfl, k2⟩ := cellsRel_arrB_inv hv
              exact cellsRel_arrB_mk k1 (ih vs' k2)
        · cases h
      · cases h
    · cases h
end
theorem convT_rel (hh : HV Im ι w hp) (hk : mf.Ok D) {get : Nat → SV} : ∀ {ps : List Pat} {t : Nat} {svs' : List SV} {m m' : MS} {ds : List Dat}, convT hp get ps t m = some (svs', ds, m') → m'.le mf → ∀ {val : Nat → Value}, (∀ j, t ≤ j → j < t + ps.length → VRel Im ι w (get j) (val j)) →
    svs'.length = ps.length ∧ ∀ j, VRel (ImW Im ι hp mf) (ιW ι mf) w (lget svs' j) (val (t + j))
  | [], t, svs', m, m', ds, h, hle, val, hv => by
    simp only [convT] at h
    cases h
    exact ⟨rfl, fun j => trivial⟩
  | p :: ps, t, svs', m, m', ds, h, hle, val, hv => by
    have gen : (match conv hp p (get t) m with
        | some (sv, d, m) => (match convT hp get ps (t + 1) m with | some (svs, ds, m) => some (sv :: svs, d ++ ds, m) | none => none)
        | none => none) = some (svs', ds, m') → svs'.length = (p :: ps).length ∧ ∀ j, VRel (ImW Im ι hp mf) (ιW ι mf) w (lget svs' j) (val (t + j)) := fun h => by
      split at h
      · rename_i h1
        split at h
        · rename_i h2
          cases h
          obtain ⟨k1, k2⟩ := convT_rel hh hk h2 hle (val := val) fun j a b => hv j (by omega) (by simp; omega)
          refine ⟨by simp [k1], fun j => ?_⟩
          cases j with
          | zero => exact conv_rel hh hk h1 ((convT_le (D := D) h2).1.trans hle) (hv t (Nat.le_refl _) (by simp))
          | succ j => have := k2 j; rw [show t + 1 + j = t + (j + 1) from by omega] at this; exact this
        · cases h
      · cases h
    cases p with
    | skip =>
      simp only [convT] at h
      split at h
      · rename_i h2
        cases h
        obtain ⟨k1, k2⟩ := convT_rel hh hk h2 hle (val := val) fun j a b => hv j (by omega) (by simp; omega)
        refine ⟨by simp [k1], fun j => ?_⟩
        cases j with
        | zero => trivial
        | succ j => have := k2 j; rw [show t + 1 + j = t + (j + 1) from by omega] at this; exact this
      · cases h
    | _ => exact gen h
/-- A block. -/
theorem convB_rel (hh : HV Im ι w hp) (hk : mf.Ok D) {i : Nat} {m m' : MS} {p : BPat} {x : Blk} {ds : List Dat} (h : convB hp i m p = some (x, ds, m')) (hle : m'.le mf) : ∀ v, ιW ι mf i = some v → BRel (ImW Im ι hp mf) (ιW ι mf) w x v ∧ (live x = true → (∃ b, rhoI mf.ρ i = some b ∧ ι b = some v ∧ live (hp.getD b .none) = true) ∨ v = .slice none 0 0) := by
  intro v hv
  have hm := (convB_le (D := D) h).1.trans hle
  unfold convB at h
  split at h
  · rename_i b hb
    have hρ := hm.rho _ _ hb
    have hv' : ι b = some v := by unfold ιW at hv; rw [hρ] at hv; exact hv
    have hB := hh b v hv'
    cases p with
    | none => cases h; exact ⟨trivial, fun e => by cases e⟩
    | cells T ps =>
      simp only at h
      split at h
      · rename_i T' cs hblk
        cases hT : Nat.beq T' T <;> rw [hT] at h
        · cases h
        · simp only [cond_true] at h
          split at h
          · rename_i hc
            cases h
            cases beq_true.1 hT
            rw [hblk] at hB
            obtain ⟨r, vs, rfl, h1, h2⟩ := hB
            exact ⟨⟨r, vs, rfl, h1, convs_cells hh hk hc hle h2⟩, fun _ => .inl ⟨b, hρ, hv', by rw [hblk]; rfl⟩⟩
          · cases h
      · cases h
    | own T e =>
      simp only at h
      split at h
      · rename_i T' e' l hblk
        cases hT : Nat.beq T' T <;> rw [hT] at h
        · cases h
        · simp only [cond_true] at h
          cases hb2 : CSh.beqs e e' <;> rw [hb2] at h <;> cases h
          cases beq_true.1 hT
          cases CSh.beqs_eq _ _ hb2
          rw [hblk] at hB
          obtain ⟨xs, h1, h2⟩ := hB
          exact ⟨⟨xs, h1, h2.mono (fun _ => .inl) fun _ _ => rfl⟩, fun _ => .inl ⟨b, hρ, hv', by rw [hblk]; rfl⟩⟩
      · cases h
  · cases p with
    | none => cases h; exact ⟨trivial, fun e => by cases e⟩
    | cells T ps => cases h
    | own T e =>
      simp only at h
      cases hb : memN m.nw i <;> rw [hb] at h <;> cases h
      have := ιW_new (ι := ι) hk (hm.nw _ hb)
      rw [this] at hv
      cases hv
      exact ⟨⟨[], ⟨by simp, .inl ⟨none, rfl, rfl⟩⟩, .nil _⟩, fun _ => .inr rfl⟩
theorem convBs_rel (hh : HV Im ι w hp) (hk : mf.Ok D) : ∀ {ps : List BPat} {i : Nat} {m m' : MS} {xs : List Blk} {ds : List Dat}, convBs hp ps i m = some (xs, ds, m') → m'.le mf → ∀ j v, ιW ι mf (i + j) = some v → BRel (ImW Im ι hp mf) (ιW ι mf) w (xs.getD j .none) v ∧ (live (xs.getD j .none) = true → (∃ b, rhoI mf.ρ (i + j) = some b ∧ ι b = some v ∧ live (hp.getD b .none) = true) ∨ v = .slice none 0 0)
  | [], i, m, m', xs, ds, h, hle, j, v, hv => by
    simp only [convBs] at h
    cases h
    exact ⟨trivial, fun e => by cases e⟩
  | p :: ps, i, m, m', xs, ds, h, hle, j, v, hv => by
    simp only [convBs] at h
    split at h
    · rename_i h1
      split at h
      · rename_i h2
        cases h
        cases j with
        | zero => exact convB_rel hh hk h1 ((convBs_le (D := D) h2).1.trans hle) v hv
        | succ j =>
          rw [show i + (j + 1) = i + 1 + j from by omega] at hv ⊢
          exact convBs_rel hh hk h2 hle j v hv
      · cases h
    · cases h
/-! ### What is known of the data -/
theorem maxLen_big : maxLen ≤ 9223372036854775807 := by decide
theorem crel_len {Im : Nat → Prop} {w : World} {e : List CSh} {l : List (List CD)} {v : Value} (h : CRel Im w (.sl e) (.sl l) v) : l.length ≤ 9223372036854775807 := by
  obtain ⟨a, cap, _, h2, h3, _⟩ := CRel.slice h
  have := maxLen_big
  omega
mutual
theorem imp_elim {Im : Nat → Prop} {ι : Nat → Option Value} {w : World} : ∀ (p : Pat) (ds : List Dat) (v : Value) (K : List Dat → Prop), VRel Im ι w (instP p ds).1 v → impP p ds K → K (instP p ds).2
  | .skip, ds, v, K, hv, h => by cases ds <;> exact h
  | .int k, ds, v, K, hv, h => by
    cases ds with
    | nil => exact h
    | cons d ds => cases d <;> exact h
  | .bool, ds, v, K, hv, h => by
    cases ds with
    | nil => exact h
    | cons d ds => cases d <;> exact h
  | .str, ds, v, K, hv, h => by
    cases ds with
    | nil => exact h
    | cons d ds =>
      cases d <;> first | exact h | skip
      exact h (Nat.le_trans hv.2 maxLen_big)
  | .rd e, ds, v, K, hv, h => by
    cases ds with
    | nil => exact h
    | cons d ds =>
      cases d <;> first | exact h | skip
      exact h (crel_len hv)
  | .own i, ds, v, K, hv, h => by cases ds <;> exact h
  | .ptr i c, ds, v, K, hv, h => by cases ds <;> exact h
  | .nilp, ds, v, K, hv, h => by cases ds <;> exact h
  | .nilf, ds, v, K, hv, h => by cases ds <;> exact h
  | .nils, ds, v, K, hv, h => by cases ds <;> exact h
  | .agg ps, ds, v, K, hv, h => by
    obtain ⟨vs, _, k⟩ := hv
    have h' : impPs ps ds K := by cases ds <;> exact h
    exact imps_cells ps ds vs K k h'
  | .arrI n k, ds, v, K, hv, h => by
    cases ds with
    | nil => exact h
    | cons d ds =>
      cases d <;> first | exact h | exact hv.elim
  | .arrB n, ds, v, K, hv, h => by
    cases ds with
    | nil => exact h
    | cons d ds =>
      cases d <;> first | exact h | exact hv.elim
  | .tup ps, ds, v, K, hv, h => by
    obtain ⟨vs, _, k⟩ := hv
    have h' : impPs ps ds K := by cases ds <;> exact h
    exact imps_elim ps ds vs K k h'
  | .fn f ps, ds, v, K, hv, h => by
    obtain ⟨vs, _, k⟩ := hv
    have h' : impPs ps ds K := by cases ds <;> exact h
    exact imps_elim ps ds vs K k h'
  | .fb f ps, ds, v, K, hv, h => by
    obtain ⟨vs, _, k⟩ := hv
    have h' : impPs ps ds K := by cases ds <;> exact h
    exact imps_elim ps ds vs K k h'
  | .nili, ds, v, K, hv, h => by cases ds <;> exact h
  | .iface t p, ds, v, K, hv, h => by
    obtain ⟨v', _, k⟩ := hv
    have h' : impP p ds K := by cases ds <;> exact h
    exact imp_elim p ds v' K k h'
theorem imps_elim {Im : Nat → Prop} {ι : Nat → Option Value} {w : World} : ∀ (ps : List Pat) (ds : List Dat) (vs : List Value) (K : List Dat → Prop), VRels Im ι w (instPs ps ds).1 vs → impPs ps ds K → K (instPs ps ds).2
  | [], ds, vs, K, hv, h => h
  | p :: ps, ds, vs, K, hv, h => by
    obtain ⟨v, vs', rfl, k1, k2⟩ := hv
    exact imps_elim ps _ vs' K k2 (imp_elim p ds v _ k1 h)
theorem imps_cells {Im : Nat → Prop} {ι : Nat → Option Value} {w : World} : ∀ (ps : List Pat) (ds : List Dat) (vs : List Value) (K : List Dat → Prop), CellsRel Im ι w (instPs ps ds).1 vs → impPs ps ds K → K (instPs ps ds).2
  | [], ds, vs, K, hv, h => h
  | p :: ps, ds, vs, K, hv, h => by
    have hv' : CellsRel Im ι w ((instP p ds).1 :: (instPs ps (instP p ds).2).1) vs := hv
    have ih := fun v => imp_elim (Im := Im) (ι := ι) (w := w) p ds v (fun ds => impPs ps ds K)
    have ih2 := fun vs' => imps_cells (Im := Im) (ι := ι) (w := w) ps (instP p ds).2 vs' K
    show K (instPs ps (instP p ds).2).2
    cases ha : (instP p ds).1.isArr with
    | false =>
      obtain ⟨v, vs', rfl, k1, k2, k3⟩ := (cellsRel_noarr ha).1 hv'
      exact ih2 vs' k3 (ih v k1 h)
    | true =>
      have hk : impPs ps (instP p ds).2 K := by
        cases p with
        | arrI n k =>
          cases ds with
          | nil => exact h
          | cons d ds =>
            cases d <;> first | exact h | skip
            exact h (cellsRel_arrI_inv hv').1
        | arrB n =>
          cases ds with
          | nil => exact h
          | cons d ds =>
            cases d <;> first | exact h | skip
            exact h (cellsRel_arrB_inv hv').1
        | _ =>
          rw [inst_noarr _ ds (by intro n k e; cases e) (by intro n e; cases e)] at ha
          cases ha
      obtain ⟨va, vb, rfl, _, _, k2⟩ := cellsRel_cons hv'
      exact ih2 vb k2 hk
end
theorem impB_elim {Im : Nat → Prop} {ι : Nat → Option Value} {w : World} (p : BPat) (ds : List Dat) (v : Value) (K : List Dat → Prop) (hv : BRel Im ι w (instB p ds).1 v) (h : impB p ds K) : K (instB p ds).2 := by
  cases p with
  | none => cases ds <;> exact h
  | cells T ps =>
    obtain ⟨r, vs, _, _, k⟩ := hv
    have h' : impPs ps ds K := by cases ds <;> exact h
    exact imps_cells ps ds vs K k h'
  | own T e =>
    cases ds with
    | nil => exact h
    | cons d ds =>
      cases d <;> first | exact h | skip
      rename_i l
      refine h ?_
      obtain ⟨xs, hO, _⟩ := hv
      obtain ⟨a, cap, _, h2, h3, _⟩ := OwnV.slice hO
      have := maxLen_big
      omega
mutual
theorem hs_some {Im : Nat → Prop} {ι : Nat → Option Value} {w : World} : ∀ (s : SV) (v : Value), VRel Im ι w s v → ∀ b ∈ s.hs, ∃ u, ι b = some u
  | .agg cs, v, h, b, hb => by obtain ⟨vs, _, k⟩ := h; exact hs_cells cs vs k b hb
  | .fn f cs, v, h, b, hb => by obtain ⟨vs, _, k⟩ := h; exact hs_vrels cs vs k b hb
  | .fb f cs, v, h, b, hb => by obtain ⟨vs, _, k⟩ := h; exact hs_vrels cs vs k b hb
  | .tup cs, v, h, b, hb => by obtain ⟨vs, _, k⟩ := h; exact hs_vrels cs vs k b hb
  | .sls cs, v, h, b, hb => by obtain ⟨_, vs, _, _, _, k, _⟩ := h; exact hs_vrels cs vs k b hb
  | .iface t s, v, h, b, hb => by obtain ⟨v', _, k⟩ := h; exact hs_some s v' k b hb
  | .ptr c _, v, h, b, hb => by
    obtain ⟨r, k, _⟩ := h
    have hb' : b ∈ [c] := hb
    simp only [List.mem_singleton] at hb'
    subst hb'; exact ⟨_, k⟩
  | .aptr c _ _, v, h, b, hb => by
    obtain ⟨r, k, _⟩ := h
    have hb' : b ∈ [c] := hb
    simp only [List.mem_singleton] at hb'
    subst hb'; exact ⟨_, k⟩
  | .own c, v, h, b, hb => by
    have hb' : b ∈ [c] := hb
    simp only [List.mem_singleton] at hb'
    subst hb'; exact ⟨_, h.1⟩
  | .win c _ _ _ _, v, h, b, hb => by
    obtain ⟨r, cap, k, _⟩ := h
    have hb' : b ∈ [c] := hb
    simp only [List.mem_singleton] at hb'
    subst hb'; exact ⟨_, k⟩
  | .optr c _ _ _, v, h, b, hb => by
    obtain ⟨r, n, cap, k, _⟩ := h
    have hb' : b ∈ [c] := hb
    simp only [List.mem_singleton] at hb'
    subst hb'; exact ⟨_, k⟩
  | .ow c _ _ _, v, h, b, hb => by
    obtain ⟨r, m, cap, cap', k, _⟩ := h
    have hb' : b ∈ [c] := hb
    simp only [List.mem_singleton] at hb'
    subst hb'; exact ⟨_, k⟩
  | .dead, _, _, b, hb | .int .., _, _, b, hb | .bool _, _, _, b, hb | .str _, _, _, b, hb | .nilp, _, _, b, hb | .nilf, _, _, b, hb | .rd .., _, _, b, hb | .e0, _, _, b, hb | .nils, _, _, b, hb | .eptr .., _, _, b, hb | .nili, _, _, b, hb | .val _, _, _, b, hb => by
    cases (show b ∈ [] from hb)
  | .arrI .., v, h, b, hb => h.elim
  | .arrB .., v, h, b, hb => h.elim
theorem hs_vrels {Im : Nat → Prop} {ι : Nat → Option Value} {w : World} : ∀ (cs : List SV) (vs : List Value), VRels Im ι w cs vs → ∀ b ∈ hsL cs, ∃ u, ι b = some u
  | [], vs, h, b, hb => by cases hb
  | s :: cs, vs, h, b, hb => by
    obtain ⟨v, vs', rfl, k1, k2⟩ := h
    rcases List.mem_append.1 (show b ∈ s.hs ++ hsL cs from hb) with hb | hb
    · exact hs_some s v k1 b hb
    · exact hs_vrels cs vs' k2 b hb
theorem hs_cells {Im : Nat → Prop} {ι : Nat → Option Value} {w : World} : ∀ (cs : List SV) (vs : List Value), CellsRel Im ι w cs vs → ∀ b ∈ hsL cs, ∃ u, ι b = some u
  | [], vs, h, b, hb => by cases hb
  | s :: cs, vs, h, b, hb => by
    have ih := fun v => hs_some (Im := Im) (ι := ι) (w := w) s v
    have ih2 := fun vs' => hs_cells (Im := Im) (ι := ι) (w := w) cs vs'
    rcases List.mem_append.1 (show b ∈ s.hs ++ hsL cs from hb) with hb | hb
    · cases ha : s.isArr with
      | false =>
        obtain ⟨v, vs', rfl, k1, _, _⟩ := (cellsRel_noarr ha).1 h
        exact ih v k1 b hb
      | true =>
        cases s <;> first | cases ha | skip
        · cases (show b ∈ [] from hb)
        · cases (show b ∈ [] from hb)
    · obtain ⟨va, vb, rfl, _, _, k⟩ := cellsRel_cons h
      exact ih2 vb k b hb
end
theorem impBs_elim {Im : Nat → Prop} {ι : Nat → Option Value} {w : World} {hs : List Nat} (hk : ∀ b ∈ hs, ∃ u, ι b = some u) : ∀ (ps : List BPat) (i : Nat) (ds : List Dat) (K : List Dat → Prop), (∀ j v, ι (i + j) = some v → BRel Im ι w ((instBs ps ds).1.getD j .none) v) → impBs hs i ps ds K → K (instBs ps ds).2
  | [], i, ds, K, hB, h => h
  | p :: ps, i, ds, K, hB, h => by
    have ih := impBs_elim hk ps (i + 1) (instB p ds).2 K fun j v hj => hB (j + 1) v (by rw [← hj]; congr 1; omega)
    unfold impBs at h
    cases hc : hs.contains i with
    | false => rw [hc] at h; exact ih h
    | true =>
      rw [hc] at h
      obtain ⟨u, hu⟩ := hk i (by simpa using hc)
      exact ih (impB_elim p ds u _ (hB 0 u hu) h)
theorem vrels_of_lget {Im : Nat → Prop} {ι : Nat → Option Value} {w : World} : ∀ (svs : List SV) (val : Nat → Value), (∀ j, VRel Im ι w (lget svs j) (val j)) → ∃ vs, VRels Im ι w svs vs
  | [], val, h => ⟨[], rfl⟩
  | s :: svs, val, h => by
    obtain ⟨vs, k⟩ := vrels_of_lget svs (fun j => val (j + 1)) fun j => h (j + 1)
    exact ⟨val 0 :: vs, val 0, vs, rfl, h 0, k⟩
/-! ### Memory -/
theorem rho_id : ∀ n i, rhoI (idRho n) i = if i < n then some i else none
  | 0, i => by simp [idRho, rhoI]
  | n + 1, i => by
    show (bif Nat.beq n i then some n else rhoI (idRho n) i) = _
    cases h : Nat.beq n i with
    | true => cases beq_true.1 h; simp
    | false =>
      rw [cond_false, rho_id n i]
      have := beq_false.1 h
      by_cases h2 : i < n
      · rw [if_pos h2, if_pos (by omega)]
      · rw [if_neg h2, if_neg (by omega)]
def noneAt : List BPat → Nat → Prop
  | [], _ => True
  | p :: _, 0 => p = .none
  | _ :: ps, i + 1 => noneAt ps i
theorem rhoB_idB : ∀ (n i : Nat) (bps : List BPat) (j : Nat), j < n → noneAt bps j ∨ rhoB (idB i n bps) (i + j) = some (i + j)
  | 0, i, bps, j, h => by omega
  | n + 1, i, [], j, h => .inl (by cases j <;> trivial)
  | n + 1, i, p :: ps, 0, h => by
    cases p with
    | none => exact .inl rfl
    | _ =>
      right
      show (bif Nat.beq i (i + 0) then some i else _) = some (i + 0)
      rw [Nat.add_zero, Nat.beq_refl]; rfl
  | n + 1, i, p :: ps, j + 1, h => by
    have ih := rhoB_idB n (i + 1) ps j (by omega)
    rcases ih with ih | ih
    · exact .inl ih
    · right
      have e : i + 1 + j = i + (j + 1) := by omega
      rw [e] at ih
      cases p with
      | none => exact ih
      | _ =>
        show (bif Nat.beq i (i + (j + 1)) then some i else rhoB (idB (i + 1) n ps) (i + (j + 1))) = _
        rw [beq_false.2 (by omega : i ≠ i + (j + 1))]
        exact ih
theorem idRho_ok (n : Nat) (bps : List BPat) : (⟨idRho n, idB 0 n bps, [], []⟩ : MS).Ok (noneAt bps) := by
  refine ⟨fun i h => (by cases h), fun i b h => ?_⟩
  have h' : rhoI (idRho n) i = some b := h
  rw [rho_id] at h'
  split at h'
  · rename_i hlt
    cases h'
    have := rhoB_idB n 0 bps i hlt
    rwa [Nat.zero_add] at this
  · cases h'
theorem convBs_none {hp : List Blk} : ∀ {ps : List BPat} {i : Nat} {m m' : MS} {xs : List Blk} {ds : List Dat}, convBs hp ps i m = some (xs, ds, m') → ∀ j, noneAt ps j → xs.getD j .none = .none
  | [], i, m, m', xs, ds, h, j, hj => by simp only [convBs] at h; cases h; rfl
  | p :: ps, i, m, m', xs, ds, h, j, hj => by
    simp only [convBs] at h
    split at h
    · rename_i x d m1 h1
      split at h
      · rename_i h2
        cases h
        cases j with
        | zero =>
          cases (show p = .none from hj)
          unfold convB at h1
          split at h1 <;> cases h1 <;> rfl
        | succ j => exact convBs_none h2 j hj
      · cases h
    · cases h
theorem apart_spec : ∀ {l : List Nat} {ρ : List (Nat × Nat)}, apart l ρ = true → ∀ b, memN l b = true → rhoB ρ b = none
  | [], _, _, b, h => by cases h
  | a :: l, ρ, h, b, hb => by
    simp only [apart] at h
    split at h
    · rename_i h1
      have hb' : (bif Nat.beq a b then true else memN l b) = true := hb
      cases hab : Nat.beq a b with
      | true => cases beq_true.1 hab; exact h1
      | false => rw [hab] at hb'; exact apart_spec h b hb'
    · cases h
theorem lastOk_spec {n : Nat} {m : MS} : ∀ {ρ : List (Nat × Nat)}, lastOk n m ρ = true → ∀ i b, rhoI ρ i = some b → i < n
  | [], _, i, b, h => by cases h
  | (b0, i0) :: ρ, h, i, b, hi => by
    simp only [lastOk, Bool.and_eq_true] at h
    have hi' : (bif Nat.beq i0 i then some b0 else rhoI ρ i) = some b := hi
    cases hab : Nat.beq i0 i with
    | true => cases beq_true.1 hab; exact blt_true.1 h.1
    | false => rw [hab] at hi'; exact lastOk_spec h.2 i b hi'
theorem below_spec {n : Nat} : ∀ {l : List Nat}, below n l = true → ∀ i, memN l i = true → i < n
  | [], _, i, h => by cases h
  | a :: l, h, i, hi => by
    simp only [below, Bool.and_eq_true] at h
    have hi' : (bif Nat.beq a i then true else memN l i) = true := hi
    cases hab : Nat.beq a i with
    | true => cases beq_true.1 hab; exact blt_true.1 h.1
    | false => rw [hab] at hi'; exact below_spec h.2 i hi'
/-- What is known of the last names. -/
structure Fine (D : Nat → Prop) (n0 n : Nat) (m : MS) : Prop where
  ok : m.Ok D
  id : ∀ i, i < n0 → rhoI m.ρ i = some i
  apart : ∀ b, memN m.fz b = true → rhoB m.β b = none
  last : ∀ i b, rhoI m.ρ i = some b → i < n
  nw : ∀ i, memN m.nw i = true → i < n
  le : n0 ≤ n
theorem fine_of {n0 n : Nat} {bps : List BPat} {m m1 : MS} (h1 : (⟨idRho n0, idB 0 n0 bps, [], []⟩ : MS).le m1 ∧ ((⟨idRho n0, idB 0 n0 bps, [], []⟩ : MS).Ok (noneAt bps) → m1.Ok (noneAt bps))) (h2 : m1.le m ∧ (m1.Ok (noneAt bps) → m.Ok (noneAt bps))) (hn : n0 ≤ n) (hf : m.fine n = true) : Fine (noneAt bps) n0 n m := by
  unfold MS.fine at hf
  simp only [Bool.and_eq_true] at hf
  exact ⟨h2.2 (h1.2 (idRho_ok n0 bps)), fun i hi => h2.1.rho _ _ (h1.1.rho _ _ (by show rhoI (idRho n0) i = _; rw [rho_id, if_pos hi])), fun b hb => apart_spec hf.1 b hb, fun i b h => lastOk_spec hf.2.1 i b h, fun i h => below_spec hf.2.2 i h, hn⟩
theorem ιW_lt {n0 n : Nat} {m : MS} (hf : Fine D n0 n m) {i : Nat} (h : n ≤ i) : ιW ι m i = none := by
  unfold ιW
  cases hr : rhoI m.ρ i with
  | some b => have := hf.last i b hr; omega
  | none =>
    cases hn : memN m.nw i with
    | true => have := hf.nw i hn; omega
    | false => rfl
theorem ιW_id {n0 n : Nat} {m : MS} (hf : Fine D n0 n m) {i : Nat} (h : i < n0) : ιW ι m i = ι i := by
  unfold ιW
  rw [hf.id i h]
/-- The memory, told by the pattern. -/
theorem weak_mem {C : Ctx} {E : Ent} {hp' : List Blk} {n0 n : Nat} (hm : Mem C E hp Im ι w) (hf : Fine D n0 n mf) (hlen : hp'.length = n)
    (hB : ∀ j v, ιW ι mf j = some v → BRel (ImW Im ι hp mf) (ιW ι mf) w (hp'.getD j .none) v ∧ (live (hp'.getD j .none) = true → (∃ b, rhoI mf.ρ j = some b ∧ ι b = some v ∧ live (hp.getD b .none) = true) ∨ v = .slice none 0 0))
    (hD : ∀ j, D j → hp'.getD j .none = .none) (hE : ∀ b, n0 ≤ b → E.ι b = none) (hg : ∀ g sv, C.glob g = some sv → ∃ e l i c, sv = .eptr e l i c) : Mem C E hp' (ImW Im ι hp mf) (ιW ι mf) w := by
  have hlt : ∀ b v r, live (hp.getD b .none) = true → ι b = some v → foot v = some r → r < w.heap.size := fun b v r h1 h2 h3 => by
    have hb := hm.hv b v h2
    cases hblk : hp.getD b .none with
    | none => rw [hblk] at h1; cases h1
    | ro e l => rw [hblk] at h1; cases h1
    | cells T cs =>
      rw [hblk] at hb
      obtain ⟨r', vs, rfl, h4, _⟩ := hb
      cases h3
      exact (Array.getElem?_eq_some_iff.1 h4).1
    | own T e l =>
      rw [hblk] at hb
      obtain ⟨xs, ⟨_, h2⟩, _⟩ := hb
      rcases h2 with ⟨a, rfl, _⟩ | ⟨g, cap, cur, rfl, h4, _, h6, _⟩
      · exfalso
        revert h3
        cases a <;> simp [foot]
      · simp [foot] at h3
        obtain ⟨_, rfl⟩ := h3
        exact (Array.getElem?_eq_some_iff.1 h4).1
  have hinj : ∀ j b, live (hp'.getD j .none) = true → rhoI mf.ρ j = some b → rhoB mf.β b = some j := fun j b h1 h2 => by
    rcases hf.ok.inj j b h2 with h | h
    · rw [hD j h] at h1; cases h1
    · exact h
  have hnil : foot (.slice none 0 0) = none := rfl
  have hsrc : ∀ j v r, live (hp'.getD j .none) = true → ιW ι mf j = some v → foot v = some r → ∃ b, rhoI mf.ρ j = some b ∧ ι b = some v ∧ live (hp.getD b .none) = true := fun j v r h1 h2 h3 => by
    rcases (hB j v h2).2 h1 with h | h
    · exact h
    · subst h; rw [hnil] at h3; cases h3
  refine ⟨fun j v hj => (hB j v hj).1, ⟨fun r hr => ?_, fun j v r h1 h2 h3 => ?_, fun j j' v v' r h1 h2 h3 h4 h5 h6 => ?_, fun j v r h1 h2 h3 => ?_⟩, ⟨hm.since.os, hm.since.tape, hm.since.output, hm.since.size, hm.since.block, fun b v hb => ?_, fun i hi => .inl (hm.since.im i hi), fun i hi => ?_⟩, fun g sv hs => ?_⟩
  · rcases hr with hr | ⟨b, v, h1, h2, h3, h4⟩
    · exact hm.mr.imlt r hr
    · exact hlt b v r h3 h2 h4
  · obtain ⟨b, g1, g2, g3⟩ := hsrc j v r h1 h2 h3
    rintro (hr | ⟨b', v', k1, k2, k3, k4⟩)
    · exact hm.mr.imm b v r g3 g2 h3 hr
    · have := hm.mr.sep b b' v v' r g3 k3 g2 k2 h3 k4
      subst this
      have := hinj j b h1 g1
      rw [hf.apart b k1] at this
      cases this
  · obtain ⟨b, g1, g2, g3⟩ := hsrc j v r h1 h3 h5
    obtain ⟨b', k1, k2, k3⟩ := hsrc j' v' r h2 h4 h6
    have := hm.mr.sep b b' v v' r g3 k3 g2 k2 h5 h6
    subst this
    have e1 := hinj j b h1 g1
    have e2 := hinj j' b h2 k1
    rw [e1] at e2
    cases e2; rfl
  · obtain ⟨b, g1, g2, g3⟩ := hsrc j v r h1 h2 h3
    exact hm.mr.mine b v r g3 g2 h3
  · rcases Nat.lt_or_ge b n0 with h | h
    · rw [ιW_id hf h]; exact hm.since.hd b v hb
    · rw [hE b h] at hb; cases hb
  · rcases hi with hi | ⟨b, v, h1, h2, h3, h4⟩
    · exact hm.since.imnew i hi
    · exact .inr (hm.mr.mine b v i h3 h2 h4)
  · obtain ⟨e, l, i, c, rfl⟩ := hg g sv hs
    have := hm.glob g _ hs
    obtain ⟨ad, xs, k1, k2, k3, k4⟩ := this
    exact ⟨ad, xs, k1, .inl k2, k3.mono (fun _ => .inl) fun _ _ => rfl, k4⟩
end
end Go.Avc
namespace Go.Avc
set_option linter.unusedVariables false
set_option linter.unusedSimpArgs false
/-- What is said at a loop's head, or where ways meet. -/
structure LA where
  n : Nat
  ps : List Pat
  bs : List BPat
  R : List Dat → Prop
  m : List Dat → Nat
/-- By the first region's number: one of several is so. -/
structure Ann where
  cut : List (Nat × List LA)
  loop : List (Nat × List LA)
  /-- A loop of which what is said hangs on what stood there when it was come to (a loop in a loop): first the state is told by a pattern, then that is named. -/
  nest : List (Nat × List LA × (List Dat → List LA)) := []
def laOf : List (Nat × List LA) → Nat → Option (List LA)
  | [], _ => none
  | (k, A) :: l, i => bif Nat.beq k i then some A else laOf l i
def nestOf : List (Nat × List LA × (List Dat → List LA)) → Nat → Option (List LA × (List Dat → List LA))
  | [], _ => none
  | (k, A) :: l, i => bif Nat.beq k i then some A else nestOf l i
/-- A piece of code is named by its first region. -/
def keyC : Code → Nat
  | .region id _ _ => id
  | .seq x _ => keyC x
  | .block _ c => keyC c
  | .loop c => keyC c
  | .cond _ x _ => keyC x
  | .scope c => keyC c
  | _ => 1000000
/-- Nothing is said of a loop, or a state doesn't fit: there is no proof of it. -/
inductive Miss : Nat → ES → Prop
/-- The slots that are looked at. -/
def pl : Nat → Nat → List (Nat × Pat) → List Pat
  | 0, _, _ => []
  | k + 1, t, l => (match plAt l t with | some p => p | none => .skip) :: pl k (t + 1) l
where plAt : List (Nat × Pat) → Nat → Option Pat
  | [], _ => none
  | (d, p) :: l, t => bif Nat.beq d t then some p else plAt l t
def hitL (n0 : Nat) (s : ES) (K : LA → List Dat → Prop) : List LA → Prop
  | [] => Miss 0 s
  | A :: l => (match s with
    | ⟨n, ov, tm, hp, G⟩ => bif Nat.beq A.ps.length A.n && Nat.beq n A.n then (match weakT n0 hp (oget ov tm) A.ps A.bs with | some (_, _, ds, _) => K A ds | none => hitL n0 s K l) else hitL n0 s K l)
def allE (A : LA) (K : ES → List Dat → Prop) : Prop := allPs A.ps fun tm ds => allBs A.bs fun hp ds' => impPs A.ps ds fun _ => impBs (hsL tm) 0 A.bs ds' fun _ => K ⟨A.n, [], tm, hp, []⟩ (ds ++ ds')
def allL (K : LA → ES → List Dat → Prop) : List LA → Prop
  | [] => True
  | [A] => allE A (K A)
  | A :: l => allE A (K A) ∧ allL K l
def thenE (K : ES → Prop) (Q : Exit → ES → Prop) : Exit → ES → Prop
  | .normal, s => K s
  | e, s => Q e s
def inBlockE (id : Nat) (Q : Exit → ES → Prop) : Exit → ES → Prop
  | .exit id', s => bif Nat.beq id' id then Q .normal s else Q (.exit id') s
  | e, s => Q e s
def ES.clr (s : ES) (K : ES → Prop) : Prop := match s with | ⟨n, ov, tm, hp, _⟩ => K ⟨n, ov, tm, hp, []⟩
section
variable (C : Ctx) (n0 : Nat) (ann : Ann)
def evE : Code → ES → (Exit → ES → Prop) → Prop
  | .skip, s, Q => Q .normal s
  | .label _, s, Q => Q .normal s
  | .region _ ops draw, s, Q => (match draw with | true => drawE C ops s (fun s => s.clr (Q .normal)) | false => opsE C ops ops.toList s (fun s => s.clr (Q .normal)))
  | .seq x y, s, Q => (match laOf ann.cut (keyC y) with
    | none => evE x s (thenE (fun s => evE y s Q) Q)
    | some l => evE x s (thenE (fun s => hitL n0 s (fun A ds => A.R ds ∧ True) l) Q) ∧ allL (fun A s ds => A.R ds → evE y s Q) l)
  | .cond c x y, s, Q => (match s.ev C.glob c with | .bool b => bif b then evE x s Q else evE y s Q | _ => Miss 1 s)
  | .block id c, s, Q => evE c s (inBlockE id Q)
  | .loop c, s, Q => (match laOf ann.loop (keyC c) with
    | some l => hitL n0 s (fun A ds => A.R ds ∧ True) l ∧ allL (fun A s ds => A.R ds → evE c s (thenE (fun s => hitL n0 s (fun A' ds' => A'.R ds' ∧ A'.m ds' < A.m ds) l) Q)) l
    | none => (match nestOf ann.nest (keyC c) with
      | some (l0, g) => hitL n0 s (fun _ ds0 => hitL n0 s (fun A ds => A.R ds ∧ True) (g ds0) ∧ allL (fun A s ds => A.R ds → evE c s (thenE (fun s => hitL n0 s (fun A' ds' => A'.R ds' ∧ A'.m ds' < A.m ds) (g ds0)) Q)) (g ds0)) l0
      | none => Miss (keyC c) s))
  | .exit id, s, Q => Q (.exit id) s
  | .goto l, s, Q => Q (.goto l) s
  | .ret, s, Q => Q .ret s
  | _, _, _ => False
end
section
variable {C : Ctx} {E B : Ent} {n0 : Nat}
theorem clr_ok {s : ES} (hs : s.Ok) {K : ES → Prop} (h : s.clr K) : ∃ s' : ES, s'.Ok ∧ s'.as = s.as ∧ K s' := by
  obtain ⟨n, ov, tm, hp, G⟩ := s
  exact ⟨⟨n, ov, tm, hp, []⟩, ⟨hs.len, hs.ov, (fun g hg => by cases hg), fun g hg => by cases hg⟩, rfl, h⟩
theorem allL_mem {K : LA → ES → List Dat → Prop} : ∀ {l : List LA}, allL K l → ∀ A ∈ l, allE A (K A)
  | [], _, A, h => by cases h
  | [A0], h, A, hA => by
    simp only [List.mem_singleton] at hA
    subst hA; exact h
  | A0 :: A1 :: l, h, A, hA => by
    rcases List.mem_cons.1 hA with rfl | hA
    · exact h.1
    · exact allL_mem h.2 A hA
theorem hit_sound (hC : C.Ok) (hE : ∀ b, n0 ≤ b → E.ι b = none) (hB : ∀ b, n0 ≤ b → B.ι b = none) (hF : ∀ b, B.F b → b < n0) {s : ES} {K : LA → List Dat → Prop} {a : Act} {w : World} (hs : s.Ok) (hR : RelF C E B s.as a w) : ∀ l : List LA, hitL n0 s K l →
    ∃ A ∈ l, ∃ (tm : List SV) (hp : List Blk) (ds : List Dat), RelF C E B ⟨tm, hp⟩ a w ∧ K A ds ∧ tm.length = A.n ∧ ∀ F, allE A F → F ⟨A.n, [], tm, hp, []⟩ ds
  | [], h => by cases h
  | A :: l, h => by
    have other : hitL n0 s K l → ∃ A' ∈ A :: l, ∃ (tm : List SV) (hp : List Blk) (ds : List Dat), RelF C E B ⟨tm, hp⟩ a w ∧ K A' ds ∧ tm.length = A'.n ∧ ∀ F, allE A' F → F ⟨A'.n, [], tm, hp, []⟩ ds := fun h => by
      obtain ⟨A', h1, h2⟩ := hit_sound hC hE hB hF (K := K) hs hR l h
      exact ⟨A', List.mem_cons_of_mem _ h1, h2⟩
    obtain ⟨n, ov, tm, hp, G⟩ := s
    simp only [hitL] at h
    cases hn : (Nat.beq A.ps.length A.n && Nat.beq n A.n) with
    | false => rw [hn] at h; exact other h
    | true =>
      rw [hn] at h
      simp only [cond_true] at h
      simp only [Bool.and_eq_true] at hn
      have hn' := beq_true.1 hn.1
      have hn2 := beq_true.1 hn.2
      split at h
      · rename_i svs' hp' ds m hw
        obtain ⟨ds1, ds2, m1, rfl, h1, h2, h3, h4⟩ := weakT_all hw
        obtain ⟨Im, ι, hRel, hFr, hA⟩ := hR
        have f1 := convT_le (D := noneAt A.bs) h1
        have f2 := convBs_le (D := noneAt A.bs) h2
        have fine := fine_of f1 f2 h3 h4
        have hlenB : hp'.length = A.bs.length := (convBs_all h2).2.2
        have hmem : Mem C E hp' (ImW Im ι hp m) (ιW ι m) w := weak_mem hRel.mem fine hlenB (fun j v hj => by
          have := convBs_rel hRel.mem.hv fine.ok h2 (.refl _) j v (by rw [Nat.zero_add]; exact hj)
          rwa [Nat.zero_add] at this) (fun j hj => convBs_none h2 j hj) hE hC.globE
        obtain ⟨k1, k2⟩ := convT_rel hRel.mem.hv fine.ok h1 f2.1 (val := fun t => a.tmps.getD t undef) fun j _ _ => by
          rw [oget_eq _ _ hs.ov]; exact hRel.tm j
        have hlen : svs'.length = A.n := by rw [k1, hn']
        refine ⟨A, List.mem_cons_self, svs', hp', ds1 ++ ds2, ⟨ImW Im ι hp m, ιW ι m, ⟨hRel.defers, ?_, fun t => ?_, hmem⟩, fun b hb => ιW_lt fine (by rw [← hlenB]; exact hb), ⟨⟨fun i hi => .inl (hA.later.im i hi), fun b v hb => ?_, hA.later.mem⟩, fun b hb => ?_⟩⟩, h, hlen, fun F hF => ?_⟩
        · rw [hRel.size]
          show (applyOv ov tm).length = svs'.length
          rw [length_applyOv, hlen, ← hn2]; exact hs.len.symm
        · have := k2 t
          rwa [Nat.zero_add] at this
        · rcases Nat.lt_or_ge b n0 with hb0 | hb0
          · rw [ιW_id fine hb0]; exact hA.later.hd b v hb
          · rw [hB b hb0] at hb; cases hb
        · have hb0 := hF b hb
          exact ⟨by rw [hlenB]; exact Nat.lt_of_lt_of_le hb0 h3, by rw [ιW_id fine hb0]; exact (hA.keep b hb).2⟩
        · have e1 := (convBs_all h2).1 _ ((convT_all h1).1 _ hF)
          have i1 := (convT_all h1).2 []
          have i2 := (convBs_all h2).2.1 []
          rw [List.append_nil] at i1 i2
          obtain ⟨vs, hvs⟩ := vrels_of_lget (Im := ImW Im ι hp m) (ι := ιW ι m) (w := w) svs' (fun t => a.tmps.getD t undef) fun j => by have := k2 j; rwa [Nat.zero_add] at this
          have e2 := imps_elim A.ps ds1 vs _ (by rw [i1]; exact hvs) e1
          exact impBs_elim (hs_vrels svs' vs hvs) A.bs 0 ds2 _ (fun j v hj => by rw [i2]; exact hmem.hv j v (by rw [← hj]; congr 1; omega)) e2
      · exact other h
theorem es_ok {n : Nat} {tm : List SV} {hp : List Blk} (h : tm.length = n) : (⟨n, [], tm, hp, []⟩ : ES).Ok := ⟨h.symm, (fun p hp => by cases hp), (fun g hg => by cases hg), fun g hg => by cases hg⟩
theorem evE_sound (hC : C.Ok) (ann : Ann) (hE : ∀ b, n0 ≤ b → E.ι b = none) (hB : ∀ b, n0 ≤ b → B.ι b = none) (hF : ∀ b, B.F b → b < n0) : ∀ (c : Code) (s : ES) (Q' : Exit → ES → Prop) (Q : Exit → Act → World → Prop) (a : Act) (w : World), s.Ok → RelF C E B s.as a w → evE C n0 ann c s Q' →
    (∀ e s a w, Q' e s → s.Ok → RelF C E B s.as a w → Q e a w) → c.wp C.P Q a w
  | .skip, s, Q', Q, a, w, hs, hR, h, hQ => wp_skip (hQ _ _ _ _ h hs hR)
  | .label _, s, Q', Q, a, w, hs, hR, h, hQ => wp_label (hQ _ _ _ _ h hs hR)
  | .region id ops draw, s, Q', Q, a, w, hs, hR, h, hQ => by
    cases draw with
    | true =>
      refine draw_sound hC hC.mixed (K := Next fun s => s.clr (Q' .normal)) (fun s a w k r => ?_) hR (drawE_imp hs h)
      obtain ⟨s', h1, h2, h3⟩ := k
      obtain ⟨s'', k1, k2, k3⟩ := clr_ok h1 h3
      exact hQ _ _ _ _ k3 k1 (by rw [k2, h2]; exact r)
    | false =>
      refine region_sound hC (K := Next fun s => s.clr (Q' .normal)) (fun s a w k r => ?_) hR (opsE_imp _ _ hs h)
      obtain ⟨s', h1, h2, h3⟩ := k
      obtain ⟨s'', k1, k2, k3⟩ := clr_ok h1 h3
      exact hQ _ _ _ _ k3 k1 (by rw [k2, h2]; exact r)
  | .seq x y, s, Q', Q, a, w, hs, hR, h, hQ => by
    simp only [evE] at h
    split at h
    · refine wp_seq (evE_sound hC ann hE hB hF x s _ _ a w hs hR h fun e s a w k hs r => ?_)
      cases e with
      | normal => exact evE_sound hC ann hE hB hF y s Q' Q a w hs r k hQ
      | exit id => exact hQ _ _ _ _ k hs r
      | goto l => exact hQ _ _ _ _ k hs r
      | ret => exact hQ _ _ _ _ k hs r
      | panic c => exact hQ _ _ _ _ k hs r
      | outgrown => exact hQ _ _ _ _ k hs r
    · rename_i l hl
      refine wp_seq (evE_sound hC ann hE hB hF x s _ _ a w hs hR h.1 fun e s' a w k hs' r => ?_)
      cases e with
      | normal =>
        obtain ⟨A, hA, tm, hp, ds, k1, k2, k3, k4⟩ := hit_sound hC hE hB hF hs' r l k
        exact evE_sound hC ann hE hB hF y ⟨A.n, [], tm, hp, []⟩ Q' Q a w (es_ok k3) k1 (k4 (fun s ds => A.R ds → evE C n0 ann y s Q') (allL_mem h.2 A hA) k2.1) hQ
      | exit id => exact hQ _ _ _ _ k hs' r
      | goto l => exact hQ _ _ _ _ k hs' r
      | ret => exact hQ _ _ _ _ k hs' r
      | panic c => exact hQ _ _ _ _ k hs' r
      | outgrown => exact hQ _ _ _ _ k hs' r
  | .cond c x y, s, Q', Q, a, w, hs, hR, h, hQ => by
    simp only [evE] at h
    split at h
    · rename_i b hb
      obtain ⟨Im, ι, hR', hFr, hA⟩ := hR
      have hv := ev_rel (hp := s.as.hp) hR'.tm hR'.mem.glob c
      have e1 : AS.ev C.glob ⟨s.as.tm, s.as.hp⟩ c = s.as.ev C.glob c := rfl
      rw [e1, ← s.ev_eq hs C.glob, hb] at hv
      have hv' : a.eval c = .bool b := hv
      refine wp_cond_split hv' (fun ht => ?_) (fun hf => ?_)
      · subst ht; exact evE_sound hC ann hE hB hF x s Q' Q a w hs ⟨Im, ι, hR', hFr, hA⟩ h hQ
      · subst hf; exact evE_sound hC ann hE hB hF y s Q' Q a w hs ⟨Im, ι, hR', hFr, hA⟩ h hQ
    · cases h
  | .block id c, s, Q', Q, a, w, hs, hR, h, hQ => by
    refine wp_block (evE_sound hC ann hE hB hF c s _ _ a w hs hR h fun e s a w k hs r => ?_)
    cases e with
    | exit id' =>
      simp only [inBlockE] at k
      simp only [Exit.inBlock]
      cases hid : Nat.beq id' id with
      | true => rw [hid] at k; rw [if_pos (beq_true.1 hid)]; exact hQ _ _ _ _ k hs r
      | false => rw [hid] at k; rw [if_neg (beq_false.1 hid)]; exact hQ _ _ _ _ k hs r
    | normal => exact hQ _ _ _ _ k hs r
    | goto l => exact hQ _ _ _ _ k hs r
    | ret => exact hQ _ _ _ _ k hs r
    | panic c => exact hQ _ _ _ _ k hs r
    | outgrown => exact hQ _ _ _ _ k hs r
  | .loop c, s, Q', Q, a, w, hs, hR, h, hQ => by
    simp only [evE] at h
    have key : ∀ l : List LA, hitL n0 s (fun A ds => A.R ds ∧ True) l → allL (fun A s ds => A.R ds → evE C n0 ann c s (thenE (fun s => hitL n0 s (fun A' ds' => A'.R ds' ∧ A'.m ds' < A.m ds) l) Q')) l → Code.wp C.P (.loop c) Q a w := fun l h0 hround => by
      let J : Nat → Act → World → Prop := fun n a w => ∃ A ∈ l, ∃ (tm : List SV) (hp : List Blk) (ds : List Dat), RelF C E B ⟨tm, hp⟩ a w ∧ A.R ds ∧ tm.length = A.n ∧ (∀ F, allE A F → F ⟨A.n, [], tm, hp, []⟩ ds) ∧ A.m ds = n
      obtain ⟨A0, hA0, tm, hp, ds, k1, k2, k3, k4⟩ := hit_sound hC hE hB hF hs hR l h0
      refine wp_loop (fun a w => ∃ n, J n a w) (fun a w => leastOf fun n => J n a w) ⟨_, A0, hA0, tm, hp, ds, k1, k2.1, k3, k4, rfl⟩ fun a w hI => ?_
      obtain ⟨n, hn⟩ := hI
      obtain ⟨⟨A, hA, tm, hp, ds, k1, k2, k3, k4, k5⟩, hmin⟩ := leastOf_spec (p := fun n => J n a w) hn
      refine evE_sound hC ann hE hB hF c ⟨A.n, [], tm, hp, []⟩ _ _ a w (es_ok k3) k1 (k4 (fun s ds => A.R ds → evE C n0 ann c s (thenE (fun s => hitL n0 s (fun A' ds' => A'.R ds' ∧ A'.m ds' < A.m ds) l) Q')) (allL_mem hround A hA) k2) fun e s a' w' k hs' r => ?_
      cases e with
      | normal =>
        obtain ⟨A', hA', tm', hp', ds', g1, g2, g3, g4⟩ := hit_sound hC hE hB hF hs' r l k
        have hJ : J (A'.m ds') a' w' := ⟨A', hA', tm', hp', ds', g1, g2.1, g3, g4, rfl⟩
        refine ⟨⟨_, hJ⟩, Nat.lt_of_le_of_lt ((leastOf_spec (p := fun n => J n a' w') hJ).2 _ hJ) ?_⟩
        rw [← k5]; exact g2.2
      | exit id => exact hQ _ _ _ _ k hs' r
      | goto l => exact hQ _ _ _ _ k hs' r
      | ret => exact hQ _ _ _ _ k hs' r
      | panic c => exact hQ _ _ _ _ k hs' r
      | outgrown => exact hQ _ _ _ _ k hs' r
    split at h
    · rename_i l hl
      exact key l h.1 h.2
    · split at h
      · rename_i l0 g hg
        obtain ⟨_, _, _, _, ds0, _, k2, _, _⟩ := hit_sound hC hE hB hF hs hR l0 h
        exact key (g ds0) k2.1 k2.2
      · cases h
  | .exit id, s, Q', Q, a, w, hs, hR, h, hQ => wp_exit (hQ _ _ _ _ h hs hR)
  | .goto l, s, Q', Q, a, w, hs, hR, h, hQ => wp_goto (hQ _ _ _ _ h hs hR)
  | .ret, s, Q', Q, a, w, hs, hR, h, hQ => wp_ret (hQ _ _ _ _ h hs hR)
  | .rangeFunc .., _, _, _, _, _, _, _, h, _ => h.elim
  | .scope _, _, _, _, _, _, _, _, h, _ => h.elim
/-! ### Results -/
def resE (P : Program) (s : ES) : ResultVar → Option SV
  | .tmp t => some (oget s.ov s.tm t)
  | .cell a T => (match oget s.ov s.tm a with
    | .ptr b c => (match evLoad P s.hp T (.ptr b c) with | .val sv => some sv | _ => none)
    | _ => none)
def resEs (P : Program) (s : ES) : List ResultVar → Option (List SV)
  | [] => some []
  | r :: rs => (match resE P s r, resEs P s rs with | some x, some xs => some (x :: xs) | _, _ => none)
def resEOf (P : Program) (s : ES) (rs : List ResultVar) : Option SV :=
  match resEs P s rs with | some [x] => some x | some xs => some (.tup xs) | none => none
theorem resE_eq {P : Program} {s : ES} (hs : s.Ok) (r : ResultVar) : resE P s r = resSV P s.as r := by
  cases r with
  | tmp t => simp only [resE, resSV]; rw [oget_eq _ _ hs.ov]; rfl
  | cell a T => simp only [resE, resSV]; rw [oget_eq _ _ hs.ov]; rfl
theorem resEs_eq {P : Program} {s : ES} (hs : s.Ok) : ∀ rs : List ResultVar, resEs P s rs = resSVs P s.as rs
  | [] => rfl
  | r :: rs => by
    simp only [resEs, resSVs, resE_eq hs, resEs_eq hs rs]
    cases resSV P s.as r <;> cases resSVs P s.as rs <;> rfl
theorem resEOf_eq {P : Program} {s : ES} (hs : s.Ok) (rs : List ResultVar) : resEOf P s rs = resOf P s.as rs := by
  unfold resEOf resOf; rw [resEs_eq hs]
  cases resSVs P s.as rs with
  | none => rfl
  | some l => cases l with
    | nil => rfl
    | cons a l => cases l <;> rfl
def retE (P : Program) (rs : List ResultVar) (K : SV → List Blk → Prop) : Exit → ES → Prop
  | .normal, s => (match resEOf P s rs with | some sv => forceSV sv fun sv => K sv s.hp | none => Miss 3 s)
  | .ret, s => (match resEOf P s rs with | some sv => forceSV sv fun sv => K sv s.hp | none => Miss 3 s)
  | _, _ => False
/-- Results, by cases. -/
inductive Res where
  | ite (b : Bool) (r1 r2 : Res)
  | ret (rp : Pat) (rb : List BPat) (ds : List Dat)
def eqD : Dat → Dat → Prop
  | .i a, .i b => a = b
  | .b a, .b b => a = b
  | .s a, .s b => a = b
  | .r a, .r b => a = b
  | .li a, .li b => a = b
  | .lb a, .lb b => a = b
  | _, _ => False
def eqDs : List Dat → List Dat → Prop
  | [], [] => True
  | [a], [b] => eqD a b
  | a :: l, b :: m => eqD a b ∧ eqDs l m
  | _, _ => False
theorem eqD_eq {a b : Dat} (h : eqD a b) : a = b := by
  cases a <;> cases b <;> simp only [eqD] at h <;> first | (subst h; rfl) | exact h.elim
theorem eqDs_eq : ∀ {l m : List Dat}, eqDs l m → l = m
  | [], [], _ => rfl
  | [a], [b], h => by rw [eqD_eq h]
  | a :: a' :: l, b :: b' :: m, h => by
    obtain ⟨h1, h2⟩ := h
    rw [eqD_eq h1, eqDs_eq h2]
  | [], _ :: _, h => h.elim
  | _ :: _, [], h => by simp [eqDs] at h
  | [a], b :: b' :: m, h => by
    obtain ⟨_, h2⟩ := h
    simp [eqDs] at h2
  | a :: a' :: l, [b], h => by
    obtain ⟨_, h2⟩ := h
    simp [eqDs] at h2
def Res.ok (n0 : Nat) : Res → SV → List Blk → Prop
  | .ite b r1 r2, sv, hp => bif b then r1.ok n0 sv hp else r2.ok n0 sv hp
  | .ret rp rb ds, sv, hp => (match weakL n0 hp [rp] [sv] rb with | some (_, _, ds', _) => eqDs ds' ds | none => Miss 2 ⟨0, [], [sv], hp, []⟩)
def Res.leaf : Res → Pat × List BPat × List Dat
  | .ite b r1 r2 => bif b then r1.leaf else r2.leaf
  | .ret rp rb ds => (rp, rb, ds)
/-- What a function does on its own memory. -/
def ResPost (C : Ctx) (E : Ent) (Im : Nat → Prop) (ι : Nat → Option Value) (w : World) (n0 : Nat) (r : Res) : Ending → World → Prop := fun e w' =>
  ∃ v Im' ι' hp' ds1, e = .returned v ∧ instP r.leaf.1 r.leaf.2.2 = ((instP r.leaf.1 r.leaf.2.2).1, ds1) ∧ hp' = (instBs r.leaf.2.1 ds1).1 ∧ VRel Im' ι' w' (instP r.leaf.1 r.leaf.2.2).1 v ∧ Mem C E hp' Im' ι' w' ∧ hp'.length = r.leaf.2.1.length ∧
    (∀ b, r.leaf.2.1.length ≤ b → ι' b = none) ∧ Later Im ι w Im' ι' w' ∧ n0 ≤ r.leaf.2.1.length ∧ ∀ b, b < n0 → ι' b = ι b
theorem res_sound (hC : C.Ok) (hE : ∀ b, n0 ≤ b → E.ι b = none) {Im Im' : Nat → Prop} {ι ι' : Nat → Option Value} {w w' : World} {hp : List Blk} {v : Value} {sv : SV} (hl : Later Im ι w Im' ι' w') (hι : ∀ b, n0 ≤ b → ι b = none) (hk : ∀ b, b < n0 → ι' b = ι b) (hm : Mem C E hp Im' ι' w') (hv : VRel Im' ι' w' sv v) :
    ∀ r : Res, r.ok n0 sv hp → ResPost C E Im ι w n0 r (.returned v) w'
  | .ite true r1 r2, h => res_sound hC hE hl hι hk hm hv r1 h
  | .ite false r1 r2, h => res_sound hC hE hl hι hk hm hv r2 h
  | .ret rp rb ds, h => by
    simp only [Res.ok] at h
    split at h
    · rename_i svs' hp' ds' m hw
      cases eqDs_eq h
      obtain ⟨ds1, ds2, m1, rfl, h1, h2, h3, h4⟩ := weakL_all hw
      have f1 := convs_le (D := noneAt rb) h1
      have f2 := convBs_le (D := noneAt rb) h2
      have fine := fine_of f1 f2 h3 h4
      have hB := convBs_all h2
      have hP := (convs_all h1).2 ds2
      have hrel := convs_rel (vs := [v]) hm.hv fine.ok h1 f2.1 ⟨v, [], rfl, hv, rfl⟩
      have hP' : instPs [rp] (ds1 ++ ds2) = ([(instP rp (ds1 ++ ds2)).1], (instP rp (ds1 ++ ds2)).2) := by simp [instPs]
      rw [hP'] at hP
      injection hP with hP1 hP2
      have hmem : Mem C E hp' (ImW Im' ι' hp m) (ιW ι' m) w' := weak_mem hm fine hB.2.2 (fun j v hj => by
        have := convBs_rel hm.hv fine.ok h2 (.refl _) j v (by rw [Nat.zero_add]; exact hj)
        rwa [Nat.zero_add] at this) (fun j hj => convBs_none h2 j hj) hE hC.globE
      refine ⟨v, ImW Im' ι' hp m, ιW ι' m, hp', ds2, rfl, ?_, ?_, ?_, hmem, hB.2.2, fun b hb => ιW_lt fine hb, ⟨fun i hi => .inl (hl.im i hi), fun b u hb => ?_, hl.mem⟩, h3, fun b hb => (ιW_id fine hb).trans (hk b hb)⟩
      · exact Prod.ext rfl hP2
      · have := hB.2.1 []
        rw [List.append_nil] at this
        show hp' = (instBs rb ds2).1
        rw [this]
      · show VRel _ _ _ (instP rp (ds1 ++ ds2)).1 v
        rw [← hP1] at hrel
        obtain ⟨v', vs', e, k1, _⟩ := hrel
        injection e with e1 e2
        subst e1
        exact k1
      · rcases Nat.lt_or_ge b n0 with hb0 | hb0
        · rw [ιW_id fine hb0]; exact hl.hd b u hb
        · rw [hι b hb0] at hb; cases hb
    · cases h
/-- A function's body, by its contract. -/
theorem bodyE_sound (hC : C.Ok) {f : FuncId} {fn : Func} {c : Code} (hf : C.P.funcs[f]? = some fn) (hb : fn.body = some c) (ann : Ann) {svs : List SV} {hp : List Blk} {r : Res} {k : Nat} (hn : fn.ntmps - svs.length = k) (hn2 : svs.length + k = fn.ntmps)
    {Im : Nat → Prop} {ι : Nat → Option Value} {w : World} (hE : ∀ b, hp.length ≤ b → E.ι b = none)
    (h : evE C hp.length ann c ⟨fn.ntmps, [], svs ++ List.replicate k .dead, hp, []⟩ (retE C.P fn.results.toList fun sv hp' => r.ok hp.length sv hp')) {vs : List Value} (hD : E.dfr = []) (hm : Mem C E hp Im ι w) (hF : Fresh hp.length ι) (hv : VRels Im ι w svs vs) :
    Calls C.P f vs.toArray w (ResPost C E Im ι w hp.length r) := by
  refine calls_of_wp hf hb ?_
  have hlen := vrels_length hv
  refine evE_sound (E := E) (B := ⟨w, Im, ι, fun b => b < hp.length, []⟩) (n0 := hp.length) hC ann hE hF (fun b hb => hb) c _ _ _ _ _ (es_ok (by simp [hn2])) ⟨Im, ι, ⟨hD.symm, ?_, fun t => ?_, hm⟩, hF, ⟨Later.refl _ _ _, fun b hb => ⟨hb, rfl⟩⟩⟩ h fun e s a w' kk hs rr => ?_
  · show _ = (applyOv [] (svs ++ List.replicate k .dead)).length
    simp [hlen, hn, applyOv]
  · show VRel Im ι w (lget (svs ++ List.replicate k .dead) t) _
    rw [lget_append]
    split
    · rename_i ht
      obtain ⟨v, h1, h2⟩ := vrels_lget hv t ht
      have : (vs.toArray ++ Array.replicate (fn.ntmps - vs.toArray.size) undef).getD t undef = v := by
        rw [Array.getD_eq_getD_getElem?, Array.getElem?_append_left (by simp; omega)]
        simp [h1]
      rw [this]
      exact h2
    · rw [lget_replicate]
      split <;> trivial
  · obtain ⟨Im', ι', hR, hF', hA⟩ := rr
    have key : (match resEOf C.P s fn.results.toList with | some sv => forceSV sv fun sv => Res.ok hp.length r sv s.hp | none => Miss 3 s) → bodyPost C.P fn (ResPost C E Im ι w hp.length r) .normal a w' := fun kk => by
      rw [resEOf_eq hs] at kk
      split at kk
      · rename_i sv hsv
        rw [forceSV_eq] at kk
        obtain ⟨v, h1, h2⟩ := resOf_run hR hsv
        exact ⟨hR.defers.trans hD, v, h1, res_sound hC hE hA.later hF (fun b hb => (hA.keep b hb).2) hR.mem h2 _ kk⟩
      · cases kk
    cases e with
    | normal => exact key kk
    | ret => exact key kk
    | exit id => exact kk.elim
    | goto l => exact kk.elim
    | panic ch => exact kk.elim
    | outgrown => exact kk.elim
end
end Go.Avc
namespace Go.Avc
set_option linter.unusedVariables false
set_option linter.unusedSimpArgs false
structure Ct where
  ps : List Pat
  bs : List BPat
  pre : List Dat → Prop
  res : List Dat → Res
def rmS (σ : List Nat) (n i : Nat) : Nat := bif Nat.blt i σ.length then σ.getD i 0 else n + (i - σ.length)
def sigmaOf (hp : List Blk) (ρ : List (Nat × Nat)) : Nat → Nat → Option (List Nat)
  | 0, _ => some []
  | k + 1, i => (match rhoI ρ i with
    | some b => bif live (hp.getD b .none) then (match sigmaOf hp ρ k (i + 1) with | some l => some (b :: l) | none => none) else none
    | none => none)
def updsR (f : Nat → Nat) : List Nat → List Blk → List (Nat × Blk)
  | b :: σ, x :: xs => (b, x.ren f) :: updsR f σ xs
  | _, _ => []
def renBs (f : Nat → Nat) : List Blk → List Blk
  | [] => []
  | x :: xs => x.ren f :: renBs f xs
def newsR (f : Nat → Nat) : Nat → List Blk → List Blk
  | 0, xs => renBs f xs
  | k + 1, _ :: xs => newsR f k xs
  | _ + 1, [] => []
/-! Results that name nothing of what was read. -/
def flatSh : CSh → Bool
  | .sl _ => false
  | _ => true
def flatE : List CSh → Bool
  | [] => true
  | s :: e => flatSh s && flatE e
mutual
def flatP : Pat → Bool
  | .rd _ => false
  | .agg ps => flatPs ps
  | .tup ps => flatPs ps
  | .fn _ ps => flatPs ps
  | .fb _ ps => flatPs ps
  | .iface _ p => flatP p
  | _ => true
def flatPs : List Pat → Bool
  | [] => true
  | p :: ps => flatP p && flatPs ps
end
def flatB : BPat → Bool
  | .none => true
  | .cells _ ps => flatPs ps
  | .own _ e => flatE e
def flatBs : List BPat → Bool
  | [] => true
  | p :: ps => flatB p && flatBs ps
def hsB : List Blk → List Nat
  | [] => []
  | x :: xs => x.hs ++ hsB xs
def isNil : List Nat → Bool | [] => true | _ => false
/-- Blocks that are given away. -/
def goneB : List Nat → List (Nat × Blk)
  | [] => []
  | b :: l => (b, .none) :: goneB l
/-- What was borrowed is given back; or, where the result may name it, given away. -/
def mkCR (σ : List Nat) (n : Nat) (fz : List Nat) : Res → CR
  | .ite b r1 r2 => .ite b (mkCR σ n fz r1) (mkCR σ n fz r2)
  | .ret rp rb ds => (match instP rp ds with
    | (sv, ds1) => (match instBs rb ds1 with
      | (xs, _) => bif Nat.ble σ.length rb.length && below rb.length (sv.hs ++ hsB xs) then
          (bif isNil fz || (flatP rp && flatBs rb) then .ret (sv.ren (rmS σ n)) (updsR (rmS σ n) σ xs) (newsR (rmS σ n) σ.length xs)
          else .ret (sv.ren (rmS σ n)) (updsR (rmS σ n) σ xs ++ goneB fz) (newsR (rmS σ n) σ.length xs)) else .bad))
def mkF (ct : Ct) (svs : List SV) (hp : List Blk) : CR :=
  match weakL 0 hp ct.ps svs ct.bs with
  | some (_, _, ds, m) => (match sigmaOf hp m.ρ ct.bs.length 0 with
    | some σ => .need (ct.pre ds) (mkCR σ hp.length m.fz (ct.res ds))
    | none => .bad)
  | none => .bad
/-- What is to be shown of a function. -/
def Ct.VC (C : Ctx) (ct : Ct) (rs : List ResultVar) (nt k : Nat) (c : Code) (ann : List Dat → Ann) : Prop :=
  allPs ct.ps fun svs ds => allBs ct.bs fun hp ds' => impPs ct.ps ds fun _ => impBs (hsL svs) 0 ct.bs ds' fun _ => ct.pre (ds ++ ds') → evE C ct.bs.length (ann (ds ++ ds')) c ⟨nt, [], svs ++ List.replicate k .dead, hp, []⟩ (retE C.P rs fun sv hp' => (ct.res (ds ++ ds')).ok ct.bs.length sv hp')
/-- What is to be shown, for each data of the patterns. -/
def Ct.VCG (ct : Ct) (G : List SV → List Blk → List Dat → Prop) : Prop :=
  allPs ct.ps fun svs ds => allBs ct.bs fun hp ds' => impPs ct.ps ds fun _ => impBs (hsL svs) 0 ct.bs ds' fun _ => ct.pre (ds ++ ds') → G svs hp (ds ++ ds')
/-- The first contract that fits. -/
def altF (ct : Ct) (F : List SV → List Blk → CR) (svs : List SV) (hp : List Blk) : CR :=
  match weakL 0 hp ct.ps svs ct.bs with
  | some _ => mkF ct svs hp
  | none => F svs hp
theorem alt_ok {C : Ctx} {f : FuncId} {ct : Ct} {F : List SV → List Blk → CR} (h1 : SpecOk C f (mkF ct)) (h2 : SpecOk C f F) : SpecOk C f (altF ct F) := by
  intro svs hp K R h
  unfold altF at h
  split at h
  · exact h1 svs hp K R h
  · exact h2 svs hp K R h
/-! ### Lemmas -/
theorem flat_row {Im Im' : Nat → Prop} {w : World} : ∀ {e : List CSh} {row : List CD} {vs : List Value}, flatE e = true → RowRel Im w e row vs → RowRel Im' w e row vs := by
  intro e
  induction e with
  | nil => intro row vs h hr; cases hr; exact .nil
  | cons sh e ih =>
    intro row vs h hr
    simp only [flatE, Bool.and_eq_true] at h
    cases hr with
    | cons _ cd v _ row vs h1 h2 =>
      refine .cons sh cd v e row vs ?_ (ih h.2 h2)
      cases h1 with
      | int k n => exact .int k n
      | bool b => exact .bool b
      | str l h' => exact .str l h'
      | sl0 => cases h.1
      | sl => cases h.1
theorem flat_flat {Im Im' : Nat → Prop} {w : World} {e : List CSh} (h : flatE e = true) : ∀ {l : List (List CD)} {xs : List Value}, FlatRel Im w e l xs → FlatRel Im' w e l xs
  | _, _, .nil _ => .nil _
  | _, _, .cons _ row vs l xs h1 h2 => .cons _ row vs l xs (flat_row h h1) (flat_flat h h2)
mutual
theorem flat_rel {Im Im' : Nat → Prop} {ι : Nat → Option Value} {w : World} : ∀ (p : Pat) (ds : List Dat) (v : Value), flatP p = true → VRel Im ι w (instP p ds).1 v → VRel Im' ι w (instP p ds).1 v
  | .skip, ds, v, h, hv => by cases ds <;> exact hv
  | .int k, ds, v, h, hv => by
    cases ds with
    | nil => exact hv
    | cons d ds => cases d <;> exact hv
  | .bool, ds, v, h, hv => by
    cases ds with
    | nil => exact hv
    | cons d ds => cases d <;> exact hv
  | .str, ds, v, h, hv => by
    cases ds with
    | nil => exact hv
    | cons d ds => cases d <;> exact hv
  | .rd e, ds, v, h, hv => by cases h
  | .own i, ds, v, h, hv => by cases ds <;> exact hv
  | .ptr i c, ds, v, h, hv => by cases ds <;> exact hv
  | .nilp, ds, v, h, hv => by cases ds <;> exact hv
  | .nilf, ds, v, h, hv => by cases ds <;> exact hv
  | .nils, ds, v, h, hv => by cases ds <;> exact hv
  | .agg ps, ds, v, h, hv => by
    obtain ⟨vs, h1, k⟩ := hv
    exact ⟨vs, h1, flat_cells ps ds vs h k⟩
  | .arrI n k, ds, v, h, hv => by
    cases ds with
    | nil => exact hv
    | cons d ds => cases d <;> exact hv
  | .arrB n, ds, v, h, hv => by
    cases ds with
    | nil => exact hv
    | cons d ds => cases d <;> exact hv
  | .tup ps, ds, v, h, hv => by
    obtain ⟨vs, h1, k⟩ := hv
    exact ⟨vs, h1, flat_rels ps ds vs h k⟩
  | .fn f ps, ds, v, h, hv => by
    obtain ⟨vs, h1, k⟩ := hv
    exact ⟨vs, h1, flat_rels ps ds vs h k⟩
  | .fb f ps, ds, v, h, hv => by
    obtain ⟨vs, h1, k⟩ := hv
    exact ⟨vs, h1, flat_rels ps ds vs h k⟩
  | .nili, ds, v, h, hv => by cases ds <;> exact hv
  | .iface t p, ds, v, h, hv => by
    obtain ⟨v', h1, k⟩ := hv
    exact ⟨v', h1, flat_rel p ds v' h k⟩
theorem flat_rels {Im Im' : Nat → Prop} {ι : Nat → Option Value} {w : World} : ∀ (ps : List Pat) (ds : List Dat) (vs : List Value), flatPs ps = true → VRels Im ι w (instPs ps ds).1 vs → VRels Im' ι w (instPs ps ds).1 vs
  | [], ds, vs, h, hv => hv
  | p :: ps, ds, vs, h, hv => by
    simp only [flatPs, Bool.and_eq_true] at h
    obtain ⟨v, vs', rfl, k1, k2⟩ := hv
    exact ⟨v, vs', rfl, flat_rel p ds v h.1 k1, flat_rels ps _ vs' h.2 k2⟩
theorem flat_cells {Im Im' : Nat → Prop} {ι : Nat → Option Value} {w : World} : ∀ (ps : List Pat) (ds : List Dat) (vs : List Value), flatPs ps = true → CellsRel Im ι w (instPs ps ds).1 vs → CellsRel Im' ι w (instPs ps ds).1 vs
  | [], ds, vs, h, hv => hv
  | p :: ps, ds, vs, h, hv => by
    simp only [flatPs, Bool.and_eq_true] at h
    have hv' : CellsRel Im ι w ((instP p ds).1 :: (instPs ps (instP p ds).2).1) vs := hv
    show CellsRel Im' ι w ((instP p ds).1 :: (instPs ps (instP p ds).2).1) vs
    have ih := fun v => flat_rel (Im := Im) (Im' := Im') (ι := ι) (w := w) p ds v h.1
    have ih2 := fun vs' => flat_cells (Im := Im) (Im' := Im') (ι := ι) (w := w) ps (instP p ds).2 vs' h.2
    cases ha : (instP p ds).1.isArr with
    | false =>
      obtain ⟨v, vs', rfl, k1, k2, k3⟩ := (cellsRel_noarr ha).1 hv'
      exact (cellsRel_noarr ha).2 ⟨v, vs', rfl, ih v k1, k2, ih2 vs' k3⟩
    | true =>
      cases hs : (instP p ds).1 <;> rw [hs] at ha hv' <;> first | cases ha | skip
      · obtain ⟨k1, vs', rfl, k2⟩ := cellsRel_arrI_inv hv'
        exact cellsRel_arrI_mk k1 (ih2 vs' k2)
      · obtain ⟨k1, vs', rfl, k2⟩ := cellsRel_arrB_inv hv'
        exact cellsRel_arrB_mk k1 (ih2 vs' k2)
end
theorem flat_blk {Im Im' : Nat → Prop} {ι : Nat → Option Value} {w : World} (p : BPat) (ds : List Dat) (v : Value) (h : flatB p = true) (hv : BRel Im ι w (instB p ds).1 v) : BRel Im' ι w (instB p ds).1 v := by
  cases p with
  | none => cases ds <;> trivial
  | cells T ps =>
    obtain ⟨r, vs, h1, h2, k⟩ := hv
    exact ⟨r, vs, h1, h2, flat_cells ps ds vs h k⟩
  | own T e =>
    cases ds with
    | nil => trivial
    | cons d ds =>
      cases d <;> first | trivial | skip
      obtain ⟨xs, h1, h2⟩ := hv
      exact ⟨xs, h1, flat_flat h h2⟩
theorem flat_blks {Im Im' : Nat → Prop} {ι : Nat → Option Value} {w : World} : ∀ (ps : List BPat) (ds : List Dat) (j : Nat) (v : Value), flatBs ps = true → BRel Im ι w ((instBs ps ds).1.getD j .none) v → BRel Im' ι w ((instBs ps ds).1.getD j .none) v
  | [], ds, j, v, h, hv => trivial
  | p :: ps, ds, 0, v, h, hv => by
    simp only [flatBs, Bool.and_eq_true] at h
    exact flat_blk p ds v h.1 hv
  | p :: ps, ds, j + 1, v, h, hv => by
    simp only [flatBs, Bool.and_eq_true] at h
    exact flat_blks ps _ j v h.2 hv
theorem sigma_spec {hp : List Blk} {ρ : List (Nat × Nat)} : ∀ {k i : Nat} {σ : List Nat}, sigmaOf hp ρ k i = some σ → σ.length = k ∧ ∀ j, j < k → rhoI ρ (i + j) = some (σ.getD j 0) ∧ live (hp.getD (σ.getD j 0) .none) = true
  | 0, i, σ, h => by cases h; exact ⟨rfl, fun j hj => by omega⟩
  | k + 1, i, σ, h => by
    simp only [sigmaOf] at h
    split at h
    · rename_i b hb
      cases hl : live (hp.getD b .none) with
      | false => rw [hl] at h; cases h
      | true =>
        rw [hl] at h
        simp only [cond_true] at h
        split at h
        · rename_i l hs
          cases h
          obtain ⟨h1, h2⟩ := sigma_spec hs
          refine ⟨by simp [h1], fun j hj => ?_⟩
          cases j with
          | zero => exact ⟨hb, hl⟩
          | succ j =>
            have := h2 j (by omega)
            rw [show i + (j + 1) = i + 1 + j from by omega]
            exact this
        · cases h
    · cases h
theorem updW_updsR {f : Nat → Nat} : ∀ {σ : List Nat} {xs : List Blk}, σ.Nodup → σ.length ≤ xs.length → ∀ j, j < σ.length → updW (updsR f σ xs) (σ.getD j 0) = some ((xs.getD j .none).ren f)
  | [], xs, hn, hl, j, hj => by simp at hj
  | b :: σ, [], hn, hl, j, hj => by simp at hl
  | b :: σ, x :: xs, hn, hl, j, hj => by
    have hn' := List.nodup_cons.1 hn
    have ih := updW_updsR (f := f) (σ := σ) (xs := xs) hn'.2 (by simpa using hl)
    simp only [updsR, updW]
    cases j with
    | zero =>
      have : updW (updsR f σ xs) b = none := by
        have : ∀ {σ : List Nat} {xs : List Blk}, b ∉ σ → updW (updsR f σ xs) b = none := by
          intro σ
          induction σ with
          | nil => intro xs _; rfl
          | cons c σ ih =>
            intro xs hb
            cases xs with
            | nil => rfl
            | cons x xs =>
              simp only [updsR, updW, ih (fun h => hb (List.mem_cons_of_mem _ h))]
              rw [if_neg (fun h => hb (by rw [h]; exact List.mem_cons_self))]
        exact this hn'.1
      simp [this]
    | succ j =>
      have := ih j (by simpa using hj)
      simp only [List.getD_cons_succ]
      rw [this]
theorem updW_none {f : Nat → Nat} : ∀ {σ : List Nat} {xs : List Blk} {b : Nat}, b ∉ σ → updW (updsR f σ xs) b = none
  | [], xs, b, _ => rfl
  | c :: σ, [], b, _ => rfl
  | c :: σ, x :: xs, b, hb => by
    simp only [updsR, updW, updW_none (f := f) (σ := σ) (xs := xs) fun h => hb (List.mem_cons_of_mem _ h)]
    rw [if_neg (fun h => hb (by rw [h]; exact List.mem_cons_self))]
theorem renBs_length {f : Nat → Nat} : ∀ xs : List Blk, (renBs f xs).length = xs.length
  | [] => rfl
  | x :: xs => by simp [renBs, renBs_length xs]
theorem renBs_get {f : Nat → Nat} : ∀ (xs : List Blk) (j : Nat), (renBs f xs)[j]? = (xs[j]?).map (Blk.ren f)
  | [], j => rfl
  | x :: xs, 0 => rfl
  | x :: xs, j + 1 => by simpa [renBs] using renBs_get xs j
theorem newsR_eq {f : Nat → Nat} : ∀ (k : Nat) (xs : List Blk), newsR f k xs = renBs f (xs.drop k)
  | 0, xs => rfl
  | k + 1, [] => rfl
  | k + 1, x :: xs => by simpa [newsR] using newsR_eq k xs
theorem hsB_get : ∀ (xs : List Blk) (j : Nat) (b : Nat), b ∈ (xs.getD j .none).hs → b ∈ hsB xs
  | [], j, b, h => by cases h
  | x :: xs, 0, b, h => List.mem_append_left _ h
  | x :: xs, j + 1, b, h => List.mem_append_right _ (hsB_get xs j b h)
theorem below_mem {n : Nat} : ∀ {l : List Nat}, below n l = true → ∀ b ∈ l, b < n
  | [], _, b, h => by cases h
  | a :: l, h, b, hb => by
    simp only [below, Bool.and_eq_true] at h
    rcases List.mem_cons.1 hb with rfl | hb
    · exact blt_true.1 h.1
    · exact below_mem h.2 b hb
theorem isNil_fz {l : List Nat} : isNil l = true → ∀ b, memN l b = false := by
  intro h b
  cases l with
  | nil => rfl
  | cons a l => cases h
theorem memN_mem : ∀ {l : List Nat} {b : Nat}, memN l b = true ↔ b ∈ l
  | [], b => by simp [memN]
  | a :: l, b => by
    simp only [memN, List.mem_cons]
    cases h : Nat.beq a b with
    | true => simp [beq_true.1 h]
    | false =>
      have := beq_false.1 h
      simp only [cond_false]
      rw [memN_mem]
      exact ⟨.inr, fun k => k.resolve_left fun e => this e.symm⟩
theorem updW_gone0 : ∀ (g : List Nat) (b : Nat), updW (goneB g) b = if b ∈ g then some .none else none
  | [], b => by simp [goneB, updW]
  | a :: g, b => by
    simp only [goneB, updW, updW_gone0 g b]
    by_cases h : b ∈ g
    · simp [h]
    · by_cases e : a = b
      · subst e; simp [h]
      · simp [h, e, Ne.symm e]
theorem updW_gone (g : List Nat) (b : Nat) : ∀ l : List (Nat × Blk), updW (l ++ goneB g) b = if b ∈ g then some .none else updW l b
  | [] => updW_gone0 g b
  | (c, x) :: l => by
    show (match updW (l ++ goneB g) b with | some y => some y | none => if c = b then some x else none) = _
    rw [updW_gone g b l]
    by_cases h : b ∈ g
    · simp [h]
    · simp only [h, if_false, updW]
      rfl
/-- The callee's end, on the caller's memory. -/
theorem lift_post {C : Ctx} (hC : C.Ok) {E : Ent} {hp : List Blk} {Im : Nat → Prop} {ι : Nat → Option Value} {w : World} {m : MS} {σ : List Nat} {n0 : Nat} {K : SV → List Blk → Prop} {R : Nat → Prop} (hm : Mem C E hp Im ι w) (hok : ∀ i b, i < n0 → rhoI m.ρ i = some b → rhoB m.β b = some i) (hap : ∀ b, memN m.fz b = true → rhoB m.β b = none)
    (hσ : ∀ j, j < n0 → rhoI m.ρ j = some (σ.getD j 0) ∧ live (hp.getD (σ.getD j 0) .none) = true) (hσn : σ.length = n0) (hfine : ∀ i, n0 ≤ i → ιW ι m i = none) (hRn : ∀ b, R b → ι b = none) {hpl : List Blk} {e : Ending} {w' : World} : ∀ r : Res,
    (mkCR σ hp.length m.fz r).wp hp (fun sv hp' => K sv hp' ∧ ∀ b, hp.length ≤ b → b < hp'.length → R b) →
    ResPost C ⟨w, ImW Im ι hp m, ιW ι m, fun r => ∃ i v, i < n0 ∧ ιW ι m i = some v ∧ live (hpl.getD i .none) = true ∧ foot v = some r, []⟩ (ImW Im ι hp m) (ιW ι m) w n0 r e w' → (∀ i v, ιW ι m i = some v → live (hpl.getD i .none) = true → i < n0 → live (hp.getD (σ.getD i 0) .none) = true) → CallPost C E Im ι w hp.length K e w'
  | .ite true r1 r2, h, hp0, hl => lift_post hC hm hok hap hσ hσn hfine hRn r1 h hp0 hl
  | .ite false r1 r2, h, hp0, hl => lift_post hC hm hok hap hσ hσn hfine hRn r2 h hp0 hl
  | .ret rp rb ds, h, hp0, hl => by
    obtain ⟨v, Iml, ιl, hp1, ds1, rfl, hi, rfl, hres, hml, hlen, hFl, hll, hnl, hkeep⟩ := hp0
    simp only [Res.leaf] at hi hres hml hlen hFl hnl
    have hi' : instP rp ds = ((instP rp ds).1, ds1) := hi
    simp only [mkCR] at h
    generalize hsv : (instP rp ds).1 = sv at hi hres hi'
    rw [hi'] at h
    simp only at h
    generalize hxs : (instBs rb ds1).1 = xs at h hml hlen
    cases hc : (Nat.ble σ.length rb.length && below rb.length (sv.hs ++ hsB xs)) with
    | false =>
      have h' : CR.wp hp (fun sv hp' => K sv hp' ∧ ∀ b, hp.length ≤ b → b < hp'.length → R b) (bif (Nat.ble σ.length rb.length && below rb.length (sv.hs ++ hsB xs)) then (bif isNil m.fz || (flatP rp && flatBs rb) then CR.ret (sv.ren (rmS σ hp.length)) (updsR (rmS σ hp.length) σ xs) (newsR (rmS σ hp.length) σ.length xs) else CR.ret (sv.ren (rmS σ hp.length)) (updsR (rmS σ hp.length) σ xs ++ goneB m.fz) (newsR (rmS σ hp.length) σ.length xs)) else CR.bad) := h
      rw [hc] at h'
      exact h'.elim
    | true =>
      have h' : CR.wp hp (fun sv hp' => K sv hp' ∧ ∀ b, hp.length ≤ b → b < hp'.length → R b) (bif (Nat.ble σ.length rb.length && below rb.length (sv.hs ++ hsB xs)) then (bif isNil m.fz || (flatP rp && flatBs rb) then CR.ret (sv.ren (rmS σ hp.length)) (updsR (rmS σ hp.length) σ xs) (newsR (rmS σ hp.length) σ.length xs) else CR.ret (sv.ren (rmS σ hp.length)) (updsR (rmS σ hp.length) σ xs ++ goneB m.fz) (newsR (rmS σ hp.length) σ.length xs)) else CR.bad) := h
      rw [hc] at h'
      have hg : ∃ g : List Nat, (∀ b ∈ g, memN m.fz b = true) ∧ ((∀ b, memN m.fz b = true → b ∈ g) ∨ (flatP rp = true ∧ flatBs rb = true)) ∧
          (K (sv.ren (rmS σ hp.length)) (updAll hp (updsR (rmS σ hp.length) σ xs ++ goneB g) ++ newsR (rmS σ hp.length) σ.length xs) ∧ ∀ b, hp.length ≤ b → b < (updAll hp (updsR (rmS σ hp.length) σ xs ++ goneB g) ++ newsR (rmS σ hp.length) σ.length xs).length → R b) := by
        cases hk : (isNil m.fz || (flatP rp && flatBs rb)) with
        | true =>
          rw [hk] at h'
          refine ⟨[], (fun b hb => by cases hb), ?_, ?_⟩
          · cases hn : isNil m.fz with
            | true => exact .inl fun b hb => by rw [isNil_fz hn] at hb; cases hb
            | false =>
              rw [hn] at hk
              simp only [Bool.false_or, Bool.and_eq_true] at hk
              exact .inr hk
          · rw [show goneB [] = [] from rfl, List.append_nil]
            exact h'
        | false =>
          rw [hk] at h'
          exact ⟨m.fz, fun b hb => memN_mem.2 hb, .inl fun b hb => memN_mem.1 hb, h'⟩
      obtain ⟨g, hgfz, hcase, hK, hR⟩ := hg
      simp only [Bool.and_eq_true, Nat.ble_eq] at hc
      obtain ⟨hc1, hc3⟩ := hc
      have hbelow := below_mem hc3
      rw [hσn] at hc1
      -- the borrowed rows
      let Bw : Nat → Prop := fun r => ∃ b v, memN m.fz b = true ∧ b ∉ g ∧ ι b = some v ∧ live (hp.getD b .none) = true ∧ foot v = some r
      have hBwIm : ∀ r, Bw r → ¬ Im r := fun r ⟨b, v, h1, _, h2, h3, h4⟩ => hm.mr.imm b v r h3 h2 h4
      have hσmem : ∀ j, j < n0 → σ.getD j 0 ∈ σ := fun j hj => by
        rw [List.getD_eq_getElem?_getD, List.getElem?_eq_getElem (by omega)]
        exact List.getElem_mem _
      have hσget : ∀ b, b ∈ σ → ∃ j, j < n0 ∧ σ.getD j 0 = b := fun b hb => by
        obtain ⟨j, hj, e⟩ := List.getElem_of_mem hb
        exact ⟨j, by omega, by rw [List.getD_eq_getElem?_getD, List.getElem?_eq_getElem hj]; exact e⟩
      have hσinj : ∀ i j, i < n0 → j < n0 → σ.getD i 0 = σ.getD j 0 → i = j := fun i j hi hj e => by
        have e1 := hok _ _ hi (hσ i hi).1
        have e2 := hok _ _ hj (hσ j hj).1
        rw [e, e2] at e1
        cases e1; rfl
      have hσnd : σ.Nodup := by
        rw [List.nodup_iff_pairwise_ne, List.pairwise_iff_getElem]
        intro i j hi hj hij e
        have := hσinj i j (by omega) (by omega) (by rw [List.getD_eq_getElem?_getD, List.getD_eq_getElem?_getD, List.getElem?_eq_getElem hi, List.getElem?_eq_getElem hj]; exact e)
        omega
      have hσlt : ∀ b ∈ σ, b < hp.length := fun b hb => by
        obtain ⟨j, hj, rfl⟩ := hσget b hb
        exact live_lt (hσ j hj).2
      have hιW : ∀ j, j < n0 → ιW ι m j = ι (σ.getD j 0) := fun j hj => by unfold ιW; rw [(hσ j hj).1]
      have hσfz : ∀ b ∈ σ, memN m.fz b = false := fun b hb => by
        obtain ⟨j, hj, rfl⟩ := hσget b hb
        cases hf : memN m.fz (σ.getD j 0) with
        | false => rfl
        | true =>
          have := hap _ hf
          rw [hok _ _ hj (hσ j hj).1] at this
          cases this
      have hσg : ∀ b ∈ σ, b ∉ g := fun b hb h => by have := hgfz b h; rw [hσfz b hb] at this; cases this
      have hxlen : xs.length = rb.length := hlen
      let k2 := rb.length - n0
      have hrl : rb.length = n0 + k2 := by show _ = n0 + (rb.length - n0); omega
      let Im' : Nat → Prop := fun r => Iml r ∧ ¬ Bw r
      let ι' : Nat → Option Value := fun b => if hp.length ≤ b ∧ b < hp.length + k2 then ιl (n0 + (b - hp.length)) else ι b
      have hι'old : ∀ b, ¬ (hp.length ≤ b ∧ b < hp.length + k2) → ι' b = ι b := fun b h => if_neg h
      have hι'new : ∀ i, i < k2 → ι' (hp.length + i) = ιl (n0 + i) := fun i hi => by
        show (if _ then _ else _) = _
        rw [if_pos ⟨Nat.le_add_right _ _, by omega⟩, Nat.add_sub_cancel_left]
      have hrm_lt : ∀ i, i < n0 → rmS σ hp.length i = σ.getD i 0 := fun i hi => by
        unfold rmS
        rw [show Nat.blt i σ.length = true from blt_true.2 (by omega)]; rfl
      have hrm_ge : ∀ i, n0 ≤ i → rmS σ hp.length i = hp.length + (i - n0) := fun i hi => by
        unfold rmS
        cases hb : Nat.blt i σ.length with
        | true => have := blt_true.1 hb; omega
        | false => rw [hσn]; rfl
      have hagree : ∀ i, i < rb.length → ι' (rmS σ hp.length i) = ιl i := fun i hi => by
        rcases Nat.lt_or_ge i n0 with h | h
        · rw [hrm_lt i h, hι'old _ (by have := hσlt _ (hσmem i h); omega), hkeep i h, hιW i h]
        · rw [hrm_ge i h, hι'new _ (by omega)]
          congr 1; omega
      have hhp'len : (updAll hp (updsR (rmS σ hp.length) σ xs ++ goneB g) ++ newsR (rmS σ hp.length) σ.length xs).length = hp.length + k2 := by
        rw [List.length_append, length_updAll, newsR_eq, renBs_length, List.length_drop, hxlen, hσn]
      have hnone : ∀ b, hp.length ≤ b → b < hp.length + k2 → ι b = none := fun b h1 h2 => hRn b (hR b h1 (by rw [hhp'len]; exact h2))
      -- the new memory, block by block
      have hget_old : ∀ j, j < n0 → (updAll hp (updsR (rmS σ hp.length) σ xs ++ goneB g) ++ newsR (rmS σ hp.length) σ.length xs).getD (σ.getD j 0) .none = (xs.getD j .none).ren (rmS σ hp.length) := fun j hj => by
        have := hσlt _ (hσmem j hj)
        rw [app_getD, if_neg (by omega), updW_gone, if_neg (hσg _ (hσmem j hj)), updW_updsR hσnd (by omega) j (by omega)]
        rfl
      have hget_new : ∀ i, i < k2 → (updAll hp (updsR (rmS σ hp.length) σ xs ++ goneB g) ++ newsR (rmS σ hp.length) σ.length xs).getD (hp.length + i) .none = (xs.getD (n0 + i) .none).ren (rmS σ hp.length) := fun i hi => by
        have hx : xs[n0 + i]? = some xs[n0 + i] := List.getElem?_eq_getElem (by omega)
        rw [app_getD, if_pos (Nat.le_add_right _ _), newsR_eq, renBs_get, Nat.add_sub_cancel_left, List.getElem?_drop, hσn, List.getD_eq_getElem?_getD (l := xs), hx]
        rfl
      have hget_g : ∀ b, b < hp.length → b ∈ g → (updAll hp (updsR (rmS σ hp.length) σ xs ++ goneB g) ++ newsR (rmS σ hp.length) σ.length xs).getD b .none = .none := fun b h1 h2 => by
        rw [app_getD, if_neg (by omega), updW_gone, if_pos h2]
        rfl
      have hget_oth : ∀ b, b < hp.length → b ∉ σ → b ∉ g → (updAll hp (updsR (rmS σ hp.length) σ xs ++ goneB g) ++ newsR (rmS σ hp.length) σ.length xs).getD b .none = hp.getD b .none := fun b h1 h2 h3 => by
        rw [app_getD, if_neg (by omega), updW_gone, if_neg h3, updW_none h2]
        rfl
      generalize hhp' : updAll hp (updsR (rmS σ hp.length) σ xs ++ goneB g) ++ newsR (rmS σ hp.length) σ.length xs = hp' at hK hR hhp'len hget_old hget_new hget_oth hget_g
      have hlaterIm : ∀ r, Im r → Im' r := fun r hr => ⟨hll.im r (.inl hr), fun hB => hBwIm r hB hr⟩
      have hsame : (∀ b, memN m.fz b = true → b ∈ g) → Later Iml ιl w' Im' ιl w' := fun hf => ⟨fun r hr => ⟨hr, fun ⟨b, v, h1, h2, _⟩ => h2 (hf b h1)⟩, fun b v h => h, fun _ _ => rfl⟩
      have hresI : VRel Im' ιl w' sv v := by
        rcases hcase with hf | ⟨hf, _⟩
        · exact VRel.mono (hsame hf) sv v hres
        · rw [← hsv] at hres ⊢; exact flat_rel rp ds v hf hres
      have hblkI : ∀ j u, ιl j = some u → BRel Im' ιl w' (xs.getD j .none) u := fun j u hj => by
        have hb := hml.hv j u hj
        rcases hcase with hf | ⟨_, hf⟩
        · exact BRel.later (hsame hf) (fun _ _ _ => rfl) hb
        · rw [← hxs] at hb ⊢; exact flat_blks rb ds1 j u hf hb
      let hpX : List Blk := (List.range hp'.length).map fun b => if σ.contains b = true ∨ hp.length ≤ b then hp'.getD b .none else .none
      have hpX_get : ∀ b, hpX.getD b .none = if b < hp'.length then (if σ.contains b = true ∨ hp.length ≤ b then hp'.getD b .none else .none) else .none := fun b => getD_map_range
      -- where a named block comes from
      have hsrc : ∀ b u, ι' b = some u → hpX.getD b .none = .none ∨ ∃ i, i < rb.length ∧ b = rmS σ hp.length i ∧ ιl i = some u ∧ hpX.getD b .none = (xs.getD i .none).ren (rmS σ hp.length) := fun b u hb => by
        by_cases h1 : hp.length ≤ b ∧ b < hp.length + k2
        · right
          refine ⟨n0 + (b - hp.length), by omega, ?_, ?_, ?_⟩
          · rw [hrm_ge _ (Nat.le_add_right _ _)]; omega
          · rw [← hι'new (b - hp.length) (by omega), show hp.length + (b - hp.length) = b from by omega]; exact hb
          · rw [hpX_get, if_pos (by rw [hhp'len]; exact h1.2), if_pos (.inr h1.1), ← hget_new _ (by omega), show hp.length + (b - hp.length) = b from by omega]
        · by_cases h2 : b ∈ σ
          · obtain ⟨j, hj, rfl⟩ := hσget b h2
            have hlt' := hσlt _ h2
            right
            refine ⟨j, by omega, (hrm_lt j hj).symm, ?_, ?_⟩
            · rw [← hagree j (by omega), hrm_lt j hj]; exact hb
            · rw [hpX_get, if_pos (by rw [hhp'len]; omega), if_pos (.inl (by simpa using h2)), hget_old j hj]
          · left
            rw [hpX_get]
            split
            · rename_i h3
              rw [hhp'len] at h3
              rw [if_neg]
              rintro (h4 | h4)
              · exact h2 (by simpa using h4)
              · exact h1 ⟨h4, h3⟩
            · rfl
      have hMg : ∀ b, (maskH (σ ++ g) 0 hp).getD b .none = if (σ ++ g).contains b then hp.getD b .none else .none := fun b => by
        rw [maskH_getD, Nat.zero_add]
      have hrminj : ∀ i j, i < rb.length → j < rb.length → i = j → rmS σ hp.length i = rmS σ hp.length j := fun i j _ _ h => by rw [h]
      have hσc : ∀ b ∈ σ, (σ ++ g).contains b = true := fun b hb => by simp [hb]
      have hX : Mem C (partEnt w Im ι (σ ++ g) (maskH (σ ++ g) 0 hp)) hpX Im' ι' w' := by
        have hFF : ∀ r, (∃ i v, i < n0 ∧ ιW ι m i = some v ∧ live (hpl.getD i .none) = true ∧ foot v = some r) → (partEnt w Im ι (σ ++ g) (maskH (σ ++ g) 0 hp)).F r := by
          rintro r ⟨i, u, h1, h2, h3, h4⟩
          refine ⟨σ.getD i 0, u, hσc _ (hσmem i h1), by rw [← hιW i h1]; exact h2, ?_, h4⟩
          rw [hMg, if_pos (hσc _ (hσmem i h1))]
          exact (hσ i h1).2
        have hll' : Later Im ι w Im' ι' w' := ⟨hlaterIm, fun b u hb => by
          rw [hι'old b fun h => by rw [hnone b h.1 h.2] at hb; cases hb]
          exact hb, fun i hi => hll.mem i (.inl hi)⟩
        refine ⟨fun b u hb => ?_, ⟨fun r hr => hml.mr.imlt r hr.1, fun b u r h1 h2 h3 => ?_, fun b b' u u' r h1 h2 h3 h4 h5 h6 => ?_, fun b u r h1 h2 h3 => ?_⟩, ⟨hml.since.os, hml.since.tape, hml.since.output, hml.since.size, fun k h1 h2 => hml.since.block k h1 fun h => h2 (hFF k h), hll'.hd, hlaterIm, fun i h => ?_⟩, hm.glob.later hll'⟩
        · rcases hsrc b u hb with h | ⟨i, h1, rfl, h2, h3⟩
          · rw [h]; trivial
          · rw [h3]
            exact (BRel.ren fun c hc => hagree c (hbelow c (List.mem_append_right _ (hsB_get xs i c hc)))).2 (hblkI i u h2)
        · rcases hsrc b u h2 with h | ⟨i, g1, rfl, g2, g3⟩
          · rw [h] at h1; cases h1
          · rw [g3, live_ren] at h1
            exact fun hr => hml.mr.imm i u r h1 g2 h3 hr.1
        · rcases hsrc b u h3 with h | ⟨i, g1, rfl, g2, g3⟩
          · rw [h] at h1; cases h1
          · rcases hsrc b' u' h4 with h | ⟨j, k1, rfl, k2', k3⟩
            · rw [h] at h2; cases h2
            · rw [g3, live_ren] at h1
              rw [k3, live_ren] at h2
              exact hrminj i j g1 k1 (hml.mr.sep i j u u' r h1 h2 g2 k2' h5 h6)
        · rcases hsrc b u h2 with h | ⟨i, g1, rfl, g2, g3⟩
          · rw [h] at h1; cases h1
          · rw [g3, live_ren] at h1
            exact (hml.mr.mine i u r h1 g2 h3).imp id (hFF r)
        · rcases hml.since.imnew i h.1 with h1 | h1 | h1
          · rcases h1 with h1 | ⟨b, v, k1, k2, k3, k4⟩
            · exact .inl h1
            · by_cases hbg : b ∈ g
              · exact .inr (.inr ⟨b, v, by simp [hbg], k2, by rw [hMg, if_pos (by simp [hbg])]; exact k3, k4⟩)
              · exact absurd ⟨b, v, k1, hbg, k2, k3, k4⟩ h.2
          · exact .inr (.inl h1)
          · exact .inr (.inr (hFF i h1))
      have hF : Mem C E hp' Im' ι' w' := Mem.frame (hpM := maskH (σ ++ g) 0 hp) (n := hp.length) (k := k2) hm hMg hX hι'old (fun b h1 h2 => hnone b h1 h2)
        (fun b hb => by
          rw [hpX_get]
          rcases hb with h | h
          · rcases List.mem_append.1 (by simpa using h) with h | h
            · rw [if_pos (by rw [hhp'len]; have := hσlt b h; omega), if_pos (.inl (by simpa using h))]
            · by_cases h3 : b < hp.length
              · rw [if_pos (by rw [hhp'len]; omega), if_neg (by rintro (h4 | h4); exact hσg b (by simpa using h4) h; omega), hget_g b h3 h]
              · by_cases h4 : b < hp'.length
                · rw [if_pos h4, if_pos (.inr (by omega))]
                · rw [if_neg h4, List.getD_eq_getElem?_getD, List.getElem?_eq_none (by omega)]; rfl
          · rw [if_pos (by rw [hhp'len]; exact h.2), if_pos (.inr h.1)])
        (fun b h1 h2 => by
          have h1' : b ∉ σ ∧ b ∉ g := by
            have : ¬ b ∈ σ ++ g := by simpa using h1
            exact ⟨fun h => this (List.mem_append_left _ h), fun h => this (List.mem_append_right _ h)⟩
          by_cases h3 : b < hp.length
          · exact hget_oth b h3 h1'.1 h1'.2
          · rw [List.getD_eq_getElem?_getD, List.getD_eq_getElem?_getD, List.getElem?_eq_none (by rw [hhp'len]; omega), List.getElem?_eq_none (by omega)])
      refine ⟨v, _, hp', Im', ι', rfl, hK, (VRel.ren sv v fun b hb => hagree b (hbelow b (List.mem_append_left _ hb))).2 hresI, hF, by rw [hhp'len]; omega, fun b hb => hι'old b (by rw [← hhp'len]; exact hb), ⟨hlaterIm, fun b u hb => ?_, fun i hi => hll.mem i (.inl hi)⟩⟩
      rw [hι'old b fun h => by rw [hnone b h.1 h.2] at hb; cases hb]
      exact hb
/-- A contract, whatever its conditions are. -/
theorem spec_ctG {C : Ctx} (hC : C.Ok) {f : FuncId} {ct : Ct} (G : List SV → List Blk → List Dat → Prop)
    (hrun : ∀ (svs : List SV) (hp : List Blk) (ds : List Dat) (E : Ent) (Im : Nat → Prop) (ι : Nat → Option Value) (w : World) (vs : List Value), G svs hp ds → svs.length = ct.ps.length → hp.length = ct.bs.length → E.dfr = [] → (∀ b, hp.length ≤ b → E.ι b = none) → Mem C E hp Im ι w → Fresh hp.length ι → VRels Im ι w svs vs → Calls C.P f vs.toArray w (ResPost C E Im ι w hp.length (ct.res ds)))
    (hcall : ∀ vs : Array Value, ∀ w, vs.size = ct.ps.length → (callFunc f vs).run C.P w = .ok (.enter f vs) w) (hvc : ct.VCG G) : SpecOk C f (mkF ct) := by
  intro svs hp K R h E Im ι w vs hm hRn hv
  unfold mkF at h
  split at h
  · rename_i svs' hpl ds m hw
    split at h
    · rename_i σ hσ
      obtain ⟨hpre, h⟩ := h
      obtain ⟨ds1, ds2, m1, rfl, h1, h2, h3, h4⟩ := weakL_all hw
      have f1 := convs_le (D := noneAt ct.bs) h1
      have f2 := convBs_le (D := noneAt ct.bs) h2
      have fine := fine_of f1 f2 h3 h4
      have hlenB : hpl.length = ct.bs.length := (convBs_all h2).2.2
      obtain ⟨hσl, hσs⟩ := sigma_spec hσ
      have hvl := convs_rel hm.hv fine.ok h1 f2.1 hv
      -- the local memory
      have hm0 : Mem C ⟨w, Im, fun _ => none, fun r => ∃ b v, ι b = some v ∧ live (hp.getD b .none) = true ∧ foot v = some r, []⟩ hp Im ι w :=
        ⟨hm.hv, ⟨hm.mr.imlt, hm.mr.imm, hm.mr.sep, fun b v r a1 a2 a3 => .inr ⟨b, v, a2, a1, a3⟩⟩, ⟨rfl, rfl, rfl, Nat.le_refl _, fun _ _ _ => rfl, (fun b v h => by cases h), fun _ h => h, fun _ h => .inl h⟩, hm.glob⟩
      have hm1 := weak_mem hm0 fine hlenB (fun j v hj => by
        have := convBs_rel hm.hv fine.ok h2 (.refl _) j v (by rw [Nat.zero_add]; exact hj)
        rwa [Nat.zero_add] at this) (fun j hj => convBs_none h2 j hj) (fun _ _ => rfl) hC.globE
      have hfine : ∀ i, ct.bs.length ≤ i → ιW ι m i = none := fun i hi => ιW_lt fine hi
      have hml : Mem C ⟨w, ImW Im ι hp m, ιW ι m, fun r => ∃ i v, i < ct.bs.length ∧ ιW ι m i = some v ∧ live (hpl.getD i .none) = true ∧ foot v = some r, []⟩ hpl (ImW Im ι hp m) (ιW ι m) w := by
        refine ⟨hm1.hv, ⟨hm1.mr.imlt, hm1.mr.imm, hm1.mr.sep, fun b v r a1 a2 a3 => .inr ⟨b, v, ?_, a2, a1, a3⟩⟩, ⟨rfl, rfl, rfl, Nat.le_refl _, fun _ _ _ => rfl, fun _ _ h => h, fun _ h => h, fun _ h => .inl h⟩, hm1.glob⟩
        rcases Nat.lt_or_ge b ct.bs.length with hlt | hge
        · exact hlt
        · rw [hfine b hge] at a2; cases a2
      have e1 := (convBs_all h2).1 _ ((convs_all h1).1 _ hvc)
      have i1 := (convs_all h1).2 []
      have i2 := (convBs_all h2).2.1 []
      rw [List.append_nil] at i1 i2
      have e2 := imps_elim ct.ps ds1 vs _ (by rw [i1]; exact hvl) e1
      have e3 := impBs_elim (hs_vrels svs' vs hvl) ct.bs 0 ds2 _ (fun j v hj => by rw [i2]; exact hm1.hv j v (by rw [← hj]; congr 1; omega)) e2
      have e4 := e3 hpre
      have hlsv : svs'.length = ct.ps.length := by
        have : ∀ (ps : List Pat) (ds : List Dat), (instPs ps ds).1.length = ps.length := by
          intro ps
          induction ps with
          | nil => intro ds; rfl
          | cons p ps ih => intro ds; simp [instPs, ih]
        have := this ct.ps ds1
        rwa [i1] at this
      have hbody := hrun svs' hpl (ds1 ++ ds2) ⟨w, ImW Im ι hp m, ιW ι m, fun r => ∃ i v, i < ct.bs.length ∧ ιW ι m i = some v ∧ live (hpl.getD i .none) = true ∧ foot v = some r, []⟩ _ _ w vs e4 hlsv hlenB rfl (fun b hb => hfine b (by rw [← hlenB]; exact hb)) hml (fun b hb => hfine b (by rw [← hlenB]; exact hb)) hvl
      rw [hlenB] at hbody
      have ok0 : m.Ok (fun _ => False) := (convBs_le h2).2 ((convs_le h1).2 ⟨fun i h => (by cases h), fun i b h => (by cases h)⟩)
      have hinj : ∀ i b, i < ct.bs.length → rhoI m.ρ i = some b → rhoB m.β b = some i := fun i b _ hb => (ok0.inj i b hb).resolve_left id
      refine .inl ⟨hcall _ _ ?_, Calls.mono hbody fun e w' hp0 => ?_⟩
      · have := vrels_length hvl
        simp; omega
      · exact lift_post hC hm hinj fine.apart (fun j hj => by have := hσs j hj; rwa [Nat.zero_add] at this) hσl hfine hRn _ h hp0 fun i v a1 a2 a3 => by
          have := (hσs i a3).2
          exact this
    · exact h.elim
  · exact h.elim
/-- A contract that is shown is one that callers may use. -/
theorem spec_ct {C : Ctx} (hC : C.Ok) {f : FuncId} {fn : Func} {c : Code} (hf : C.P.funcs[f]? = some fn) (hb : fn.body = some c) (ann : List Dat → Ann) {ct : Ct} {k : Nat} (hlenps : ct.ps.length + k = fn.ntmps) (hcall : ∀ vs : Array Value, ∀ w, vs.size = ct.ps.length → (callFunc f vs).run C.P w = .ok (.enter f vs) w)
    (hvc : ct.VC C fn.results.toList fn.ntmps k c ann) : SpecOk C f (mkF ct) := by
  refine spec_ctG hC (fun svs hp ds => evE C ct.bs.length (ann ds) c ⟨fn.ntmps, [], svs ++ List.replicate k SV.dead, hp, []⟩ (retE C.P fn.results.toList fun sv hp' => (ct.res ds).ok ct.bs.length sv hp')) (fun svs hp ds E Im ι w vs h h1 h2 hD hE hm hF hv => ?_) hcall hvc
  rw [← h2] at h
  exact bodyE_sound hC hf hb (ann ds) (k := k) (by omega) (by omega) hE h hD hm hF hv
end Go.Avc
namespace Go.Avc
set_option linter.unusedVariables false
set_option linter.unusedSimpArgs false
def takeI (k : IntKind) : List Int → List Value → Option (List Value)
  | [], vs => some vs
  | n :: l, .int k' n' :: vs => if k' = k then (if n' = n then takeI k l vs else none) else none
  | _, _ => none
def takeB : List Bool → List Value → Option (List Value)
  | [], vs => some vs
  | b :: l, .bool b' :: vs => if b' = b then takeB l vs else none
  | _, _ => none
def zone : SV → Value → Bool
  | .int k n, .int k' n' => decide (k' = k) && decide (n' = n)
  | .bool b, .bool b' => decide (b' = b)
  | .str [], .string s => decide (s.data.toList = [])
  | .nilp, .pointer none => true
  | .nilf, .nilFunc => true
  | .nils, .slice none 0 0 => true
  | .nili, .nilIface => true
  | _, _ => false
def zchk : List SV → List Value → Bool
  | [], vs => (match vs with | [] => true | _ => false)
  | .arrI n k l :: cs, vs => decide (l.length = n) && (match takeI k l vs with | some vs => zchk cs vs | none => false)
  | .arrB n l :: cs, vs => decide (l.length = n) && (match takeB l vs with | some vs => zchk cs vs | none => false)
  | s :: cs, vs => (match vs with | v :: vs => zone s v && zchk cs vs | [] => false)
theorem takeI_eq {k : IntKind} : ∀ {l : List Int} {vs vs' : List Value}, takeI k l vs = some vs' → vs = l.map (Value.int k) ++ vs'
  | [], vs, vs', h => by cases h; rfl
  | n :: l, vs, vs', h => by
    cases vs with
    | nil => cases h
    | cons v vs =>
      cases v <;> simp only [takeI] at h <;> try cases h
      split at h
      · split at h
        · rename_i h1 h2
          subst h1; subst h2
          rw [takeI_eq h]; rfl
        · cases h
      · cases h
theorem takeB_eq : ∀ {l : List Bool} {vs vs' : List Value}, takeB l vs = some vs' → vs = l.map Value.bool ++ vs'
  | [], vs, vs', h => by cases h; rfl
  | n :: l, vs, vs', h => by
    cases vs with
    | nil => cases h
    | cons v vs =>
      cases v <;> simp only [takeB] at h <;> try cases h
      split at h
      · rename_i h1
        subst h1
        rw [takeB_eq h]; rfl
      · cases h
theorem zone_rel {s : SV} {v : Value} (h : zone s v = true) (Im : Nat → Prop) (ι : Nat → Option Value) (w : World) : CellsRel Im ι w [s] [v] := by
  unfold zone at h
  split at h
  · simp only [Bool.and_eq_true, decide_eq_true_eq] at h
    obtain ⟨rfl, rfl⟩ := h
    exact cellsRel_one rfl rfl
  · simp only [decide_eq_true_eq] at h
    subst h
    exact cellsRel_one rfl rfl
  · rename_i s
    simp only [decide_eq_true_eq] at h
    obtain ⟨⟨l⟩⟩ := s
    have : l = [] := h
    subst this
    exact cellsRel_one rfl ⟨rfl, Nat.zero_le _⟩
  · exact cellsRel_one rfl rfl
  · exact cellsRel_one rfl rfl
  · exact cellsRel_one rfl rfl
  · exact cellsRel_one rfl rfl
  · cases h
theorem zchk_rel : ∀ {cs : List SV} {vs : List Value}, zchk cs vs = true → ∀ (Im : Nat → Prop) (ι : Nat → Option Value) (w : World), CellsRel Im ι w cs vs
  | [], vs, h, Im, ι, w => by
    cases vs with
    | nil => rfl
    | cons => cases h
  | s :: cs, vs, h, Im, ι, w => by
    have gen : ∀ v vs', vs = v :: vs' → (zone s v && zchk cs vs') = true → CellsRel Im ι w (s :: cs) vs := fun v vs' e k => by
      subst e
      rw [Bool.and_eq_true] at k
      exact cellsRel_cons_mk (zone_rel k.1 Im ι w) (zchk_rel k.2 Im ι w)
    cases s with
    | arrI n k l =>
      simp only [zchk, Bool.and_eq_true, decide_eq_true_eq] at h
      obtain ⟨h1, h2⟩ := h
      split at h2
      · rename_i vs' ht
        rw [takeI_eq ht]
        exact cellsRel_arrI_mk h1 (zchk_rel h2 Im ι w)
      · cases h2
    | arrB n l =>
      simp only [zchk, Bool.and_eq_true, decide_eq_true_eq] at h
      obtain ⟨h1, h2⟩ := h
      split at h2
      · rename_i vs' ht
        rw [takeB_eq ht]
        exact cellsRel_arrB_mk h1 (zchk_rel h2 Im ι w)
      · cases h2
    | _ =>
      cases vs with
      | nil => cases h
      | cons v vs => exact gen v vs rfl h
def zlook : List (TypeId × List SV) → TypeId → Option (List SV)
  | [], _ => none
  | (t, cs) :: l, T => bif Nat.beq t T then some cs else zlook l T
def ztab (P : Program) : List (TypeId × List SV) → Bool
  | [] => true
  | (t, cs) :: l => (match P.info? t with
    | some i => (match i.zero with
      | some z => decide (z.cells.size = i.size) && zchk cs z.cells.toList
      | none => false)
    | none => false) && ztab P l
theorem ztab_ok {P : Program} : ∀ {l : List (TypeId × List SV)}, ztab P l = true → ZeroOk P (zlook l)
  | [], _ => fun T cs h => by cases h
  | (t, cs) :: l, h => by
    simp only [ztab, Bool.and_eq_true] at h
    intro T cs' hT
    simp only [zlook] at hT
    cases hb : Nat.beq t T with
    | true =>
      rw [hb] at hT
      cases hT
      cases beq_true.1 hb
      have h1 := h.1
      split at h1
      · rename_i i hi
        split at h1
        · rename_i z hz
          simp only [Bool.and_eq_true, decide_eq_true_eq] at h1
          exact ⟨i, z, hi, hz, h1.1, fun Im ι w => zchk_rel h1.2 Im ι w⟩
        · cases h1
      · cases h1
    | false => rw [hb] at hT; exact ztab_ok h.2 T cs' hT
/-! ### Contexts -/
abbrev SpecT := FuncId → List SV → List Blk → CR
def spec0 : SpecT := fun _ _ _ => .bad
def addS (sp : SpecT) (n : Nat) (F : List SV → List Blk → CR) : SpecT := fun f svs hp => bif Nat.beq n f then F svs hp else sp f svs hp
def Ctx.with (C : Ctx) (sp : SpecT) : Ctx := { C with spec := sp }
theorem mem_with {C : Ctx} {sp sp' : SpecT} {E : Ent} {hp : List Blk} {Im : Nat → Prop} {ι : Nat → Option Value} {w : World} (h : Mem (C.with sp) E hp Im ι w) : Mem (C.with sp') E hp Im ι w := ⟨h.hv, h.mr, h.since, h.glob⟩
theorem specOk_with {C : Ctx} {sp sp' : SpecT} {f : FuncId} {F : List SV → List Blk → CR} (h : SpecOk (C.with sp) f F) : SpecOk (C.with sp') f F := fun svs hp K R hw E Im ι w vs hm hR hv =>
  CallSem.mono (h svs hp K R hw E Im ι w vs (mem_with hm) hR hv) fun e w' ⟨v, sv, hp', Im', ι', h1, h2, h3, h4, h5, h6, h7⟩ => ⟨v, sv, hp', Im', ι', h1, h2, h3, mem_with h4, h5, h6, h7⟩
theorem spec0_ok {C : Ctx} (f : FuncId) : SpecOk C f (spec0 f) := fun svs hp K R hw => hw.elim
theorem addS_ok {C : Ctx} {sp : SpecT} (h : (C.with sp).Ok) {n : Nat} {F : List SV → List Blk → CR} (hn : SpecOk (C.with sp) n F) : (C.with (addS sp n F)).Ok := by
  refine ⟨h.zero, fun f => ?_, h.mixed, h.globE⟩
  cases hb : Nat.beq n f with
  | true =>
    cases beq_true.1 hb
    have e : (C.with (addS sp n F)).spec n = F := by
      funext svs hp
      show (bif Nat.beq n n then F svs hp else sp n svs hp) = _
      rw [hb]; rfl
    rw [e]
    exact specOk_with hn
  | false =>
    have e : (C.with (addS sp n F)).spec f = sp f := by
      funext svs hp
      show (bif Nat.beq n f then F svs hp else sp f svs hp) = _
      rw [hb]; rfl
    rw [e]
    exact specOk_with (h.spec f)
end Go.Avc
namespace Go.Proofs.YteiecapbaeajdaaGreatDoor
open Go.Avc Go.Proofs
abbrev z64 (n : Nat) : SV := .arrI n .u64 (List.replicate n 0)
def zt : List (TypeId × List SV) := [(3, [.int .i64 0]), (4, [.bool false]), (5, [.int .u8 0]), (9, [.str []]), (22, [.nils]), (24, [.nils]), (26, [.int .i64 0, .nils, .nils]), (27, [.int .i64 0]), (32, [.int .i64 0, .nils, .nils]), (36, [.nils]), (62, [.int .i64 0, .int .i64 0, .int .i64 0, .nils]),
  (65, [.int .i64 0, .int .i64 0, .int .i64 0, .str []]), (66, [.nils]), (73, [.int .u64 0]), (74, [z64 4]), (76, [z64 4]), (79, [.arrI 32 .u8 (List.replicate 32 0)]), (84, [.int .i64 0, .int .i64 0, .int .i64 0, .nils]), (86, [.int .i64 0, .nils]), (90, [.nils]), (116, [.int .i64 0, .int .i64 0, .int .i64 0, .str []]),
  (128, [.nilp, .arrI 32 .u8 (List.replicate 32 0), .nili]), (133, [.nilp]), (137, [.nilp]), (151, [.int .i64 0, .int .i64 0, .int .i64 0, .nils]), (162, [.nils]), (185, [.nils, .int .i64 0, .nilp]), (204, [.int .i64 0]), (211, [z64 25]), (212, [z64 25]), (214, [z64 25, .int .i64 0]),
  (253, []), (259, [.nilp]), (278, [.arrI 200 .u8 (List.replicate 200 0)]), (295, [.nils, .bool false]), (298, [.nili, .nils, .int .i64 0, .int .i64 0, .int .i64 0]), (300, [.nili, .nils, .int .i64 0, .int .i64 0, .int .i64 0]),
  (88, []), (265, [.int .i64 0, .nilf, .nils]), (313, [z64 12]), (316, [z64 36]), (318, [.int .u32 0, .int .i32 0, .int .u32 0, z64 780, z64 36]), (332, [.nils, .int .u64 0, .nils]), (337, [z64 5]), (341, [.arrB 64 (List.replicate 64 false)]), (342, [.arrB 320 (List.replicate 320 false)]), (344, [.arrB 1600 (List.replicate 1600 false)])]
set_option maxRecDepth 100000 in
theorem zt_ok : ztab Tryz.prog zt = true := by kernel_rfl
/-- The constants of the rounds, as the program's text lays them. -/
def rcL : List Int := [1, 32898, 9223372036854808714, 9223372039002292224, 32907, 2147483649, 9223372039002292353, 9223372036854808585, 138, 136, 2147516425, 2147483658, 2147516555, 9223372036854775947, 9223372036854808713, 9223372036854808579,
  9223372036854808578, 9223372036854775936, 32778, 9223372039002259466, 9223372039002292353, 9223372036854808704, 2147483649, 9223372039002292232]
def rcRows : List (List CD) := rcL.map fun n => [.int n]
def gl : Nat → Option SV := fun g => bif Nat.beq g 0 then some (.eptr [.int .u64] rcRows 0 0) else none
noncomputable def base : Ctx := ⟨Tryz.prog, zlook zt, gl, spec0⟩
theorem base_ok : (base.with spec0).Ok := ⟨ztab_ok zt_ok, fun f => spec0_ok f, by kernel_rfl, fun g sv h => by
  have h' : gl g = some sv := h
  unfold gl at h'
  cases hb : Nat.beq g 0 with
  | true => rw [hb] at h'; cases h'; exact ⟨_, _, _, _, rfl⟩
  | false => rw [hb] at h'; cases h'⟩
noncomputable def bodyOf (fn : Func) : Code := match fn.body with | some c => c | none => .skip
def noAnn : List Dat → Ann := fun _ => { cut := [], loop := [] }
end Go.Proofs.YteiecapbaeajdaaGreatDoor
