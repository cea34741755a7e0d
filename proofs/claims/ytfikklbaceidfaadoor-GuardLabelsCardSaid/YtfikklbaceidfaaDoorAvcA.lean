/-
  AVC, part A: abstract values, abstract memory, and what they say of the model's values and worlds. No program in sight.
-/
import Derived.Laws.AppendOwn
import Derived.Laws.OwnMore
import Derived.Laws.MakeOwn
import Derived.Laws.BytesArg
import Derived.Laws.StructEq
import Derived.Orders
import Derived.Below
namespace Go.Avc
set_option linter.unusedVariables false
set_option linter.unusedSimpArgs false

/-- The shape of one cell of data. -/
inductive CSh where
  | int (k : IntKind) | bool | str | sl (e : List CSh)

/-- One cell of data; a slice's elements are rows of cells. -/
inductive CD where
  | int (n : Int) | bool (b : Bool) | str (l : List UInt8) | sl (l : List (List CD))

def CD.toInt : CD → Int | .int n => n | _ => 0
def CD.toBool : CD → Bool | .bool b => b | _ => false
def CD.toStr : CD → List UInt8 | .str l => l | _ => []
def CD.toSl : CD → List (List CD) | .sl l => l | _ => []
abbrev CD.d0 : CD := .int 0

/-- What a slot, or a cell of the call's own memory, holds. -/
inductive SV where
  | dead
  | int (k : IntKind) (n : Int)
  | bool (b : Bool)
  | str (l : List UInt8)
  | agg (cs : List SV)
  | arrI (n : Nat) (k : IntKind) (l : List Int)
  | arrB (n : Nat) (l : List Bool)
  | nilp
  | ptr (b c : Nat)
  | aptr (b c i : Nat)
  | rd (e : List CSh) (l : List (List CD))
  | e0
  | nils
  | own (b : Nat)
  | win (b c N lo n : Nat)
  | eptr (e : List CSh) (l : List (List CD)) (i c : Nat)
  | optr (b sz i c : Nat)
  | fn (f : FuncId) (caps : List SV)
  | tup (vs : List SV)
  | sls (svs : List SV)
  | nili
  | iface (t : TypeId) (v : SV)
  | val (v : Value)

/-- A block of the call's own memory. -/
inductive Blk where
  | none
  | cells (T : TypeId) (cs : List SV)
  | own (T : TypeId) (e : List CSh) (l : List (List CD))
  | ro (e : List CSh) (l : List (List CD))

def SV.size : SV → Nat
  | .arrI n _ _ => n
  | .arrB n _ => n
  | _ => 1

/-! ### Data in memory -/
mutual
/-- The value reads as this cell of data; what is reached lies in blocks of Im. -/
inductive CRel (Im : Nat → Prop) (w : World) : CSh → CD → Value → Prop
  | int (k : IntKind) (n : Int) : CRel Im w (.int k) (.int n) (.int k n)
  | bool (b : Bool) : CRel Im w .bool (.bool b) (.bool b)
  | str (l : List UInt8) : l.length ≤ maxLen → CRel Im w .str (.str l) (.string ⟨l.toArray⟩)
  | sl0 (e : List CSh) (a : Option Addr) (cap : Nat) : cap ≤ maxLen → CRel Im w (.sl e) (.sl []) (.slice a 0 cap)
  | sl (e : List CSh) (l : List (List CD)) (ad : Addr) (cap : Nat) (xs : List Value) : l.length ≤ cap → cap ≤ maxLen → Im ad.block →
      FlatRel Im w e l xs → (∀ j x, xs[j]? = some x → w.cell? (ad.add j) = some x) → CRel Im w (.sl e) (.sl l) (.slice (some ad) l.length cap)
inductive RowRel (Im : Nat → Prop) (w : World) : List CSh → List CD → List Value → Prop
  | nil : RowRel Im w [] [] []
  | cons (sh : CSh) (cd : CD) (v : Value) (e : List CSh) (row : List CD) (vs : List Value) : CRel Im w sh cd v → RowRel Im w e row vs → RowRel Im w (sh :: e) (cd :: row) (v :: vs)
inductive FlatRel (Im : Nat → Prop) (w : World) : List CSh → List (List CD) → List Value → Prop
  | nil (e : List CSh) : FlatRel Im w e [] []
  | cons (e : List CSh) (row : List CD) (vs : List Value) (l : List (List CD)) (xs : List Value) : RowRel Im w e row vs → FlatRel Im w e l xs → FlatRel Im w e (row :: l) (vs ++ xs)
end

/-- A block's number that a value may write. -/
def foot : Value → Option Nat
  | .slice (some a) _ c => if c = 0 then none else some a.block
  | .pointer (some a) => some a.block
  | _ => none

/-- A slice value of n elements that owns its cells. -/
def OwnV (w : World) (T : TypeId) (sz : Nat) (v : Value) (n : Nat) (xs : List Value) : Prop :=
  xs.length = n * sz ∧
  ((∃ a, v = .slice a 0 0 ∧ n = 0) ∨
   ∃ g cap cur, v = .slice (some ⟨g, 0, none⟩) n cap ∧ w.heap[g]? = some (.cells cur T (0, 0)) ∧ n ≤ cap ∧ 0 < cap ∧ cap ≤ maxLen ∧ cur.size = cap * sz ∧ cur.toList.take (n * sz) = xs)

mutual
def VRel (Im : Nat → Prop) (ι : Nat → Option Value) (w : World) : SV → Value → Prop
  | .dead, _ => True
  | .int k n, v => v = .int k n
  | .bool b, v => v = .bool b
  | .str l, v => v = .string ⟨l.toArray⟩ ∧ l.length ≤ maxLen
  | .agg cs, v => ∃ vs : List Value, v = .agg vs.toArray ∧ CellsRel Im ι w cs vs
  | .arrI _ _ _, _ => False
  | .arrB _ _, _ => False
  | .nilp, v => v = .pointer none
  | .ptr b c, v => ∃ r, ι b = some (.pointer (some ⟨r, 0, none⟩)) ∧ v = .pointer (some ⟨r, c, none⟩)
  | .aptr b c i, v => ∃ r, ι b = some (.pointer (some ⟨r, 0, none⟩)) ∧ v = .pointer (some ⟨r, c + i, none⟩)
  | .rd e l, v => CRel Im w (.sl e) (.sl l) v
  | .e0, v => ∃ a, v = .slice a 0 0
  | .nils, v => v = .slice none 0 0
  | .own b, v => ι b = some v ∧ ∃ a n c, v = .slice a n c
  | .win b c N lo n, v => ∃ r cap, ι b = some (.pointer (some ⟨r, 0, none⟩)) ∧ v = .slice (some ⟨r, c + lo, none⟩) n cap ∧ n ≤ cap ∧ cap ≤ maxLen ∧ lo + n ≤ N
  | .eptr e l i c, v => ∃ (ad : Addr) (xs : List Value), v = .pointer (some (ad.add (i * e.length + c))) ∧ Im ad.block ∧ FlatRel Im w e l xs ∧ ∀ j x, xs[j]? = some x → w.cell? (ad.add j) = some x
  | .optr b sz i c, v => ∃ r n cap, ι b = some (.slice (some ⟨r, 0, none⟩) n cap) ∧ 0 < cap ∧ v = .pointer (some ⟨r, i * sz + c, none⟩)
  | .fn f caps, v => ∃ vs : List Value, v = .func (.func f) #[] vs.toArray ∧ VRels Im ι w caps vs
  | .tup svs, v => ∃ vs : List Value, v = .tuple vs.toArray ∧ VRels Im ι w svs vs
  | .sls svs, v => ∃ (ad : Addr) (vs : List Value), v = .slice (some ad) svs.length svs.length ∧ svs.length ≤ maxLen ∧ Im ad.block ∧ VRels Im ι w svs vs ∧ ∀ j x, vs[j]? = some x → w.cell? (ad.add j) = some x
  | .nili, v => v = .nilIface
  | .iface t s, v => ∃ v', v = .iface t v' ∧ VRel Im ι w s v'
  | .val x, v => v = x
def CellsRel (Im : Nat → Prop) (ι : Nat → Option Value) (w : World) : List SV → List Value → Prop
  | [], vs => vs = []
  | s :: cs, vs => match s with
    | .arrI n k l => l.length = n ∧ ∃ vs', vs = l.map (Value.int k) ++ vs' ∧ CellsRel Im ι w cs vs'
    | .arrB n l => l.length = n ∧ ∃ vs', vs = l.map Value.bool ++ vs' ∧ CellsRel Im ι w cs vs'
    | _ => ∃ v vs', vs = v :: vs' ∧ VRel Im ι w s v ∧ v.oneCell' = true ∧ CellsRel Im ι w cs vs'
def VRels (Im : Nat → Prop) (ι : Nat → Option Value) (w : World) : List SV → List Value → Prop
  | [], vs => vs = []
  | s :: cs, vs => ∃ v vs', vs = v :: vs' ∧ VRel Im ι w s v ∧ VRels Im ι w cs vs'
end

/-- What a block is in the world, by its handle. -/
def BRel (Im : Nat → Prop) (ι : Nat → Option Value) (w : World) : Blk → Value → Prop
  | .none, _ => True
  | .cells T cs, v => ∃ r vs, v = .pointer (some ⟨r, 0, none⟩) ∧ w.heap[r]? = some (.cells (List.toArray vs) T (0, 0)) ∧ CellsRel Im ι w cs vs
  | .own T e l, v => ∃ xs, OwnV w T e.length v l.length xs ∧ FlatRel Im w e l xs
  | .ro e l, v => CRel Im w (.sl e) (.sl l) v

/-! ### Monotony -/
/-- From one world to a later one: what may not turn has not turned. -/
structure Later (Im : Nat → Prop) (ι : Nat → Option Value) (w : World) (Im' : Nat → Prop) (ι' : Nat → Option Value) (w' : World) : Prop where
  im : ∀ i, Im i → Im' i
  hd : ∀ b v, ι b = some v → ι' b = some v
  mem : ∀ i, Im i → w'.heap[i]? = w.heap[i]?

theorem Later.refl (Im : Nat → Prop) (ι : Nat → Option Value) (w : World) : Later Im ι w Im ι w := ⟨fun _ h => h, fun _ _ h => h, fun _ _ => rfl⟩
theorem Later.trans {Im Im1 Im2 : Nat → Prop} {ι ι1 ι2 : Nat → Option Value} {w w1 w2 : World} (h : Later Im ι w Im1 ι1 w1) (k : Later Im1 ι1 w1 Im2 ι2 w2) : Later Im ι w Im2 ι2 w2 :=
  ⟨fun i hi => k.im i (h.im i hi), fun b v hb => k.hd b v (h.hd b v hb), fun i hi => (k.mem i (h.im i hi)).trans (h.mem i hi)⟩

theorem cell_same {w w' : World} {ad : Addr} {j : Nat} (h : w'.heap[ad.block]? = w.heap[ad.block]?) : w'.cell? (ad.add j) = w.cell? (ad.add j) := by
  have hb : (ad.add j).block = ad.block := by unfold Addr.add; split <;> rfl
  exact World.cell?_of_block (by rw [hb]; exact h)

mutual
theorem CRel.mono {Im Im' : Nat → Prop} {w w' : World} (hi : ∀ i, Im i → Im' i) (hm : ∀ i, Im i → w'.heap[i]? = w.heap[i]?) : ∀ {sh : CSh} {cd : CD} {v : Value}, CRel Im w sh cd v → CRel Im' w' sh cd v
  | _, _, _, .int k n => .int k n
  | _, _, _, .bool b => .bool b
  | _, _, _, .str l h => .str l h
  | _, _, _, .sl0 e a cap h => .sl0 e a cap h
  | _, _, _, .sl e l ad cap xs h1 h2 h3 h4 h5 => .sl e l ad cap xs h1 h2 (hi _ h3) (h4.mono hi hm) (fun j x hx => (cell_same (hm _ h3)).trans (h5 j x hx))
theorem RowRel.mono {Im Im' : Nat → Prop} {w w' : World} (hi : ∀ i, Im i → Im' i) (hm : ∀ i, Im i → w'.heap[i]? = w.heap[i]?) : ∀ {e : List CSh} {row : List CD} {vs : List Value}, RowRel Im w e row vs → RowRel Im' w' e row vs
  | _, _, _, .nil => .nil
  | _, _, _, .cons sh cd v e row vs h1 h2 => .cons sh cd v e row vs (h1.mono hi hm) (h2.mono hi hm)
theorem FlatRel.mono {Im Im' : Nat → Prop} {w w' : World} (hi : ∀ i, Im i → Im' i) (hm : ∀ i, Im i → w'.heap[i]? = w.heap[i]?) : ∀ {e : List CSh} {l : List (List CD)} {xs : List Value}, FlatRel Im w e l xs → FlatRel Im' w' e l xs
  | _, _, _, .nil e => .nil e
  | _, _, _, .cons e row vs l xs h1 h2 => .cons e row vs l xs (h1.mono hi hm) (h2.mono hi hm)
end

mutual
theorem VRel.mono {Im Im' : Nat → Prop} {ι ι' : Nat → Option Value} {w w' : World} (h : Later Im ι w Im' ι' w') : ∀ (s : SV) (v : Value), VRel Im ι w s v → VRel Im' ι' w' s v
  | .dead, _, _ => trivial
  | .int .., _, k => k
  | .bool _, _, k => k
  | .str _, _, k => k
  | .agg cs, _, k => by
    obtain ⟨vs, e, k⟩ := k
    exact ⟨vs, e, CellsRel.mono h cs vs k⟩
  | .arrI .., _, k => k.elim
  | .arrB .., _, k => k.elim
  | .nilp, _, k => k
  | .ptr b c, _, k => by
    obtain ⟨r, e, k⟩ := k
    exact ⟨r, h.hd _ _ e, k⟩
  | .aptr b c i, _, k => by
    obtain ⟨r, e, k⟩ := k
    exact ⟨r, h.hd _ _ e, k⟩
  | .rd e l, _, k => CRel.mono h.im h.mem k
  | .e0, _, k => k
  | .nils, _, k => k
  | .own b, _, k => ⟨h.hd _ _ k.1, k.2⟩
  | .win b c N lo n, _, k => by
    obtain ⟨r, cap, e, k⟩ := k
    exact ⟨r, cap, h.hd _ _ e, k⟩
  | .eptr e l i c, _, k => by
    obtain ⟨ad, xs, e1, e2, e3, e4⟩ := k
    exact ⟨ad, xs, e1, h.im _ e2, e3.mono h.im h.mem, fun j x hx => (cell_same (h.mem _ e2)).trans (e4 j x hx)⟩
  | .optr b sz i c, _, k => by
    obtain ⟨r, n, cap, e, k⟩ := k
    exact ⟨r, n, cap, h.hd _ _ e, k⟩
  | .fn f caps, _, k => by
    obtain ⟨vs, e, k⟩ := k
    exact ⟨vs, e, VRels.mono h caps vs k⟩
  | .tup svs, _, k => by
    obtain ⟨vs, e, k⟩ := k
    exact ⟨vs, e, VRels.mono h svs vs k⟩
  | .sls svs, _, k => by
    obtain ⟨ad, vs, e, h1, h2, h3, h4⟩ := k
    exact ⟨ad, vs, e, h1, h.im _ h2, VRels.mono h svs vs h3, fun j x hx => (cell_same (h.mem _ h2)).trans (h4 j x hx)⟩
  | .nili, _, k => k
  | .iface t s, _, k => by
    obtain ⟨v', e, k⟩ := k
    exact ⟨v', e, VRel.mono h s v' k⟩
  | .val _, _, k => k
theorem CellsRel.mono {Im Im' : Nat → Prop} {ι ι' : Nat → Option Value} {w w' : World} (h : Later Im ι w Im' ι' w') : ∀ (cs : List SV) (vs : List Value), CellsRel Im ι w cs vs → CellsRel Im' ι' w' cs vs
  | [], _, k => k
  | s :: cs, vs, k => by
    have hv := VRel.mono h s
    unfold CellsRel at k ⊢
    split at k
    · obtain ⟨e1, vs', e2, k⟩ := k
      exact ⟨e1, vs', e2, CellsRel.mono h cs vs' k⟩
    · obtain ⟨e1, vs', e2, k⟩ := k
      exact ⟨e1, vs', e2, CellsRel.mono h cs vs' k⟩
    · obtain ⟨v, vs', e1, e2, e3, k⟩ := k
      exact ⟨v, vs', e1, hv v e2, e3, CellsRel.mono h cs vs' k⟩
theorem VRels.mono {Im Im' : Nat → Prop} {ι ι' : Nat → Option Value} {w w' : World} (h : Later Im ι w Im' ι' w') : ∀ (cs : List SV) (vs : List Value), VRels Im ι w cs vs → VRels Im' ι' w' cs vs
  | [], _, k => k
  | s :: cs, vs, k => by
    obtain ⟨v, vs', e1, e2, k⟩ := k
    exact ⟨v, vs', e1, VRel.mono h s v e2, VRels.mono h cs vs' k⟩
end
end Go.Avc
