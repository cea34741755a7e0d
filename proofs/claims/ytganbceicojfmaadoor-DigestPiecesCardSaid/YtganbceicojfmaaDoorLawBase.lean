/-
  What comes in to the laws of this seat: arrays of numbers; the table of constants, as it is laid.
-/
import Derived.Test.YtganbceicojfmaaDoorRows
import Derived.Test.YtganbceicojfmaaDoorK1
import Derived.Test.YtganbceicojfmaaDoorAvcT1
import Derived.WalkKit
import Derived.ProofKit
import Derived.OpenShut
import Derived.ShutString
import Derived.ChangeOld
import Derived.Below
import Derived.LaidMore
import Derived.MakeChecks
import Derived.SizedLaws
import Derived.Stop.Joined
namespace Go.Proofs.YtganbceicojfmaaDoor
open Go Go.Avc Go.ChangeShapes Go.WideShapes Go.ChangeAt Go.RowKit
set_option linter.unusedVariables false
set_option linter.unusedSimpArgs false
theorem own : ownKnob Tryd.prog.godebug = none := by kernel_rfl
theorem laidOut : laidOutB Tryd.prog = true := by kernel_rfl
/-- An array of whole numbers, as it is read. -/
theorem arr_ints {H : Type} {enc : TypeId × Value → H} {P : Program} {W : World} {base : Nat} {sp : Nat → Bool} {held : Bool} {fuel : Nat} {T E : TypeId} {n : Nat} {k : IntKind} {cs : List Value} {x : DataW H × List MemPlace}
    (hT : P.underlying T = some (.array n E)) (hE : P.underlying E = some (.int k)) (hc : P.cellsOf E = 1) (hc2 : P.cellsOf T = n) (h : DataW.trod enc P W base sp held fuel T cs = some x) :
    ∃ l : List Int, l.length = n ∧ cs = l.map (Value.int k) ∧ x.1 = .agg (l.map fun i => .lit (.int k i)) ∧ ∀ i ∈ l, (Lit.int k i).wf = true := by
  obtain ⟨xs, m, rfl, rfl, hlen, hn, hel⟩ := DataW.trod_array hT h
  rw [hc2] at hlen
  have one : ∀ i, i < n → ∃ a : Int, cs[i]? = some (.int k a) ∧ (xs.map (·.1))[i]? = some (.lit (.int k a)) ∧ (Lit.int k a).wf = true := fun i hi => by
    have h1 := hel i hi
    rw [hc, Nat.mul_one] at h1
    have hx : xs[i]? = some xs[i] := List.getElem?_eq_getElem (by omega)
    rw [hx] at h1
    obtain ⟨a, e1, e2, e3⟩ := DataW.trod_int hE h1
    refine ⟨a, ?_, ?_, e3⟩
    · have : ((cs.drop i).take 1)[0]? = some (.int k a) := by rw [e1]; rfl
      rwa [List.getElem?_take_of_lt (by omega), List.getElem?_drop, Nat.add_zero] at this
    · rw [List.getElem?_map, hx]
      simp [e2]
  have hcs : ∀ i, i < n → ∃ a : Int, cs[i]? = some (.int k a) := fun i hi => by obtain ⟨a, h, _⟩ := one i hi; exact ⟨a, h⟩
  let f : Value → Int := fun v => match v with | .int _ a => a | _ => 0
  have key : ∀ i, i < n → cs[i]? = some (.int k ((cs.map f).getD i 0)) ∧ (xs.map (·.1))[i]? = some (.lit (.int k ((cs.map f).getD i 0))) ∧ (Lit.int k ((cs.map f).getD i 0)).wf = true := fun i hi => by
    obtain ⟨a, h1, h2, h3⟩ := one i hi
    have : (cs.map f).getD i 0 = a := by
      rw [List.getD_eq_getElem?_getD, List.getElem?_map, h1]; rfl
    rw [this]
    exact ⟨h1, h2, h3⟩
  have ll : (cs.map f).length = n := by rw [List.length_map, hlen]
  refine ⟨cs.map f, ll, ?_, ?_, ?_⟩
  · apply List.ext_getElem (by simp)
    intro i h1 h2
    have := (key i (by omega)).1
    rw [List.getElem?_eq_getElem h1, List.getD_eq_getElem?_getD, List.getElem?_eq_getElem (by rw [List.length_map]; exact h1)] at this
    simpa using this
  · show DataW.agg _ = DataW.agg _
    congr 1
    apply List.ext_getElem (by simp [hn, hlen])
    intro i h1 h2
    have hi : i < n := by rw [List.length_map] at h1; omega
    have := (key i hi).2.1
    rw [List.getElem?_eq_getElem h1, List.getD_eq_getElem?_getD, List.getElem?_eq_getElem (by omega)] at this
    simpa using this
  · intro a ha
    obtain ⟨i, hi, rfl⟩ := List.getElem_of_mem ha
    have := (key i (by omega)).2.2
    rwa [List.getD_eq_getElem?_getD, List.getElem?_eq_getElem hi] at this
theorem wf_w {a : Int} (h : (Lit.int .u64 a).wf = true) : 0 ≤ a ∧ a < 18446744073709551616 := by
  unfold Lit.wf at h
  simp [IntKind.min, IntKind.max, IntKind.signed, IntKind.bits] at h
  omega
/-! ### The table -/
def laidL : List (String × DataW Unit) := [("avouch/keccak.constants", Rows.laid_avouch_keccak_constants)]
theorem gRc : Tryd.prog.globalNamed "avouch/keccak.constants" = some 0 := by kernel_rfl
theorem tRc : (Tryd.prog.globals[0]?).map (·.type) = some 62 := by kernel_rfl
theorem cellsRc : Tryd.prog.cellsOf 62 = 24 := by kernel_rfl
theorem cells22 : Tryd.prog.cellsOf 22 = 1 := by kernel_rfl
theorem flat_ints {Im : Nat → Prop} {w : World} (k : IntKind) : ∀ l : List Int, FlatRel Im w [.int k] (l.map fun n => [.int n]) (l.map (Value.int k))
  | [] => .nil _
  | n :: l => .cons _ _ [.int k n] _ _ (.cons _ _ _ _ _ _ (.int k n) .nil) (flat_ints k l)
theorem rc_datum : (Rows.laid_avouch_keccak_constants : DataW Unit) = .agg (rcL.map fun i => .lit (.int .u64 i)) := rfl
theorem agg_inj {k : IntKind} : ∀ {l m : List Int}, (DataW.agg (l.map fun i => DataW.lit (H := Unit) (.int k i)) = DataW.agg (m.map fun i => DataW.lit (.int k i))) → l = m := by
  intro l m h
  injection h with h
  have := congrArg (List.map fun d : DataW Unit => match d with | .lit (.int _ i) => i | _ => 0) h
  rw [List.map_map, List.map_map] at this
  have e : ((fun d : DataW Unit => match d with | .lit (.int _ i) => i | _ => 0) ∘ fun i : Int => DataW.lit (.int k i)) = id := by funext i; rfl
  rwa [e, List.map_id, List.map_id] at this
theorem of_laid {W : World} (h : laidMetH Tryd.prog laidL W) (f : Nat → Option SV) (hf : ∀ g sv, f g = some sv → gl g = some sv) : ∀ g sv, f g = some sv → VRel (oldIm W) (fun _ => none) W sv (.pointer (some ⟨g, 0, none⟩)) := by
  rw [MakeChecks.laidMetH_plain _ _ _ (by kernel_rfl)] at h
  obtain ⟨ps, ⟨g0, t0, cs0, f0, p0, q0, hg0, ht0, hv0, hd0, _⟩, _, _⟩ := h
  obtain rfl := Option.some.inj (gRc.symm.trans hg0)
  obtain rfl := Option.some.inj (tRc.symm.trans ht0)
  obtain ⟨l, hl, hcs, hx, _⟩ := arr_ints Tryd.underlying62 Tryd.underlying22 cells22 cellsRc hd0
  rw [rc_datum] at hx
  obtain rfl := agg_inj hx.symm
  intro g sv hg
  have hg' := hf g sv hg
  unfold gl at hg'
  cases hb : Nat.beq g 0 with
  | false => rw [hb] at hg'; cases hg'
  | true =>
    rw [hb] at hg'
    cases hg'
    obtain rfl := beq_true.1 hb
    have hcell : ∀ j x, (rcL.map (Value.int .u64))[j]? = some x → W.cell? ((⟨0, 0, none⟩ : Addr).add j) = some x := fun j x hj => by
      have := World.var?_cell hg0 hv0 j
      rw [← Array.getElem?_toList, hcs, hj] at this
      have e : (⟨0, 0, none⟩ : Addr).add j = ⟨0, j, none⟩ := by
        unfold Addr.add
        split
        · rename_i h; subst h; rfl
        · simp
      rw [e]; exact this
    refine ⟨⟨0, 0, none⟩, rcL.map (Value.int .u64), rfl, ?_, flat_ints .u64 rcL, hcell⟩
    have h0 := hcell 0 (.int .u64 1) rfl
    have := cell_lt h0
    rwa [add_block] at this
/-- The door's own heap meets the condition. -/
theorem door_met (os : Os) (args : Array Value) : laidMetH Tryd.prog laidL ((World.doorLaid Tryd.prog 400 os).forCall (fun _ _ => 0) ⟨#[], args, []⟩).memory := by
  rw [MakeChecks.laidMetH_plain _ _ _ (by kernel_rfl)]
  exact laidMet_of_run' 8 (by kernel_rfl) (by kernel_rfl)
end Go.Proofs.YtganbceicojfmaaDoor
