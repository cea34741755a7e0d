/-
  ItemLimits returns true for every input, and leaves its input as it was.
-/
import Derived.Test.YtfikklbaceidfaaRows
import Derived.Test.YtfikklbaceidfaaV2
import Derived.Test.YtfikklbaceidfaaAvcT1
import Derived.WalkKit
import Derived.ProofKit
import Derived.OpenShut
import Derived.ShutString
import Derived.ChangeOld
import Derived.Below
import Derived.SizedLaws
namespace Go.Proofs.Ytfikklbaceidfaa.itemLimits
open Go.ChangeShapes Go.WideShapes Go.ChangeAt Go.RowKit Go.Avc
open Go.ChangeMaps (open_string shut_string)
set_option linter.unusedVariables false
theorem own : ownKnob Try.prog.godebug = none := by kernel_rfl
theorem laidOut : laidOutB Try.prog = true := by kernel_rfl
set_option maxRecDepth 100000 in
theorem lifted (os : Os) (started : os.Started) (H : Type) (enc : TypeId × Value → H) :
    ReturnsInHanded {} Try.checked os 3 .any (Rows.itemLimitsSpec.pre6 enc Try.prog Try.f3 Rows.itemLimitsRow.domain false) (Rows.itemLimitsSpec.post enc Try.prog Try.f3 false true false false) := by
  refine returnsInHanded_of_change_sized (C := Try.checked) own started (by kernel_rfl) Try.func3
    (ChangeSpec.witness6 (enc := enc) (C := Try.checked) false ⟨#[], #[.agg #[.int .i64 0, .int .i64 0, .int .i64 0, .string ByteArray.empty], .int .i64 0, .string ByteArray.empty], []⟩ 8 (by kernel_rfl) (by kernel_rfl) (by kernel_rfl) (by kernel_rfl)) ?_
  intro W base args ds gs before hval0 hW hcnd hsz0 _
  have hval : ∀ (j : Nat) t v, Try.f3.params[j]? = some t → args[j]? = some v → Value.okWide Try.prog W .any base t v := hval0
  have hW' := hW
  obtain ⟨p, q, hA0, hV, rfl, hfz, hnd⟩ := hW
  have hA : DataW.TrodAll enc Try.prog W 0 (fun _ => true) true Try.f3.params.toList args.toList ds p := hA0
  rw [Try.params3] at hA hval
  obtain ⟨v0, vs0, d0, ds0, p0, q0, hargs, rfl, rfl, h0, r0⟩ := trodAll_cons hA
  obtain ⟨v1, vs1, d1, ds1, p1, q1, rfl, rfl, rfl, h1, r1⟩ := trodAll_cons r0
  obtain ⟨v2, vs2, d2, ds2, p2, q2, rfl, rfl, rfl, h2, r2⟩ := trodAll_cons r1
  obtain ⟨rfl, rfl, rfl⟩ := trodAll_nil r2
  obtain rfl : args = #[v0, v1, v2] := by cases args; simp_all
  obtain ⟨rfl, rfl⟩ := trodVars_none hV
  obtain ⟨a1, rfl, rfl, rfl, w1⟩ := open_int Try.underlying3 (hval 1 3 v1 rfl rfl) h1
  obtain ⟨a2, rfl, rfl, rfl, y2⟩ := open_string Try.underlying9 (hval 2 9 v2 rfl rfl) h2
  have k0 := h0
  have lt0 : ∀ x ∈ p0, x.block < W.heap.size := by obtain ⟨m, hm⟩ := k0; exact DataW.trod_lt m _ _ _ hm
  obtain ⟨cs0, rfl⟩ : ∃ cs, v0 = .agg cs := by
    have := hval 0 23 v0 rfl rfl
    unfold Value.okWide at this
    rw [Try.underlying23] at this
    obtain ⟨cs, h, _⟩ := this
    exact ⟨cs, h⟩
  obtain ⟨row0, g0, f0⟩ : ∃ row, RowRel (oldIm W) W itemE row cs0.toList ∧ wfRow itemE row := by
    obtain ⟨fuel, hf⟩ := h0
    exact trod_row fuel _ _ _ _ hf 3 itemE (by kernel_rfl)
  clear hA0 hval0 hsz0
  have hcall : VRels (oldIm W) (fun _ => none) W [.agg (svRow itemE row0), .int .i64 a1, .str a2.data.toList] [.agg cs0, .int .i64 a1, .string a2] :=
    ⟨_, _, rfl, ⟨cs0.toList, rfl, cells_of_row g0⟩, _, _, rfl, rfl, _, _, rfl, ⟨by cases a2; simp, y2⟩, rfl⟩
  have hl0 := (RowRel.length g0).2
  obtain ⟨x0, x1, x2, x3, rfl⟩ : ∃ x0 x1 x2 x3, row0 = [x0, x1, x2, x3] := by
    match row0, hl0 with
    | [x0, x1, x2, x3], _ => exact ⟨x0, x1, x2, x3, rfl⟩
  have hF : mkF ct3 [.agg (svRow itemE [x0, x1, x2, x3]), .int .i64 a1, .str a2.data.toList] [] = .need True (.ret (.bool true) [] []) := by kernel_rfl
  refine (law_calls ok3 (Try.call3 _ W) hcall (fun g sv h => by cases h) (by rw [hF]; exact ⟨trivial, rfl⟩)).mono fun e W' ⟨he, bel⟩ => ?_
  subst he
  exact ⟨_, rfl, _, _, _, [], _, [], hW', trodAll_mk1 (shut_bool Try.underlying4 _), (trodAll_cons_mk (Below.trod laidOut (by kernel_rfl) (of_decide_eq_true (by kernel_rfl)) k0 bel lt0) (trodAll_cons_mk (shut_int Try.underlying3 w1) (trodAll_cons_mk (shut_string Try.underlying9 y2) trodAll_mk0))), rfl, bel.frame _, fun h => by cases h⟩
theorem over : Rows.itemLimitsRow.holds Try.pinned (OpenSpec.ofChange Rows.itemLimitsSpec) :=
  OpenClaim.holds_of_wide 3 Try.f3 rfl rfl rfl rfl rfl rfl rfl ⟨rfl, rfl, rfl, rfl, rfl⟩ rfl rfl rfl rfl rfl (by kernel_rfl) Try.func3 (by kernel_rfl)
    (of_decide_eq_true (by kernel_rfl)) (by unfold Func.isWrapper; first | (rw [if_pos (by decide +kernel)]; kernel_rfl) | (rw [if_neg (by decide +kernel)]; exact ⟨rfl, rfl⟩))
    (fun os started H enc _ => lifted os started H enc)
end Go.Proofs.Ytfikklbaceidfaa.itemLimits
namespace Go.Proofs.Ytfikklbaceidfaa
theorem itemLimits_holds : Rows.ItemLimitsSaid := itemLimits.over
#print axioms itemLimits_holds
end Go.Proofs.Ytfikklbaceidfaa
