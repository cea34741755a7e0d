/-
  PatternLong returns true for every input, and leaves its input as it was. (Printed by a program of ours.)
-/
import Derived.Test.YtfikklbaceidfaaRows
import Derived.Test.YtfikklbaceidfaaV5
import Derived.Test.YtfikklbaceidfaaLawBase
import Derived.Test.YtfikklbaceidfaaAvcT1
import Derived.WalkKit
import Derived.ProofKit
import Derived.OpenShut
import Derived.ShutString
import Derived.ChangeOld
import Derived.Below
import Derived.SizedLaws
namespace Go.Proofs.Ytfikklbaceidfaa.patternLong
open Go.ChangeShapes Go.WideShapes Go.ChangeAt Go.RowKit Go.Avc
open Go.ChangeMaps (open_string shut_string)
set_option linter.unusedVariables false
theorem own : ownKnob Try.prog.godebug = none := by kernel_rfl
theorem laidOut : laidOutB Try.prog = true := by kernel_rfl
set_option maxRecDepth 100000 in
theorem lifted (os : Os) (started : os.Started) (H : Type) (enc : TypeId × Value → H) :
    ReturnsInHanded {} Try.checked os 8 .any (Rows.patternLongSpec.pre6 enc Try.prog Try.f8 Rows.patternLongRow.domain false) (Rows.patternLongSpec.post enc Try.prog Try.f8 false true false false) := by
  refine returnsInHanded_of_change_sized (C := Try.checked) own started (by kernel_rfl) Try.func8
    (ChangeSpec.witness6 (enc := enc) (C := Try.checked) false ⟨#[], #[.agg #[.int .i64 0, .int .i64 0, .int .i64 0, .string ByteArray.empty], .int .u16 0], []⟩ 8 (by kernel_rfl) (by kernel_rfl) (by kernel_rfl) (by kernel_rfl)) ?_
  intro W base args ds gs before hval0 hW hcnd hsz0 _
  have hval : ∀ (j : Nat) t v, Try.f8.params[j]? = some t → args[j]? = some v → Value.okWide Try.prog W .any base t v := hval0
  have hW' := hW
  obtain ⟨p, q, hA0, hV, rfl, hfz, hnd⟩ := hW
  have hA : DataW.TrodAll enc Try.prog W 0 (fun _ => true) true Try.f8.params.toList args.toList ds p := hA0
  rw [Try.params8] at hA hval
  obtain ⟨v0, vs0, d0, ds0, p0, q0, hargs, rfl, rfl, h0, r0⟩ := trodAll_cons hA
  obtain ⟨v1, vs1, d1, ds1, p1, q1, rfl, rfl, rfl, h1, r1⟩ := trodAll_cons r0
  obtain ⟨rfl, rfl, rfl⟩ := trodAll_nil r1
  obtain rfl : args = #[v0, v1] := by cases args; simp_all
  obtain ⟨rfl, rfl⟩ := trodVars_none hV
  have k0 := h0
  have lt0 : ∀ x ∈ p0, x.block < W.heap.size := by obtain ⟨m, hm⟩ := k0; exact DataW.trod_lt m _ _ _ hm
  obtain ⟨cs0, rfl⟩ : ∃ cs, v0 = .agg cs := by
    have := hval 0 23 v0 rfl rfl
    unfold Value.okWide at this
    rw [Try.underlying23] at this
    obtain ⟨cs, h, _⟩ := this
    exact ⟨cs, h⟩
  obtain ⟨row0, g0, f0⟩ : ∃ row, RowRel (oldIm W) W itemE row cs0.toList ∧ wfRow itemE row := by
    obtain ⟨fuel, hf⟩ := h0
    exact trod_row fuel _ _ _ _ hf 3 itemE (by kernel_rfl)
  obtain ⟨a1, rfl, rfl, rfl, w1⟩ := open_int Try.underlying55 (hval 1 55 v1 rfl rfl) h1
  clear hA0 hval0 hsz0
  have hcall : VRels (oldIm W) (fun _ => none) W [.agg (svRow itemE row0), .int .u16 a1] [.agg cs0, .int .u16 a1] :=
    ⟨_, _, rfl, ⟨cs0.toList, rfl, cells_of_row g0⟩, ⟨_, _, rfl, rfl, rfl⟩⟩
  have hl0 := (RowRel.length g0).2
  obtain ⟨x00, x01, x02, x03, rfl⟩ : ∃ x0 x1 x2 x3, row0 = [x0, x1, x2, x3] := by
    match row0, hl0 with
    | [x0, x1, x2, x3], _ => exact ⟨x0, x1, x2, x3, rfl⟩
  have hF : ∃ q, mkF ct8 [.agg (svRow itemE [x00, x01, x02, x03]), .int .u16 a1] [] = .need q (.ret (.bool true) [] []) ∧ q := ⟨_, by kernel_rfl, u16_in w1⟩
  obtain ⟨q, hF, hq⟩ := hF
  refine (law_calls ok8 (Try.call8 _ W) hcall (fun g sv h => by cases h) (by rw [hF]; exact ⟨hq, rfl⟩)).mono fun e W' ⟨he, bel⟩ => ?_
  subst he
  exact ⟨_, rfl, _, _, _, [], _, [], hW', trodAll_mk1 (shut_bool Try.underlying4 _), (trodAll_cons_mk (Below.trod laidOut (by kernel_rfl) (of_decide_eq_true (by kernel_rfl)) k0 bel lt0) (trodAll_cons_mk (shut_int Try.underlying55 w1) trodAll_mk0)), rfl, bel.frame _, fun h => by cases h⟩
theorem over : Rows.patternLongRow.holds Try.pinned (OpenSpec.ofChange Rows.patternLongSpec) :=
  OpenClaim.holds_of_wide 8 Try.f8 rfl rfl rfl rfl rfl rfl rfl ⟨rfl, rfl, rfl, rfl, rfl⟩ rfl rfl rfl rfl rfl (by kernel_rfl) Try.func8 (by kernel_rfl)
    (of_decide_eq_true (by kernel_rfl)) (by unfold Func.isWrapper; first | (rw [if_pos (by decide +kernel)]; kernel_rfl) | (rw [if_neg (by decide +kernel)]; exact ⟨rfl, rfl⟩))
    (fun os started H enc _ => lifted os started H enc)
end Go.Proofs.Ytfikklbaceidfaa.patternLong
namespace Go.Proofs.Ytfikklbaceidfaa
theorem patternLong_holds : Rows.PatternLongSaid := patternLong.over
#print axioms patternLong_holds
end Go.Proofs.Ytfikklbaceidfaa
