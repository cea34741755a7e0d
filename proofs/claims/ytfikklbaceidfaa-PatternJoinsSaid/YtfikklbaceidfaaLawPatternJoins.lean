/-
  PatternJoins returns true for every input, and leaves its input as it was. (Printed by a program of ours.)
-/
import Derived.Test.YtfikklbaceidfaaRows
import Derived.Test.YtfikklbaceidfaaV7
import Derived.Test.YtfikklbaceidfaaLawBase2
import Derived.Test.YtfikklbaceidfaaAvcT1
import Derived.WalkKit
import Derived.ProofKit
import Derived.OpenShut
import Derived.ShutString
import Derived.ChangeOld
import Derived.Below
import Derived.SizedLaws
namespace Go.Proofs.Ytfikklbaceidfaa.patternJoins
open Go.ChangeShapes Go.WideShapes Go.ChangeAt Go.RowKit Go.Avc
open Go.ChangeMaps (open_string shut_string)
set_option linter.unusedVariables false
theorem own : ownKnob Try.prog.godebug = none := by kernel_rfl
theorem laidOut : laidOutB Try.prog = true := by kernel_rfl
set_option maxRecDepth 100000 in
theorem lifted (os : Os) (started : os.Started) (H : Type) (enc : TypeId × Value → H) :
    ReturnsInHanded {} Try.checked os 12 .any (Rows.patternJoinsSpec.pre6 enc Try.prog Try.f12 Rows.patternJoinsRow.domain false) (Rows.patternJoinsSpec.post enc Try.prog Try.f12 false true false false) := by
  refine returnsInHanded_of_change_sized (C := Try.checked) own started (by kernel_rfl) Try.func12
    (ChangeSpec.witness6 (enc := enc) (C := Try.checked) false ⟨#[], #[.slice none 0 0, .slice none 0 0, .int .u8 0], []⟩ 8 (by kernel_rfl) (by kernel_rfl) (by kernel_rfl) (by kernel_rfl)) ?_
  intro W base args ds gs before hval0 hW hcnd hsz0 _
  have hval : ∀ (j : Nat) t v, Try.f12.params[j]? = some t → args[j]? = some v → Value.okWide Try.prog W .any base t v := hval0
  have hW' := hW
  obtain ⟨p, q, hA0, hV, rfl, hfz, hnd⟩ := hW
  have hA : DataW.TrodAll enc Try.prog W 0 (fun _ => true) true Try.f12.params.toList args.toList ds p := hA0
  rw [Try.params12] at hA hval
  obtain ⟨v0, vs0, d0, ds0, p0, q0, hargs, rfl, rfl, h0, r0⟩ := trodAll_cons hA
  obtain ⟨v1, vs1, d1, ds1, p1, q1, rfl, rfl, rfl, h1, r1⟩ := trodAll_cons r0
  obtain ⟨v2, vs2, d2, ds2, p2, q2, rfl, rfl, rfl, h2, r2⟩ := trodAll_cons r1
  obtain ⟨rfl, rfl, rfl⟩ := trodAll_nil r2
  obtain rfl : args = #[v0, v1, v2] := by cases args; simp_all
  obtain ⟨rfl, rfl⟩ := trodVars_none hV
  have k0 := h0
  have lt0 : ∀ x ∈ p0, x.block < W.heap.size := by obtain ⟨m, hm⟩ := k0; exact DataW.trod_lt m _ _ _ hm
  obtain ⟨l0, z0, q0⟩ := slice_in 4 (e := itemE) (by kernel_rfl) (okWide_slice Try.underlying48 (hval 0 48 v0 rfl rfl)) h0
  have k1 := h1
  have lt1 : ∀ x ∈ p1, x.block < W.heap.size := by obtain ⟨m, hm⟩ := k1; exact DataW.trod_lt m _ _ _ hm
  obtain ⟨l1, z1, q1⟩ := slice_in 4 (e := itemE) (by kernel_rfl) (okWide_slice Try.underlying48 (hval 1 48 v1 rfl rfl)) h1
  obtain ⟨a2, rfl, rfl, rfl, w2⟩ := open_int Try.underlying5 (hval 2 5 v2 rfl rfl) h2
  clear hA0 hval0 hsz0
  have hcall : VRels (oldIm W) (fun _ => none) W [.rd itemE l0, .rd itemE l1, .int .u8 a2] [v0, v1, .int .u8 a2] :=
    ⟨_, _, rfl, z0, ⟨_, _, rfl, z1, ⟨_, _, rfl, rfl, rfl⟩⟩⟩
  have hF : ∃ q, mkF ct12 [.rd itemE l0, .rd itemE l1, .int .u8 a2] [] = .need q (.ret (.bool true) [] []) ∧ q := ⟨_, by kernel_rfl, And.intro (wf_in z0 q0) (And.intro (wf_in z1 q1) (u8_in w2))⟩
  obtain ⟨q, hF, hq⟩ := hF
  refine (law_calls ok12 (Try.call12 _ W) hcall (fun g sv h => by cases h) (by rw [hF]; exact ⟨hq, rfl⟩)).mono fun e W' ⟨he, bel⟩ => ?_
  subst he
  exact ⟨_, rfl, _, _, _, [], _, [], hW', trodAll_mk1 (shut_bool Try.underlying4 _), (trodAll_cons_mk (Below.trod laidOut (by kernel_rfl) (of_decide_eq_true (by kernel_rfl)) k0 bel lt0) (trodAll_cons_mk (Below.trod laidOut (by kernel_rfl) (of_decide_eq_true (by kernel_rfl)) k1 bel lt1) (trodAll_cons_mk (shut_int Try.underlying5 w2) trodAll_mk0))), rfl, bel.frame _, fun h => by cases h⟩
theorem over : Rows.patternJoinsRow.holds Try.pinned (OpenSpec.ofChange Rows.patternJoinsSpec) :=
  OpenClaim.holds_of_wide 12 Try.f12 rfl rfl rfl rfl rfl rfl rfl ⟨rfl, rfl, rfl, rfl, rfl⟩ rfl rfl rfl rfl rfl (by kernel_rfl) Try.func12 (by kernel_rfl)
    (of_decide_eq_true (by kernel_rfl)) (by unfold Func.isWrapper; first | (rw [if_pos (by decide +kernel)]; kernel_rfl) | (rw [if_neg (by decide +kernel)]; exact ⟨rfl, rfl⟩))
    (fun os started H enc _ => lifted os started H enc)
end Go.Proofs.Ytfikklbaceidfaa.patternJoins
namespace Go.Proofs.Ytfikklbaceidfaa
theorem patternJoins_holds : Rows.PatternJoinsSaid := patternJoins.over
#print axioms patternJoins_holds
end Go.Proofs.Ytfikklbaceidfaa
