/-
  KeccakIota returns true for every input, and leaves its input as it was; the table of constants holds what the program's text lays. (Printed by a program of ours.)
-/
import Derived.Test.YtganbceicojfmaaDoorLawBase
import Derived.Test.YtganbceicojfmaaDoorLawBase2
import Derived.Test.YtganbceicojfmaaDoorTie
import Derived.Test.YtganbceicojfmaaDoorCards
import Derived.SevenTiedAt
namespace Go.Proofs.YtganbceicojfmaaDoor.keccakIota
open Go Go.ChangeShapes Go.WideShapes Go.ChangeAt Go.RowKit Go.Avc
open Go.ChangeMaps (open_string shut_string)
set_option linter.unusedVariables false
set_option maxRecDepth 100000 in
theorem lifted (os : Os) (started : os.Started) (H : Type) (enc : TypeId × Value → H) :
    ReturnsInHanded {} Tryd.checked os 7 .any (fun w args => (Rows.keccakIotaSpec.pre enc Tryd.prog Tryd.f7 [] false w args ∧ laidMetH Tryd.prog laidL w) ∧ sizedMet enc Tryd.prog Tryd.f7 (OpenSpec.ofChange Rows.keccakIotaSpec) false w args)
      (Rows.keccakIotaSpec.post enc Tryd.prog Tryd.f7 false true false false) := by
  refine returnsInHanded_of_change_and (C := Tryd.checked) (X := fun w _ => laidMetH Tryd.prog laidL w) (fun _ _ _ hh h => h.of_heap hh) own started (by kernel_rfl) Tryd.func7
    (ChangeSpec.witness_shaped (enc := enc) (C := Tryd.checked) (os := os) (X := fun w _ => laidMetH Tryd.prog laidL w) false (World.doorLaid Tryd.prog 400 os) #[.agg (Array.replicate 25 (.int .u64 0)), .int .i64 0] 8 rfl (World.shaped_of_RefB (by kernel_rfl) (by kernel_rfl)) (by kernel_rfl) (by kernel_rfl) (by kernel_rfl) (door_met os _)) ?_
  intro W base args ds gs before hval0 hW _ _ hL _
  have hval : ∀ (j : Nat) t v, Tryd.f7.params[j]? = some t → args[j]? = some v → Value.okWide Tryd.prog W .any base t v := hval0
  have hW' := hW
  obtain ⟨p, q, hA0, hV, rfl, hfz, hnd⟩ := hW
  have hA : DataW.TrodAll enc Tryd.prog W 0 (fun _ => true) true Tryd.f7.params.toList args.toList ds p := hA0
  rw [Tryd.params7] at hA hval
  obtain ⟨v0, vs0, d0, ds0, p0, q0, hargs, rfl, rfl, h0, r0⟩ := trodAll_cons hA
  obtain ⟨v1, vs1, d1, ds1, p1, q1, rfl, rfl, rfl, h1, r1⟩ := trodAll_cons r0
  obtain ⟨rfl, rfl, rfl⟩ := trodAll_nil r1
  obtain rfl : args = #[v0, v1] := by cases args; simp_all
  obtain ⟨rfl, rfl⟩ := trodVars_none hV
  have k0 := h0
  have lt0 : ∀ x ∈ p0, x.block < W.heap.size := by obtain ⟨m, hm⟩ := k0; exact DataW.trod_lt m _ _ _ hm
  obtain ⟨cs0, rfl⟩ : ∃ cs, v0 = .agg cs := by
    have := hval 0 24 v0 rfl rfl
    unfold Value.okWide at this
    rw [Tryd.underlying24] at this
    obtain ⟨cs, h, _⟩ := this
    exact ⟨cs, h⟩
  obtain ⟨a0, m0, e0, w0⟩ : ∃ l : List Int, l.length = 25 ∧ cs0 = (l.map (Value.int .u64)).toArray ∧ ∀ i ∈ l, (Lit.int .u64 i).wf = true := by
    obtain ⟨fuel, hf⟩ := h0
    obtain ⟨l, h1, h2, _, h3⟩ := arr_ints Tryd.underlying24 Tryd.underlying22 (by kernel_rfl) (by kernel_rfl) hf
    exact ⟨l, h1, by rw [← h2]; show cs0 = cs0.toList.toArray; simp, h3⟩
  subst e0
  obtain ⟨a1, rfl, rfl, rfl, w1⟩ := open_int Tryd.underlying3 (hval 1 3 v1 rfl rfl) h1
  clear hA0 hval0
  have hcall : VRels (oldIm W) (fun _ => none) W [.agg [.arrI 25 .u64 a0], .int .i64 a1] [.agg (a0.map (Value.int .u64)).toArray, .int .i64 a1] :=
    ⟨_, _, rfl, ⟨_, rfl, m0, [], (List.append_nil _).symm, rfl⟩, ⟨_, _, rfl, rfl, rfl⟩⟩
  have hF : ∃ q, mkF ct7 [.agg [.arrI 25 .u64 a0], .int .i64 a1] [] = .need q (.ret (.bool true) [] []) ∧ q := ⟨_, by kernel_rfl, areW_in w0⟩
  obtain ⟨q, hF, hq⟩ := hF
  refine (law_calls ok7 (Tryd.call7 _ W) hcall (of_laid hL _ fun _ _ h => h) (by rw [hF]; exact ⟨hq, rfl⟩)).mono fun e W' ⟨he, bel⟩ => ?_
  subst he
  exact ⟨_, rfl, _, _, _, [], _, [], hW', trodAll_mk1 (shut_bool Tryd.underlying4 _), (trodAll_cons_mk (Below.trod laidOut (by kernel_rfl) (of_decide_eq_true (by kernel_rfl)) k0 bel lt0) (trodAll_cons_mk (shut_int Tryd.underlying3 w1) trodAll_mk0)), rfl, bel.frame _, fun h => by cases h⟩
theorem row_holds : Rows.KeccakIotaSaid :=
  OpenClaim.holds_of_wide 7 Tryd.f7 rfl rfl rfl rfl rfl rfl rfl ⟨rfl, rfl, rfl, rfl, rfl⟩ rfl rfl rfl rfl rfl (by kernel_rfl) Tryd.func7 (by kernel_rfl)
    (of_decide_eq_true (by kernel_rfl)) (by unfold Func.isWrapper; first | (rw [if_pos (by decide +kernel)]; kernel_rfl) | (rw [if_neg (by decide +kernel)]; exact ⟨rfl, rfl⟩))
    (fun os started H enc _ => lifted os started H enc)
end Go.Proofs.YtganbceicojfmaaDoor.keccakIota
namespace Go.Proofs.YtganbceicojfmaaDoor
open Go
theorem keccakIota_holds : Rows.KeccakIotaCardSaid :=
  Claim7.holds_tied_plain_at .later [] [.data] true (true, "56a24867dac3dcf09a4c9baede4b95ace03450e223fd43d165c7ed1f9bc03d5d") false
    keccakIota.row_holds (fun _ h => by cases h) (by kernel_rfl) (fun _ h => by cases h) keccakIota_row_tie rfl ⟨rfl, rfl⟩ (by kernel_rfl) rfl
    (fun f fn hf hfn => by
      obtain rfl : f = 7 := Option.some.inj ((show Tryd.prog.funcNamed Rows.keccakIotaRow.func = some 7 by kernel_rfl).symm.trans hf) |>.symm
      obtain rfl : fn = Tryd.f7 := (Option.some.inj (Tryd.func7.symm.trans hfn)).symm
      exact ⟨by kernel_rfl, fun j t ht => by
        rw [Tryd.params7] at ht
        have hm : t ∈ [24, 3] := by simpa using Array.mem_of_getElem? ht
        have hall : ([24, 3].all fun u => !Tryd.prog.wantsStandIn u) = true := by kernel_rfl
        exact (show Tryd.prog.wantsStandIn t = false by simpa using List.all_eq_true.1 hall t hm)⟩)
    (by kernel_rfl)
#print axioms keccakIota_holds
end Go.Proofs.YtganbceicojfmaaDoor
