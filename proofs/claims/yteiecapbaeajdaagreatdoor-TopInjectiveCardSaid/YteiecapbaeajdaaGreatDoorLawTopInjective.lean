/-
  TopInjective returns true for every input, and leaves its input as it was; the table of constants holds what the program's text lays. (Printed by a program of ours.)
-/
import Derived.Test.YteiecapbaeajdaaGreatDoorJ5
import Derived.Test.YteiecapbaeajdaaGreatDoorJ11
import Derived.Test.YteiecapbaeajdaaGreatDoorTie
import Derived.Test.YteiecapbaeajdaaGreatDoorCards
import Derived.SevenTiedAt
namespace Go.Proofs.YteiecapbaeajdaaGreatDoor.topInjective
open Go Go.ChangeShapes Go.WideShapes Go.ChangeAt Go.RowKit Go.Avc
open Go.ChangeMaps (open_string shut_string)
set_option linter.unusedVariables false
set_option maxRecDepth 100000 in
theorem lifted (os:Os) (started:os.Started) (H:Type) (enc:TypeId×Value→H):
    ReturnsInHanded {} Tryz.checked os 7 .any (fun w args=>(Rows.topInjectiveSpec.pre enc Tryz.prog Tryz.f7 [] false w args∧laidMetH Tryz.prog tA w)∧sizedMet enc Tryz.prog Tryz.f7 (OpenSpec.ofChange Rows.topInjectiveSpec) false w args)
      (Rows.topInjectiveSpec.post enc Tryz.prog Tryz.f7 false true false false):=by
  refine returnsInHanded_of_change_and (C:=Tryz.checked) (X:=fun w _=>laidMetH Tryz.prog tA w) (fun _ _ _ hh h=>h.of_heap hh) own started (by kernel_rfl) Tryz.func7
    (ChangeSpec.witness_shaped (enc:=enc) (C:=Tryz.checked) (os:=os) (X:=fun w _=>laidMetH Tryz.prog tA w) false (World.doorLaid Tryz.prog 400 os) #[.slice none 0 0,.slice none 0 0] 8 rfl (World.shaped_of_RefB (by kernel_rfl) (by kernel_rfl)) (by kernel_rfl) (by kernel_rfl) (by kernel_rfl) (KV os _)) ?_
  intro W base args ds gs before hval0 hW _ _ hL _
  have hval:∀ (j:Nat) t v,Tryz.f7.params[j]? =some t→args[j]? =some v→Value.okWide Tryz.prog W .any base t v:=hval0
  have hW':=hW
  obtain ⟨p,q,hA0,hV,rfl,hfz,hnd⟩:=hW
  have hA:DataW.TrodAll enc Tryz.prog W 0 (fun _=>true) true Tryz.f7.params.toList args.toList ds p:=hA0
  rw [Tryz.params7] at hA hval
  obtain ⟨v0,vs0,d0,ds0,p0,q0,hargs,rfl,rfl,h0,r0⟩:=trodAll_cons hA
  obtain ⟨v1,vs1,d1,ds1,p1,q1,rfl,rfl,rfl,h1,r1⟩:=trodAll_cons r0
  obtain ⟨rfl,rfl,rfl⟩:=trodAll_nil r1
  obtain rfl:args= #[v0,v1] :=by cases args;simp_all
  obtain ⟨rfl,rfl⟩:=trodVars_none hV
  have k0:=h0
  have lt0:∀ x∈p0,x.block<W.heap.size:=by obtain ⟨m,hm⟩:=k0;exact DataW.trod_lt m _ _ _ hm
  obtain ⟨l0,z0,q0⟩:=BS 5 (e:=kp) (by kernel_rfl) (okWide_slice Tryz.underlying58 (hval 0 58 v0 rfl rfl)) h0
  have k1:=h1
  have lt1:∀ x∈p1,x.block<W.heap.size:=by obtain ⟨m,hm⟩:=k1;exact DataW.trod_lt m _ _ _ hm
  obtain ⟨l1,z1,q1⟩:=BS 5 (e:=kp) (by kernel_rfl) (okWide_slice Tryz.underlying58 (hval 1 58 v1 rfl rfl)) h1
  clear hA0 hval0
  have hcall:VRels (il W) (fun _=>none) W [.rd kp l0,.rd kp l1] [v0,v1] :=
    ⟨_,_,rfl,z0,⟨_,_,rfl,z1,rfl⟩⟩
  have hF:∃ q,ag SO [.rd kp l0,.rd kp l1] [] = .need q (.ret (.bool true) [] [])∧q:=⟨_,by kernel_rfl,(And.intro (CX z0 q0) (CX z1 q1))⟩
  obtain ⟨q,hF,hq⟩:=hF
  refine (IP ok7 (Tryz.call7 _ W) hcall (N2 hL _ fun _ _ h=>h) (by rw [hF];exact ⟨hq,rfl⟩)).mono fun e W' ⟨he,bel⟩=> ?_
  subst he
  exact ⟨_,rfl,_,_,_,[],_,[],hW',trodAll_mk1 (shut_bool Tryz.underlying4 _),(trodAll_cons_mk (Below.trod DM (by kernel_rfl) (of_decide_eq_true (by kernel_rfl)) k0 bel lt0) (trodAll_cons_mk (Below.trod DM (by kernel_rfl) (of_decide_eq_true (by kernel_rfl)) k1 bel lt1) trodAll_mk0)),rfl,bel.frame _,fun h=>by cases h⟩
theorem row_holds:Rows.TopInjectiveSaid:=
  OpenClaim.holds_of_wide 7 Tryz.f7 rfl rfl rfl rfl rfl rfl rfl ⟨rfl,rfl,rfl,rfl,rfl⟩ rfl rfl rfl rfl rfl (by kernel_rfl) Tryz.func7 (by kernel_rfl)
    (of_decide_eq_true (by kernel_rfl)) (by unfold Func.isWrapper;first | (rw [if_pos (by decide+kernel)];kernel_rfl) | (rw [if_neg (by decide+kernel)];exact ⟨rfl,rfl⟩))
    (fun os started H enc _=>lifted os started H enc)
end Go.Proofs.YteiecapbaeajdaaGreatDoor.topInjective
namespace Go.Proofs.YteiecapbaeajdaaGreatDoor
open Go
theorem topInjective_holds:Rows.TopInjectiveCardSaid:=
  Claim7.holds_tied_plain_at .later [] [.data] true (true, "43bebd8c07eb14bea84e2aaf59fc0c6cc0b8f1411961dd1063eed75626a8f04a") true
    topInjective.row_holds (fun _ h=>by cases h) (by kernel_rfl) (fun _ h=>by cases h) topInjective_row_tie rfl ⟨rfl,rfl⟩ (by kernel_rfl) rfl
    (fun f fn hf hfn=>by
      obtain rfl:f=7:=Option.some.inj ((show Tryz.prog.funcNamed Rows.topInjectiveRow.func=some 7 by kernel_rfl).symm.trans hf) |>.symm
      obtain rfl:fn=Tryz.f7:=(Option.some.inj (Tryz.func7.symm.trans hfn)).symm
      exact ⟨by kernel_rfl,fun j t ht=>by
        rw [Tryz.params7] at ht
        have hm:t∈ [58,58] :=by simpa using Array.mem_of_getElem? ht
        have hall:([58,58].all fun u=> !Tryz.prog.wantsStandIn u)=true:=by kernel_rfl
        exact (show Tryz.prog.wantsStandIn t=false by simpa using List.all_eq_true.1 hall t hm)⟩)
    (by kernel_rfl)
#print axioms topInjective_holds
end Go.Proofs.YteiecapbaeajdaaGreatDoor
