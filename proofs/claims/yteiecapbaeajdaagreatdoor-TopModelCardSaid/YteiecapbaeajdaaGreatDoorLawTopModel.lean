/-
 TopModel returns true for every input, and leaves its input as it was; the table of constants holds what the program's text lays. (Printed by a program of ours.)
-/
import Derived.Test.YteiecapbaeajdaaGreatDoorJ5
import Derived.Test.YteiecapbaeajdaaGreatDoorJ13
import Derived.Test.YteiecapbaeajdaaGreatDoorTie
import Derived.Test.YteiecapbaeajdaaGreatDoorCards
import Derived.SevenTiedAt
namespace Go.Proofs.YteiecapbaeajdaaGreatDoor.topModel
open Go Go.ChangeShapes Go.WideShapes Go.ChangeAt Go.RowKit Go.Avc
open Go.ChangeMaps (open_string shut_string)
set_option linter.unusedVariables false
theorem ok3:da (base.with U0) 3 (ap ct3):=ai am ar2 Tryz.func3 (by kernel_rfl) Tryz.call3 (by kernel_rfl) vc3
set_option maxRecDepth 100000 in
theorem lifted (os:Os) (started:os.Started) (H:Type) (enc:TypeId×Value→H):
  ReturnsInHanded {} Tryz.checked os 3 .any (fun w args=>(Rows.topModelSpec.pre enc Tryz.prog Tryz.f3 [] false w args∧laidMetH Tryz.prog B9 w)∧sizedMet enc Tryz.prog Tryz.f3 (OpenSpec.ofChange Rows.topModelSpec) false w args)
   (Rows.topModelSpec.post enc Tryz.prog Tryz.f3 false true false false):=by
 refine returnsInHanded_of_change_and (C:=Tryz.checked) (X:=fun w _=>laidMetH Tryz.prog B9 w) (fun _ _ _ hh h=>h.of_heap hh) own started (by kernel_rfl) Tryz.func3
  (ChangeSpec.witness_shaped (enc:=enc) (C:=Tryz.checked) (os:=os) (X:=fun w _=>laidMetH Tryz.prog B9 w) false (World.doorLaid Tryz.prog 400 os) #[.slice none 0 0] 8 rfl (World.shaped_of_RefB (by kernel_rfl) (by kernel_rfl)) (by kernel_rfl) (by kernel_rfl) (by kernel_rfl) (Sv os _)) ?_
 intro W base args ds gs before hval0 hW _ _ hL _
 have hval:∀ (j:Nat) t v,Tryz.f3.params[j]? =some t→args[j]? =some v→Value.okWide Tryz.prog W .any base t v:=hval0
 have hW':=hW
 obtain ⟨p,q,hA0,hV,rfl,hfz,hnd⟩:=hW
 have hA:DataW.TrodAll enc Tryz.prog W 0 (fun _=>true) true Tryz.f3.params.toList args.toList ds p:=hA0
 rw [Tryz.params3] at hA hval
 obtain ⟨v0,vs0,d0,ds0,p0,q0,hargs,rfl,rfl,h0,r0⟩:=trodAll_cons hA
 obtain ⟨rfl,rfl,rfl⟩:=trodAll_nil r0
 obtain rfl:args= #[v0] :=by cases args;simp_all
 obtain ⟨rfl,rfl⟩:=trodVars_none hV
 have k0:=h0
 have lt0:∀ x∈p0,x.block<W.heap.size:=by obtain ⟨m,hm⟩:=k0;exact DataW.trod_lt m _ _ _ hm
 obtain ⟨l0,z0,q0⟩:=Sg 3 (e:=fX) (by kernel_rfl) (okWide_slice Tryz.underlying22 (hval 0 22 v0 rfl rfl)) h0
 clear hA0 hval0
 have hcall:VRels (lV W) (fun _=>none) W [.rd fX l0] [v0] :=
  ⟨_,_,rfl,z0,rfl⟩
 have hF:∃ q,ap ct3 [.rd fX l0] [] = .need q (.ret (.bool true) [] [])∧q:=⟨_,by kernel_rfl,(aej z0 q0)⟩
 obtain ⟨q,hF,hq⟩:=hF
 refine (O6 ok3 (Tryz.call3 _ W) hcall (W5 hL _ fun _ _ h=>h) (by rw [hF];exact ⟨hq,rfl⟩)).mono fun e W' ⟨he,bel⟩=> ?_
 subst he
 exact ⟨_,rfl,_,_,_,[],_,[],hW',trodAll_mk1 (shut_bool Tryz.underlying4 _),(trodAll_cons_mk (Below.trod XM (by kernel_rfl) (of_decide_eq_true (by kernel_rfl)) k0 bel lt0) trodAll_mk0),rfl,bel.frame _,fun h=>by cases h⟩
theorem fact1:(Rows.topModelRow.inPlace==Tryz.pinned.checked.prog.inPlace 3)=true:=by kernel_rfl
theorem fact2:(Rows.topModelRow.unfollowed==Tryz.pinned.checked.prog.unfollowed 3)=true:=by kernel_rfl
theorem fact3:(Rows.topModelRow.recurses==Tryz.pinned.checked.prog.recurses 3)=true:=by kernel_rfl
theorem fact4:(Rows.topModelRow.named==Tryz.pinned.checked.prog.varsNamed 3)=true:=by kernel_rfl
theorem facts:joinedFacts Tryz.pinned.checked.prog 3 Tryz.f3 Rows.topModelSpec Rows.topModelRow=true:=by
 unfold joinedFacts
 rw [fact1,fact2,fact3,fact4]
 kernel_rfl
theorem row_holds:Rows.TopModelSaid:=
 OpenClaim.holds_of_wide 3 Tryz.f3 rfl rfl rfl rfl rfl rfl rfl ⟨rfl,rfl,rfl,rfl,rfl⟩ rfl rfl rfl rfl rfl (by kernel_rfl) Tryz.func3 facts
  (of_decide_eq_true (by kernel_rfl)) (by unfold Func.isWrapper;first | (rw [if_pos (by decide+kernel)];kernel_rfl) | (rw [if_neg (by decide+kernel)];exact ⟨rfl,rfl⟩))
  (fun os started H enc _=>lifted os started H enc)
end Go.Proofs.YteiecapbaeajdaaGreatDoor.topModel
namespace Go.Proofs.YteiecapbaeajdaaGreatDoor
open Go
theorem topModel_fact5:false=Rows.topModelRow.goesBy Tryz.pinned.checked.prog:=by kernel_rfl
theorem topModel_fact6:true=Tryz.pinned.checked.prog.looks [] :=by kernel_rfl
theorem topModel_holds:Rows.TopModelCardSaid:=
 Claim7.holds_tied_plain_at .later [] [.data] true (true, "43bebd8c07eb14bea84e2aaf59fc0c6cc0b8f1411961dd1063eed75626a8f04a") true
  topModel.row_holds (fun _ h=>by cases h) (by kernel_rfl) (fun _ h=>by cases h) topModel_row_tie rfl ⟨rfl,rfl⟩ (by kernel_rfl) rfl
  (fun f fn hf hfn=>by
   obtain rfl:f=3:=Option.some.inj ((show Tryz.prog.funcNamed Rows.topModelRow.func=some 3 by kernel_rfl).symm.trans hf) |>.symm
   obtain rfl:fn=Tryz.f3:=(Option.some.inj (Tryz.func3.symm.trans hfn)).symm
   exact ⟨topModel_fact6,fun j t ht=>by
    rw [Tryz.params3] at ht
    have hm:t∈ [22] :=by simpa using Array.mem_of_getElem? ht
    have hall:([22].all fun u=> !Tryz.prog.wantsStandIn u)=true:=by kernel_rfl
    exact (show Tryz.prog.wantsStandIn t=false by simpa using List.all_eq_true.1 hall t hm)⟩)
  topModel_fact5
#print axioms topModel_holds
end Go.Proofs.YteiecapbaeajdaaGreatDoor
