/-
 TopGuard returns true for every input, and leaves its input as it was; the table of constants holds what the program's text lays. (Printed by a program of ours.)
-/
import Derived.Test.YteiecapbaeajdaaGreatDoorJ5
import Derived.Test.YteiecapbaeajdaaGreatDoorJ12
import Derived.Test.YteiecapbaeajdaaGreatDoorTie
import Derived.Test.YteiecapbaeajdaaGreatDoorCards
import Derived.SevenTiedAt
namespace Go.Proofs.YteiecapbaeajdaaGreatDoor.topGuard
open Go Go.ChangeShapes Go.WideShapes Go.ChangeAt Go.RowKit Go.Avc
open Go.ChangeMaps (open_string shut_string)
set_option linter.unusedVariables false
set_option maxRecDepth 100000 in
theorem lifted (os:Os) (started:os.Started) (H:Type) (enc:TypeId×Value→H):
  ReturnsInHanded {} Tryz.checked os 6 .any (fun w args=>(Rows.topGuardSpec.pre enc Tryz.prog Tryz.f6 [] false w args∧laidMetH Tryz.prog Db w)∧sizedMet enc Tryz.prog Tryz.f6 (OpenSpec.ofChange Rows.topGuardSpec) false w args)
   (Rows.topGuardSpec.post enc Tryz.prog Tryz.f6 false true false false):=by
 refine returnsInHanded_of_change_and (C:=Tryz.checked) (X:=fun w _=>laidMetH Tryz.prog Db w) (fun _ _ _ hh h=>h.of_heap hh) own started (by kernel_rfl) Tryz.func6
  (ChangeSpec.witness_shaped (enc:=enc) (C:=Tryz.checked) (os:=os) (X:=fun w _=>laidMetH Tryz.prog Db w) false (World.doorLaid Tryz.prog 400 os) #[.bool false,.slice none 0 0,.slice none 0 0] 8 rfl (World.shaped_of_RefB (by kernel_rfl) (by kernel_rfl)) (by kernel_rfl) (by kernel_rfl) (by kernel_rfl) (Uc os _)) ?_
 intro W base args ds gs before hval0 hW _ _ hL _
 have hval:∀ (j:Nat) t v,Tryz.f6.params[j]? =some t→args[j]? =some v→Value.okWide Tryz.prog W .any base t v:=hval0
 have hW':=hW
 obtain ⟨p,q,hA0,hV,rfl,hfz,hnd⟩:=hW
 have hA:DataW.TrodAll enc Tryz.prog W 0 (fun _=>true) true Tryz.f6.params.toList args.toList ds p:=hA0
 rw [Tryz.params6] at hA hval
 obtain ⟨v0,vs0,d0,ds0,p0,q0,hargs,rfl,rfl,h0,r0⟩:=trodAll_cons hA
 obtain ⟨v1,vs1,d1,ds1,p1,q1,rfl,rfl,rfl,h1,r1⟩:=trodAll_cons r0
 obtain ⟨v2,vs2,d2,ds2,p2,q2,rfl,rfl,rfl,h2,r2⟩:=trodAll_cons r1
 obtain ⟨rfl,rfl,rfl⟩:=trodAll_nil r2
 obtain rfl:args= #[v0,v1,v2] :=by cases args;simp_all
 obtain ⟨rfl,rfl⟩:=trodVars_none hV
 obtain ⟨a0,rfl,rfl,rfl⟩:=open_bool Tryz.underlying4 (hval 0 4 v0 rfl rfl) h0
 have k1:=h1
 have lt1:∀ x∈p1,x.block<W.heap.size:=by obtain ⟨m,hm⟩:=k1;exact DataW.trod_lt m _ _ _ hm
 obtain ⟨l1,z1,q1⟩:=Km 4 (e:=eg) (by kernel_rfl) (okWide_slice Tryz.underlying45 (hval 1 45 v1 rfl rfl)) h1
 have k2:=h2
 have lt2:∀ x∈p2,x.block<W.heap.size:=by obtain ⟨m,hm⟩:=k2;exact DataW.trod_lt m _ _ _ hm
 obtain ⟨l2,z2,q2⟩:=Km 5 (e:=JM) (by kernel_rfl) (okWide_slice Tryz.underlying58 (hval 2 58 v2 rfl rfl)) h2
 clear hA0 hval0
 have hcall:VRels (mw W) (fun _=>none) W [.bool a0,.rd eg l1,.rd JM l2] [.bool a0,v1,v2] :=
  ⟨_,_,rfl,rfl,⟨_,_,rfl,z1,⟨_,_,rfl,z2,rfl⟩⟩⟩
 have hF:∃ q,aq ct6 [.bool a0,.rd eg l1,.rd JM l2] [] = .need q (.ret (.bool true) [] [])∧q:=⟨_,by kernel_rfl,(aar z2 q2)⟩
 obtain ⟨q,hF,hq⟩:=hF
 refine (SX (ai ajh auV Tryz.func6 (by kernel_rfl) Tryz.call6 (by kernel_rfl) vc6) (Tryz.call6 _ W) hcall (aaz hL _ fun _ _ h=>h) (by rw [hF];exact ⟨hq,rfl⟩)).mono fun e W' ⟨he,bel⟩=> ?_
 subst he
 exact ⟨_,rfl,_,_,_,[],_,[],hW',trodAll_mk1 (shut_bool Tryz.underlying4 _),(trodAll_cons_mk (shut_bool Tryz.underlying4 _) (trodAll_cons_mk (Below.trod ME (by kernel_rfl) (of_decide_eq_true (by kernel_rfl)) k1 bel lt1) (trodAll_cons_mk (Below.trod ME (by kernel_rfl) (of_decide_eq_true (by kernel_rfl)) k2 bel lt2) trodAll_mk0))),rfl,bel.frame _,fun h=>by cases h⟩
theorem fact1:(Rows.topGuardRow.inPlace==Tryz.pinned.checked.prog.inPlace 6)=true:=by kernel_rfl
theorem fact2:(Rows.topGuardRow.unfollowed==Tryz.pinned.checked.prog.unfollowed 6)=true:=by kernel_rfl
theorem fact3:(Rows.topGuardRow.recurses==Tryz.pinned.checked.prog.recurses 6)=true:=by kernel_rfl
theorem fact4:(Rows.topGuardRow.named==Tryz.pinned.checked.prog.varsNamed 6)=true:=by kernel_rfl
theorem facts:joinedFacts Tryz.pinned.checked.prog 6 Tryz.f6 Rows.topGuardSpec Rows.topGuardRow=true:=by
 unfold joinedFacts
 rw [fact1,fact2,fact3,fact4]
 kernel_rfl
theorem row_holds:Rows.TopGuardSaid:=
 OpenClaim.holds_of_wide 6 Tryz.f6 rfl rfl rfl rfl rfl rfl rfl ⟨rfl,rfl,rfl,rfl,rfl⟩ rfl rfl rfl rfl rfl (by kernel_rfl) Tryz.func6 facts
  (of_decide_eq_true (by kernel_rfl)) (by unfold Func.isWrapper;first | (rw [if_pos (by decide+kernel)];kernel_rfl) | (rw [if_neg (by decide+kernel)];exact ⟨rfl,rfl⟩))
  (fun os started H enc _=>lifted os started H enc)
end Go.Proofs.YteiecapbaeajdaaGreatDoor.topGuard
namespace Go.Proofs.YteiecapbaeajdaaGreatDoor
open Go
theorem topGuard_fact5:false=Rows.topGuardRow.goesBy Tryz.pinned.checked.prog:=by kernel_rfl
theorem topGuard_fact6:true=Tryz.pinned.checked.prog.looks [] :=by kernel_rfl
theorem topGuard_holds:Rows.TopGuardCardSaid:=
 Claim7.holds_tied_plain_at .later [] [.data] true (true, "43bebd8c07eb14bea84e2aaf59fc0c6cc0b8f1411961dd1063eed75626a8f04a") true
  topGuard.row_holds (fun _ h=>by cases h) (by kernel_rfl) (fun _ h=>by cases h) topGuard_row_tie rfl ⟨rfl,rfl⟩ (by kernel_rfl) rfl
  (fun f fn hf hfn=>by
   obtain rfl:f=6:=Option.some.inj ((show Tryz.prog.funcNamed Rows.topGuardRow.func=some 6 by kernel_rfl).symm.trans hf) |>.symm
   obtain rfl:fn=Tryz.f6:=(Option.some.inj (Tryz.func6.symm.trans hfn)).symm
   exact ⟨topGuard_fact6,fun j t ht=>by
    rw [Tryz.params6] at ht
    have hm:t∈ [4,45,58] :=by simpa using Array.mem_of_getElem? ht
    have hall:([4,45,58].all fun u=> !Tryz.prog.wantsStandIn u)=true:=by kernel_rfl
    exact (show Tryz.prog.wantsStandIn t=false by simpa using List.all_eq_true.1 hall t hm)⟩)
  topGuard_fact5
#print axioms topGuard_holds
end Go.Proofs.YteiecapbaeajdaaGreatDoor
