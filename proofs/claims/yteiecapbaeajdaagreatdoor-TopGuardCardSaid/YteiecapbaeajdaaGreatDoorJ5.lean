/-
 AVC, part T1: what comes in to a law, as values of this reckoning; a law's call.
-/
import Derived.Test.YteiecapbaeajdaaGreatDoorJ4
import GoSem.ClaimJoined
import Derived.Below
import Derived.Test.YteiecapbaeajdaaGreatDoorRows
import Derived.WalkKit
import Derived.ProofKit
import Derived.OpenShut
import Derived.ShutString
import Derived.ChangeOld
import Derived.LaidMore
import Derived.MakeChecks
import Derived.SizedLaws
import Derived.Stop.Joined
open Nat renaming beq→asM,lt_or_ge→atI,zero_le→asq,eq_zero_or_pos→ati,mul_one→anR,mod_eq_of_lt→awC,pow_le_pow_right→asH,shiftLeft_eq→awH,min_eq_left→ato
open List renaming replicate→ab0,range→asg,range_succ→ass,mapM_append→awu,getElem?_append_left→aeU,getElem?_append_right→ae5,drop_drop→awv,take_length→aww,getElem?_eq_getElem→awx,getElem?_map→awy,getD_eq_getElem?_getD→awz,length_map→awA,ext_getElem→awB,mem_cons_self→awp,mem_cons_of_mem→awo,drop→ar1,take→ar0,length_cons→adC,length_nil→asi,length_take→ajw,nil_append→asp,map_append→ast,drop_eq_nil_of_le→ahv
open Bool renaming not_eq_true'→atf,not_eq_false'→aws,or_eq_false_iff→ate,true_and→asD,or_eq_true→as9
open Option.some renaming inj→asV
open Int renaming ediv_nonneg→ase,natCast_pow→awD,natCast_mul→awE,natCast_ediv→awI,natCast_nonneg→awL
open BitVec renaming ofInt→abN,ofInt_natCast→awF,toNat_ofNat→awG,testBit_toNat→awK
open Decidable renaming not_not→awJ
namespace Go.Avc
set_option linter.unusedVariables false
set_option linter.unusedSimpArgs false
mutual
def wfC:CSh→CD→Prop
 | .int k,.int n=>k.min≤n∧n≤k.max
 | .sl e,.sl l=>∀ row∈l,wfRow e row
 | _,_=>True
def wfRow:List CSh→List CD→Prop
 | [],_=>True
 | sh::e,row=>(match row with | cd::row=>wfC sh cd∧wfRow e row | [] =>True)
end
section
variable (P:Program)
def Ao:List Field→Nat→Bool
 | [],_=>true
 | f::fs,o=>asM f.offset o&&Ao fs (o+P.cellsOf f.type)
def Kz (f:TypeId→Option (List CSh)):List Field→Option (List CSh)
 | [] =>some []
 | fd::fs=>match f fd.type,Kz f fs with | some a,some b=>(bif asM a.length (P.cellsOf fd.type) then some (a++b) else none) | _,_=>none
def EH:Nat→TypeId→Option (List CSh)
 | 0,_=>none
 | d+1,T=>match P.underlying T with
  | some (.int k)=>some [.int k]
  | some .bool=>some [.bool]
  | some .string=>some [.str]
  | some (.slice E)=>(match EH d E with | some e=>(bif asM e.length (P.cellsOf E)&&!asM e.length 0 then some [.sl e] else none) | none=>none)
  | some (.struct fs)=>(match Kz P (EH d) fs.toList with | some e=>(bif Ao P fs.toList 0&&asM e.length (P.cellsOf T) then some e else none) | none=>none)
  | some (.array n E)=>(match EH d E with | some e=>(bif asM e.length (P.cellsOf E)&&asM (n*e.length) (P.cellsOf T) then some (ab0 n e).flatten else none) | none=>none)
  | _=>none
end
section
variable {P:Program} {W:World} {H:Type} {enc:TypeId×Value→H}
abbrev mw (W:World):Nat→Prop:=fun i=>i<W.heap.size
theorem CX {Im:Nat→Prop} {w:World} :∀ {e1 e2:List CSh} {r1 r2:List CD} {v1 v2:List Value},RowRel Im w e1 r1 v1→RowRel Im w e2 r2 v2→RowRel Im w (e1++e2) (r1++r2) (v1++v2):=by
 intro e1
 induction e1 with
 | nil=>intro e2 r1 r2 v1 v2 h k;cases h;exact k
 | cons sh e1 ih=>
  intro e2 r1 r2 v1 v2 h k
  cases h with
  | cons _ cd v _ row vs h1 h2=>exact .cons _ _ _ _ _ _ h1 (ih h2 k)
theorem sx:∀ {e1 e2:List CSh} {r1 r2:List CD},e1.length=r1.length→wfRow e1 r1→wfRow e2 r2→wfRow (e1++e2) (r1++r2)
 | [],e2,[],r2,_,_,k=>k
 | [],_,_::_,_,h,_,_=>by simp at h
 | _::_,_,[],_,h,_,_=>by simp at h
 | sh::e1,e2,cd::r1,r2,hl,h,k=>⟨h.1,sx (by simpa using hl) h.2 k⟩
theorem RH {w:World} {a:Addr} {n:Nat} :∀ {cs:List Value},(asg n).mapM (fun i=>w.cell? (a.add i))=some cs→cs.length=n∧∀ j x,cs[j]? =some x→w.cell? (a.add j)=some x:=by
 induction n with
 | zero=>intro cs h;simp at h;subst h;exact ⟨rfl,fun j x h=>by simp at h⟩
 | succ n ih=>
  intro cs h
  rw [ass,awu] at h
  cases h1:(asg n).mapM (fun i=>w.cell? (a.add i)) with
  | none=>rw [h1] at h;simp at h
  | some l=>
   rw [h1] at h
   cases h2:w.cell? (a.add n) with
   | none=>simp [h2] at h
   | some x=>
    simp [h2] at h
    subst h
    obtain ⟨k1,k2⟩:=ih h1
    refine ⟨by simp [k1],fun j y hy=> ?_⟩
    rcases atI j l.length with hj | hj
    ·rw [aeU hj] at hy;exact k2 j y hy
    ·rw [ae5 hj] at hy
     cases hz:j-l.length with
     | zero=>
      rw [hz] at hy
      simp at hy
      subst hy
      rw [show j=n from by omega];exact h2
     | succ m=>rw [hz] at hy;simp at hy
theorem Nd {w:World} {a:Addr} {x:Value} (h:w.cell? a=some x):a.block<w.heap.size:=by
 unfold World.cell? at h
 split at h
 ·rename_i heq
  exact (Array.getElem?_eq_some_iff.1 heq).1
 ·cases h
theorem HB (a:Addr) (j:Nat):(a.add j).block=a.block:=by unfold Addr.add;split <;>rfl
def XG (P:Program) (W:World) (enc:TypeId×Value→H) (fuel:Nat):Prop:=∀ T cs d ps,DataW.trod enc P W 0 (fun _=>true) true fuel T cs=some (d,ps)→∀ D e,EH P D T=some e→∃ row,RowRel (mw W) W e row cs∧wfRow e row
theorem D7 {fuel D:Nat} (ih:XG P W enc fuel) {cs:List Value} :∀ {fs:List Field} {o:Nat} {e:List CSh} {xs:List (DataW H×List MemPlace)},Ao P fs o=true→Kz P (EH P D) fs=some e→
  fs.mapM (fun f=>DataW.trod enc P W 0 (fun _=>true) true fuel f.type ((cs.drop f.offset).take (P.cellsOf f.type)))=some xs→∃ row,RowRel (mw W) W e row ((cs.drop o).take e.length)∧wfRow e row
 | [],o,e,xs,h1,h2,h3=>by
  simp only [Kz,Option.some.injEq] at h2
  subst h2
  exact ⟨[],by simpa using RowRel.nil,trivial⟩
 | f::fs,o,e,xs,h1,h2,h3=>by
  simp only [Ao,cZ] at h1
  have ho:=aE.1 h1.1
  simp only [Kz] at h2
  split at h2
  ·rename_i a b ha hb
   cases hl:asM a.length (P.cellsOf f.type) with
   | false=>rw [hl] at h2;cases h2
   | true=>
    rw [hl] at h2
    cases h2
    have hal:=aE.1 hl
    rw [List.mapM_cons] at h3
    cases hx:DataW.trod enc P W 0 (fun _=>true) true fuel f.type ((cs.drop f.offset).take (P.cellsOf f.type)) with
    | none=>rw [hx] at h3;simp at h3
    | some x=>
     rw [hx] at h3
     cases hxs:fs.mapM (fun f=>DataW.trod enc P W 0 (fun _=>true) true fuel f.type ((cs.drop f.offset).take (P.cellsOf f.type))) with
     | none=>simp [hxs] at h3
     | some ys=>
      obtain ⟨r1,k1,k2⟩:=ih _ _ _ _ hx D a ha
      obtain ⟨r2,k3,k4⟩:=D7 ih h1.2 hb hxs
      have hlen:=RowRel.length k1
      refine ⟨r1++r2,?_,sx hlen.2.symm k2 k4⟩
      have:=CX k1 k3
      rw [ho,← hal] at this
      have e1:(cs.drop o).take a.length++(cs.drop (o+a.length)).take b.length=(cs.drop o).take (a++b).length:=by
       rw [ce,List.take_add,awv]
      rw [← e1];exact this
  ·cases h2
theorem G1 {fuel D:Nat} (ih:XG P W enc fuel) {cs:List Value} {E:TypeId} {e:List CSh} (he:EH P D E=some e) (hl:e.length=P.cellsOf E):∀ (n:Nat) {xs:List (DataW H×List MemPlace)},
  (asg n).mapM (fun i=>DataW.trod enc P W 0 (fun _=>true) true fuel E ((cs.drop (i*P.cellsOf E)).take (P.cellsOf E)))=some xs→∃ row,RowRel (mw W) W (ab0 n e).flatten row (cs.take (n*e.length))∧wfRow (ab0 n e).flatten row
 | 0,xs,h=>⟨[],by simpa using RowRel.nil,trivial⟩
 | n+1,xs,h=>by
  rw [ass,awu] at h
  cases h1:(asg n).mapM (fun i=>DataW.trod enc P W 0 (fun _=>true) true fuel E ((cs.drop (i*P.cellsOf E)).take (P.cellsOf E))) with
  | none=>rw [h1] at h;simp at h
  | some l=>
   rw [h1] at h
   cases h2:DataW.trod enc P W 0 (fun _=>true) true fuel E ((cs.drop (n*P.cellsOf E)).take (P.cellsOf E)) with
   | none=>simp [h2] at h
   | some x=>
    obtain ⟨r1,k1,k2⟩:=G1 ih he hl n h1
    obtain ⟨r2,k3,k4⟩:=ih _ _ _ _ h2 D e he
    have hlen:=RowRel.length k1
    have e0:(ab0 (n+1) e).flatten=(ab0 n e).flatten++e:=by
     rw [show n+1=n+1 from rfl,List.replicate_succ',List.flatten_append];simp
    refine ⟨r1++r2,?_,by rw [e0];exact sx hlen.2.symm k2 k4⟩
    rw [e0,Nat.succ_mul,List.take_add]
    rw [hl] at k1 ⊢
    exact CX k1 k3
theorem Hm {fuel D:Nat} (ih:XG P W enc fuel) {a:Addr} {E:TypeId} {e:List CSh} (he:EH P D E=some e) (hl:e.length=P.cellsOf E):∀ (n:Nat) {xs:List (DataW H×List MemPlace)},
  (asg n).mapM (fun i=>(W.cells? 0 (a.add (i*P.cellsOf E)) (P.cellsOf E)).bind (DataW.trod enc P W 0 (fun _=>true) true fuel E))=some xs→
   ∃ rows vs,rows.length=n∧FlatRel (mw W) W e rows vs∧(∀ j x,vs[j]? =some x→W.cell? (a.add j)=some x)∧∀ row∈rows,wfRow e row
 | 0,xs,h=>⟨[],[],rfl,.nil _,fun j x h=>by simp at h,fun r h=>by simp at h⟩
 | n+1,xs,h=>by
  rw [ass,awu] at h
  cases h1:(asg n).mapM (fun i=>(W.cells? 0 (a.add (i*P.cellsOf E)) (P.cellsOf E)).bind (DataW.trod enc P W 0 (fun _=>true) true fuel E)) with
  | none=>rw [h1] at h;simp at h
  | some l=>
   rw [h1] at h
   cases h2:W.cells? 0 (a.add (n*P.cellsOf E)) (P.cellsOf E) with
   | none=>simp [h2] at h
   | some cs=>
    cases h3:DataW.trod enc P W 0 (fun _=>true) true fuel E cs with
    | none=>simp [h2,h3] at h
    | some x=>
     obtain ⟨rows,vs,k1,k2,k3,k4⟩:=Hm ih he hl n h1
     obtain ⟨row,g1,g2⟩:=ih _ _ _ _ h3 D e he
     unfold World.cells? at h2
     rw [if_pos (asq _)] at h2
     obtain ⟨g3,g4⟩:=RH h2
     have hvl:=FlatRel.length k2
     refine ⟨rows++ [row],vs++cs,by simp [k1],?_,fun j y hy=> ?_,fun r hr=> ?_⟩
     ·have:=FlatRel.append k2 (.cons e row cs [] [] g1 (.nil e))
      simpa using this
     ·rcases atI j vs.length with hj | hj
      ·rw [aeU hj] at hy;exact k3 j y hy
      ·rw [ae5 hj] at hy
       have hc:=g4 _ y hy
       have ha:a.spot=none:=by
        have hcs:0<cs.length:=by have:=(List.getElem?_eq_some_iff.1 hy).1;omega
        have h00:∀ (x:Value),W.cell? (a.add 0)=some x→a.spot=none:=fun x hx=>by
         have:=sA hx (.inl rfl)
         simpa [Addr.add] using this
        rcases ati n with hn | hn
        ·subst hn
         have:=g4 0 cs[0] (cH hcs)
         rw [Nat.zero_mul] at this
         have e0:(a.add 0).add 0=a.add 0:=by simp [Addr.add]
         rw [e0] at this
         exact h00 _ this
        ·have hvp:0<vs.length:=by rw [hvl,k1];exact Nat.mul_pos hn (by omega)
         exact h00 _ (k3 0 vs[0] (cH hvp))
       rw [add_add _ _ _ ha] at hc
       rw [show j=n*P.cellsOf E+(j-vs.length) from by rw [hvl,k1,hl] at *;omega]
       rw [hvl,k1,hl] at hc ⊢
       simpa using hc
     ·rcases List.mem_append.1 hr with hr | hr
      ·exact k4 r hr
      ·simp at hr;subst hr;exact g2
theorem Je:∀ fuel,XG P W enc fuel
 | 0=>fun T cs d ps h=>by simp [DataW.trod] at h
 | fuel+1=>fun T cs d ps h D e he=>by
  have ih:=Je fuel
  cases D with
  | zero=>cases he
  | succ D=>
   unfold DataW.trod at h
   simp only [EH] at he
   cases hu:P.underlying T with
   | none=>rw [hu] at he;cases he
   | some td=>
    rw [hu] at he h
    cases td with
    | bool=>
     cases he
     split at h <;>try cases h
     all_goals (rename_i heq;cases heq)
     exact ⟨[.bool _],.cons _ _ _ _ _ _ (.bool _) .nil,trivial,trivial⟩
    | int k=>
     cases he
     split at h <;>try cases h
     all_goals (rename_i heq;cases heq)
     split at h
     ·rename_i hk
      obtain ⟨rfl,hw⟩:=hk
      refine ⟨[.int _],.cons _ _ _ _ _ _ (.int _ _) .nil,?_,trivial⟩
      unfold Lit.wf at hw
      simpa [wfC] using hw
     ·cases h
    | string=>
     cases he
     split at h <;>try cases h
     all_goals (rename_i heq;cases heq)
     split at h
     ·rename_i s hs
      obtain ⟨⟨l⟩⟩:=s
      exact ⟨[.str l],.cons _ _ _ _ _ _ (.str l hs) .nil,trivial,trivial⟩
     ·cases h
    | slice E=>
     simp only at he h
     split at he
     ·rename_i e' he'
      cases hl:(asM e'.length (P.cellsOf E)&&!asM e'.length 0) with
      | false=>rw [hl] at he;cases he
      | true=>
       rw [hl] at he
       cases he
       simp only [cZ,atf] at hl
       have hl':=aE.1 hl.1
       have hl0:=fO.1 hl.2
       split at h <;>try cases h
       all_goals (rename_i heq;cases heq)
       ·exact ⟨[.sl []],.cons _ _ _ _ _ _ (.sl0 _ _ _ (asq _)) .nil,(fun r hr=>by simp at hr),trivial⟩
       ·rename_i a len cap
        split at h
        ·rename_i hc
         obtain ⟨_,hc1,hc2⟩:=hc
         cases hm:(asg len).mapM (fun i=>(W.cells? 0 (a.add (i*P.cellsOf E)) (P.cellsOf E)).bind (DataW.trod enc P W 0 (fun _=>true) true fuel E)) with
         | none=>rw [hm] at h;simp at h
         | some xs=>
          obtain ⟨rows,vs,k1,k2,k3,k4⟩:=Hm ih he' hl' len hm
          refine ⟨[.sl rows],.cons _ _ _ _ _ _ ?_ .nil,k4,trivial⟩
          rcases ati len with h0 | h0
          ·subst h0
           have:rows= [] :=List.length_eq_zero_iff.1 k1
           subst this
           exact .sl0 _ _ _ hc2
          ·subst k1
           refine .sl _ _ a cap vs hc1 hc2 ?_ k2 k3
           have hvl:=FlatRel.length k2
           have hpos:0<vs.length:=by rw [hvl];exact Nat.mul_pos h0 (by omega)
           have:=k3 0 vs[0] (cH hpos)
           have:=Nd this
           rwa [HB] at this
        ·cases h
     ·cases he
    | struct fs=>
     simp only at he h
     split at he
     ·rename_i e' he'
      cases hl:(Ao P fs.toList 0&&asM e'.length (P.cellsOf T)) with
      | false=>rw [hl] at he;cases he
      | true=>
       rw [hl] at he
       cases he
       simp only [cZ] at hl
       have hl':=aE.1 hl.2
       split at h
       ·rename_i hcl
        cases hm:fs.toList.mapM (fun f=>DataW.trod enc P W 0 (fun _=>true) true fuel f.type ((cs.drop f.offset).take (P.cellsOf f.type))) with
        | none=>rw [hm] at h;simp at h
        | some xs=>
         obtain ⟨row,k1,k2⟩:=D7 ih hl.1 he' hm
         rw [List.drop_zero,hl',← hcl,aww] at k1
         exact ⟨row,k1,k2⟩
       ·cases h
     ·cases he
    | array n E=>
     simp only at he h
     split at he
     ·rename_i e' he'
      cases hl:(asM e'.length (P.cellsOf E)&&asM (n*e'.length) (P.cellsOf T)) with
      | false=>rw [hl] at he;cases he
      | true=>
       rw [hl] at he
       cases he
       simp only [cZ] at hl
       have hl1:=aE.1 hl.1
       have hl2:=aE.1 hl.2
       split at h
       ·rename_i hcl
        cases hm:(asg n).mapM (fun i=>DataW.trod enc P W 0 (fun _=>true) true fuel E ((cs.drop (i*P.cellsOf E)).take (P.cellsOf E))) with
        | none=>rw [hm] at h;simp at h
        | some xs=>
         obtain ⟨row,k1,k2⟩:=G1 ih he' hl1 n hm
         rw [hl2,← hcl,aww] at k1
         exact ⟨row,k1,k2⟩
       ·cases h
     ·cases he
    | _=>cases he
theorem SM {Im:Nat→Prop} {w:World} {e:List CSh} :∀ {l:LD} {xs:List Value},FlatRel Im w e l xs→∀ row∈l,∃ vs,RowRel Im w e row vs:=by
 intro l
 induction l with
 | nil=>intro xs _ row h;cases h
 | cons r l ih=>
  intro xs h row hr
  cases h with
  | cons _ _ vs _ xs h1 h2=>
   rcases List.mem_cons.1 hr with rfl | hr
   ·exact ⟨vs,h1⟩
   ·exact ih h2 row hr
theorem Hb {Im:Nat→Prop} {w:World} {e:List CSh} {l:LD} {v:Value} (h:CRel Im w (.sl e) (.sl l) v):∀ row∈l,∃ vs,RowRel Im w e row vs:=by
 cases h with
 | sl0=>intro row h;cases h
 | sl _ _ ad cap xs _ _ _ hf _=>exact SM hf
theorem Km {T:TypeId} {e:List CSh} (D:Nat) (hr:EH P D T=some [.sl e]) {v:Value} {d:DataW H} {ps:List MemPlace} (hv:∃ a n c,v= .slice a n c) (h:DataW.Trod enc P W 0 (fun _=>true) true T v d ps):
  ∃ l,CRel (mw W) W (.sl e) (.sl l) v∧∀ row∈l,wfRow e row:=by
 obtain ⟨a,n,c,rfl⟩:=hv
 obtain ⟨fuel,hf⟩:=h
 obtain ⟨row,h1,h2⟩:=Je fuel _ _ _ _ hf D _ hr
 have h1':RowRel (mw W) W [.sl e] row [.slice a n c] :=h1
 cases h1' with
 | cons _ cd _ _ row vs k1 k2=>
  cases k1 with
  | sl0 e a cap h=>exact ⟨[],.sl0 _ _ _ h,fun row hr=>by cases hr⟩
  | sl e l ad _ xs q1 q2 q3 q4 q5=>exact ⟨l,.sl e l ad _ xs q1 q2 q3 q4 q5,h2.1⟩
theorem SX {C:Ctx} {f:FuncId} {F:List SV→List Blk→CR} (hs:b9 C f F) {W:World} {svs:List SV} {vs:List Value} (hcall:(callFunc f vs.toArray).run C.P W= .ok (.enter f vs.toArray) W)
  (hv:VRels (mw W) (fun _=>none) W svs vs) (hg:Globs C (mw W) (fun _=>none) W) (hK:(F svs []).wp [] fun sv _=>sv= .bool true):
  Calls C.P f vs.toArray W fun e w'=>e= .returned (.bool true)∧RowKit.Below W.heap.size W w':=by
 have hm:Mem C ⟨W,mw W,fun _=>none,fun _=>False,[]⟩ [] (mw W) (fun _=>none) W:=
  ⟨(fun b v h=>by cases h),⟨fun i h=>h,(fun b v r _ h=>by cases h),(fun b b' v v' r _ _ h=>by cases h),fun b v r _ h=>by cases h⟩,
   ⟨rfl,rfl,rfl,Nat.le_refl _,fun _ _ _=>rfl,(fun b v h=>by cases h),fun _ h=>h,fun _ h=> .inl h⟩,hg⟩
 have h:=hs svs [] (fun sv _=>sv= .bool true) (fun _=>True) (CR.wp_mono (fun sv hp h=>⟨h,fun _ _ _=>trivial⟩) _ hK) _ _ _ W vs hm (fun _ _=>rfl) hv
 rcases h with ⟨_,h⟩ | ⟨v,h,_⟩
 ·refine Calls.mono h ?_
  rintro e w' ⟨v,sv,hp',Im',ι',rfl,rfl,hv,hm',_⟩
  have hv':v= .bool true:=hv
  subst hv'
  exact ⟨rfl,hm'.since.os,hm'.since.tape,hm'.since.output,hm'.since.size,fun k hk=>hm'.since.block k hk id⟩
 ·rw [hcall] at h;cases h
end
end Go.Avc
namespace Go.Proofs.YteiecapbaeajdaaGreatDoor
open Go Go.Avc Go.ChangeShapes Go.WideShapes Go.ChangeAt Go.RowKit
set_option linter.unusedVariables false
set_option linter.unusedSimpArgs false
theorem own:ownKnob Tryz.prog.godebug=none:=by kernel_rfl
theorem ME:laidOutB Tryz.prog=true:=by kernel_rfl
theorem Uu {H:Type} {enc:TypeId×Value→H} {P:Program} {W:World} {base:Nat} {sp:Nat→Bool} {held:Bool} {fuel:Nat} {T E:TypeId} {n:Nat} {k:IntKind} {cs:List Value} {x:DataW H×List MemPlace}
  (hT:P.underlying T=some (.array n E)) (hE:P.underlying E=some (.int k)) (hc:P.cellsOf E=1) (hc2:P.cellsOf T=n) (h:DataW.trod enc P W base sp held fuel T cs=some x):
  ∃ l:List Int,l.length=n∧cs=l.map (Value.int k)∧x.1= .agg (l.map fun i=> .lit (.int k i))∧∀ i∈l,(Lit.int k i).wf=true:=by
 obtain ⟨xs,m,rfl,rfl,hlen,hn,hel⟩:=DataW.trod_array hT h
 rw [hc2] at hlen
 have one:∀ i,i<n→∃ a:Int,cs[i]? =some (.int k a)∧(xs.map (·.1))[i]? =some (.lit (.int k a))∧(Lit.int k a).wf=true:=fun i hi=>by
  have h1:=hel i hi
  rw [hc,anR] at h1
  have hx:xs[i]? =some xs[i] :=awx (by omega)
  rw [hx] at h1
  obtain ⟨a,e1,e2,e3⟩:=DataW.trod_int hE h1
  refine ⟨a,?_,?_,e3⟩
  ·have:((cs.drop i).take 1)[0]? =some (.int k a):=by rw [e1];rfl
   rwa [List.getElem?_take_of_lt (by omega),List.getElem?_drop,Nat.add_zero] at this
  ·rw [awy,hx]
   simp [e2]
 have hcs:∀ i,i<n→∃ a:Int,cs[i]? =some (.int k a):=fun i hi=>by obtain ⟨a,h,_⟩:=one i hi;exact ⟨a,h⟩
 let f:Value→Int:=fun v=>match v with | .int _ a=>a | _=>0
 have key:∀ i,i<n→cs[i]? =some (.int k ((cs.map f).getD i 0))∧(xs.map (·.1))[i]? =some (.lit (.int k ((cs.map f).getD i 0)))∧(Lit.int k ((cs.map f).getD i 0)).wf=true:=fun i hi=>by
  obtain ⟨a,h1,h2,h3⟩:=one i hi
  have:(cs.map f).getD i 0=a:=by
   rw [awz,awy,h1];rfl
  rw [this]
  exact ⟨h1,h2,h3⟩
 have ll:(cs.map f).length=n:=by rw [awA,hlen]
 refine ⟨cs.map f,ll,?_,?_,?_⟩
 ·apply awB (by simp)
  intro i h1 h2
  have:=(key i (by omega)).1
  rw [awx h1,awz,awx (by rw [awA];exact h1)] at this
  simpa using this
 ·show DataW.agg _=DataW.agg _
  congr 1
  apply awB (by simp [hn,hlen])
  intro i h1 h2
  have hi:i<n:=by rw [awA] at h1;omega
  have:=(key i hi).2.1
  rw [awx h1,awz,awx (by omega)] at this
  simpa using this
 ·intro a ha
  obtain ⟨i,hi,rfl⟩:=List.getElem_of_mem ha
  have:=(key i (by omega)).2.2
  rwa [awz,awx hi] at this
def Db:List (String×DataW Unit):= [("avouch/keccak.constants",Rows.laid_avouch_keccak_constants)]
theorem gRc:Tryz.prog.globalNamed "avouch/keccak.constants" =some 0:=by kernel_rfl
theorem tRc:(Tryz.prog.globals[0]?).map (·.type)=some 381:=by kernel_rfl
theorem aaG:Tryz.prog.cellsOf 381=24:=by kernel_rfl
theorem abi:Tryz.prog.cellsOf 73=1:=by kernel_rfl
theorem qy {Im:Nat→Prop} {w:World} (k:IntKind):∀ l:List Int,FlatRel Im w [.int k] (l.map fun n=> [.int n]) (l.map (Value.int k))
 | [] => .nil _
 | n::l=> .cons _ _ [.int k n] _ _ (.cons _ _ _ _ _ _ (.int k n) .nil) (qy k l)
theorem TL:(Rows.laid_avouch_keccak_constants:DataW Unit)= .agg (Hp.map fun i=> .lit (.int .u64 i)):=rfl
theorem ZU {k:IntKind} :∀ {l m:List Int},(DataW.agg (l.map fun i=>DataW.lit (H:=Unit) (.int k i))=DataW.agg (m.map fun i=>DataW.lit (.int k i)))→l=m:=by
 intro l m h
 injection h with h
 have:=congrArg (List.map fun d:DataW Unit=>match d with | .lit (.int _ i)=>i | _=>0) h
 rw [List.map_map,List.map_map] at this
 have e:((fun d:DataW Unit=>match d with | .lit (.int _ i)=>i | _=>0) ∘ fun i:Int=>DataW.lit (.int k i))=id:=by funext i;rfl
 rwa [e,List.map_id,List.map_id] at this
theorem aaz {W:World} (h:laidMetH Tryz.prog Db W) (f:Nat→Option SV) (hf:∀ g sv,f g=some sv→gl g=some sv):∀ g sv,f g=some sv→VRel (mw W) (fun _=>none) W sv (.pointer (some ⟨g,0,none⟩)):=by
 rw [MakeChecks.laidMetH_plain _ _ _ (by kernel_rfl)] at h
 obtain ⟨ps,⟨g0,t0,cs0,f0,p0,q0,hg0,ht0,hv0,hd0,_⟩,_,_⟩:=h
 obtain rfl:=asV (gRc.symm.trans hg0)
 obtain rfl:=asV (tRc.symm.trans ht0)
 obtain ⟨l,hl,hcs,hx,_⟩:=Uu Tryz.underlying381 Tryz.underlying73 abi aaG hd0
 rw [TL] at hx
 obtain rfl:=ZU hx.symm
 intro g sv hg
 have hg':=hf g sv hg
 unfold gl at hg'
 cases hb:asM g 0 with
 | false=>rw [hb] at hg';cases hg'
 | true=>
  rw [hb] at hg'
  cases hg'
  obtain rfl:=aE.1 hb
  have hcell:∀ j x,(Hp.map (Value.int .u64))[j]? =some x→W.cell? ((⟨0,0,none⟩:Addr).add j)=some x:=fun j x hj=>by
   have:=World.var?_cell hg0 hv0 j
   rw [← Array.getElem?_toList,hcs,hj] at this
   have e:(⟨0,0,none⟩:Addr).add j=⟨0,j,none⟩:=by
    unfold Addr.add
    split
    ·rename_i h;subst h;rfl
    ·simp
   rw [e];exact this
  refine ⟨⟨0,0,none⟩,Hp.map (Value.int .u64),rfl,?_,qy .u64 Hp,hcell⟩
  have h0:=hcell 0 (.int .u64 1) rfl
  have:=Nd h0
  rwa [HB] at this
theorem Uc (os:Os) (args:Array Value):laidMetH Tryz.prog Db ((World.doorLaid Tryz.prog 400 os).forCall (fun _ _=>0) ⟨#[],args,[]⟩).memory:=by
 rw [MakeChecks.laidMetH_plain _ _ _ (by kernel_rfl)]
 exact laidMet_of_run' 8 (by kernel_rfl) (by kernel_rfl)
theorem adA {Im:Nat→Prop} {w:World} {l:List (List CD)} {v:Value} (h:CRel Im w (.sl kZ) (.sl l) v) (q:∀ row∈l,wfRow kZ row):jf l:=by
 have k:=Hb h
 clear h
 unfold jf
 induction l with
 | nil=>rfl
 | cons r l ih=>
  obtain ⟨vs,hv⟩:=k r (awp ..)
  have hq:=q r (awp ..)
  cases hv with
  | cons _ cd v _ row vs h1 h2=>
   cases h2
   cases h1 with
   | int _ n=>
    have hn:(0:Int)≤n∧n≤255:=hq.1
    have e:(((UInt8.ofNat n.toNat).toNat:Nat):Int)=n:=by
     rw [UInt8.toNat_ofNat',awC (by omega)];omega
    show [CD.int n] ::l= [CD.int (((UInt8.ofNat n.toNat).toNat:Nat):Int)] ::aj (ah l)
    rw [e,← ih (fun r hr=>q r (awo _ hr)) fun r hr=>k r (awo _ hr)]
end Go.Proofs.YteiecapbaeajdaaGreatDoor
namespace Go.Proofs.YteiecapbaeajdaaGreatDoor
open Go Go.Avc Go.Proofs
set_option linter.unusedVariables false
set_option maxRecDepth 100000
set_option linter.unusedSimpArgs false
open Go.Avc
noncomputable section
def avG:Prop:=
 ∀ (a b c:Int) (d:List UInt8) (e f g:Int) (h:List UInt8),
 d.length≤9223372036854775807→
 h.length≤9223372036854775807→
 True→(decide (a=e)&&(decide (b=f)&&(decide (c=g)&&(decide (([] :List UInt8)= [])&&true))))=pY a b c e f g
def V5:ac:=ak ahG 175 (aq amz)
def P87:Prop:=
 ∀ (a b:Int),
 wP a b→
 (Yz a b a b 0 [] ∧True)∧
 ∀ (c d e:Int) (f:LD),
 lM f→
 Yz a b c d e f→
 bif decide (e<d) then
 (0≤c∧(0:Int)<(256:Int))∧
 aR (f.length+1) 1∧
 (0≤c∧(0:Int)<(256:Int)∧c≤IntKind.i64.max)∧
 iR (e+1)∧
 Yz a b (c / 256) d (e+1) (f++ [[.int (IntKind.u8.wrap (c%(256:Int)))]])∧
 (d-(e+1)).toNat<(d-e).toNat
 else f=aj (dl a b.toNat)
def ajN:ac:=ak V5 87 (aq auU)
def P47:Prop:=
 ∀ (a b c:Int) (d:List UInt8),
 d.length≤9223372036854775807→
 True→
 True∧
 bif decide (cV a b c d≠0) then
 cV a b c d=cV a b c d∧ [] =kL a b c d
 else
 wP a 1∧
 wP b 1∧
 (2≤140737488355328∧2≤9223372036854775807)∧
 wP c 4∧
 (6≤140737488355328∧6≤9223372036854775807)∧
 wP ↑d.length 2∧
 (8≤140737488355328∧8≤9223372036854775807)∧
 aR (8+(aj d).length) 1∧
 0=cV a b c d∧
 aj (dl a 1)++
 aj (dl b 1)++
 aj (dl c 4)++
 aj (dl ↑d.length 2)++
 aj d=
 kL a b c d
def abH:ac:=ak ajN 47 (aq avm)
abbrev mD (a:LD):Int:=
 ↑a.length
abbrev X6 (a:Int)(b:LD):Int:=
 IntKind.i64.wrap ((b.getD a.toNat []).getD 0 (.int 0)).toInt
def agI:Prop:=
 ∀ (a:LD),
 lM a→
 yD a→
 ∀ (b:Bool),(b=true→a= [])→bif b then [] =a else aR (0+a.length) 1∧ [] ++a=a
def WD:ac:=ak abH 171 (aq ams)
def acz:Prop:=
 ∀ (a:Int) (b:LD) (c:Bool),
 lM b→
 vk a→
 lM b→
 bif decide (mD b<a) then
 ((0:Int)≤0∧(0:Int)≤0∧(0:Int)≤0∧0≤mD b)∧
 ((0:Int)≤0∧
 0≤mD b∧mD b≤mD b)∧
 ar1 0 (ar0 0 b)=lX b a∧
 ar1 0 (ar0 (mD b).toNat b)=ga b a∧
 true=qU b a c
 else
 ((0:Int)≤0∧0≤a∧a≤a∧a≤mD b)∧
 (0≤a∧a≤mD b∧mD b≤mD b)∧
 ar1 0 (ar0 a.toNat b)=lX b a∧
 ar1 a.toNat (ar0 (mD b).toNat b)=ga b a∧
 c=qU b a c
def WU:ac:=ak WD 170 (aq anO)
def ac7:Prop:=
 ∀ (a:Int) (b:LD) (c:Bool),
 lM b→
 vF a b→
 vk a∧
 (lM (lX b a)→
 (Oo a b c 0 (lX b a) (↑(lX b a).length:Int)
 0 (ga b a) (qU b a c)∧
 True)∧
 ∀ (d:Int) (e:LD) (f g:Int) (h:LD) (i:Bool),
 lM e→
 Oo a b c d e f g h i→
 bif decide (g<f) then
 bR g e∧
 g.toNat<e.length∧
 iR ((8:Int)*g)∧
 (0:Int)≤8*g∧
 iR (g+1)∧
 Oo a b c
 (iq .i64 d (eG .i64 (X6 g e) ((8:Int)*g))) e f (g+1) h
 i∧
 (f-(g+1)).toNat<(f-g).toNat
 else
 d=(↑(dO (ah (lX b a))):Int)∧
 h=ga b a∧i=qU b a c)
def WN:ac:=ak WU 169 (aq arz)
abbrev qZ (a:LD):LD:=
 ga (ga (ga a 1) 1) 4
abbrev wB (a:LD):Int:=
 (↑(dO (ah (lX (qZ a) 2))):Int)
abbrev PO (a:LD):Prop:=
 0=(ji (ah a)).k
abbrev OB (a:LD):Prop:=
 0=(ji (ah a)).t
abbrev Ol (a:LD):Prop:=
 0=(ji (ah a)).c
abbrev PJ (a:LD):Prop:=
 [] =(ji (ah a)).l
abbrev Id (a:LD):LD:=
 aj (sJ (ah a))
abbrev OY (a:LD):Int:=
 cV (↑(dO (ah (lX a 1))):Int)
 (↑(dO (ah (lX (ga a 1) 1))):Int)
 (↑(dO
 (ah
 (lX (ga (ga a 1) 1) 4))):
 Int)
 (ah
 (lX (ga (qZ a) 2)
 (wB a)))
def agZ:Prop:=
 ∀ (a:LD),
 lM a→
 fk a→
 vF 1 a∧
 vF 1 (ga a 1)∧
 vF 4 (ga (ga a 1) 1)∧
 vF 2 (qZ a)∧
 vk (wB a)∧
 bif
 qU (ga (qZ a) 2)
 (wB a)
 (qU (qZ a) 2
 (qU (ga (ga a 1) 1) 4
 (qU (ga a 1) 1
 (qU a 1 false)))) then
 PO a∧
 OB a∧
 Ol a∧
 PJ a∧
 2=jA (ah a)∧ [] =Id a
 else
 True∧
 bif decide (OY a≠0) then
 PO a∧
 OB a∧
 Ol a∧
 PJ a∧
 OY a=jA (ah a)∧
 [] =Id a
 else
 yD
 (ga (ga (qZ a) 2)
 (wB a))∧
 (↑(dO (ah (lX a 1))):Int)=
 (ji (ah a)).k∧
 (↑(dO
 (ah (lX (ga a 1) 1))):
 Int)=
 (ji (ah a)).t∧
 (↑(dO
 (ah
 (lX
 (ga (ga a 1) 1) 4))):
 Int)=
 (ji (ah a)).c∧
 ah
 (lX (ga (qZ a) 2)
 (wB a))=
 (ji (ah a)).l∧
 0=jA (ah a)∧
 ga (ga (qZ a) 2)
 (wB a)=
 Id a
def Zb:ac:=ak WN 129 (aq apm)
theorem alD:avG:=by
 intro a b c l a' b' c' l' _ _ _
 simp [pY]
theorem aj7:(base.with V5).Ok:=ab c40 (ai am c40 Tryz.func175 (by kernel_rfl) Tryz.call175 (by kernel_rfl) alD)
theorem ZZ:IntKind.i64.max=9223372036854775807:=by decide
theorem wrap_i64 {n:Int} (h0: -9223372036854775808≤n) (h:n≤9223372036854775807):IntKind.i64.wrap n=n:=Mz .i64 n rfl ⟨h0,h⟩
theorem ajW {n:Int} (k:Nat) (h0:0≤n):0≤n / 256 ^ k∧n / 256 ^ k≤n:=by
 have hp:(0:Int)<256 ^ k:=Int.pow_pos (by decide)
 exact ⟨ase h0 (Int.le_of_lt hp),Int.ediv_le_self _ h0⟩
theorem aun:P87:=by
 delta P87 lM iR aR
 rintro n w ⟨hn,hn2,hw0,hw8⟩
 refine ⟨⟨⟨by simp,rfl,by omega,hw0,by simp [dl,aj]⟩,trivial⟩,?_⟩
 rintro n' w' i out hout ⟨rfl,rfl,h0,h1,rfl⟩
 have hd:=ajW (n:=n) i.toNat hn
 refine aa (fun h=> ?_) fun h=> ?_
 ·simp only [aQ] at h
  rw [ZZ]
  simp only [aZ,gp,adC,asi]
  refine ⟨⟨by omega,by omega⟩,⟨by omega,by omega⟩,⟨by omega,by omega,by omega⟩,⟨by omega,by omega⟩,⟨?_,rfl,by omega,by omega,?_⟩,by omega⟩
  ·rw [show (i+1).toNat=i.toNat+1 from by omega,Int.ediv_ediv_of_nonneg (Int.le_of_lt (Int.pow_pos (by decide))),Int.pow_succ]
  ·rw [show (i+1).toNat=i.toNat+1 from by omega,yo,gr,AG,Int.emod_emod_of_dvd _ (Int.dvd_refl 256),← nN]
   rfl
 ·simp only [aT] at h
  rw [show i=w' from by omega]
theorem c87:(base.with ajN).Ok:=ab aj7 (ai amL aj7 Tryz.func87 (by kernel_rfl) Tryz.call87 (by kernel_rfl) aun)
theorem atQ:P47:=by
 delta P47 aR
 intro a b c l hl _
 refine ⟨trivial,aa (fun h=> ?_) fun h=> ?_⟩
 ·simp only [ne_eq,decide_not,atf,aT] at h
  exact ⟨rfl,by rw [kL,if_neg h]⟩
 ·simp only [ne_eq,decide_not,aws,aQ] at h
  obtain ⟨h1,h2,h3,h4,h5,h6,_,_,_,_,h7⟩:=xw h
  simp only [ce,aZ,gp,wP]
  refine ⟨⟨by omega,by omega,by omega,by omega⟩,⟨by omega,by omega,by omega,by omega⟩,⟨by omega,by omega⟩,⟨by omega,by omega,by omega,by omega⟩,⟨by omega,by omega⟩,⟨by omega,by omega,by omega,by omega⟩,⟨by omega,by omega⟩,⟨by omega,by omega⟩,h.symm,?_⟩
  rw [kL,if_pos h,km]
  simp only [gr]
theorem c47:(base.with abH).Ok:=ab c87 (ai am c87 Tryz.func47 (by kernel_rfl) Tryz.call47 (by kernel_rfl) atQ)
theorem ahD (b:List UInt8):dO b<256 ^ b.length:=by
 induction b with
 | nil=>simp [dO]
 | cons x b ih=>
  have:=x.toNat_lt
  simp only [dO,adC,Nat.pow_succ]
  omega
theorem L0 (b:List UInt8) {i:Nat} (h:i<b.length):(((aj b).getD i []).getD 0 (CD.int 0)).toInt=((b.getD i 0).toNat:Int):=by
 simp [aj,h,CD.toInt]
theorem Ty (b:List UInt8) (n:Nat):(aj b).drop n=aj (b.drop n):=by simp [aj]
theorem Qy (b:List UInt8) (n:Nat):(aj b).take n=aj (b.take n):=by simp [aj]
theorem jJ (b:List UInt8):jf (aj b):=by unfold jf;rw [eP]
theorem zg {l:LD} (h:jf l):∃ b,l=aj b:=⟨_,h⟩
theorem TG (x:UInt8):IntKind.i64.wrap ((x.toNat:Int))=(x.toNat:Int):=by
 have:=x.toNat_lt
 exact wrap_i64 (by omega) (by omega)
theorem abg {n:Nat} (h:n≤6):256 ^ n≤281474976710656:=by
 have:=asH (show 0<256 by decide) h
 simpa using this
theorem aad {b:List UInt8} {i:Nat} (h:i<b.length):b.getD i 0=b[i] :=by simp [h]
theorem aoA:agI:=by
 delta agI lM aR
 intro l hl hp β hβ
 unfold yD at hp
 refine aa (fun h=>(hβ h).symm) fun h=>⟨⟨by omega,by omega⟩,rfl⟩
theorem ac1:(base.with WD).Ok:=ab c47 (ai am c47 Tryz.func171 (by kernel_rfl) Tryz.call171 (by kernel_rfl) aoA)
theorem arE:acz:=by
 delta acz lM mD
 intro n l b hl hp _
 unfold vk at hp
 refine aa (fun h=> ?_) fun h=> ?_
 ·simp only [aQ] at h
  simp only [lX,ga,qU,if_pos h,decide_eq_true h]
  refine ⟨by omega,by omega,by simp,by simp,rfl⟩
 ·simp only [aT] at h
  simp only [lX,ga,qU,if_neg h,decide_eq_false h]
  refine ⟨by omega,by omega,by simp,by simp,rfl⟩
theorem akO:(base.with WU).Ok:=ab ac1 (ai am ac1 Tryz.func170 (by kernel_rfl) Tryz.call170 (by kernel_rfl) arE)
theorem I4 (i:Nat):((256 ^ i:Nat):Int)=(256:Int) ^ i:=by rw [awD];rfl
theorem abB {a x i:Nat} (ha:a<256 ^ i) (hx:x<256) (hi:i<7):iq .i64 (a:Int) (eG .i64 (x:Int) (8*(i:Int)))=((a+x*256 ^ i:Nat):Int):=by
 have hp:=abg (n:=i) (by omega)
 have hxp:x*256 ^ i≤255*281474976710656:=Nat.mul_le_mul (by omega) hp
 have e1:eG .i64 (x:Int) (8*(i:Int))=((x*256 ^ i:Nat):Int):=by
  unfold eG
  have:min (8*(i:Int)).toNat (IntKind.bits .i64)=8*i:=by
   show min (8*(i:Int)).toNat 64=8*i
   omega
  rw [this,Int.pow_mul,show (2:Int) ^ 8=256 from by decide,← I4,← awE]
  exact wrap_i64 (by omega) (by omega)
 rw [e1]
 unfold iq
 have e3:(abN (IntKind.bits .i64) (a:Int) |||abN (IntKind.bits .i64) ((x*256 ^ i:Nat):Int)).toNat=a+x*256 ^ i:=by
  rw [awF,awF,BitVec.toNat_or,awG,awG]
  rw [show 2 ^ IntKind.bits .i64=18446744073709551616 from by decide,awC (by omega),awC (by omega)]
  have h8:256 ^ i=2 ^ (8*i):=by rw [Nat.pow_mul]
  rw [h8] at ha ⊢
  rw [Nat.or_comm,← awH,← Nat.shiftLeft_add_eq_or_of_lt ha]
  omega
 rw [e3]
 exact wrap_i64 (by omega) (by omega)
theorem J3 (b:List UInt8) (x:UInt8):dO (b++ [x])=dO b+x.toNat*256 ^ b.length:=by
 induction b with
 | nil=>simp [dO]
 | cons y b ih=>simp only [List.cons_append,dO,ih,adC,Nat.pow_succ];rw [Nat.mul_add,Nat.add_assoc,Nat.mul_left_comm,Nat.mul_comm 256 (256 ^ b.length)]
def pj (b:List UInt8) (n:Int):List UInt8:=if (b.length:Int)<n then [] else b.take n.toNat
def fY (b:List UInt8) (n:Int):List UInt8:=if (b.length:Int)<n then b else b.drop n.toNat
theorem CA (b:List UInt8) (n:Int):lX (aj b) n=aj (pj b n):=by
 unfold lX pj
 rw [aZ]
 split
 ·rfl
 ·rw [Qy]
theorem Uz (b:List UInt8) (n:Int):ga (aj b) n=aj (fY b n):=by
 unfold ga fY
 rw [aZ]
 split
 ·rfl
 ·rw [Ty]
theorem aaY (b:List UInt8) (n:Int) (h:0≤n):(pj b n).length≤n.toNat:=by
 unfold pj
 split
 ·simp
 ·rw [ajw];omega
theorem anM:ac7:=by
 delta ac7 lM iR bR X6
 rintro n l sh hl ⟨h0,h7,hB⟩
 obtain ⟨b,rfl⟩:=zg hB
 refine ⟨h0,fun _=>⟨⟨⟨rfl,rfl,by omega,by omega,rfl,rfl,by simp [dO]⟩,trivial⟩,?_⟩⟩
 rintro n' tk m i rest sh' htk ⟨rfl,rfl,h0',h1,rfl,rfl,h2⟩
 rw [CA,aZ] at *
 rw [eP] at *
 have hle:=aaY b n h0
 generalize ht:pj b n=t at *
 refine aa (fun h=> ?_) fun h=> ?_
 ·simp only [aQ] at h
  have hlt:i.toNat<t.length:=by omega
  rw [L0 t hlt,TG,aad hlt]
  have hx:=t[i.toNat].toNat_lt
  have hn:=ahD (t.take i.toNat)
  rw [ajw,ato (by omega)] at hn
  have e:=abB hn hx (by omega)
  rw [h2,show (8:Int)*i=8*((i.toNat:Nat):Int) from by omega,e]
  refine ⟨⟨by omega,by omega⟩,hlt,by omega,by omega,by omega,⟨by rw [CA,ht],by rw [aZ],by omega,by omega,rfl,rfl,?_⟩,by omega⟩
  rw [eP,show (i+1).toNat=i.toNat+1 from by omega,List.take_add_one,cH hlt]
  simp only [Option.toList_some]
  rw [J3,ajw,ato (by omega)]
 ·simp only [aT] at h
  refine ⟨?_,rfl,rfl⟩
  rw [h2,List.take_of_length_le (by omega)]
theorem aki:(base.with WN).Ok:=ab akO (ai ahP akO Tryz.func169 (by kernel_rfl) Tryz.call169 (by kernel_rfl) anM)
def nF (b:List UInt8) (n:Int) (sh:Bool):Bool:=decide ((b.length:Int)<n)||sh
theorem TW (b:List UInt8) (n:Int) (sh:Bool):qU (aj b) n sh=nF b n sh:=by unfold qU nF;rw [aZ]
theorem tL (b:List UInt8) (n:Int):nF b n true=true:=by simp [nF]
theorem nq {b:List UInt8} {n:Nat} (h:n≤b.length):fY b n=b.drop n:=by
 unfold fY;rw [if_neg (by omega)];simp
theorem vI {b:List UInt8} {n:Nat} (h:n≤b.length):pj b n=b.take n:=by
 unfold pj;rw [if_neg (by omega)];simp
theorem AK {b:List UInt8} {n:Int} {sh:Bool} (h:(b.length:Int)<n):nF b n sh=true:=by simp [nF,h]
theorem Bo {b:List UInt8} {n:Int} {sh:Bool} (h:n≤(b.length:Int)):nF b n sh=sh:=by
 unfold nF;rw [decide_eq_false (by omega)];rfl
def Et (b:List UInt8):Bool:=
 nF (fY (fY (fY (fY b 1) 1) 4) 2) (dO (pj (fY (fY (fY b 1) 1) 4) 2):Int) (nF (fY (fY (fY b 1) 1) 4) 2 (nF (fY (fY b 1) 1) 4 (nF (fY b 1) 1 (nF b 1 false))))
theorem Kh {b:List UInt8} (h:8≤b.length):fY b 1=b.drop 1∧fY (b.drop 1) 1=b.drop 2∧fY (b.drop 2) 4=b.drop 6∧fY (b.drop 6) 2=b.drop 8∧
  pj b 1=b.take 1∧pj (b.drop 1) 1=(b.drop 1).take 1∧pj (b.drop 2) 4=(b.drop 2).take 4∧pj (b.drop 6) 2=(b.drop 6).take 2:=by
 have d1:=nq (b:=b) (n:=1) (by omega)
 have d2:=nq (b:=b.drop 1) (n:=1) (by rw [eH];omega)
 have d3:=nq (b:=b.drop 2) (n:=4) (by rw [eH];omega)
 have d4:=nq (b:=b.drop 6) (n:=2) (by rw [eH];omega)
 have r1:=vI (b:=b) (n:=1) (by omega)
 have r2:=vI (b:=b.drop 1) (n:=1) (by rw [eH];omega)
 have r3:=vI (b:=b.drop 2) (n:=4) (by rw [eH];omega)
 have r4:=vI (b:=b.drop 6) (n:=2) (by rw [eH];omega)
 simp only [awv] at d1 d2 d3 d4
 exact ⟨d1,d2,d3,d4,r1,r2,r3,r4⟩
theorem HH (b:List UInt8):Et b=decide (b.length<8∨b.length<8+dO ((b.drop 6).take 2)):=by
 unfold Et
 rcases atI b.length 8 with h | h
 ·rw [decide_eq_true (.inl h)]
  rcases atI b.length 1 with h1 | h1
  ·rw [AK (b:=b) (by omega)];simp only [tL]
  have d1:fY b 1=b.drop 1:=nq (b:=b) (n:=1) (by omega)
  rw [d1]
  rcases atI b.length 2 with h2 | h2
  ·rw [AK (b:=b.drop 1) (by rw [eH];omega)];simp only [tL]
  have d2:fY (b.drop 1) 1=b.drop 2:=by
   have:=nq (b:=b.drop 1) (n:=1) (by rw [eH];omega)
   rw [awv] at this
   exact this
  rw [d2]
  rcases atI b.length 6 with h3 | h3
  ·rw [AK (b:=b.drop 2) (by rw [eH];omega)];simp only [tL]
  have d3:fY (b.drop 2) 4=b.drop 6:=by
   have:=nq (b:=b.drop 2) (n:=4) (by rw [eH];omega)
   rw [awv] at this
   exact this
  rw [d3,AK (b:=b.drop 6) (by rw [eH];omega)]
  simp only [tL]
 ·obtain ⟨d1,d2,d3,d4,r1,r2,r3,r4⟩:=Kh h
  rw [d1,d2,d3,d4,r4,Bo (b:=b) (by omega),Bo (b:=b.drop 1) (by rw [eH];omega),Bo (b:=b.drop 2) (by rw [eH];omega),Bo (b:=b.drop 6) (by rw [eH];omega)]
  unfold nF
  rw [Bool.or_false,decide_eq_decide,eH]
  omega
theorem arR:agZ:=by
 delta agZ lM qZ wB PO OB Ol PJ Id OY
 rintro l hl ⟨hB,hlen⟩
 obtain ⟨b,rfl⟩:=zg hB
 simp only [Uz,CA,TW,eP,aZ] at *
 refine ⟨⟨by omega,by omega,jJ _⟩,⟨by omega,by omega,jJ _⟩,⟨by omega,by omega,jJ _⟩,⟨by omega,by omega,jJ _⟩,by unfold vk;omega,aa (fun h=> ?_) fun h=>⟨trivial,?_⟩⟩
 ·have hs:Et b=true:=h
  rw [HH,aQ] at hs
  have he:jA b=2:=by unfold jA;rw [if_pos hs]
  unfold ji sJ
  rw [he,if_neg (by decide),if_neg (by decide)]
  exact ⟨rfl,rfl,rfl,rfl,rfl,rfl⟩
 ·have hs:Et b=false:=h
  rw [HH,aT] at hs
  have h8:8≤b.length:=by omega
  obtain ⟨d1,d2,d3,d4,r1,r2,r3,r4⟩:=Kh h8
  rw [d1,d2,d3,d4,r1,r2,r3,r4]
  have r5:pj (b.drop 8) (dO ((b.drop 6).take 2):Int)=(b.drop 8).take (dO ((b.drop 6).take 2)):=vI (by rw [eH];omega)
  have d5:fY (b.drop 8) (dO ((b.drop 6).take 2):Int)=b.drop (8+dO ((b.drop 6).take 2)):=by
   rw [nq (by rw [eH];omega),awv]
  rw [r5,d5]
  have he:jA b=cV (dO (b.take 1)) (dO ((b.drop 1).take 1)) (dO ((b.drop 2).take 4)) ((b.drop 8).take (dO ((b.drop 6).take 2))):=by
   unfold jA;rw [if_neg hs];rfl
  refine aa (fun h=> ?_) fun h=> ?_
  ·simp only [ne_eq,decide_not,atf,aT] at h
   unfold ji sJ
   rw [he,if_neg h,if_neg h]
   exact ⟨rfl,rfl,rfl,rfl,rfl,rfl⟩
  ·simp only [ne_eq,decide_not,aws,aQ] at h
   unfold ji sJ
   rw [he,if_pos h,if_pos h]
   refine ⟨?_,rfl,rfl,rfl,rfl,h.symm,rfl⟩
   unfold yD
   rw [aZ,eH];omega
theorem ago:(base.with Zb).Ok:=ab aki (ai am aki Tryz.func129 (by kernel_rfl) Tryz.call129 (by kernel_rfl) arR)
theorem O0 (n i:Nat):(sw (n:Int) i).toNat=n / 256 ^ i%256:=by
 have:=nN (n:Int) i
 rw [← I4] at this
 have h2:((n:Int) / ((256 ^ i:Nat):Int)%256)=((n / 256 ^ i%256:Nat):Int):=by
  rw [Int.natCast_emod,awI];rfl
 rw [h2] at this
 exact Int.ofNat.inj this
theorem xy (n w:Nat):dO (dl (n:Int) w)=n%256 ^ w:=by
 induction w with
 | zero=>simp [dl,dO,Nat.mod_one]
 | succ w ih=>rw [yo,J3,ih,gp,O0,Nat.mod_pow_succ,Nat.mul_comm]
theorem aax {a b c:Int} {l:List UInt8} (h:cV a b c l=0) (more:List UInt8):jA (km a b c l++more)=0∧rP (km a b c l++more)=⟨a,b,c,l⟩∧(km a b c l++more).drop (8+dO (((km a b c l++more).drop 6).take 2))=more:=by
 obtain ⟨h1,h2,h3,h4,h5,h6,_,_,_,_,h7⟩:=xw h
 obtain ⟨a,rfl⟩:∃ n:Nat,a=n:=⟨a.toNat,by omega⟩
 obtain ⟨b,rfl⟩:∃ n:Nat,b=n:=⟨b.toNat,by omega⟩
 obtain ⟨c,rfl⟩:∃ n:Nat,c=n:=⟨c.toNat,by omega⟩
 have e1:((km a b c l++more).drop 6).take 2=dl l.length 2:=rfl
 have e2:(km a b c l++more).take 1=dl a 1:=rfl
 have e3:((km a b c l++more).drop 1).take 1=dl b 1:=rfl
 have e4:((km a b c l++more).drop 2).take 4=dl c 4:=rfl
 have e5:(km a b c l++more).drop 8=l++more:=rfl
 have m1:dO (dl l.length 2)=l.length:=by rw [xy];exact awC (by omega)
 have m2:dO (dl a 1)=a:=by rw [xy];exact awC (by omega)
 have m3:dO (dl b 1)=b:=by rw [xy];exact awC (by omega)
 have m4:dO (dl c 4)=c:=by rw [xy];exact awC (by omega)
 have eX:rP (km a b c l++more)=⟨a,b,c,l⟩:=by
  unfold rP
  rw [e1,e2,e3,e4,e5,m1,m2,m3,m4,List.take_left']
  rfl
 refine ⟨?_,eX,?_⟩
 ·unfold jA
  rw [eX,e1,m1,if_neg]
  ·exact h
  ·simp only [km,ce,gp];omega
 ·rw [e1,m1,← awv,e5,List.drop_left']
  rfl
theorem aaA {a b c:Int} {l:List UInt8} (h:cV a b c l=0):kL a b c l=aj (km a b c l):=if_pos h
def oU:Nat→List It→List UInt8→List It×Int×Int
 | 0,acc,b=>if b.length=0 then (acc,-1,0) else ([],acc.length,9)
 | n+1,acc,b=>if b.length=0 then (acc,-1,0) else if jA b=0 then oU n (acc++ [rP b]) (sJ b) else ([],acc.length,jA b)
def eN (b:List UInt8):List It×Int×Int:=oU 1024 [] b
def lE (x:It):List UInt8:=km x.k x.t x.c x.l
def iY (x:It):Int:=cV x.k x.t x.c x.l
def kS:Nat→List UInt8→List It→List UInt8×Int×Int
 | _,acc,[] =>(acc,-1,0)
 | i,acc,x::l=>if i=1024 then ([],i,9) else if iY x=0 then kS (i+1) (acc++lE x) l else ([],i,iY x)
def cL (l:List It):List UInt8×Int×Int:=kS 0 [] l
def mj (x y:It):Bool:=pY x.k x.t x.c y.k y.t y.c
def bj:List It→List It→Bool
 | _,[] =>true
 | [],_::_=>false
 | x::l,y::m=>mj x y&&bj l m
def auf:Ct:= {ps:= [.rd kZ],bs:= [],pre:=fun | [.r l] =>fk l | _=>False,res:=fun | [.r l] => .ret (.tup [.own 0,i64,i64]) [.own 116 eg] [.i (eN (ah l)).2.1,.i (eN (ah l)).2.2,.r (dg (eN (ah l)).1)] | _=>ag}
def XS (l l':LD) (i:Int) (acc:LD):Prop:=fk l'∧0≤i∧i≤1024∧i=acc.length∧acc=dg (ar acc)∧eN (ah l)=oU (1024-acc.length) (ar acc) (ah l')
def arL:List Dat→Ann
 | [.r l] => {cut:= [],loop:= [(3,[la 34 [(0,.rd kZ),(5,.own 0),(6,i64)] [.own 116 eg] (fun | [.r l',.i i,.r acc] =>XS l l' i acc | _=>False) (fun | [_,.i i,_] =>(1025-i).toNat | _=>0)])]}
 | _=> {cut:= [],loop:= []}
def qK (l:LD):Prop:=l.length≤100000000
def avf:Ct:= {ps:= [.rd eg],bs:= [],pre:=fun | [.r l] =>qK l | _=>False,res:=fun | [.r l] => .ret (.tup [.own 0,i64,i64]) [.own 5 kZ] [.i (cL (ar l)).2.1,.i (cL (ar l)).2.2,.r (aj (cL (ar l)).1)] | _=>ag}
def Hk (l acc l':LD) (n i:Int):Prop:=l'=l∧n=l.length∧0≤i∧i≤n∧i≤1024∧acc.length≤263*i∧jf acc∧cL (ar l)=kS i.toNat (ah acc) ((ar l).drop i.toNat)
def ari:List Dat→Ann
 | [.r l] => {cut:= [],loop:= [(3,[la 34 [(5,.own 0),(10,.rd eg),(11,i64),(12,i64)] [.own 5 kZ] (fun | [.r l',.i n,.i i,.r acc] =>Hk l acc l' n i | _=>False) (fun | [_,.i n,.i i,_] =>(n-i).toNat | _=>0)])]}
 | _=> {cut:= [],loop:= []}
def at7:Ct:= {ps:= [.rd eg],bs:= [],pre:=fun | [.r l] =>qK l | _=>False,res:=fun | [.r l] => .ret (.tup [.own 0,i64,i64]) [.own 5 kZ] [.i (cL (ar l)).2.1,.i (cL (ar l)).2.2,.r (aj (cL (ar l)).1)] | _=>ag}
def am6:List Dat→Ann
 | [.r l] => {cut:= [],loop:= [(3,[la 35 [(0,.rd eg),(5,.own 0),(6,i64)] [.own 5 kZ] (fun | [.r l',.i i,.r acc] =>Hk l acc l' l.length i | _=>False) (fun | [.r l',.i i,_] =>(l'.length-i).toNat | _=>0)])]}
 | _=> {cut:= [],loop:= []}
def avq:Ct:= {ps:= [re,re],bs:= [],pre:=fun _=>True,res:=fun | [.i a,.i b,.i c,_,.i a',.i b',.i c',_] => .ret .bool [] [.b (pY a b c a' b' c')] | _=>ag}
def atU:Ct:= {ps:= [.rd eg,.rd eg],bs:= [],pre:=fun _=>True,res:=fun | [.r x,.r y] => .ret .bool [] [.b (bj (ar x) (ar y))] | _=>ag}
def ZF (x y x' y':LD) (i:Int):Prop:=x'=x∧y'=y∧0≤i∧i≤y.length∧i≤x.length∧bj (ar x) (ar y)=bj ((ar x).drop i.toNat) ((ar y).drop i.toNat)
def aop:List Dat→Ann
 | [.r x,.r y] => {cut:= [],loop:= [(2,[la 28 [(0,.rd eg),(1,.rd eg),(5,i64)] [] (fun | [.r x',.r y',.i i] =>ZF x y x' y' i | _=>False) (fun | [_,.r y',.i i] =>(y'.length-i).toNat | _=>0)])]}
 | _=> {cut:= [],loop:= []}
abbrev jE (a:LD):Int:=
 ↑a.length
abbrev H5 (a:LD):Int:=
 (eN (ah a)).snd.fst
abbrev Ik (a:LD):Int:=
 (eN (ah a)).snd.snd
abbrev Yi (a b:LD):Prop:=
 jA (ah a)=Ik b∧
 [] =dg (eN (ah b)).fst
abbrev X4 (a b:LD):LD:=
 a++
 [[.int (ji (ah b)).k,.int (ji (ah b)).t,
 .int (ji (ah b)).c,.str (ji (ah b)).l]]
def P80:Prop:=
 ∀ (a:LD),
 lM a→
 fk a→
 (XS a a 0 [] ∧True)∧
 ∀ (b:LD) (c:Int) (d:LD),
 lM b→
 lM d→
 XS a b c d→
 lM b→
 bif decide ((0:Int)<jE b) then
 bif decide (c=1024) then
 c=H5 a∧
 9=Ik a∧
 [] =dg (eN (ah a)).fst
 else
 fk b∧
 bif decide (jA (ah b)≠0) then
 c=H5 a∧Yi b a
 else
 aR (d.length+1) 40∧
 iR (c+1)∧
 XS a (aj (sJ (ah b))) (c+1)
 (X4 d b)∧
 ((1025:Int)-(c+1)).toNat<((1025:Int)-c).toNat
 else
 (-1:Int)=H5 a∧
 0=Ik a∧
 d=dg (eN (ah a)).fst
def abY:ac:=ak Zb 80 (aq auf)
abbrev nO (a:Int)(b:LD):Int:=
 ((b.getD a.toNat []).getD 0 (.int 0)).toInt
abbrev nC (a:Int)(b:LD):Int:=
 ((b.getD a.toNat []).getD 1 (.int 0)).toInt
abbrev nI (a:Int)(b:LD):Int:=
 ((b.getD a.toNat []).getD 2 (.int 0)).toInt
abbrev ua (a:Int)(b:LD):List UInt8:=
 ((b.getD a.toNat []).getD 3 (.int 0)).toStr
abbrev Iq (a:Int)(b:LD):Prop:=
 (jE b-(a+1)).toNat<(jE b-a).toNat
abbrev EI (a:Int)(b:LD):Prop:=
 a=(cL (ar b)).snd.fst∧
 9=(cL (ar b)).snd.snd∧
 [] =aj (cL (ar b)).fst
abbrev DM (a:Int)(b c:LD):Prop:=
 a=(cL (ar b)).snd.fst∧
 cV (nO a c) (nC a c)
 (nI a c) (ua a c)=
 (cL (ar b)).snd.snd∧
 [] =aj (cL (ar b)).fst
abbrev Fe (a:Int)(b c:LD):Prop:=
 aR
 (b.length+
 (kL (nO a c) (nC a c)
 (nI a c) (ua a c)).length)
 1
abbrev DV (a b:LD):Prop:=
 (-1:Int)=(cL (ar a)).snd.fst∧
 0=(cL (ar a)).snd.snd∧
 b=aj (cL (ar a)).fst
def P17:Prop:=
 ∀ (a:LD),
 lM a→
 qK a→
 lM a→
 (Hk a [] a (jE a) 0∧True)∧
 ∀ (b:LD) (c d:Int) (e:LD),
 lM b→
 lM e→
 Hk a e b c d→
 bif decide (d<c) then
 bR d b∧
 d.toNat<b.length∧
 bif decide (d=1024) then EI d a
 else
 True∧
 bif
 decide
 (cV (nO d b) (nC d b)
 (nI d b) (ua d b)≠
 (0:Int)) then
 DM d a b
 else
 Fe d e b∧
 iR (d+1)∧
 Hk a
 (e++
 kL (nO d b) (nC d b)
 (nI d b) (ua d b))
 b c (d+1)∧
 (c-(d+1)).toNat<(c-d).toNat
 else DV a e
def aiU:ac:=ak abY 17 (aq avf)
def P22:Prop:=
 ∀ (a:LD),
 lM a→
 qK a→
 (Hk a [] a (jE a) 0∧True)∧
 ∀ (b:LD) (c:Int) (d:LD),
 lM b→
 lM d→
 Hk a d b (jE a) c→
 lM b→
 bif decide (c<jE b) then
 bif decide (c=1024) then EI c a
 else
 bR c b∧
 c.toNat<b.length∧
 True∧
 bif
 decide
 (cV (nO c b) (nC c b)
 (nI c b) (ua c b)≠
 (0:Int)) then
 DM c a b
 else
 Fe c d b∧
 iR (c+1)∧
 Hk a
 (d++
 kL (nO c b) (nC c b)
 (nI c b) (ua c b))
 b (jE a) (c+1)∧
 Iq c b
 else DV a d
def afC:ac:=ak aiU 22 (aq at7)
def P56:Prop:=
 ∀ (a b c:Int) (d:List UInt8) (e f g:Int) (h:List UInt8),
 d.length≤9223372036854775807→
 h.length≤9223372036854775807→True→(decide (a=e)&&decide (b=f)&&decide (c=g))=pY a b c e f g
def ajQ:ac:=ak afC 56 (aq avq)
abbrev u7 (a:Int)(b:LD):Prop:=
 (!decide (jE b≤a))=true
def P26:Prop:=
 ∀ (a b:LD),
 lM a→
 lM b→
 True→
 (ZF a b a b 0∧True)∧
 ∀ (c d:LD) (e:Int),
 lM c→
 lM d→
 ZF a b c d e→
 lM d→
 bif decide (e<jE d) then
 (u7 e c→bR e c)∧
 (u7 e c→e.toNat<c.length)∧
 (u7 e c→bR e d)∧
 (u7 e c→e.toNat<d.length)∧
 (u7 e c→True)∧
 bif
 decide (jE c≤e) ||
 !pY (nO e c) (nC e c)
 (nI e c) (nO e d)
 (nC e d) (nI e d) then
 false=bj (ar a) (ar b)
 else
 iR (e+1)∧
 ZF a b c d (e+1)∧Iq e d
 else true=bj (ar a) (ar b)
def aks:ac:=ak ajQ 26 (aq atU)
def Cq (l:List It):List UInt8:=(l.map lE).flatten
theorem zl (x:It) (l:List It):Cq (x::l)=lE x++Cq l:=rfl
theorem MA (x:It):8≤(lE x).length:=by
 unfold lE km
 simp only [ce,gp]
 omega
theorem Ku {x:It} (h:iY x=0):(lE x).length≤263:=by
 obtain ⟨_,_,_,_,_,_,_,_,_,_,h7⟩:=xw h
 unfold lE km
 simp only [ce,gp]
 omega
theorem UG {x:It} (h:iY x=0) (more:List UInt8):jA (lE x++more)=0∧rP (lE x++more)=x∧sJ (lE x++more)=more:=by
 obtain ⟨k1,k2,k3⟩:=aax h more
 have k1':jA (lE x++more)=0:=k1
 refine ⟨k1,k2,?_⟩
 unfold sJ
 rw [if_pos k1']
 exact k3
theorem Jv:∀ (m:List It) (n:Nat) (acc:List It),(∀ x∈m,iY x=0)→oU n acc (Cq m)=if m.length≤n then (acc++m,-1,0) else ([],((acc.length+n:Nat):Int),9)
 | [],n,acc,h=>by
  cases n <;>simp [oU,Cq]
 | x::m,0,acc,h=>by
  have:=MA x
  rw [if_neg (by simp),zl]
  unfold oU
  rw [if_neg (by rw [ce];omega)]
  rfl
 | x::m,n+1,acc,h=>by
  have:=MA x
  obtain ⟨k1,k2,k3⟩:=UG (h x (awp ..)) (Cq m)
  rw [zl]
  unfold oU
  rw [if_neg (by rw [ce];omega),if_pos k1,k2,k3,Jv m n _ fun y hy=>h y (awo _ hy)]
  by_cases hm:m.length≤n
  ·rw [if_pos hm,if_pos (by simp only [adC];omega)];simp
  ·rw [if_neg hm,if_neg (by simp only [adC];omega)]
   simp only [ce,adC,asi]
   congr 2
   omega
theorem NU:∀ (l:List It) (i:Nat) (acc:List UInt8),i≤1024→(kS i acc l).2.2=0→kS i acc l=(acc++Cq l,-1,0)∧i+l.length≤1024∧∀ x∈l,iY x=0
 | [],i,acc,hi,h=>⟨by simp [kS,Cq],by simpa using hi,fun x hx=>by cases hx⟩
 | x::l,i,acc,hi,h=>by
  unfold kS at h ⊢
  by_cases h1:i=1024
  ·rw [if_pos h1] at h;cases h
  ·rw [if_neg h1] at h ⊢
   by_cases h2:iY x=0
   ·rw [if_pos h2] at h ⊢
    obtain ⟨k1,k2,k3⟩:=NU l _ _ (by omega) h
    refine ⟨by rw [k1,zl];simp,by simp only [adC];omega,fun y hy=> ?_⟩
    rcases List.mem_cons.1 hy with rfl | hy
    ·exact h2
    ·exact k3 y hy
   ·rw [if_neg h2] at h;exact absurd h h2
theorem LX:∀ (l:List It) (i:Nat) (acc:List UInt8),i≤1024→acc.length≤263*i→(kS i acc l).1.length≤263*1024
 | [],i,acc,hi,h=>by show acc.length≤_;omega
 | x::l,i,acc,hi,h=>by
  unfold kS
  by_cases h1:i=1024
  ·rw [if_pos h1];exact asq _
  ·rw [if_neg h1]
   by_cases h2:iY x=0
   ·rw [if_pos h2]
    have:=Ku h2
    exact LX l _ _ (by omega) (by rw [ce];omega)
   ·rw [if_neg h2];exact asq _
theorem abc (l:List It):(cL l).1.length≤263*1024:=LX l 0 [] (by omega) (by simp)
theorem aac {l:List It} (h:(cL l).2.2=0):eN (cL l).1=(l,-1,0):=by
 obtain ⟨h1,h2,h3⟩:=NU l 0 [] (by omega) h
 unfold eN cL
 rw [h1,asp,Jv l 1024 [] h3,if_pos (by omega),asp]
theorem HQ (l:List It):(dg l).length=l.length:=bp ..
theorem jg (l:LD):(ar l).length=l.length:=bp ..
theorem pJ {l:LD} {i:Nat} (h:i<l.length):(ar l).drop i=gi (l.getD i [])::(ar l).drop (i+1):=by
 have h':i<(ar l).length:=by rw [jg];exact h
 rw [List.drop_eq_getElem_cons h']
 congr 1
 simp [ar,h]
theorem abp {b:List UInt8} (h:jA b=0):ji b=rP b:=if_pos h
theorem au0:P80:=by
 delta P80 lM iR aR jE H5 Ik Yi X4
 intro l hl hp
 refine ⟨⟨⟨hp,by omega,by omega,by simp,rfl,rfl⟩,trivial⟩,?_⟩
 rintro l' n acc hl' hacc ⟨hp2,h0,h1,h2,h3,h4⟩ _
 obtain ⟨b,rfl⟩:=zg hp2.1
 rw [eP] at h4 ⊢
 rw [aZ] at *
 refine aa (fun h=> ?_) fun h=> ?_
 ·simp only [aQ] at h
  have hb:b.length≠0:=by omega
  refine aa (fun h5=> ?_) fun h5=> ?_
  ·simp only [aQ] at h5
   rw [h4,show 1024-acc.length=0 from by omega,oU,if_neg hb]
   exact ⟨by rw [jg];exact h2,rfl,rfl⟩
  ·simp only [aT] at h5
   obtain ⟨k,hk⟩:∃ k,1024-acc.length=k+1:=⟨1023-acc.length,by omega⟩
   rw [hk,oU,if_neg hb] at h4
   refine ⟨hp2,aa (fun h6=> ?_) fun h6=> ?_⟩
   ·simp only [ne_eq,decide_not,atf,aT] at h6
    rw [h4,if_neg h6]
    exact ⟨by rw [jg];exact h2,rfl,rfl⟩
   ·simp only [ne_eq,decide_not,aws,aQ] at h6
    rw [if_pos h6] at h4
    have hl2:=hp2.2
    rw [aZ] at hl2
    have hd:(sJ b).length≤b.length:=by unfold sJ;rw [if_pos h6,eH];omega
    refine ⟨⟨by first | omega | (simp only [adC,asi];omega),by first | omega | (simp only [adC,asi];omega)⟩,⟨by omega,by omega⟩,⟨⟨jJ _,by rw [aZ];omega⟩,by omega,by omega,by simp only [ce,adC,asi];omega,?_,?_⟩,by omega⟩
    ·conv=>lhs;rw [h3]
     simp only [ar,dg,ast,List.map_cons,List.map_nil]
     rfl
    ·rw [h4,eP,ce,adC,asi,show 1024-(acc.length+(0+1))=k from by omega,← abp h6]
     simp only [ar,ast,List.map_cons,List.map_nil]
     rfl
 ·simp only [aT] at h
  have hb:b.length=0:=by omega
  have e:eN (ah l)=(ar acc,-1,0):=by
   rw [h4]
   cases 1024-acc.length <;>rw [oU,if_pos hb]
  rw [e]
  exact ⟨rfl,rfl,h3⟩
theorem c80:(base.with abY).Ok:=ab ago (ai arL ago Tryz.func80 (by kernel_rfl) Tryz.call80 (by kernel_rfl) au0)
theorem Kx {l:LD} {i:Nat} {acc:List UInt8} (h:cL (ar l)=kS i acc ((ar l).drop i)) (hi:l.length≤i):cL (ar l)=(acc,-1,0):=by
 rw [h,ahv (by rw [jg];exact hi)]
 cases i <;>rfl
theorem LH {l:LD} {acc:List UInt8} {i:Nat} (h:cL (ar l)=kS i acc ((ar l).drop i)) (hi:i<l.length) (h2:i=1024):cL (ar l)=([],1024,9):=by
 rw [h,pJ hi,kS,if_pos h2,h2];rfl
theorem Nx {l:LD} {acc:List UInt8} {i:Nat} (h:cL (ar l)=kS i acc ((ar l).drop i)) (hi:i<l.length) (h2:i≠1024) (h3:iY (gi (l.getD i []))≠0):cL (ar l)=([],(i:Int),iY (gi (l.getD i []))):=by
 rw [h,pJ hi,kS,if_neg h2,if_neg h3]
theorem Lz {l:LD} {acc:List UInt8} {i:Nat} (h:cL (ar l)=kS i acc ((ar l).drop i)) (hi:i<l.length) (h2:i≠1024) (h3:iY (gi (l.getD i []))=0):cL (ar l)=kS (i+1) (acc++lE (gi (l.getD i []))) ((ar l).drop (i+1)):=by
 rw [h,pJ hi,kS,if_neg h2,if_pos h3]
theorem Mn {x:It} (h:iY x=0):kL x.k x.t x.c x.l=aj (lE x):=aaA h
theorem auL:P17:=by
 delta P17 lM iR aR bR jE nO nC nI ua EI DM Fe DV
 intro l hl hp _
 unfold qK at hp
 refine ⟨⟨⟨rfl,rfl,by omega,by omega,by omega,by simp,rfl,rfl⟩,trivial⟩,?_⟩
 rintro l' n i acc hl' hacc ⟨rfl,rfl,h1,h2,h3,h4,h5,h6⟩
 obtain ⟨a,rfl⟩:=zg h5
 rw [eP] at h6
 rw [aZ] at *
 refine aa (fun h=> ?_) fun h=> ?_
 ·simp only [aQ] at h
  have hlt:i.toNat<l'.length:=by omega
  refine ⟨⟨by omega,by omega⟩,hlt,aa (fun h7=> ?_) fun h7=>⟨trivial,aa (fun h8=> ?_) fun h8=> ?_⟩⟩
  ·simp only [aQ] at h7
   rw [LH h6 hlt (by omega)]
   exact ⟨h7,rfl,rfl⟩
  ·simp only [aT] at h7
   have h8':iY (gi (l'.getD i.toNat []))≠0:=au h8
   rw [Nx h6 hlt (by omega) h8']
   exact ⟨by show i=(i.toNat:Int);omega,rfl,rfl⟩
  ·simp only [aT] at h7
   have h8':iY (gi (l'.getD i.toNat []))=0:=awJ.1 (aw h8)
   have e:=Mn h8'
   have k1:=Ku h8'
   change kL ((l'.getD i.toNat []).getD 0 (CD.int 0)).toInt ((l'.getD i.toNat []).getD 1 (CD.int 0)).toInt ((l'.getD i.toNat []).getD 2 (CD.int 0)).toInt ((l'.getD i.toNat []).getD 3 (CD.int 0)).toStr=_ at e
   rw [e,aZ]
   refine ⟨⟨by omega,by omega⟩,⟨by omega,by omega⟩,⟨rfl,rfl,by omega,by omega,by omega,?_,?_,?_⟩,by omega⟩
   ·rw [ce,aZ,aZ];omega
   ·rw [← gr];exact jJ _
   ·rw [← gr,eP,show (i+1).toNat=i.toNat+1 from by omega,Lz h6 hlt (by omega) h8']
 ·simp only [aT] at h
  rw [Kx h6 (by omega)]
  exact ⟨rfl,rfl,rfl⟩
theorem c17:(base.with aiU).Ok:=ab c80 (ai ari c80 Tryz.func17 (by kernel_rfl) Tryz.call17 (by kernel_rfl) auL)
theorem auk:P22:=by
 delta P22 lM iR aR bR jE nO nC nI ua Iq EI DM Fe DV
 intro l hl hp
 unfold qK at hp
 refine ⟨⟨⟨rfl,rfl,by omega,by omega,by omega,by simp,rfl,rfl⟩,trivial⟩,?_⟩
 rintro l' i acc hl' hacc ⟨rfl,h0,h1,h2,h3,h4,h5,h6⟩ _
 obtain ⟨a,rfl⟩:=zg h5
 rw [eP] at h6
 rw [aZ] at *
 refine aa (fun h=> ?_) fun h=> ?_
 ·simp only [aQ] at h
  have hlt:i.toNat<l'.length:=by omega
  refine aa (fun h7=> ?_) fun h7=>⟨⟨by omega,by omega⟩,hlt,trivial,aa (fun h8=> ?_) fun h8=> ?_⟩
  ·simp only [aQ] at h7
   rw [LH h6 hlt (by omega)]
   exact ⟨h7,rfl,rfl⟩
  ·simp only [aT] at h7
   have h8':iY (gi (l'.getD i.toNat []))≠0:=au h8
   rw [Nx h6 hlt (by omega) h8']
   exact ⟨by show i=(i.toNat:Int);omega,rfl,rfl⟩
  ·simp only [aT] at h7
   have h8':iY (gi (l'.getD i.toNat []))=0:=awJ.1 (aw h8)
   have e:=Mn h8'
   have k1:=Ku h8'
   change kL ((l'.getD i.toNat []).getD 0 (CD.int 0)).toInt ((l'.getD i.toNat []).getD 1 (CD.int 0)).toInt ((l'.getD i.toNat []).getD 2 (CD.int 0)).toInt ((l'.getD i.toNat []).getD 3 (CD.int 0)).toStr=_ at e
   rw [e,aZ]
   refine ⟨⟨by omega,by omega⟩,⟨by omega,by omega⟩,⟨rfl,rfl,by omega,by omega,by omega,?_,?_,?_⟩,by omega⟩
   ·rw [ce,aZ,aZ];omega
   ·rw [← gr];exact jJ _
   ·rw [← gr,eP,show (i+1).toNat=i.toNat+1 from by omega,Lz h6 hlt (by omega) h8']
 ·simp only [aT] at h
  rw [Kx h6 (by omega)]
  exact ⟨rfl,rfl,rfl⟩
theorem c22:(base.with afC).Ok:=ab c17 (ai am6 c17 Tryz.func22 (by kernel_rfl) Tryz.call22 (by kernel_rfl) auk)
theorem av7:P56:=by
 intro a b c l a' b' c' l' _ _ _
 simp [pY,Bool.and_assoc]
theorem c56:(base.with ajQ).Ok:=ab c22 (ai am c22 Tryz.func56 (by kernel_rfl) Tryz.call56 (by kernel_rfl) av7)
theorem He {x y:LD} {i:Nat} (h:i<y.length) (h2:i<x.length):bj ((ar x).drop i) ((ar y).drop i)=(mj (gi (x.getD i [])) (gi (y.getD i []))&&bj ((ar x).drop (i+1)) ((ar y).drop (i+1))):=by
 rw [pJ h,pJ h2,bj]
theorem Rx {x y:LD} {i:Nat} (h:i<y.length) (h2:x.length≤i):bj ((ar x).drop i) ((ar y).drop i)=false:=by
 rw [pJ h,ahv (by rw [jg];exact h2),bj]
theorem UT (x:List It):bj x [] =true:=by cases x <;>rfl
theorem atT:P26:=by
 delta P26 lM iR bR jE nO nC nI Iq u7
 intro x y hx hy _
 refine ⟨⟨⟨rfl,rfl,by omega,by omega,by omega,rfl⟩,trivial⟩,?_⟩
 rintro x' y' n _ _ ⟨rfl,rfl,h1,h2,h3,h4⟩ _
 refine aa (fun h5=> ?_) fun h5=> ?_
 ·simp only [aQ] at h5
  have hlt:n.toNat<y'.length:=by omega
  simp only [atf,aT]
  refine ⟨fun _=>⟨by omega,by omega⟩,fun _=>by omega,fun _=>⟨by omega,by omega⟩,fun _=>hlt,fun _=>trivial,aa (fun h6=> ?_) fun h6=> ?_⟩
  ·rw [h4]
   rcases atI n.toNat x'.length with hx2 | hx2
   ·rw [He hlt hx2]
    have h6':(decide ((x'.length:Int)≤n)||!mj (gi (x'.getD n.toNat [])) (gi (y'.getD n.toNat [])))=true:=h6
    rw [decide_eq_false (by omega)] at h6'
    simp only [Bool.false_or,atf] at h6'
    rw [h6'];rfl
   ·rw [Rx hlt hx2]
  ·have h6':(decide ((x'.length:Int)≤n)||!mj (gi (x'.getD n.toNat [])) (gi (y'.getD n.toNat [])))=false:=h6
   simp only [ate,aT,aws] at h6'
   refine ⟨⟨by omega,by omega⟩,⟨rfl,rfl,by omega,by omega,by omega,?_⟩,by omega⟩
   rw [h4,He hlt (by omega),h6'.2,show (n+1).toNat=n.toNat+1 from by omega];rfl
 ·simp only [aT] at h5
  have hn:(ar y').drop n.toNat= [] :=ahv (by rw [jg];omega)
  rw [h4,hn,UT]
theorem c26:(base.with aks).Ok:=ab c56 (ai aop c56 Tryz.func26 (by kernel_rfl) Tryz.call26 (by kernel_rfl) atT)
theorem Z7 (b:List UInt8):(eN b).1.length≤1024:=by
 suffices h:∀ n acc b,acc.length+n≤1024→(oU n acc b).1.length≤1024 from h 1024 [] b (by simp)
 intro n
 induction n with
 | zero=>intro acc b h;unfold oU;split <;>simp_all
 | succ n ih=>
  intro acc b h
  unfold oU
  split
  ·show acc.length≤_;omega
  ·split
   ·exact ih _ _ (by simp only [ce,adC,asi];omega)
   ·exact asq _
abbrev gA:BPat:= .cells 185 [.rd eg,i64,.nilp]
abbrev gB:BPat:= .cells 185 [.rd eg,i64,.ptr 1 0]
abbrev eB:BPat:= .cells 204 [i64]
def ave:Ct:= {ps:= [.rd kZ],bs:= [],pre:=fun | [.r l] =>fk l | _=>False,res:=fun
 | [.r l] => .ite (decide ((eN (ah l)).2.2=0)) (.ret (.tup [.ptr 0 0,i64,i64]) [gA] [.i (-1),.i 0,.r (dg (eN (ah l)).1),.i 0]) (.ret (.tup [.nilp,i64,i64]) [] [.i (eN (ah l)).2.1,.i (eN (ah l)).2.2])
 | _=>ag}
def alV:Ct:= {ps:= [.ptr 0 0,i64],bs:= [gA],pre:=fun _=>True,res:=fun
 | [.i e,.r l,.i n] => .ite (decide (e=0)) (.ret i64 [gA] [.i 0,.r l,.i n]) (.ret i64 [gB,eB] [.i e,.r l,.i n,.i e])
 | _=>ag}
def aoN:Ct:= {ps:= [.ptr 0 0,i64],bs:= [gB,eB],pre:=fun _=>True,res:=fun
 | [.i _,.r l,.i n,.i w] => .ret i64 [gB,eB] [.i w,.r l,.i n,.i w]
 | _=>ag}
def anI:Ct:= {ps:= [.ptr 0 0,.bool,i64],bs:= [gA],pre:=fun | [.b _,.i e,.r _,.i _] =>e≠0 | _=>False,res:=fun
 | [.b ok,.i e,.r l,.i n] => .ite ok (.ret i64 [gA] [.i 0,.r l,.i n]) (.ret i64 [gB,eB] [.i e,.r l,.i n,.i e])
 | _=>ag}
def arU:Ct:= {ps:= [.ptr 0 0,.bool,i64],bs:= [gB,eB],pre:=fun _=>True,res:=fun
 | [.b _,.i _,.r l,.i n,.i w] => .ret i64 [gB,eB] [.i w,.r l,.i n,.i w]
 | _=>ag}
def cm (l:LD) (n a b c:Int):Bool:=decide (n<l.length)&&pY (gi (l.getD n.toNat [])).k (gi (l.getD n.toNat [])).t (gi (l.getD n.toNat [])).c a b c
def az (l:LD) (n:Int):Prop:=0≤n∧n≤1000000
def acs:Ct:= {ps:= [.ptr 0 0,i64,i64,i64],bs:= [gA],pre:=fun | [.i _,.i _,.i _,.r l,.i n] =>az l n | _=>False,res:=fun
 | [.i a,.i b,.i c,.r l,.i n] => .ite (cm l n a b c) (.ret i64 [gA] [.i 0,.r l,.i (n+1)]) (.ret i64 [gB,eB] [.i 10,.r l,.i n,.i 10])
 | _=>ag}
def ajA:Ct:= {ps:= [.ptr 0 0,i64,i64,i64],bs:= [gB,eB],pre:=fun | [.i _,.i _,.i _,.r l,.i n,.i w] =>az l n∧w≠0 | _=>False,res:=fun
 | [.i _,.i _,.i _,.r l,.i n,.i w] => .ret i64 [gB,eB] [.i w,.r l,.i n,.i w]
 | _=>ag}
def amR:Ct:= {ps:= [.ptr 0 0],bs:= [gA],pre:=fun _=>True,res:=fun
 | [.r l,.i n] => .ite (decide (n=l.length)) (.ret i64 [gA] [.i 0,.r l,.i n]) (.ret i64 [gB,eB] [.i 12,.r l,.i n,.i 12])
 | _=>ag}
def amj:Ct:= {ps:= [.ptr 0 0],bs:= [gB,eB],pre:=fun _=>True,res:=fun
 | [.r l,.i n,.i w] => .ret i64 [gB,eB] [.i w,.r l,.i n,.i w]
 | _=>ag}
abbrev AB (a:LD):Int:=
 (eN (ah a)).snd.snd
abbrev PP (a:LD):Int:=
 (eN (ah a)).snd.fst
abbrev Om (a:LD):LD:=
 dg (eN (ah a)).fst
def P43:Prop:=
 ∀ (a:LD),
 lM a→
 fk a→
 fk a∧
 bif decide (AB a≠0) then
 bif decide (AB a=0) then
 Miss 2 eS
 else
 PP a=PP a∧
 AB a=AB a
 else
 bif decide (AB a=0) then
 (-1:Int)=(-1:Int)∧(0:Int)=0∧Om a=Om a∧(0:Int)=0
 else
 Miss 2 eS
def adO:ac:=ak aks 43 (aq ave)
abbrev Dt (a:LD):SV:=
 .rd [.int .i64,.int .i64,.int .i64,.str] a
abbrev Oi (a:Int)(b:LD):Blk:=
 .cells (185:TypeId) [Dt b,.int .i64 a,.ptr 1 0]
abbrev xq (a:Int)(b:LD):Prop:=
 Miss 2 eS
def afF:Prop:=
 ∀ (a:Int) (b:LD) (c:Int),
 lM b→
 True→
 bif true&&decide (a≠0) then
 bif decide (a=0) then
 Miss 2 eS
 else a=a∧b=b∧c=c∧a=a
 else bif decide (a=0) then (0:Int)=0∧b=b∧c=c else xq c b
def ajf:Prop:=
 ∀ (n:Int) (a:LD) (b c:Int),lM a→True→c=c∧a=a∧b=b∧c=c
def af8:ac:=ak adO 55 (eF alV (aq aoN))
def ady:Prop:=
 ∀ (a:Bool) (b:Int) (c:LD) (d:Int),
 lM c→
 b≠0→
 bif a then True∧bif a then (0:Int)=0∧c=c∧d=d else xq d c
 else
 True∧
 bif decide (b=0) then bif a then (0:Int)=0∧c=c∧d=d else xq d c
 else
 bif a then
 Miss 2 eS
 else b=b∧c=c∧d=d∧b=b
def abO:Prop:=
 ∀ (a:Bool) (n:Int) (b:LD) (c d:Int),
 lM b→True→bif a then True∧d=d∧b=b∧c=c∧d=d else True∧d=d∧b=b∧c=c∧d=d
def afy:ac:=ak af8 94 (eF anI (aq arU))
def WL:Prop:=
 ∀ (a b c:Int) (d:LD) (e:Int),
 lM d→
 az d e→
 (decide (e<↑d.length)=true→bR e d)∧
 (decide (e<↑d.length)=true→e.toNat<d.length)∧
 (decide (e<↑d.length)=true→True)∧
 (10:Int)≠0∧
 bif
 decide (e<↑d.length) &&
 pY ((d.getD e.toNat []).getD (0:Nat) (.int 0)).toInt
 ((d.getD e.toNat []).getD (1:Nat) (.int 0)).toInt ((d.getD e.toNat []).getD (2:Nat) (.int 0)).toInt a b c then
 iR (e+1)∧
 bif cm d e a b c then (0:Int)=0∧d=d∧e+1=e+1
 else
 Miss 2 eS
 else
 bif cm d e a b c then
 Miss 2 eS
 else (10:Int)=10∧d=d∧e=e∧(10:Int)=10
def WA:Prop:=
 ∀ (n n n:Int) (a:LD) (b c:Int),
 lM a→
 az a b∧c≠0→
 (decide (b<↑a.length)=true→bR b a)∧
 (decide (b<↑a.length)=true→b.toNat<a.length)∧
 (decide (b<↑a.length)=true→True)∧
 True∧
 bif decide (c=0) then iR (b+1)∧c=c∧a=a∧b+1=b∧c=c else c=c∧a=a∧b=b∧c=c
def Zr:ac:=ak afy 137 (eF acs (aq ajA))
def agK:Prop:=
 ∀ (a:LD) (b:Int),
 lM a→
 True→
 (12:Int)≠0∧
 bif decide (b=↑a.length) then bif decide (b=↑a.length) then (0:Int)=0∧a=a∧b=b else xq b a
 else
 bif decide (b=↑a.length) then
 Miss 2 eS
 else (12:Int)=12∧a=a∧b=b∧(12:Int)=12
def afk:Prop:=
 ∀ (a:LD) (b c:Int),lM a→True→True∧c=c∧a=a∧b=b∧c=c
def agR:ac:=ak Zr 57 (eF amR (aq amj))
theorem avF:P43:=by
 delta P43 lM AB PP Om
 intro l hl hp
 refine ⟨hp,aa (fun h=> ?_) fun h=> ?_⟩
 ·have h:=au h
  rw [decide_eq_false h]
  exact ⟨rfl,rfl⟩
 ·have h:(eN (ah l)).2.2=0:=awJ.1 (aw h)
  rw [decide_eq_true h]
  exact ⟨rfl,rfl,rfl,rfl⟩
theorem c43:(base.with adO).Ok:=ab c26 (ai am c26 Tryz.func43 (by kernel_rfl) Tryz.call43 (by kernel_rfl) avF)
theorem anf:afF:=by
 delta afF lM Dt Oi xq
 intro n l k hl _
 refine aa (fun h=>aa (fun h2=> ?_) fun _=>⟨rfl,rfl,rfl,rfl⟩) fun h=>aa (fun _=>⟨rfl,rfl,rfl⟩) fun h2=> ?_
 ·simp only [asD,ne_eq,decide_not,atf,aT,aQ] at h h2
  exact absurd h2 h
 ·simp only [asD,ne_eq,decide_not,aws,aT,aQ] at h h2
  exact absurd h h2
theorem apz:ajf:=by
 delta ajf lM
 exact fun _ _ _ _ _ _=>⟨rfl,rfl,rfl,rfl⟩
theorem c55:(base.with af8).Ok:=ab c43 (ci (ai am c43 Tryz.func55 (by kernel_rfl) Tryz.call55 (by kernel_rfl) anf) (ai am c43 Tryz.func55 (by kernel_rfl) Tryz.call55 (by kernel_rfl) apz))
theorem arB:ady:=by
 delta ady lM Dt Oi xq
 intro b n l k hl hn
 refine aa (fun hb=>⟨trivial,aa (fun _=>⟨rfl,rfl,rfl⟩) fun h=> ?_⟩) fun hb=>⟨trivial,aa (fun h=>absurd (au h) hn) fun _=>aa (fun h=> ?_) fun _=>⟨rfl,rfl,rfl,rfl⟩⟩
 ·rw [hb] at h;cases h
 ·rw [hb] at h;cases h
theorem amc:abO:=by
 delta abO lM
 exact fun _ _ _ _ _ _ _=>aa (fun _=>⟨trivial,rfl,rfl,rfl,rfl⟩) fun _=>⟨trivial,rfl,rfl,rfl,rfl⟩
theorem c94:(base.with afy).Ok:=ab c55 (ci (ai am c55 Tryz.func94 (by kernel_rfl) Tryz.call94 (by kernel_rfl) arB) (ai am c55 Tryz.func94 (by kernel_rfl) Tryz.call94 (by kernel_rfl) amc))
theorem ag7:WL:=by
 delta WL lM iR bR Dt
 intro a b c l n hl hp
 obtain ⟨h0,h1⟩:=hp
 refine ⟨fun h=>⟨h0,au h⟩,fun h=>by have:=au h;omega,fun _=>trivial,by decide,aa (fun h=>⟨⟨by omega,by omega⟩,aa (fun _=>⟨rfl,rfl,rfl⟩) fun h2=> ?_⟩) fun h=>aa (fun h2=> ?_) fun _=>⟨rfl,rfl,rfl,rfl⟩⟩
 ·have h':cm l n a b c=true:=h
  rw [h'] at h2;cases h2
 ·have h':cm l n a b c=false:=h
  rw [h'] at h2;cases h2
theorem ajR:WA:=by
 delta WA lM iR bR
 intro a b c l n w hl hp
 obtain ⟨⟨h0,h1⟩,hw⟩:=hp
 exact ⟨fun h=>⟨h0,au h⟩,fun h=>by have:=au h;omega,fun _=>trivial,trivial,aa (fun h=>absurd (au h) hw) fun _=>⟨rfl,rfl,rfl,rfl⟩⟩
theorem UJ:(base.with Zr).Ok:=ab c94 (ci (ai am c94 Tryz.func137 (by kernel_rfl) Tryz.call137 (by kernel_rfl) ag7) (ai am c94 Tryz.func137 (by kernel_rfl) Tryz.call137 (by kernel_rfl) ajR))
theorem apt:agK:=by
 delta agK lM Dt Oi xq
 intro l n hl _
 refine ⟨by decide,aa (fun h=>aa (fun _=>⟨rfl,rfl,rfl⟩) fun h2=> ?_) fun h=>aa (fun h2=> ?_) fun _=>⟨rfl,rfl,rfl,rfl⟩⟩
 ·rw [h] at h2;cases h2
 ·rw [h] at h2;cases h2
theorem alC:afk:=by
 delta afk lM
 exact fun _ _ _ _ _=>⟨trivial,rfl,rfl,rfl,rfl⟩
theorem c57:(base.with agR).Ok:=ab UJ (ci (ai am UJ Tryz.func57 (by kernel_rfl) Tryz.call57 (by kernel_rfl) apt) (ai am UJ Tryz.func57 (by kernel_rfl) Tryz.call57 (by kernel_rfl) alC))
abbrev u64:Pat:= .int .u64
abbrev YX:Pat:= .arrI 25 .u64
abbrev st:Pat:= .agg [YX]
def xr (a b:Int):Int:=wV .u64 a b
def n6 (x s:Int):Int:=iq .u64 (eG .u64 x s) (aL .u64 x (64-s))
def i7 (s:List Int):Nat→List Int
 | 0=>ab0 5 0
 | i+1=>(i7 s i).set (i%5) (xr ((i7 s i).getD (i%5) 0) (s.getD i 0))
def tG (c s:List Int):Nat→List Int
 | 0=>s
 | i+1=>(tG c s i).set i (xr ((tG c s i).getD i 0) (xr (c.getD ((i%5+4)%5) 0) (n6 (c.getD ((i%5+1)%5) 0) 1)))
def gh (s:List Int):List Int:=tG (i7 s 25) s 25
def br:Nat→Nat×Nat
 | 0=>(1,0)
 | i+1=>((br i).2,(2*(br i).1+3*(br i).2)%5)
def tO (s:List Int):Nat→List Int
 | 0=>(ab0 25 0).set 0 (s.getD 0 0)
 | i+1=>(tO s i).set ((br i).2+5*((2*(br i).1+3*(br i).2)%5)) (n6 (s.getD ((br i).1+5*(br i).2) 0) (((i+1)*(i+2) / 2:Nat)%64:Nat))
def iZ (s:List Int):List Int:=tO s 24
def ze (s:List Int):Nat→List Int
 | 0=>s
 | i+1=>(ze s i).set i (xr ((ze s i).getD i 0) (lC .u64 (s.getD (i-i%5+(i+2)%5) 0) (s.getD (i-i%5+(i+1)%5) 0)))
def te (s:List Int):List Int:=ze s 25
def oN (r:Int):Int:=if r<0∨24≤r then 0 else Hp.getD r.toNat 0
def round (s:List Int) (r:Int):List Int:=(te (iZ (gh s))).set 0 (xr ((te (iZ (gh s))).getD 0 0) (oN r))
def ff (s:List Int):Nat→List Int
 | 0=>s
 | i+1=>round (ff s i) i
def gN:List Int→List Int:=Classical.choose (⟨fun s=>ff s 24,rfl⟩:∃ f:List Int→List Int,f=fun s=>ff s 24)
theorem Bg (s:List Int):gN s=ff s 24:=congrFun (Classical.choose_spec (⟨fun s=>ff s 24,rfl⟩:∃ f:List Int→List Int,f=fun s=>ff s 24)) s
def an3:Ct:= {ps:= [u64,i64],bs:= [],pre:=fun | [.i _,.i k] =>0≤k∧k≤1000 | _=>False,res:=fun | [.i x,.i k] => .ret u64 [] [.i (n6 x (k%64))] | _=>ag}
def apk:Ct:= {ps:= [i64],bs:= [],pre:=fun _=>True,res:=fun | [.i r] => .ret u64 [] [.i (oN r)] | _=>ag}
abbrev xO:BPat:= .cells 212 [YX]
def aos:Ct:= {ps:= [st],bs:= [],pre:=fun _=>True,res:=fun | [.li s] => .ret st [] [.li (gh s)] | _=>ag}
def adi:List Dat→Ann
 | [.li s] => {cut:= [],loop:= [
  (3,[la 45 [(1,.ptr 0 0),(2,.ptr 1 0),(3,.ptr 2 0),(8,st),(9,i64)] [xO,xO,.cells 337 [.arrI 5 .u64]] (fun | [.li s',.i i,.li s'',.li z,.li c] =>s'=s∧s''=s∧0≤i∧i≤25∧c=i7 s i.toNat | _=>False) (fun | [_,.i i,_,_,_] =>(25-i).toNat | _=>0)]),
  (8,[la 45 [(1,.ptr 0 0),(2,.ptr 1 0),(3,.ptr 2 0),(21,i64)] [xO,xO,.cells 337 [.arrI 5 .u64]] (fun | [.i i,.li t,.li z,.li c] =>0≤i∧i≤25∧c=i7 s 25∧t=tG c s i.toNat | _=>False) (fun | [.i i,_,_,_] =>(25-i).toNat | _=>0)])]}
 | _=> {cut:= [],loop:= []}
def an2:Ct:= {ps:= [st],bs:= [],pre:=fun _=>True,res:=fun | [.li s] => .ret st [] [.li (iZ s)] | _=>ag}
def ajU:List Dat→Ann
 | [.li s] => {cut:= [],loop:= [
  (4,[la 42 [(1,.ptr 0 0),(2,.ptr 1 0),(3,.ptr 2 0),(4,i64),(5,i64),(11,i64)] [xO,xO,xO] (fun | [.i x,.i y,.i i,.li s',.li z,.li t] =>s'=s∧0≤i∧i≤24∧x=(br i.toNat).1∧y=(br i.toNat).2∧t=tO s i.toNat | _=>False) (fun | [_,_,.i i,_,_,_] =>(24-i).toNat | _=>0)])]}
 | _=> {cut:= [],loop:= []}
def aoV:Ct:= {ps:= [st],bs:= [],pre:=fun _=>True,res:=fun | [.li s] => .ret st [] [.li (te s)] | _=>ag}
def afz:List Dat→Ann
 | [.li s] => {cut:= [],loop:= [
  (3,[la 36 [(1,.ptr 0 0),(2,.ptr 1 0),(3,.ptr 2 0),(7,i64)] [xO,xO,xO] (fun | [.i i,.li s',.li z,.li t] =>s'=s∧0≤i∧i≤25∧t=ze s i.toNat | _=>False) (fun | [.i i,_,_,_] =>(25-i).toNat | _=>0)])]}
 | _=> {cut:= [],loop:= []}
def aod:Ct:= {ps:= [st,i64],bs:= [],pre:=fun _=>True,res:=fun | [.li s,.i r] => .ret st [] [.li (round s r)] | _=>ag}
def am7:Ct:= {ps:= [st],bs:= [],pre:=fun _=>True,res:=fun | [.li s] => .ret st [] [.li (gN s)] | _=>ag}
def acx:List Dat→Ann
 | [.li s] => {cut:= [],loop:= [
  (2,[la 12 [(1,.ptr 0 0),(2,.ptr 1 0),(4,i64)] [xO,xO] (fun | [.i i,.li t,.li z] =>0≤i∧i≤24∧t=ff s i.toNat | _=>False) (fun | [.i i,_,_] =>(24-i).toNat | _=>0)])]}
 | _=> {cut:= [],loop:= []}
def auH:Prop:=
 ∀ (a b:Int),
 0≤b∧b≤1000→
 0≤dp .u64 (IntKind.u64.wrap b) 63∧
 0≤IntKind.u64.wrap ((64:Int)-dp .u64 (IntKind.u64.wrap b) 63)∧
 iq .u64 (eG .u64 a (dp .u64 (IntKind.u64.wrap b) 63))
 (aL .u64 a (IntKind.u64.wrap ((64:Int)-dp .u64 (IntKind.u64.wrap b) 63)))=
 n6 a (b%(64:Int))
def Wm:ac:=ak agR 238 (aq an3)
def avE:Prop:=
 ∀ (a:Int),
 True→
 bif decide (a<(0:Int))||decide (24≤a) then 0=oN a
 else
 (0≤a∧a<(↑(24:Nat):Int)∧(0:Nat)+a.toNat<(24:Nat))∧
 (0:Nat)+a.toNat<(24:Nat)∧
 (([[CD.int 1],[CD.int 32898],[CD.int 9223372036854808714],[CD.int 9223372039002292224],
 [CD.int 32907],[CD.int 2147483649],[CD.int 9223372039002292353],[CD.int 9223372036854808585],
 [CD.int 138],[CD.int 136],[CD.int 2147516425],[CD.int 2147483658],
 [CD.int 2147516555],[CD.int 9223372036854775947],[CD.int 9223372036854808713],
 [CD.int 9223372036854808579],[CD.int 9223372036854808578],[CD.int 9223372036854775936],
 [CD.int 32778],[CD.int 9223372039002259466],[CD.int 9223372039002292353],
 [CD.int 9223372036854808704],[CD.int 2147483649],[CD.int 9223372039002292232]].getD
 ((0:Nat)+a.toNat) []).getD
 0 (CD.int 0)).toInt=
 oN a
def YL:ac:=ak Wm 214 (aq apk)
abbrev eQ (a:List Int):Prop:=
 a.length=25
abbrev De (a:Int):Prop:=
 ((25:Int)-(a+1)).toNat<((25:Int)-a).toNat
def ahJ:Prop:=
 ∀ (a:List Int),
 eQ a→
 True→
 ((a=a∧
 a=a∧
 (0:Int)≤0∧(0:Int)≤25∧ [0,0,0,0,0] =i7 a 0)∧
 True)∧
 ∀ (b:List Int) (c:Int) (d e f:List Int),
 eQ b→
 eQ d→
 eQ e→
 f.length=5→
 b=a∧d=a∧0≤c∧c≤25∧f=i7 a c.toNat→
 bif decide (c<(25:Int)) then
 (0≤c∧c<(↑(25:Nat):Int)∧c.toNat*1<(25:Nat))∧
 (0≤c∧(0:Int)<(5:Int))∧
 (0≤c%(5:Int)∧c%(5:Int)<(↑(5:Nat):Int))∧
 (c%(5:Int)).toNat*1<(5:Nat)∧
 (0≤c%(5:Int)∧c%(5:Int)<(↑(5:Nat):Int))∧
 (c%(5:Int)).toNat*1<(5:Nat)∧
 iR (c+1)∧
 (b=a∧
 d=a∧
 0≤c+1∧
 c+1≤25∧
 f.set ((c%(5:Int)).toNat*1)
 (wV .u64 (f.getD ((c%(5:Int)).toNat*1) 0) (b.getD (c.toNat*1) 0))=
 i7 a (c+1).toNat)∧
 De c
 else
 (((0:Int)≤0∧
 (0:Int)≤25∧f=i7 a 25∧d=tG f a 0)∧
 True)∧
 ∀ (g:Int) (h i j:List Int),
 eQ h→
 eQ i→
 j.length=5→
 0≤g∧
 g≤25∧j=i7 a 25∧h=tG j a g.toNat→
 bif decide (g<(25:Int)) then
 (0≤g∧(0:Int)<(5:Int))∧
 (0≤g∧g<(↑(25:Nat):Int))∧
 g.toNat*1<(25:Nat)∧
 iR (g%(5:Int)+4)∧
 (0≤g%(5:Int)+4∧(0:Int)<(5:Int))∧
 (0≤(g%(5:Int)+4)%(5:Int)∧(g%(5:Int)+4)%(5:Int)<(↑(5:Nat):Int))∧
 ((g%(5:Int)+4)%(5:Int)).toNat*1<(5:Nat)∧
 iR (g%(5:Int)+1)∧
 (0≤g%(5:Int)+1∧(0:Int)<(5:Int))∧
 (0≤(g%(5:Int)+1)%(5:Int)∧(g%(5:Int)+1)%(5:Int)<(↑(5:Nat):Int))∧
 ((g%(5:Int)+1)%(5:Int)).toNat*1<(5:Nat)∧
 ((0:Int)≤1∧(1:Int)≤1000)∧
 (0≤g∧g<(↑(25:Nat):Int))∧
 g.toNat*1<(25:Nat)∧
 iR (g+1)∧
 (0≤g+1∧
 g+1≤25∧
 j=i7 a 25∧
 h.set (g.toNat*1)
 (wV .u64 (h.getD (g.toNat*1) 0)
 (wV .u64
 (j.getD (((g%(5:Int)+4)%(5:Int)).toNat*1) 0)
 (n6
 (j.getD (((g%(5:Int)+1)%(5:Int)).toNat*1) 0)
 ((1:Int)%(64:Int)))))=
 tG j a (g+1).toNat)∧
 De g
 else h=gh a
def Zq:ac:=ak YL 211 (aq aos)
def ad5:Prop:=
 ∀ (a:List Int),
 eQ a→
 True→
 ((0:Int)≤0∧(0:Int)<(↑(25:Nat):Int))∧
 (0:Nat)<(25:Nat)∧
 ((a=a∧
 (0:Int)≤0∧
 (0:Int)≤24∧
 1=(↑(1:Nat):Int)∧
 0=(↑(0:Nat):Int)∧
 [0,0,0,0,0,0,0,0,0,0,0,0,0,0,
 (0:Int),0,0,0,0,0,0,0,0,0,0].set
 0 (a.getD 0 0)=
 tO a 0)∧
 True)∧
 ∀ (b c d:Int) (e f g:List Int),
 eQ e→
 eQ f→
 eQ g→
 e=a∧
 0≤d∧
 d≤24∧
 b=(↑(br d.toNat).fst:Int)∧
 c=(↑(br d.toNat).snd:Int)∧g=tO a d.toNat→
 bif decide (d<(24:Int)) then
 iR ((2:Int)*b)∧
 iR ((3:Int)*c)∧
 iR ((2:Int)*b+3*c)∧
 ((0:Int)≤2*b+3*c∧(0:Int)<(5:Int))∧
 iR ((5:Int)*(((2:Int)*b+3*c)%(5:Int)))∧
 iR (c+5*(((2:Int)*b+3*c)%(5:Int)))∧
 iR ((5:Int)*c)∧
 iR (b+5*c)∧
 (0≤b+5*c∧b+5*c<(↑(25:Nat):Int))∧
 (b+5*c).toNat*1<(25:Nat)∧
 iR (d+1)∧
 iR (d+2)∧
 iR ((d+1)*(d+2))∧
 (0≤(d+1)*(d+2)∧(0:Int)<(2:Int)∧(d+1)*(d+2)≤IntKind.i64.max)∧
 (0≤(d+1)*(d+2) / 2∧(d+1)*(d+2) / 2≤1000)∧
 (0≤c+5*(((2:Int)*b+3*c)%(5:Int))∧
 c+5*(((2:Int)*b+3*c)%(5:Int))<(↑(25:Nat):Int))∧
 (c+5*(((2:Int)*b+3*c)%(5:Int))).toNat*1<(25:Nat)∧
 iR (d+1)∧
 (e=a∧
 0≤d+1∧
 d+1≤24∧
 c=(↑(br (d+1).toNat).fst:Int)∧
 ((2:Int)*b+3*c)%(5:Int)=
 (↑(br (d+1).toNat).snd:Int)∧
 g.set ((c+5*(((2:Int)*b+3*c)%(5:Int))).toNat*1)
 (n6 (e.getD ((b+5*c).toNat*1) 0)
 ((d+1)*(d+2) / 2%(64:Int)))=
 tO a (d+1).toNat)∧
 ((24:Int)-(d+1)).toNat<((24:Int)-d).toNat
 else g=iZ a
def XM:ac:=ak Zq 212 (aq an2)
def alc:Prop:=
 ∀ (a:List Int),
 eQ a→
 True→
 ((a=a∧(0:Int)≤0∧(0:Int)≤25∧a=ze a 0)∧True)∧
 ∀ (b:Int) (c d e:List Int),
 eQ c→
 eQ d→
 eQ e→
 c=a∧0≤b∧b≤25∧e=ze a b.toNat→
 bif decide (b<(25:Int)) then
 (0≤b∧(0:Int)<(5:Int))∧
 iR (b-b%(5:Int))∧
 (0≤b∧b<(↑(25:Nat):Int))∧
 b.toNat*1<(25:Nat)∧
 iR (b+2)∧
 (0≤b+2∧(0:Int)<(5:Int))∧
 iR (b-b%(5:Int)+(b+2)%(5:Int))∧
 (0≤b-b%(5:Int)+(b+2)%(5:Int)∧b-b%(5:Int)+(b+2)%(5:Int)<(↑(25:Nat):Int))∧
 (b-b%(5:Int)+(b+2)%(5:Int)).toNat*1<(25:Nat)∧
 iR (b+1)∧
 (0≤b+1∧(0:Int)<(5:Int))∧
 iR (b-b%(5:Int)+(b+1)%(5:Int))∧
 (0≤b-b%(5:Int)+(b+1)%(5:Int)∧b-b%(5:Int)+(b+1)%(5:Int)<(↑(25:Nat):Int))∧
 (b-b%(5:Int)+(b+1)%(5:Int)).toNat*1<(25:Nat)∧
 (0≤b∧b<(↑(25:Nat):Int))∧
 b.toNat*1<(25:Nat)∧
 iR (b+1)∧
 (c=a∧
 0≤b+1∧
 b+1≤25∧
 e.set (b.toNat*1)
 (wV .u64 (e.getD (b.toNat*1) 0)
 (lC .u64
 (c.getD ((b-b%(5:Int)+(b+2)%(5:Int)).toNat*1) 0)
 (c.getD ((b-b%(5:Int)+(b+1)%(5:Int)).toNat*1) 0)))=
 ze a (b+1).toNat)∧
 De b
 else e=te a
def Vo:ac:=ak XM 213 (aq aoV)
def adU:Prop:=
 ∀ (a:List Int) (b:Int),
 eQ a→
 True→
 True∧
 True∧
 True∧
 ((0:Int)≤0∧(0:Int)<(↑(25:Nat):Int))∧
 (0:Nat)<(25:Nat)∧
 True∧
 ((0:Int)≤0∧(0:Int)<(↑(25:Nat):Int))∧
 (0:Nat)<(25:Nat)∧
 (te (iZ (gh a))).set 0
 (wV .u64
 ((te (iZ (gh a))).getD 0
 0)
 (oN b))=
 round a b
def YJ:ac:=ak Vo 187 (aq aod)
def ace:Prop:=
 ∀ (a:List Int),
 eQ a→
 True→
 (((0:Int)≤0∧(0:Int)≤24∧a=ff a 0)∧True)∧
 ∀ (b:Int) (c d:List Int),
 eQ c→
 eQ d→
 0≤b∧b≤24∧c=ff a b.toNat→
 bif decide (b<(24:Int)) then
 True∧
 iR (b+1)∧
 (0≤b+1∧
 b+1≤24∧round c b=ff a (b+1).toNat)∧
 ((24:Int)-(b+1)).toNat<((24:Int)-b).toNat
 else c=gN a
def Y7:ac:=ak YJ 147 (aq am7)
theorem ka (l:List Int) (i j:Nat) (x:Int) (hj:j<l.length):(l.set i x).getD j 0=if i=j then x else l.getD j 0:=by
 rw [ay,ay,List.getElem?_set]
 by_cases h:i=j
 ·subst h;simp [hj]
 ·simp [h]
theorem I2 (c s:List Int):∀ n,(tG c s n).length=s.length
 | 0=>rfl
 | n+1=>by rw [tG,df,I2 c s n]
theorem KM (c s:List Int):∀ n j,j<s.length→(tG c s n).getD j 0=if j<n then xr (s.getD j 0) (xr (c.getD ((j%5+4)%5) 0) (n6 (c.getD ((j%5+1)%5) 0) 1)) else s.getD j 0
 | 0,j,h=>by rw [if_neg (by omega)];rfl
 | n+1,j,h=>by
  rw [tG,ka _ _ _ _ (by rw [I2];exact h)]
  by_cases e:n=j
  ·subst e
   rw [if_pos rfl,if_pos (by omega),KM c s n n h,if_neg (by omega)]
  ·rw [if_neg e,KM c s n j h]
   by_cases e2:j<n
   ·rw [if_pos e2,if_pos (by omega)]
   ·rw [if_neg e2,if_neg (by omega)]
theorem Lx (s:List Int):∀ n,(ze s n).length=s.length
 | 0=>rfl
 | n+1=>by rw [ze,df,Lx s n]
theorem JN (s:List Int):∀ n j,j<s.length→(ze s n).getD j 0=if j<n then xr (s.getD j 0) (lC .u64 (s.getD (j-j%5+(j+2)%5) 0) (s.getD (j-j%5+(j+1)%5) 0)) else s.getD j 0
 | 0,j,h=>by rw [if_neg (by omega)];rfl
 | n+1,j,h=>by
  rw [ze,ka _ _ _ _ (by rw [Lx];exact h)]
  by_cases e:n=j
  ·subst e
   rw [if_pos rfl,if_pos (by omega),JN s n n h,if_neg (by omega)]
  ·rw [if_neg e,JN s n j h]
   by_cases e2:j<n
   ·rw [if_pos e2,if_pos (by omega)]
   ·rw [if_neg e2,if_neg (by omega)]
theorem Oc (s:List Int) (x:Nat) (h:x<5):(i7 s 25).getD x 0=xr (xr (xr (xr (xr 0 (s.getD x 0)) (s.getD (x+5) 0)) (s.getD (x+10) 0)) (s.getD (x+15) 0)) (s.getD (x+20) 0):=by
 match x,h with
 | 0,_=>simp [i7]
 | 1,_=>simp [i7]
 | 2,_=>simp [i7]
 | 3,_=>simp [i7]
 | 4,_=>simp [i7]
theorem J9 {l:List Int} {n:Nat} {f:Nat→Int} (hl:l.length=n) (h:∀ j,j<n→l.getD j 0=f j):l=(asg n).map f:=by
 apply awB
 ·simp [hl]
 ·intro i h1 h2
  have:=h i (by omega)
  rw [ay,cH h1] at this
  simpa using this
def GS (s:List Int) (x:Nat):Int:=xr (xr (xr (xr (xr 0 (s.getD x 0)) (s.getD (x+5) 0)) (s.getD (x+10) 0)) (s.getD (x+15) 0)) (s.getD (x+20) 0)
theorem Cj {s:List Int} (hs:s.length=25):gh s=(asg 25).map fun j=>xr (s.getD j 0) (xr (GS s ((j%5+4)%5)) (n6 (GS s ((j%5+1)%5)) 1)):=by
 refine J9 (by unfold gh;rw [I2,hs]) fun j hj=> ?_
 unfold gh
 rw [KM _ _ _ _ (by omega),if_pos hj,Oc _ _ (by omega),Oc _ _ (by omega)]
 rfl
theorem zs {s:List Int} (hs:s.length=25):te s=(asg 25).map fun j=>xr (s.getD j 0) (lC .u64 (s.getD (j-j%5+(j+2)%5) 0) (s.getD (j-j%5+(j+1)%5) 0)):=by
 refine J9 (by unfold te;rw [Lx,hs]) fun j hj=> ?_
 unfold te
 rw [JN _ _ _ (by omega),if_pos hj]
theorem wrap_u64 {n:Int} (h0:0≤n) (h:n≤18446744073709551615):IntKind.u64.wrap n=n:=by
 unfold IntKind.wrap
 simp [IntKind.signed,IntKind.bits]
 omega
theorem amk {k:Nat} (h:k≤1000):dp .u64 (k:Int) 63=((k%64:Nat):Int):=by
 unfold dp
 rw [awF,show (63:Int)=((63:Nat):Int) from rfl,awF,BitVec.toNat_and,awG,awG,show 2 ^ IntKind.bits .u64=18446744073709551616 from by decide,awC (by omega),awC (by omega)]
 have:=Nat.and_two_pow_sub_one_eq_mod k 6
 rw [show (2:Nat) ^ 6-1=63 from by decide,show (2:Nat) ^ 6=64 from by decide] at this
 rw [this]
 exact wrap_u64 (by omega) (by omega)
theorem aqt:auH:=by
 rintro x k ⟨h0,h1⟩
 obtain ⟨i,rfl⟩:∃ i:Nat,k=i:=⟨k.toNat,by omega⟩
 rw [wrap_u64 (by omega) (by omega),amk (by omega),wrap_u64 (by omega) (by omega)]
 exact ⟨by omega,by omega,rfl⟩
theorem abK:(base.with Wm).Ok:=ab c57 (ai am c57 Tryz.func238 (by kernel_rfl) Tryz.call238 (by kernel_rfl) aqt)
theorem apP:avE:=by
 intro n _
 refine aa (fun h=> ?_) fun h=> ?_
 ·simp only [as9,aQ] at h
  unfold oN
  rw [if_pos h]
 ·simp only [ate,aT] at h
  refine ⟨⟨by omega,by omega,by omega⟩,by omega,?_⟩
  unfold oN
  rw [if_neg (by omega),Nat.zero_add]
  obtain ⟨i,rfl⟩:∃ i:Nat,n=i:=⟨n.toNat,by omega⟩
  rw [aA]
  have hi:i<24:=by omega
  clear h
  revert i
  decide
theorem aeP:(base.with YL).Ok:=ab abK (ai am abK Tryz.func214 (by kernel_rfl) Tryz.call214 (by kernel_rfl) apP)
theorem amS:ahJ:=by
 delta ahJ iR eQ De
 intro s hs _
 refine ⟨⟨⟨rfl,rfl,by omega,by omega,rfl⟩,trivial⟩,?_⟩
 rintro s' n s'' z c _ _ _ _ ⟨rfl,rfl,h0,h1,rfl⟩
 obtain ⟨i,rfl⟩:∃ i:Nat,n=i:=⟨n.toNat,by omega⟩
 refine aa (fun h=> ?_) fun h=> ?_
 ·simp only [aQ] at h
  simp only [anR,aA]
  have e:((i:Int)%5).toNat=i%5:=by omega
  rw [e]
  refine ⟨⟨by omega,by omega,by omega⟩,⟨by omega,by omega⟩,⟨by omega,by omega⟩,by omega,⟨by omega,by omega⟩,by omega,⟨by omega,by omega⟩,⟨by trivial,by trivial,by omega,by omega,?_⟩,by omega⟩
  rw [show ((i:Int)+1).toNat=i+1 from by omega]
  rfl
 ·simp only [aT] at h
  have hi:i=25:=by omega
  subst hi
  rw [show ((25:Nat):Int).toNat=25 from rfl]
  have z0:∀ c:List Int,tG c s'' 0=s'':=fun c=>by rw [tG]
  refine ⟨⟨⟨by omega,by omega,Eq.refl (i7 s'' 25),(z0 _).symm⟩,trivial⟩,?_⟩
  have fin:∀ c t,c=i7 s'' 25→t=tG c s'' 25→t=gh s'':=fun c t h1 h2=>by rw [h2,h1];rfl
  generalize i7 s'' 25=cc at *
  rintro n t z c _ _ _ ⟨h0,h1,ec,et⟩
  subst ec et
  obtain ⟨i,rfl⟩:∃ i:Nat,n=i:=⟨n.toNat,by omega⟩
  refine aa (fun h=> ?_) fun h=> ?_
  ·simp only [aQ] at h
   simp only [anR,aA]
   have e1:(((i:Int)%5+4)%5).toNat=(i%5+4)%5:=by omega
   have e2:(((i:Int)%5+1)%5).toNat=(i%5+1)%5:=by omega
   rw [e1,e2]
   refine ⟨⟨by omega,by omega⟩,⟨by omega,by omega⟩,by omega,⟨by omega,by omega⟩,⟨by omega,by omega⟩,⟨by omega,by omega⟩,by omega,⟨by omega,by omega⟩,⟨by omega,by omega⟩,⟨by omega,by omega⟩,by omega,⟨by omega,by omega⟩,⟨by omega,by omega⟩,by omega,⟨by omega,by omega⟩,⟨by omega,by omega,by trivial,?_⟩,by omega⟩
   rw [show ((i:Int)+1).toNat=i+1 from by omega]
   rfl
  ·simp only [aT] at h
   have hi:i=25:=by omega
   subst hi
   exact fin _ _ rfl rfl
theorem ah8:(base.with Zq).Ok:=ab aeP (ai adi aeP Tryz.func211 (by kernel_rfl) Tryz.call211 (by kernel_rfl) amS)
theorem Xw (i:Nat):(br i).1<5∧(br i).2<5:=by
 induction i with
 | zero=>decide
 | succ i ih=>simp only [br];omega
theorem alX:ad5:=by
 delta ad5 iR eQ
 intro s hs _
 refine ⟨⟨by omega,by omega⟩,by omega,⟨⟨rfl,by omega,by omega,rfl,rfl,rfl⟩,trivial⟩,?_⟩
 rintro x y n s' z t _ _ _ ⟨rfl,h0,h1,rfl,rfl,rfl⟩
 obtain ⟨i,rfl⟩:∃ i:Nat,n=i:=⟨n.toNat,by omega⟩
 rw [aA]
 obtain ⟨hx,hy⟩:=Xw i
 refine aa (fun h=> ?_) fun h=> ?_
 ·simp only [aQ] at h
  have hm:(i+1)*(i+2)≤24*25:=Nat.mul_le_mul (by omega) (by omega)
  have em:((i:Int)+1)*((i:Int)+2)=(((i+1)*(i+2):Nat):Int):=by simp
  rw [em]
  generalize hM:(i+1)*(i+2)=M at *
  have emax:IntKind.max .i64=9223372036854775807:=by decide
  rw [emax]
  simp only [anR]
  have e1:(((br i).1:Int)+5*((br i).2:Int)).toNat=(br i).1+5*(br i).2:=by omega
  have e2:(((br i).2:Int)+5*((2*((br i).1:Int)+3*((br i).2:Int))%5)).toNat=(br i).2+5*((2*(br i).1+3*(br i).2)%5):=by
   have e0:(2*((br i).1:Int)+3*((br i).2:Int))=((2*(br i).1+3*(br i).2:Nat):Int):=by omega
   rw [e0]
   generalize 2*(br i).1+3*(br i).2=m at *
   omega
  rw [e1,e2]
  refine ⟨by omega,by omega,by omega,by omega,by omega,by omega,by omega,by omega,by omega,by omega,by omega,by omega,by omega,by omega,by omega,by omega,by omega,by omega,⟨by trivial,by omega,by omega,?_,?_,?_⟩,by omega⟩
  ·rw [show ((i:Int)+1).toNat=i+1 from by omega];rfl
  ·rw [show ((i:Int)+1).toNat=i+1 from by omega]
   show _=(((2*(br i).1+3*(br i).2)%5:Nat):Int)
   have e0:(2*((br i).1:Int)+3*((br i).2:Int))=((2*(br i).1+3*(br i).2:Nat):Int):=by omega
   rw [e0]
   generalize 2*(br i).1+3*(br i).2=m
   omega
  ·rw [show ((i:Int)+1).toNat=i+1 from by omega,show (M:Int) / 2%64=((M / 2%64:Nat):Int) from by omega,← hM]
   rfl
 ·simp only [aT] at h
  have hi:i=24:=by omega
  subst hi
  rfl
theorem ak2:(base.with XM).Ok:=ab ah8 (ai ajU ah8 Tryz.func212 (by kernel_rfl) Tryz.call212 (by kernel_rfl) alX)
theorem apF:alc:=by
 delta alc iR eQ De
 intro s hs _
 refine ⟨⟨⟨rfl,by omega,by omega,rfl⟩,trivial⟩,?_⟩
 rintro n s' z t _ _ _ ⟨rfl,h0,h1,rfl⟩
 obtain ⟨i,rfl⟩:∃ i:Nat,n=i:=⟨n.toNat,by omega⟩
 refine aa (fun h=> ?_) fun h=> ?_
 ·simp only [aQ] at h
  simp only [anR,aA]
  have e1:((i:Int)-(i:Int)%5+((i:Int)+2)%5).toNat=i-i%5+(i+2)%5:=by omega
  have e2:((i:Int)-(i:Int)%5+((i:Int)+1)%5).toNat=i-i%5+(i+1)%5:=by omega
  rw [e1,e2]
  refine ⟨by omega,by omega,by omega,by omega,by omega,by omega,by omega,by omega,by omega,by omega,by omega,by omega,by omega,by omega,by omega,by omega,by omega,⟨by trivial,by omega,by omega,?_⟩,by omega⟩
  rw [show ((i:Int)+1).toNat=i+1 from by omega]
  rfl
 ·simp only [aT] at h
  have hi:i=25:=by omega
  subst hi
  rw [show ((25:Nat):Int).toNat=25 from rfl]
  rfl
theorem abV:(base.with Vo).Ok:=ab ak2 (ai afz ak2 Tryz.func213 (by kernel_rfl) Tryz.call213 (by kernel_rfl) apF)
theorem aq2:adU:=by
 delta adU eQ
 intro s r hs _
 exact ⟨trivial,trivial,trivial,by omega,by omega,trivial,by omega,by omega,rfl⟩
theorem ah3:(base.with YJ).Ok:=ab abV (ai am abV Tryz.func187 (by kernel_rfl) Tryz.call187 (by kernel_rfl) aq2)
theorem arI:ace:=by
 delta ace iR eQ
 intro s hs _
 refine ⟨⟨⟨by omega,by omega,rfl⟩,trivial⟩,?_⟩
 rintro n t z _ _ ⟨h0,h1,rfl⟩
 obtain ⟨i,rfl⟩:∃ i:Nat,n=i:=⟨n.toNat,by omega⟩
 refine aa (fun h=> ?_) fun h=> ?_
 ·simp only [aQ] at h
  refine ⟨trivial,by omega,⟨by omega,by omega,?_⟩,by omega⟩
  rw [show ((i:Int)+1).toNat=i+1 from by omega]
  rfl
 ·simp only [aT] at h
  have hi:i=24:=by omega
  subst hi
  rw [Bg];rfl
theorem adj:(base.with Y7).Ok:=ab ah3 (ai acx ah3 Tryz.func147 (by kernel_rfl) Tryz.call147 (by kernel_rfl) arI)
def H3 (m r:Int):Int:=if r / m%2=1 then r-m else r+m
def Nc:List Int:= [64,32,16,1]
def t6 (r:Int):Nat→Int
 | 0=>r
 | j+1=>H3 (Nc.getD j 0) (t6 r j)
def Qv (r:Int):Int:=if 256≤r*2 then t6 (r*2-256) 4 else r*2
def qV:Nat→Int
 | 0=>1
 | n+1=>Qv (qV n)
def QF (t:Nat):Bool:=decide (qV t%2=1)
def Kl (r:Nat):Nat→List Bool
 | 0=>ab0 64 false
 | j+1=>(Kl r j).set (2 ^ j-1) (QF (j+7*r))
def gW (r:Int):List Bool:=if r<0∨23<r then ab0 64 false else Kl r.toNat 7
def aqp:Ct:= {ps:= [i64],bs:= [],pre:=fun | [.i t] =>0≤t∧t≤1000 | _=>False,res:=fun | [.i t] => .ret .bool [] [.b (QF t.toNat)] | _=>ag}
def Zh:List (Nat×Pat):= [(0,i64),(3,i64),(4,i64),(18,.rd [.int .i64]),(19,i64),(20,i64)]
def acY:List Dat→Ann
 | [.i t] =>⟨[],[(3,[la 39 [(0,i64),(3,i64),(4,i64)] [] (fun | [.i t',.i r,.i i] =>t'=t∧0≤i∧i≤t∧r=qV i.toNat | _=>False) (fun | [.i t',_,.i i] =>(t'-i).toNat | _=>0)])],
   [(9,[la 39 Zh [] (fun _=>True) (fun _=>0)],fun | [.i t0,.i r0,.i i0,.r l0,.i n0,.i _] => [la 39 Zh []
    (fun | [.i t',.i r,.i i,.r l,.i n,.i j] =>t'=t0∧i=i0∧l=l0∧n=n0∧0≤j∧j≤4∧r=t6 r0 j.toNat | _=>False) (fun | [_,_,_,_,_,.i j] =>(4-j).toNat | _=>0)] | _=> [])]⟩
 | _=> {cut:= [],loop:= []}
abbrev b64:Pat:= .agg [.arrB 64]
abbrev q27:BPat:= .cells 341 [.arrB 64]
def anz:Ct:= {ps:= [i64],bs:= [],pre:=fun _=>True,res:=fun | [.i r] => .ret b64 [] [.lb (gW r)] | _=>ag}
def ak3:List Dat→Ann
 | [.i r] =>⟨[],[(6,[la 29 [(0,i64),(2,.ptr 0 0),(3,.ptr 1 0),(4,i64),(5,i64)] [q27,q27] (fun | [.i r',.i p,.i j,.lb z,.lb c] =>r'=r∧0≤r∧r≤23∧0≤j∧j≤7∧p=2 ^ j.toNat∧c=Kl r.toNat j.toNat | _=>False) (fun | [_,_,.i j,_,_] =>(7-j).toNat | _=>0)])],[]⟩
 | _=> {cut:= [],loop:= []}
abbrev AP:LD:=
 [[.int 64],[.int 32],[.int 16],[.int 1]]
abbrev tP (a:Int)(b:LD):Int:=
 ((b.getD a.toNat []).getD 0 (.int 0)).toInt
def acg:Prop:=
 ∀ (a:Int),
 0≤a∧a≤1000→
 ((a=a∧(0:Int)≤0∧0≤a∧1=qV 0)∧True)∧
 ∀ (b c d:Int),
 b=a∧0≤d∧d≤a∧c=qV d.toNat→
 bif decide (d<b) then
 iR (c*2)∧
 bif decide (256≤c*2) then
 iR (c*2-(256:Int))∧
 ((4:Nat)≤9223372036854775807→
 ((b=b∧
 d=d∧
 AP=AP∧
 (↑(4:Nat):Int)=(↑(4:Nat):Int)∧
 (0:Int)≤0∧
 (0:Int)≤4∧c*2-256=t6 (c*2-(256:Int)) 0)∧
 True)∧
 ∀ (e f g:Int) (h:LD) (i j:Int),
 lM h→
 e=b∧
 g=d∧
 h=AP∧
 i=(↑(4:Nat):Int)∧0≤j∧j≤4∧f=t6 (c*2-(256:Int)) j.toNat→
 bif decide (j<i) then
 bR j h∧
 j.toNat<h.length∧
 (0≤f∧(0:Int)<tP j h∧f≤IntKind.i64.max)∧
 (0≤f / tP j h∧(0:Int)<(2:Int))∧
 bif decide (f / tP j h%(2:Int)=1) then
 iR (f-tP j h)∧
 iR (j+1)∧
 (e=b∧
 g=d∧
 h=AP∧
 i=(↑(4:Nat):Int)∧
 0≤j+1∧
 j+1≤4∧
 f-tP j h=
 t6 (c*2-(256:Int)) (j+1).toNat)∧
 ((4:Int)-(j+1)).toNat<((4:Int)-j).toNat
 else
 iR (f+tP j h)∧
 iR (j+1)∧
 (e=b∧
 g=d∧
 h=AP∧
 i=(↑(4:Nat):Int)∧
 0≤j+1∧
 j+1≤4∧
 f+tP j h=
 t6 (c*2-(256:Int)) (j+1).toNat)∧
 ((4:Int)-(j+1)).toNat<((4:Int)-j).toNat
 else
 iR (g+1)∧
 (e=a∧0≤g+1∧g+1≤a∧f=qV (g+1).toNat)∧
 (e-(g+1)).toNat<(b-d).toNat)
 else
 iR (d+1)∧
 (b=a∧0≤d+1∧d+1≤a∧c*2=qV (d+1).toNat)∧
 (b-(d+1)).toNat<(b-d).toNat
 else (0≤c∧(0:Int)<(2:Int))∧decide (c%(2:Int)=1)=QF a.toNat
def X1:ac:=ak Y7 239 (aq aqp)
def ae4:Prop:=
 ∀ (a:Int),
 True→
 bif decide (a<(0:Int))||decide ((23:Int)<a) then ab0 64 false=gW a
 else
 ((a=a∧
 0≤a∧
 a≤23∧
 (0:Int)≤0∧
 (0:Int)≤7∧(1:Int)=2 ^ (0:Nat)∧ab0 64 false=Kl a.toNat 0)∧
 True)∧
 ∀ (b c d:Int) (e f:List Bool),
 e.length=64→
 f.length=64→
 b=a∧0≤a∧a≤23∧0≤d∧d≤7∧c=2 ^ d.toNat∧f=Kl a.toNat d.toNat→
 bif decide (d<(7:Int)) then
 iR (c-(1:Int))∧
 iR ((7:Int)*b)∧
 iR (d+7*b)∧
 (0≤d+7*b∧d+7*b≤1000)∧
 (0≤c-(1:Int)∧c-(1:Int)<(↑(64:Nat):Int))∧
 (c-(1:Int)).toNat*1<(64:Nat)∧
 iR (c*2)∧
 iR (d+1)∧
 (b=a∧
 0≤a∧
 a≤23∧
 0≤d+1∧
 d+1≤7∧
 c*2=2 ^ (d+1).toNat∧
 f.set ((c-(1:Int)).toNat*1) (QF (d+7*b).toNat)=
 Kl a.toNat (d+1).toNat)∧
 ((7:Int)-(d+1)).toNat<((7:Int)-d).toNat
 else f=gW a
def Y8:ac:=ak X1 224 (aq anz)
theorem ak4:∀ r:Fin 256,0≤Qv (r.val:Int)∧Qv (r.val:Int)≤255:=by decide+kernel
theorem aow (n:Nat):0≤qV n∧qV n≤255:=by
 induction n with
 | zero=>decide
 | succ n ih=>
  have:=ak4 ⟨(qV n).toNat,by omega⟩
  rw [show (((⟨(qV n).toNat,by omega⟩:Fin 256).val:Nat):Int)=qV n from by show (((qV n).toNat:Nat):Int)=_;omega] at this
  exact this
theorem akV:∀ r:Fin 128,∀ j:Fin 5,0≤t6 (2*(r.val:Int)) j.val∧t6 (2*(r.val:Int)) j.val≤255:=by decide+kernel
theorem amK {r:Int} {j:Nat} (h0:256≤r*2) (h1:r≤255) (hj:j≤4):0≤t6 (r*2-256) j∧t6 (r*2-256) j≤255:=by
 have:=akV ⟨(r-128).toNat,by omega⟩ ⟨j,by omega⟩
 rw [show 2*(((⟨(r-128).toNat,by omega⟩:Fin 128).val:Nat):Int)=r*2-256 from by show 2*(((r-128).toNat:Nat):Int)=_;omega] at this
 exact this
theorem aga:∀ j:Fin 4,(((([[CD.int 64],[CD.int 32],[CD.int 16],[CD.int 1]] :LD).getD j.val []).getD 0 (CD.int 0)).toInt=Nc.getD j.val 0)∧0<Nc.getD j.val 0∧Nc.getD j.val 0≤64:=by decide
theorem aom:acg:=by
 delta acg lM iR bR AP tP
 rintro t ⟨ht0,ht1⟩
 refine ⟨⟨⟨rfl,by omega,ht0,rfl⟩,trivial⟩,?_⟩
 rintro t' r i ⟨e1,h0,h1,e2⟩
 subst e1 e2
 obtain ⟨b0,b1⟩:=aow i.toNat
 generalize hr:qV i.toNat=r at *
 have emax:IntKind.max .i64=9223372036854775807:=by decide
 refine aa (fun h=>⟨⟨by omega,by omega⟩,aa (fun h2=> ?_) fun h2=> ?_⟩) fun h=> ?_
 ·simp only [aQ] at h h2
  refine ⟨⟨by omega,by omega⟩,fun _=>⟨⟨⟨rfl,rfl,rfl,rfl,by omega,by omega,rfl⟩,trivial⟩,?_⟩⟩
  rintro t2 q i2 l n j _ ⟨e1,e2,e3,e4,h3,h4,e5⟩
  subst e1 e2 e3 e4 e5
  obtain ⟨k,rfl⟩:∃ k:Nat,j=k:=⟨j.toNat,by omega⟩
  rw [aA]
  obtain ⟨c0,c1⟩:=amK h2 b1 (show k≤4 by omega)
  refine aa (fun h5=> ?_) fun h5=> ?_
  ·simp only [aQ] at h5
   have hk:k<4:=by omega
   obtain ⟨m1,m2,m3⟩:=aga ⟨k,hk⟩
   simp only at m1 m2 m3
   rw [m1,emax,show ((k:Int)+1).toNat=k+1 from by omega]
   have fs:t6 (r*2-256) (k+1)=H3 (Nc.getD k 0) (t6 (r*2-256) k):=rfl
   have hd:0≤t6 (r*2-256) k / Nc.getD k 0:=ase c0 (by omega)
   refine ⟨⟨by omega,by show (k:Int)<4;omega⟩,hk,⟨c0,m2,by omega⟩,⟨hd,by omega⟩,aa (fun h6=> ?_) fun h6=> ?_⟩
   ·refine ⟨⟨by omega,by omega⟩,⟨by omega,by omega⟩,⟨rfl,rfl,rfl,rfl,by omega,by omega,?_⟩,by omega⟩
    rw [fs,H3,if_pos (au h6)]
   ·refine ⟨⟨by omega,by omega⟩,⟨by omega,by omega⟩,⟨rfl,rfl,rfl,rfl,by omega,by omega,?_⟩,by omega⟩
    rw [fs,H3,if_neg (aw h6)]
  ·simp only [aT] at h5
   have hk:k=4:=by omega
   subst hk
   refine ⟨⟨by omega,by omega⟩,⟨rfl,by omega,by omega,?_⟩,by omega⟩
   rw [show (i2+1).toNat=i2.toNat+1 from by omega,qV,hr,Qv,if_pos h2]
 ·simp only [aQ,aT] at h h2
  refine ⟨⟨by omega,by omega⟩,⟨rfl,by omega,by omega,?_⟩,by omega⟩
  rw [show (i+1).toNat=i.toNat+1 from by omega,qV,hr,Qv,if_neg h2]
 ·simp only [aT] at h
  refine ⟨⟨b0,by omega⟩,?_⟩
  unfold QF
  rw [← hr,show i=t' from by omega]
theorem aeL:(base.with X1).Ok:=ab adj (ai acY adj Tryz.func239 (by kernel_rfl) Tryz.call239 (by kernel_rfl) aom)
theorem arl:ae4:=by
 delta ae4 iR
 intro r _
 refine aa (fun h=> ?_) fun h=> ?_
 ·simp only [as9,aQ] at h
  unfold gW
  rw [if_pos h];try rfl
 ·simp only [ate,aT] at h
  refine ⟨⟨⟨rfl,by omega,by omega,by omega,by omega,rfl,rfl⟩,trivial⟩,?_⟩
  rintro r' p n z c _ _ ⟨e1,h0,h1,h2,h3,e2,e3⟩
  subst e1 e2 e3
  obtain ⟨j,rfl⟩:∃ j:Nat,n=j:=⟨n.toNat,by omega⟩
  rw [aA]
  refine aa (fun h5=> ?_) fun h5=> ?_
  ·simp only [aQ] at h5
   have hj:j<7:=by omega
   have hp:∀ j:Fin 7,(1:Int)≤2 ^ j.val∧(2:Int) ^ j.val≤64∧((2:Int) ^ j.val-1).toNat=2 ^ j.val-1∧(2:Int) ^ (j.val+1)=2 ^ j.val*2:=by decide
   obtain ⟨p1,p2,p3,p4⟩:=hp ⟨j,hj⟩
   simp only at p1 p2 p3 p4
   rw [show ((j:Int)+1).toNat=j+1 from by omega,p3,anR]
   refine ⟨by omega,by omega,by omega,by omega,by omega,by omega,by omega,by omega,⟨rfl,by omega,by omega,by omega,by omega,p4.symm,?_⟩,by omega⟩
   rw [Kl,show ((j:Int)+7*r').toNat=j+7*r'.toNat from by omega]
  ·simp only [aT] at h5
   have hj:j=7:=by omega
   subst hj
   unfold gW
   rw [if_neg (by omega)]
theorem ake:(base.with Y8).Ok:=ab aeL (ai ak3 aeL Tryz.func224 (by kernel_rfl) Tryz.call224 (by kernel_rfl) arl)
def bt (w:Int) (z:Nat):Bool:=w.toNat.testBit z
def Ig (w:Int):List Bool:=(asg 64).map (bt w)
def ap (w:Int):Prop:=0≤w∧w<18446744073709551616
theorem T9:∀ r:Fin 24,gW (r.val:Int)=Ig (oN (r.val:Int)):=by decide+kernel
theorem Vc (r:Int):gW r=Ig (oN r):=by
 by_cases h:r<0∨23<r
 ·unfold gW oN
  rw [if_pos h,if_pos (by omega)]
  decide+kernel
 ·have:=T9 ⟨r.toNat,by omega⟩
  rw [show (((⟨r.toNat,by omega⟩:Fin 24).val:Nat):Int)=r from by show ((r.toNat:Nat):Int)=r;omega] at this
  exact this
theorem gq (n:Int):IntKind.u64.wrap n=n%18446744073709551616:=by
 simp [IntKind.wrap,IntKind.signed,IntKind.bits]
theorem v5 {a:Int} (h:ap a):(abN 64 a).toNat=a.toNat:=by
 obtain ⟨n,rfl⟩:∃ n:Nat,a=n:=⟨a.toNat,by have:=h.1;omega⟩
 have:=h.2
 rw [awF,awG,aA]
 exact awC (by omega)
theorem au5 {a b:Int} (ha:ap a) (hb:ap b):xr a b=((a.toNat ^^^ b.toNat:Nat):Int):=by
 have h1:(abN 64 a ^^^ abN 64 b).toNat=a.toNat ^^^ b.toNat:=by rw [BitVec.toNat_xor,v5 ha,v5 hb]
 have h2:=(abN 64 a ^^^ abN 64 b).isLt
 show IntKind.u64.wrap ((abN 64 a ^^^ abN 64 b).toNat:Int)=_
 rw [gq,h1]
 rw [h1] at h2
 omega
theorem rq {a b:Int} (ha:ap a) (hb:ap b) (z:Nat):bt (xr a b) z=(bt a z !=bt b z):=by
 unfold bt
 rw [au5 ha hb,aA,Nat.testBit_xor]
theorem ahY (v:BitVec 64):IntKind.u64.wrap (v.toNat:Int)=(v.toNat:Int):=by
 have:=v.isLt
 rw [gq]
 omega
theorem Ke (v:BitVec 64):ap (IntKind.u64.wrap (v.toNat:Int)):=by
 have:=v.isLt
 rw [ahY]
 exact ⟨by omega,by omega⟩
theorem Zf (v:BitVec 64) (z:Nat):bt (IntKind.u64.wrap (v.toNat:Int)) z=v.getLsbD z:=by
 unfold bt
 rw [ahY,aA,awK]
theorem w9 {a:Int} (h:ap a) (z:Nat):(abN 64 a).getLsbD z=bt a z:=by
 unfold bt
 rw [← awK,v5 h]
theorem Qf (a b:Int):ap (lC .u64 a b):=Ke (abN 64 a &&& ~~~abN 64 b)
theorem Sg {a b:Int} (ha:ap a) (hb:ap b) {z:Nat} (hz:z<64):bt (lC .u64 a b) z=(bt a z&&!bt b z):=by
 show bt (IntKind.u64.wrap ((abN 64 a &&& ~~~abN 64 b).toNat:Int)) z=_
 rw [Zf,BitVec.getLsbD_and,BitVec.getLsbD_not,w9 ha,w9 hb,decide_eq_true hz,asD]
theorem zE (a b:Int):ap (iq .u64 a b):=Ke (abN 64 a |||abN 64 b)
theorem ap0 {a b:Int} (ha:ap a) (hb:ap b) (z:Nat):bt (iq .u64 a b) z=(bt a z||bt b z):=by
 show bt (IntKind.u64.wrap ((abN 64 a |||abN 64 b).toNat:Int)) z=_
 rw [Zf,BitVec.getLsbD_or,w9 ha,w9 hb]
theorem Pg (n s:Nat) (hs:s≤64):eG .u64 (n:Int) (s:Int)=((n*2 ^ s%18446744073709551616:Nat):Int):=by
 unfold eG
 rw [gq,show min (s:Int).toNat (IntKind.bits .u64)=s from by show min (s:Int).toNat 64=s;omega]
 have:(n:Int)*2 ^ s=((n*2 ^ s:Nat):Int):=by rw [awE,awD];rfl
 rw [this]
 rfl
theorem aoX (n s:Nat) (hs:s≤64):aL .u64 (n:Int) (s:Int)=((n / 2 ^ s:Nat):Int):=by
 unfold aL
 rw [show min (s:Int).toNat (IntKind.bits .u64)=s from by show min (s:Int).toNat 64=s;omega]
 have:(2:Int) ^ s=((2 ^ s:Nat):Int):=by rw [awD];rfl
 rw [this,Int.fdiv_eq_ediv_of_nonneg _ (awL _),awI]
theorem Nz (x s:Int):ap (n6 x s):=zE _ _
theorem Tm {x:Int} (hx:ap x) {s z:Nat} (hs:s<64) (hz:z<64):bt (n6 x (s:Int)) z=bt x ((z+(64-s))%64):=by
 obtain ⟨n,rfl⟩:∃ n:Nat,x=n:=⟨x.toNat,by have:=hx.1;omega⟩
 have hn:n<2 ^ 64:=by have:=hx.2;omega
 unfold n6
 rw [Pg n s (by omega),show (64:Int)-(s:Int)=((64-s:Nat):Int) from by omega,aoX n (64-s) (by omega)]
 have w1:ap ((n*2 ^ s%18446744073709551616:Nat):Int):=by constructor <;>omega
 have hd:n / 2 ^ (64-s)≤n:=Nat.div_le_self _ _
 have w2:ap ((n / 2 ^ (64-s):Nat):Int):=⟨awL _,Int.ofNat_lt.2 (Nat.lt_of_le_of_lt hd hn)⟩
 rw [ap0 w1 w2]
 unfold bt
 rw [aA,aA,aA,show (18446744073709551616:Nat)=2 ^ 64 from by decide,Nat.testBit_mod_two_pow,decide_eq_true hz,asD,← awH,Nat.testBit_shiftLeft,← Nat.shiftRight_eq_div_pow,Nat.testBit_shiftRight]
 by_cases h:s≤z
 ·have e:n.testBit (64-s+z)=false:=Nat.testBit_lt_two_pow (Nat.lt_of_lt_of_le hn (asH (by decide) (by omega)))
  rw [decide_eq_true (show z≥s from h),e,asD,Bool.or_false,show (z+(64-s))%64=z-s from by omega]
 ·rw [decide_eq_false (show ¬ z≥s from h),Bool.false_and,Bool.false_or,show (z+(64-s))%64=64-s+z from by omega]
abbrev xU:Pat:= .agg [.arrB 1600]
abbrev bz:BPat:= .cells 344 [.arrB 1600]
abbrev qP:BPat:= .cells 211 [YX]
abbrev BF:BPat:= .cells 342 [.arrB 320]
def hid {α:Type} (x:α):α:=Classical.choose (⟨x,rfl⟩:∃ y:α,y=x)
theorem al {α:Type} (x:α):hid x=x:=Classical.choose_spec (⟨x,rfl⟩:∃ y:α,y=x)
def eh (f:Nat→Nat) (g:Nat→Bool) (l:List Bool):Nat→List Bool
 | 0=>l
 | n+1=>(eh f g l n).set (f n) (g n)
def dt (f:Nat→Nat→Nat) (g:Nat→Nat→Bool) (m:Nat) (l:List Bool):Nat→List Bool
 | 0=>l
 | n+1=>eh (f n) (g n) (dt f g m l n) m
def i4 (f:Nat→Nat→Nat→Nat) (g:Nat→Nat→Nat→Bool) (k m:Nat) (l:List Bool):Nat→List Bool
 | 0=>l
 | n+1=>dt (f n) (g n) m (i4 f g k m l n) k
def zB:List Bool:=ab0 1600 false
def aG (x y z:Nat):Nat:=x*320+y*64+z
def gb (a:List Bool) (k:Nat):Bool:=a.getD k false
def tC (a:List Bool) (x y z:Nat):Bool:=gb a (aG x y z) !=(!gb a (aG ((x+1)%5) y z)&&gb a (aG ((x+2)%5) y z))
def yl (a:List Bool):List Bool:=i4 aG (tC a) 5 64 zB 5
def AN (t l:List Bool) (i:Nat):List Bool:=t.take i++l++t.drop (i+64)
def FH (a:List Bool) (i:Nat):List Bool:=(a.drop i).take 64
def BJ (a:List Bool) (x:Nat) (t:List Bool):Nat→List Bool
 | 0=>t
 | n+1=>AN (BJ a x t n) (FH a (x*320+n*64)) (n*320+(2*x+3*n)%5*64)
def Dk (a:List Bool) (t:List Bool):Nat→List Bool
 | 0=>t
 | n+1=>BJ a n (Dk a t n) 5
def KW (a:List Bool):List Bool:=Dk a zB 5
def Dc (a:List Bool) (t:Nat) (l:List Bool) (n:Nat):List Bool:=
 eh (fun z=>aG (br t).1 (br t).2 ((z+(t+1)*(t+2) / 2)%64)) (fun z=>gb a (aG (br t).1 (br t).2 z)) l n
def tI (a:List Bool):Nat→List Bool
 | 0=>AN zB (FH a 0) 0
 | n+1=>Dc a n (tI a n) 64
def hZ (a:List Bool):List Bool:=tI a 24
def gM (a:List Bool) (x z:Nat):Nat→Int
 | 0=>0
 | n+1=>if gb a (aG x n z)=true then gM a x z n+1 else gM a x z n
def CB (a:List Bool):List Bool:=dt (fun x z=>x*64+z) (fun x z=>decide (gM a x z 5%2=1)) 64 (ab0 320 false) 5
def tD (a p:List Bool) (x y z:Nat):Bool:=gb a (aG x y z) !=(gb p ((x+4)%5*64+z) !=gb p ((x+1)%5*64+(z+63)%64))
def qz (a:List Bool):List Bool:=i4 aG (tD a (CB a)) 5 64 zB 5
def sr (a c:List Bool):Nat→List Bool
 | 0=>a
 | n+1=>(sr a c n).set n (gb (sr a c n) n !=gb c n)
def wn (a:List Bool) (r:Int):List Bool:=sr (yl (KW (hZ (qz a)))) (gW r) 64
def kp (s:List Int):List Bool:=dt (fun i z=>aG (i%5) (i / 5) z) (fun i z=>bt (s.getD i 0) z) 64 zB 25
def wv (a:List Bool) (i:Nat):Nat→Nat
 | 0=>0
 | n+1=>2*wv a i n+(if gb a (aG (i%5) (i / 5) (63-n))=true then 1 else 0)
def xN (a:List Bool):Nat→List Int
 | 0=>ab0 25 0
 | n+1=>(xN a n).set n (wv a n 64:Nat)
def yU (a:List Bool):List Int:=hid (xN a 25)
def tU (a:List Bool):Nat→List Bool
 | 0=>a
 | n+1=>wn (tU a n) n
def p6 (s:List Int):List Int:=hid (yU (tU (kp s) 24))
def af (s:List Int):Prop:=∀ j,ap (s.getD j 0)
def co:List (Nat×Pat):= [(1,.ptr 0 0),(2,.ptr 1 0),(3,.ptr 2 0),(4,i64)]
def kf:List Dat→Prop:=fun _=>True
def jS:List Dat→Nat:=fun _=>0
def aqk:Ct:= {ps:= [xU],bs:= [],pre:=fun _=>True,res:=fun | [.lb a] => .ret xU [] [.lb (yl a)] | _=>ag}
def ah6:List Dat→Ann
 | [.lb a] =>⟨[],[(3,[la 56 co [bz,bz,bz] (fun | [.i x,.lb a',.lb _,.lb t] =>a'=a∧0≤x∧x≤5∧t=i4 aG (tC a) 5 64 zB x.toNat | _=>False) (fun | [.i x,_,_,_] =>(5-x).toNat | _=>0)])],
  [(6,[la 56 (co++ [(5,i64)]) [bz,bz,bz] kf jS],fun | [.i x0,.i _,.lb a0,.lb _,.lb t0] => [la 56 (co++ [(5,i64)]) [bz,bz,bz]
   (fun | [.i x,.i y,.lb a',.lb _,.lb t] =>x=x0∧a'=a0∧0≤y∧y≤5∧t=dt (aG x0.toNat) (tC a0 x0.toNat) 64 t0 y.toNat | _=>False) (fun | [_,.i y,_,_,_] =>(5-y).toNat | _=>0)] | _=> []),
   (9,[la 56 (co++ [(5,i64),(6,i64)]) [bz,bz,bz] kf jS],fun | [.i x0,.i y0,.i _,.lb a0,.lb _,.lb t0] => [la 56 (co++ [(5,i64),(6,i64)]) [bz,bz,bz]
   (fun | [.i x,.i y,.i z,.lb a',.lb _,.lb t] =>x=x0∧y=y0∧a'=a0∧0≤z∧z≤64∧t=eh (aG x0.toNat y0.toNat) (tC a0 x0.toNat y0.toNat) t0 z.toNat | _=>False) (fun | [_,_,.i z,_,_,_] =>(64-z).toNat | _=>0)] | _=> [])]⟩
 | _=> {cut:= [],loop:= []}
def apr:Ct:= {ps:= [xU],bs:= [],pre:=fun _=>True,res:=fun | [.lb a] => .ret xU [] [.lb (KW a)] | _=>ag}
def adT:List Dat→Ann
 | [.lb a] =>⟨[],[(3,[la 30 co [bz,bz,bz] (fun | [.i x,.lb a',.lb _,.lb t] =>a'=a∧0≤x∧x≤5∧t=Dk a zB x.toNat | _=>False) (fun | [.i x,_,_,_] =>(5-x).toNat | _=>0)])],
  [(6,[la 30 (co++ [(5,i64)]) [bz,bz,bz] kf jS],fun | [.i x0,.i _,.lb a0,.lb _,.lb t0] => [la 30 (co++ [(5,i64)]) [bz,bz,bz]
   (fun | [.i x,.i y,.lb a',.lb _,.lb t] =>x=x0∧a'=a0∧0≤y∧y≤5∧t=BJ a0 x0.toNat t0 y.toNat | _=>False) (fun | [_,.i y,_,_,_] =>(5-y).toNat | _=>0)] | _=> [])]⟩
 | _=> {cut:= [],loop:= []}
def aqC:Ct:= {ps:= [xU],bs:= [],pre:=fun _=>True,res:=fun | [.lb a] => .ret xU [] [.lb (hZ a)] | _=>ag}
def ac4:List Dat→Ann
 | [.lb a] =>⟨[],[(5,[la 51 (co++ [(5,i64),(6,i64)]) [bz,bz,bz] (fun | [.i x,.i y,.i t,.lb a',.lb _,.lb l] =>a'=a∧0≤t∧t≤24∧x=(br t.toNat).1∧y=(br t.toNat).2∧l=tI a t.toNat | _=>False) (fun | [_,_,.i t,_,_,_] =>(24-t).toNat | _=>0)])],
  [(8,[la 51 (co++ [(5,i64),(6,i64),(7,i64)]) [bz,bz,bz] kf jS],fun | [.i x0,.i y0,.i t0,.i _,.lb a0,.lb _,.lb l0] => [la 51 (co++ [(5,i64),(6,i64),(7,i64)]) [bz,bz,bz]
   (fun | [.i x,.i y,.i t,.i z,.lb a',.lb _,.lb l] =>x=x0∧y=y0∧t=t0∧a'=a0∧0≤z∧z≤64∧l=Dc a0 t0.toNat l0 z.toNat | _=>False) (fun | [_,_,_,.i z,_,_,_] =>(64-z).toNat | _=>0)] | _=> [])]⟩
 | _=> {cut:= [],loop:= []}
def aoq:Ct:= {ps:= [xU],bs:= [],pre:=fun _=>True,res:=fun | [.lb a] => .ret xU [] [.lb (qz a)] | _=>ag}
def DL:List (Nat×Pat):= [(1,.ptr 0 0),(2,.ptr 1 0),(3,.ptr 2 0),(8,.ptr 3 0),(9,i64)]
def afw:List Dat→Ann
 | [.lb a] =>⟨[],[(3,[la 88 co [bz,bz,BF] (fun | [.i x,.lb a',.lb _,.lb p] =>a'=a∧0≤x∧x≤5∧p=dt (fun x z=>x*64+z) (fun x z=>decide (gM a x z 5%2=1)) 64 (ab0 320 false) x.toNat | _=>False) (fun | [.i x,_,_,_] =>(5-x).toNat | _=>0)]),
   (17,[la 88 DL [bz,bz,BF,bz] (fun | [.i x,.lb a',.lb _,.lb p,.lb t] =>a'=a∧p=CB a∧0≤x∧x≤5∧t=i4 aG (tD a p) 5 64 zB x.toNat | _=>False) (fun | [.i x,_,_,_,_] =>(5-x).toNat | _=>0)])],
  [(6,[la 88 (co++ [(5,i64)]) [bz,bz,BF] kf jS],fun | [.i x0,.i _,.lb a0,.lb _,.lb p0] => [la 88 (co++ [(5,i64)]) [bz,bz,BF]
   (fun | [.i x,.i z,.lb a',.lb _,.lb p] =>x=x0∧a'=a0∧0≤z∧z≤64∧p=eh (fun z=>x0.toNat*64+z) (fun z=>decide (gM a0 x0.toNat z 5%2=1)) p0 z.toNat | _=>False) (fun | [_,.i z,_,_,_] =>(64-z).toNat | _=>0)] | _=> []),
   (10,[la 88 (co++ [(5,i64),(6,i64),(7,i64)]) [bz,bz,BF] kf jS],fun | [.i x0,.i z0,.i _,.i _,.lb a0,.lb _,.lb p0] => [la 88 (co++ [(5,i64),(6,i64),(7,i64)]) [bz,bz,BF]
   (fun | [.i x,.i z,.i n,.i y,.lb a',.lb _,.lb p] =>x=x0∧z=z0∧a'=a0∧p=p0∧0≤y∧y≤5∧n=gM a0 x0.toNat z0.toNat y.toNat∧0≤n∧n≤y | _=>False) (fun | [_,_,_,.i y,_,_,_] =>(5-y).toNat | _=>0)] | _=> []),
   (20,[la 88 (DL++ [(10,i64)]) [bz,bz,BF,bz] kf jS],fun | [.i x0,.i _,.lb a0,.lb _,.lb p0,.lb t0] => [la 88 (DL++ [(10,i64)]) [bz,bz,BF,bz]
   (fun | [.i x,.i y,.lb a',.lb _,.lb p,.lb t] =>x=x0∧a'=a0∧p=p0∧0≤y∧y≤5∧t=dt (aG x0.toNat) (tD a0 p0 x0.toNat) 64 t0 y.toNat | _=>False) (fun | [_,.i y,_,_,_,_] =>(5-y).toNat | _=>0)] | _=> []),
   (23,[la 88 (DL++ [(10,i64),(11,i64)]) [bz,bz,BF,bz] kf jS],fun | [.i x0,.i y0,.i _,.lb a0,.lb _,.lb p0,.lb t0] => [la 88 (DL++ [(10,i64),(11,i64)]) [bz,bz,BF,bz]
   (fun | [.i x,.i y,.i z,.lb a',.lb _,.lb p,.lb t] =>x=x0∧y=y0∧a'=a0∧p=p0∧0≤z∧z≤64∧t=eh (aG x0.toNat y0.toNat) (tD a0 p0 x0.toNat y0.toNat) t0 z.toNat | _=>False) (fun | [_,_,.i z,_,_,_,_] =>(64-z).toNat | _=>0)] | _=> [])]⟩
 | _=> {cut:= [],loop:= []}
def aoa:Ct:= {ps:= [xU,i64],bs:= [],pre:=fun _=>True,res:=fun | [.lb a,.i r] => .ret xU [] [.lb (wn a r)] | _=>ag}
def adr:List Dat→Ann
 | [.lb a,.i r] =>⟨[],[(4,[la 32 [(2,.ptr 0 0),(4,.ptr 1 0),(5,.ptr 2 0),(6,i64)] [bz,bz,q27] (fun | [.i z,.lb t,.lb _,.lb c] =>c=gW r∧0≤z∧z≤64∧t=sr (yl (KW (hZ (qz a)))) (gW r) z.toNat | _=>False) (fun | [.i z,_,_,_] =>(64-z).toNat | _=>0)])],[]⟩
 | _=> {cut:= [],loop:= []}
def anV:Ct:= {ps:= [st],bs:= [],pre:=fun | [.li s] =>af s | _=>False,res:=fun | [.li s] => .ret xU [] [.lb (kp s)] | _=>ag}
def ahU:List Dat→Ann
 | [.li s] =>⟨[],[(3,[la 33 co [qP,bz,bz] (fun | [.i i,.li s',.lb _,.lb t] =>s'=s∧0≤i∧i≤25∧t=dt (fun i z=>aG (i%5) (i / 5) z) (fun i z=>bt (s.getD i 0) z) 64 zB i.toNat | _=>False) (fun | [.i i,_,_,_] =>(25-i).toNat | _=>0)])],
  [(7,[la 33 (co++ [(5,u64),(6,i64)]) [qP,bz,bz] kf jS],fun | [.i i0,.i v0,.i _,.li s0,.lb _,.lb t0] => [la 33 (co++ [(5,u64),(6,i64)]) [qP,bz,bz]
   (fun | [.i i,.i v,.i z,.li s,.lb _,.lb t] =>i=i0∧s=s0∧0≤z∧z≤64∧v=v0 / 2 ^ z.toNat∧t=eh (fun z=>aG (i0.toNat%5) (i0.toNat / 5) z) (fun z=>bt v0 z) t0 z.toNat | _=>False) (fun | [_,_,.i z,_,_,_] =>(64-z).toNat | _=>0)] | _=> [])]⟩
 | _=> {cut:= [],loop:= []}
def aox:Ct:= {ps:= [xU],bs:= [],pre:=fun _=>True,res:=fun | [.lb a] => .ret st [] [.li (yU a)] | _=>ag}
def akh:List Dat→Ann
 | [.lb a] =>⟨[],[(3,[la 33 co [bz,qP,qP] (fun | [.i i,.lb a',.li _,.li t] =>a'=a∧0≤i∧i≤25∧t=xN a i.toNat | _=>False) (fun | [.i i,_,_,_] =>(25-i).toNat | _=>0)])],
  [(7,[la 33 (co++ [(5,u64),(6,i64)]) [bz,qP,qP] kf jS],fun | [.i i0,.i _,.i _,.lb a0,.li _,.li t0] => [la 33 (co++ [(5,u64),(6,i64)]) [bz,qP,qP]
   (fun | [.i i,.i v,.i z,.lb a,.li _,.li t] =>i=i0∧a=a0∧t=t0∧-1≤z∧z≤63∧v=(wv a0 i0.toNat (63-z).toNat:Nat) | _=>False) (fun | [_,_,.i z,_,_,_] =>(z+1).toNat | _=>0)] | _=> [])]⟩
 | _=> {cut:= [],loop:= []}
def ao5:Ct:= {ps:= [st],bs:= [],pre:=fun | [.li s] =>af s | _=>False,res:=fun | [.li s] => .ret st [] [.li (p6 s)] | _=>ag}
def afZ:List Dat→Ann
 | [.li s] =>⟨[],[(3,[la 16 co [qP,qP,bz] (fun | [.i i,.li _,.li _,.lb t] =>0≤i∧i≤24∧t=tU (kp s) i.toNat | _=>False) (fun | [.i i,_,_,_] =>(24-i).toNat | _=>0)])],[]⟩
 | _=> {cut:= [],loop:= []}
abbrev aN (a:List Bool):Prop:=
 a.length=1600
abbrev fR:List Bool:=
 ab0 1600 false
abbrev om (a:Int):Bool:=
 decide (a<(5:Int))
abbrev eA (a:Int):Prop:=
 0≤a∧a<(↑(5:Nat):Int)
abbrev fH (a:Int):Prop:=
 0≤a∧a<(↑(64:Nat):Int)
abbrev jF (a b c:Int):Nat:=
 a.toNat*320+b.toNat*64+c.toNat*1
abbrev xc (a b c:Int)(d:List Bool):Prop:=
 (!d.getD (((a+1)%(5:Int)).toNat*320+b.toNat*64+c.toNat*1) false)=true
abbrev cq (a:Int):Nat:=
 (a+1).toNat
abbrev pP (a:Int):Prop:=
 ((64:Int)-(a+1)).toNat<((64:Int)-a).toNat
abbrev q7 (a b:Int):Prop:=
 ((5:Int)-(a+1)).toNat<((5:Int)-b).toNat
def ahz:Prop:=
 ∀ (a:List Bool),
 aN a→
 True→
 ((a=a∧
 (0:Int)≤0∧
 (0:Int)≤5∧
 fR=
 i4 aG (tC a) 5 64
 fR 0)∧
 True)∧
 ∀ (b:Int) (c d e:List Bool),
 aN c→
 aN d→
 aN e→
 c=a∧
 0≤b∧
 b≤5∧
 e=
 i4 aG (tC a) 5 64
 fR b.toNat→
 bif om b then
 ((b=b∧
 c=c∧
 (0:Int)≤0∧
 (0:Int)≤5∧
 e=
 dt (aG b.toNat) (tC c b.toNat)
 64 e 0)∧
 True)∧
 ∀ (f g:Int) (h i j:List Bool),
 aN h→
 aN i→
 aN j→
 f=b∧
 h=c∧
 0≤g∧
 g≤5∧
 j=
 dt (aG b.toNat)
 (tC c b.toNat) 64 e g.toNat→
 bif om g then
 ((f=f∧
 g=g∧
 h=h∧
 (0:Int)≤0∧
 (0:Int)≤64∧
 j=
 eh (aG f.toNat g.toNat)
 (tC h f.toNat g.toNat) j 0)∧
 True)∧
 ∀ (k m o:Int) (p q r:List Bool),
 aN p→
 aN q→
 aN r→
 k=f∧
 m=g∧
 p=h∧
 0≤o∧
 o≤64∧
 r=
 eh (aG f.toNat g.toNat)
 (tC h f.toNat g.toNat) j o.toNat→
 bif decide (o<(64:Int)) then
 eA k∧
 eA m∧
 fH o∧
 jF k m o<(1600:Nat)∧
 iR (k+1)∧
 (0≤k+1∧(0:Int)<(5:Int))∧
 (0≤(k+1)%(5:Int)∧(k+1)%(5:Int)<(↑(5:Nat):Int))∧
 eA m∧
 fH o∧
 ((k+1)%(5:Int)).toNat*320+m.toNat*64+o.toNat*1<(1600:Nat)∧
 (xc k m o p→iR (k+2))∧
 (xc k m o p→0≤k+2∧(0:Int)<(5:Int))∧
 (xc k m o p→
 0≤(k+2)%(5:Int)∧(k+2)%(5:Int)<(↑(5:Nat):Int))∧
 (xc k m o p→eA m)∧
 (xc k m o p→fH o)∧
 (xc k m o p→
 ((k+2)%(5:Int)).toNat*320+m.toNat*64+o.toNat*1 <
 (1600:Nat))∧
 eA k∧
 eA m∧
 fH o∧
 jF k m o<(1600:Nat)∧
 iR (o+1)∧
 (k=f∧
 m=g∧
 p=h∧
 0≤o+1∧
 o+1≤64∧
 r.set (jF k m o)
 (p.getD (jF k m o) false !=
 (!p.getD
 (((k+1)%(5:Int)).toNat*320+
 m.toNat*64+
 o.toNat*1)
 false &&
 p.getD
 (((k+2)%(5:Int)).toNat*320+
 m.toNat*64+
 o.toNat*1)
 false))=
 eh
 (aG f.toNat g.toNat)
 (tC h f.toNat g.toNat) j
 (cq o))∧
 pP o
 else
 iR (m+1)∧
 (k=b∧
 p=c∧
 0≤m+1∧
 m+1≤5∧
 r=
 dt (aG b.toNat)
 (tC c b.toNat) 64 e (cq m))∧
 q7 m g
 else
 iR (f+1)∧
 (h=a∧
 0≤f+1∧
 f+1≤5∧
 j=
 i4 aG (tC a)
 5 64 fR (cq f))∧
 q7 f b
 else e=yl a
def Zz:ac:=ak Y8 220 (aq aqk)
abbrev zq (a:Int):Prop:=
 ((5:Int)-(a+1)).toNat<((5:Int)-a).toNat
def ahh:Prop:=
 ∀ (a:List Bool),
 aN a→
 True→
 ((a=a∧
 (0:Int)≤0∧
 (0:Int)≤5∧fR=Dk a fR 0)∧
 True)∧
 ∀ (b:Int) (c d e:List Bool),
 aN c→
 aN d→
 aN e→
 c=a∧0≤b∧b≤5∧e=Dk a fR b.toNat→
 bif om b then
 ((b=b∧c=c∧(0:Int)≤0∧(0:Int)≤5∧e=BJ c b.toNat e 0)∧True)∧
 ∀ (f g:Int) (h i j:List Bool),
 aN h→
 aN i→
 aN j→
 f=b∧h=c∧0≤g∧g≤5∧j=BJ c b.toNat e g.toNat→
 bif om g then
 iR ((2:Int)*f)∧
 iR ((3:Int)*g)∧
 iR ((2:Int)*f+3*g)∧
 ((0:Int)≤2*f+3*g∧(0:Int)<(5:Int))∧
 eA f∧
 eA g∧
 f.toNat*320+g.toNat*64+64≤1600∧
 eA g∧
 (0≤((2:Int)*f+3*g)%(5:Int)∧((2:Int)*f+3*g)%(5:Int)<(↑(5:Nat):Int))∧
 g.toNat*320+(((2:Int)*f+3*g)%(5:Int)).toNat*64+64≤1600∧
 iR (g+1)∧
 (f=b∧
 h=c∧
 0≤g+1∧
 g+1≤5∧
 ar0 (g.toNat*320+(((2:Int)*f+3*g)%(5:Int)).toNat*64) j++
 ar0 64 (ar1 (f.toNat*320+g.toNat*64) h)++
 ar1
 (g.toNat*320+(((2:Int)*f+3*g)%(5:Int)).toNat*64+64) j=
 BJ c b.toNat e (cq g))∧
 zq g
 else
 iR (f+1)∧
 (h=a∧
 0≤f+1∧
 f+1≤5∧
 j=Dk a fR (cq f))∧
 q7 f b
 else e=KW a
def Yc:ac:=ak Zz 221 (aq apr)
abbrev mu:Prop:=
 (0:Int)≤0∧(0:Int)<(↑(5:Nat):Int)
def ai1:Prop:=
 ∀ (a:List Bool),
 aN a→
 True→
 mu∧
 mu∧
 (64:Nat)≤1600∧
 mu∧
 mu∧
 (64:Nat)≤1600∧
 ((a=a∧
 (0:Int)≤0∧
 (0:Int)≤24∧
 1=(↑(1:Nat):Int)∧
 0=(↑(0:Nat):Int)∧
 [] ++ar0 64 (ar1 0 a)++ab0 1536 false=tI a 0)∧
 True)∧
 ∀ (b c d:Int) (e f g:List Bool),
 aN e→
 aN f→
 aN g→
 e=a∧
 0≤d∧
 d≤24∧
 b=(↑(br d.toNat).fst:Int)∧
 c=(↑(br d.toNat).snd:Int)∧g=tI a d.toNat→
 bif decide (d<(24:Int)) then
 ((b=b∧
 c=c∧d=d∧e=e∧(0:Int)≤0∧(0:Int)≤64∧g=Dc e d.toNat g 0)∧
 True)∧
 ∀ (h i j k:Int) (m o p:List Bool),
 aN m→
 aN o→
 aN p→
 h=b∧i=c∧j=d∧m=e∧0≤k∧k≤64∧p=Dc e d.toNat g k.toNat→
 bif decide (k<(64:Int)) then
 iR (j+1)∧
 iR (j+2)∧
 iR ((j+1)*(j+2))∧
 (0≤(j+1)*(j+2)∧
 (0:Int)<(2:Int)∧(j+1)*(j+2)≤IntKind.i64.max)∧
 iR (k+(j+1)*(j+2) / 2)∧
 (0≤k+(j+1)*(j+2) / 2∧(0:Int)<(64:Int))∧
 eA h∧
 eA i∧
 fH k∧
 jF h i k<(1600:Nat)∧
 eA h∧
 eA i∧
 (0≤(k+(j+1)*(j+2) / 2)%(64:Int)∧
 (k+(j+1)*(j+2) / 2)%(64:Int)<(↑(64:Nat):Int))∧
 h.toNat*320+i.toNat*64+
 ((k+(j+1)*(j+2) / 2)%(64:Int)).toNat*1 <
 (1600:Nat)∧
 iR (k+1)∧
 (h=b∧
 i=c∧
 j=d∧
 m=e∧
 0≤k+1∧
 k+1≤64∧
 p.set
 (h.toNat*320+i.toNat*64+
 ((k+(j+1)*(j+2) / 2)%(64:Int)).toNat *
 (1:Nat))
 (m.getD (jF h i k) false)=
 Dc e d.toNat g
 (cq k))∧
 pP k
 else
 iR ((2:Int)*h)∧
 iR ((3:Int)*i)∧
 iR ((2:Int)*h+3*i)∧
 ((0:Int)≤2*h+3*i∧(0:Int)<(5:Int))∧
 iR (j+1)∧
 (m=a∧
 0≤j+1∧
 j+1≤24∧
 i=(↑(br (cq j)).fst:Int)∧
 ((2:Int)*h+3*i)%(5:Int)=
 (↑(br (cq j)).snd:Int)∧
 p=tI a (cq j))∧
 ((24:Int)-(j+1)).toNat<((24:Int)-d).toNat
 else g=hZ a
def Zc:ac:=ak Yc 222 (aq aqC)
abbrev yL:List Bool:=
 ab0 320 false
def aia:Prop:=
 ∀ (a:List Bool),
 aN a→
 True→
 ((a=a∧
 (0:Int)≤0∧
 (0:Int)≤5∧
 yL=
 dt (fun b c=>b*64+c)
 (fun b c=>decide (gM a b c 5%(2:Int)=1)) 64 yL
 0)∧
 True)∧
 ∀ (b:Int) (c d e:List Bool),
 aN c→
 aN d→
 e.length=320→
 c=a∧
 0≤b∧
 b≤5∧
 e=
 dt (fun f g=>f*64+g)
 (fun f g=>decide (gM a f g 5%(2:Int)=1)) 64
 yL b.toNat→
 bif om b then
 ((b=b∧
 c=c∧
 (0:Int)≤0∧
 (0:Int)≤64∧
 e=
 eh (fun f=>b.toNat*64+f)
 (fun f=>decide (gM c b.toNat f 5%(2:Int)=1)) e 0)∧
 True)∧
 ∀ (f g:Int) (h i j:List Bool),
 aN h→
 aN i→
 j.length=320→
 f=b∧
 h=c∧
 0≤g∧
 g≤64∧
 j=
 eh (fun k=>b.toNat*64+k)
 (fun k=>decide (gM c b.toNat k 5%(2:Int)=1)) e g.toNat→
 bif decide (g<(64:Int)) then
 ((f=f∧
 g=g∧
 h=h∧
 j=j∧
 (0:Int)≤0∧
 (0:Int)≤5∧
 0=gM h f.toNat g.toNat 0∧
 (0:Int)≤0∧(0:Int)≤0)∧
 True)∧
 ∀ (k m o p:Int) (q r s:List Bool),
 aN q→
 aN r→
 s.length=320→
 k=f∧
 m=g∧
 q=h∧
 s=j∧
 0≤p∧
 p≤5∧o=gM h f.toNat g.toNat p.toNat∧0≤o∧o≤p→
 bif om p then
 eA k∧
 eA p∧
 fH m∧
 jF k p m<(1600:Nat)∧
 bif q.getD (jF k p m) false then
 iR (o+1)∧
 iR (p+1)∧
 (k=f∧
 m=g∧
 q=h∧
 s=j∧
 0≤p+1∧
 p+1≤5∧
 o+1=
 gM h f.toNat g.toNat
 (cq p)∧
 0≤o+1∧o+1≤p+1)∧
 zq p
 else
 iR (p+1)∧
 (k=f∧
 m=g∧
 q=h∧
 s=j∧
 0≤p+1∧
 p+1≤5∧
 o=
 gM h f.toNat g.toNat
 (cq p)∧
 0≤o∧o≤p+1)∧
 zq p
 else
 (0≤o∧(0:Int)<(2:Int))∧
 eA k∧
 fH m∧
 k.toNat*64+m.toNat*1<(320:Nat)∧
 iR (m+1)∧
 (k=b∧
 q=c∧
 0≤m+1∧
 m+1≤64∧
 s.set (k.toNat*64+m.toNat*1) (decide (o%(2:Int)=1))=
 eh (fun t=>b.toNat*64+t)
 (fun t=>decide (gM c b.toNat t 5%(2:Int)=1)) e
 (cq m))∧
 ((64:Int)-(m+1)).toNat<((64:Int)-g).toNat
 else
 iR (f+1)∧
 (h=a∧
 0≤f+1∧
 f+1≤5∧
 j=
 dt (fun k m=>k*64+m)
 (fun k m=>decide (gM a k m 5%(2:Int)=1)) 64
 yL (cq f))∧
 q7 f b
 else
 ((c=a∧
 e=CB a∧
 (0:Int)≤0∧
 (0:Int)≤5∧
 fR=
 i4 aG (tD a e) 5
 64 fR 0)∧
 True)∧
 ∀ (f:Int) (g h i j:List Bool),
 aN g→
 aN h→
 i.length=320→
 aN j→
 g=a∧
 i=CB a∧
 0≤f∧
 f≤5∧
 j=
 i4 aG (tD a i)
 5 64 fR f.toNat→
 bif om f then
 ((f=f∧
 g=g∧
 i=i∧
 (0:Int)≤0∧
 (0:Int)≤5∧
 j=
 dt (aG f.toNat)
 (tD g i f.toNat) 64 j 0)∧
 True)∧
 ∀ (k m:Int) (o p q r:List Bool),
 aN o→
 aN p→
 q.length=320→
 aN r→
 k=f∧
 o=g∧
 q=i∧
 0≤m∧
 m≤5∧
 r=
 dt (aG f.toNat)
 (tD g i f.toNat) 64 j m.toNat→
 bif om m then
 ((k=k∧
 m=m∧
 o=o∧
 q=q∧
 (0:Int)≤0∧
 (0:Int)≤64∧
 r=
 eh (aG k.toNat m.toNat)
 (tD o q k.toNat m.toNat) r 0)∧
 True)∧
 ∀ (s t u:Int) (v w x y:List Bool),
 aN v→
 aN w→
 x.length=320→
 aN y→
 s=k∧
 t=m∧
 v=o∧
 x=q∧
 0≤u∧
 u≤64∧
 y=
 eh (aG k.toNat m.toNat)
 (tD o q k.toNat m.toNat) r u.toNat→
 bif decide (u<(64:Int)) then
 iR (s+4)∧
 (0≤s+4∧(0:Int)<(5:Int))∧
 (0≤(s+4)%(5:Int)∧(s+4)%(5:Int)<(↑(5:Nat):Int))∧
 fH u∧
 ((s+4)%(5:Int)).toNat*64+u.toNat*1<(320:Nat)∧
 iR (s+1)∧
 (0≤s+1∧(0:Int)<(5:Int))∧
 iR (u+63)∧
 (0≤u+63∧(0:Int)<(64:Int))∧
 (0≤(s+1)%(5:Int)∧(s+1)%(5:Int)<(↑(5:Nat):Int))∧
 (0≤(u+63)%(64:Int)∧
 (u+63)%(64:Int)<(↑(64:Nat):Int))∧
 ((s+1)%(5:Int)).toNat*64+
 ((u+63)%(64:Int)).toNat*1 <
 (320:Nat)∧
 eA s∧
 eA t∧
 fH u∧
 jF s t u<(1600:Nat)∧
 eA s∧
 eA t∧
 fH u∧
 jF s t u<(1600:Nat)∧
 iR (u+1)∧
 (s=k∧
 t=m∧
 v=o∧
 x=q∧
 0≤u+1∧
 u+1≤64∧
 y.set (jF s t u)
 (v.getD
 (jF s t
 u)
 false !=
 (x.getD
 (((s+4)%(5:Int)).toNat *
 (64:Nat)+
 u.toNat*1)
 false !=
 x.getD
 (((s+1)%(5:Int)).toNat *
 (64:Nat)+
 ((u+63)%(64:Int)).toNat *
 (1:Nat))
 false))=
 eh
 (aG k.toNat
 m.toNat)
 (tD o q k.toNat
 m.toNat)
 r (cq u))∧
 pP u
 else
 iR (t+1)∧
 (s=f∧
 v=g∧
 x=i∧
 0≤t+1∧
 t+1≤5∧
 y=
 dt (aG f.toNat)
 (tD g i f.toNat) 64 j
 (cq t))∧
 q7 t m
 else
 iR (k+1)∧
 (o=a∧
 q=CB a∧
 0≤k+1∧
 k+1≤5∧
 r=
 i4 aG
 (tD a q) 5 64 fR
 (cq k))∧
 q7 k f
 else j=qz a
def VJ:ac:=ak Zc 223 (aq aoq)
abbrev Ai (a:List Bool):List Bool:=
 yl (KW (hZ (qz a)))
def adm:Prop:=
 ∀ (a:List Bool) (b:Int),
 aN a→
 True→
 True∧
 True∧
 True∧
 True∧
 True∧
 ((gW b=gW b∧
 (0:Int)≤0∧
 (0:Int)≤64∧
 Ai a=
 sr (Ai a) (gW b) 0)∧
 True)∧
 ∀ (c:Int) (d e f:List Bool),
 aN d→
 aN e→
 f.length=64→
 f=gW b∧
 0≤c∧
 c≤64∧
 d=
 sr (Ai a) (gW b) c.toNat→
 bif decide (c<(64:Int)) then
 mu∧
 mu∧
 fH c∧
 0+c.toNat*1<1600∧
 fH c∧
 c.toNat*1<64∧
 mu∧
 mu∧
 fH c∧
 0+c.toNat*1<1600∧
 iR (c+1)∧
 (f=gW b∧
 0≤c+1∧
 c+1≤64∧
 d.set (0+c.toNat*1)
 (d.getD (0+c.toNat*1) false !=f.getD (c.toNat*1) false)=
 sr (Ai a)
 (gW b) (cq c))∧
 pP c
 else d=wn a b
def Yg:ac:=ak VJ 195 (aq aoa)
abbrev jk (a:List Int):Prop:=
 a.length=25
abbrev qf (a:Int)(b:List Int):Int:=
 b.getD (a.toNat*1) 0
abbrev uN (a b:Int):Nat:=
 (a%(5:Int)).toNat*320+(a / 5).toNat*64+b.toNat*1
def ait:Prop:=
 ∀ (a:List Int),
 jk a→
 af a→
 ((a=a∧
 (0:Int)≤0∧
 (0:Int)≤25∧
 fR=
 dt (fun b c=>aG (b%(5:Nat)) (b / 5) c)
 (fun b c=>bt (a.getD b 0) c) 64 fR 0)∧
 True)∧
 ∀ (b:Int) (c:List Int) (d e:List Bool),
 jk c→
 aN d→
 aN e→
 c=a∧
 0≤b∧
 b≤25∧
 e=
 dt (fun f g=>aG (f%(5:Nat)) (f / 5) g)
 (fun f g=>bt (a.getD f 0) g) 64 fR b.toNat→
 bif decide (b<(25:Int)) then
 (0≤b∧b<(↑(25:Nat):Int))∧
 b.toNat*1<(25:Nat)∧
 ((b=b∧
 c=c∧
 (0:Int)≤0∧
 (0:Int)≤64∧
 qf b c=qf b c / 2 ^ (0:Nat)∧
 e=
 eh (fun f=>aG (b.toNat%(5:Nat)) (b.toNat / 5) f)
 (fun f=>bt (qf b c) f) e 0)∧
 True)∧
 ∀ (f g h:Int) (i:List Int) (j k:List Bool),
 jk i→
 aN j→
 aN k→
 f=b∧
 i=c∧
 0≤h∧
 h≤64∧
 g=qf b c / 2 ^ h.toNat∧
 k=
 eh
 (fun m=>aG (b.toNat%(5:Nat)) (b.toNat / 5) m)
 (fun m=>bt (qf b c) m) e h.toNat→
 bif decide (h<(64:Int)) then
 (0≤f∧(0:Int)<(5:Int))∧
 (0≤f∧(0:Int)<(5:Int)∧f≤IntKind.i64.max)∧
 (0≤g∧(0:Int)<(2:Int))∧
 (0≤f%(5:Int)∧f%(5:Int)<(↑(5:Nat):Int))∧
 (0≤f / 5∧f / 5<(↑(5:Nat):Int))∧
 fH h∧
 uN f h<(1600:Nat)∧
 (0≤g∧(0:Int)<(2:Int)∧g≤IntKind.u64.max)∧
 iR (h+1)∧
 (f=b∧
 i=c∧
 0≤h+1∧
 h+1≤64∧
 g / 2=
 qf b c / 2 ^ cq h∧
 k.set (uN f h) (decide (g%(2:Int)=1))=
 eh
 (fun m=>aG (b.toNat%(5:Nat)) (b.toNat / 5) m)
 (fun m=>bt (qf b c) m) e
 (cq h))∧
 pP h
 else
 iR (f+1)∧
 (i=a∧
 0≤f+1∧
 f+1≤25∧
 k=
 dt (fun m o=>aG (m%(5:Nat)) (m / 5) o)
 (fun m o=>bt (a.getD m 0) o) 64 fR
 (cq f))∧
 ((25:Int)-(f+1)).toNat<((25:Int)-b).toNat
 else e=kp a
def Zg:ac:=ak Yg 194 (aq anV)
def agQ:Prop:=
 ∀ (a:List Bool),
 aN a→
 True→
 ((a=a∧
 (0:Int)≤0∧
 (0:Int)≤25∧
 [0,0,0,0,0,0,0,0,0,0,0,0,0,0,
 (0:Int),0,0,0,0,0,0,0,0,0,0] =
 xN a 0)∧
 True)∧
 ∀ (b:Int) (c:List Bool) (d e:List Int),
 aN c→
 jk d→
 jk e→
 c=a∧0≤b∧b≤25∧e=xN a b.toNat→
 bif decide (b<(25:Int)) then
 ((b=b∧c=c∧e=e∧(-1:Int)≤63∧(63:Int)≤63∧0=(↑(0:Nat):Int))∧True)∧
 ∀ (f g h:Int) (i:List Bool) (j k:List Int),
 aN i→
 jk j→
 jk k→
 f=b∧i=c∧k=e∧(-1:Int)≤h∧h≤63∧g=(↑(wv c b.toNat ((63:Int)-h).toNat):Int)→
 bif decide (0≤h) then
 (0≤f∧(0:Int)<(5:Int))∧
 (0≤f∧(0:Int)<(5:Int)∧f≤IntKind.i64.max)∧
 (0≤f%(5:Int)∧f%(5:Int)<(↑(5:Nat):Int))∧
 (0≤f / 5∧f / 5<(↑(5:Nat):Int))∧
 fH h∧
 uN f h<(1600:Nat)∧
 bif i.getD (uN f h) false then
 iR (h-(1:Int))∧
 (f=b∧
 i=c∧
 k=e∧
 (-1:Int)≤h-(1:Int)∧
 h-(1:Int)≤63∧
 IntKind.u64.wrap (IntKind.u64.wrap (g*2)+1)=
 (↑(wv c b.toNat ((63:Int)-(h-(1:Int))).toNat):Int))∧
 (h-(1:Int)+1).toNat<cq h
 else
 iR (h-(1:Int))∧
 (f=b∧
 i=c∧
 k=e∧
 (-1:Int)≤h-(1:Int)∧
 h-(1:Int)≤63∧
 IntKind.u64.wrap (g*2)=
 (↑(wv c b.toNat ((63:Int)-(h-(1:Int))).toNat):Int))∧
 (h-(1:Int)+1).toNat<cq h
 else
 (0≤f∧f<(↑(25:Nat):Int))∧
 f.toNat*1<(25:Nat)∧
 iR (f+1)∧
 (i=a∧
 0≤f+1∧
 f+1≤25∧
 k.set (f.toNat*1) g=xN a (cq f))∧
 ((25:Int)-(f+1)).toNat<((25:Int)-b).toNat
 else e=yU a
def WM:ac:=ak Zg 196 (aq aox)
def aiT:Prop:=
 ∀ (a:List Int),
 jk a→
 af a→
 af a∧
 (((0:Int)≤0∧
 (0:Int)≤24∧
 kp a=tU (kp a) 0)∧
 True)∧
 ∀ (b:Int) (c d:List Int) (e:List Bool),
 jk c→
 jk d→
 aN e→
 0≤b∧b≤24∧e=tU (kp a) b.toNat→
 bif decide (b<(24:Int)) then
 True∧
 iR (b+1)∧
 (0≤b+1∧
 b+1≤24∧
 wn e b=
 tU (kp a) (cq b))∧
 ((24:Int)-(b+1)).toNat<((24:Int)-b).toNat
 else True∧yU e=p6 a
def Xy:ac:=ak WM 156 (aq ao5)
end
end Go.Proofs.YteiecapbaeajdaaGreatDoor
