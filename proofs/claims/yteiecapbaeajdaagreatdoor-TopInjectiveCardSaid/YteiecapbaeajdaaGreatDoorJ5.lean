/-
  AVC, part T1: what comes in to a law, as values of this reckoning; a law's call.
-/
import Derived.Test.YteiecapbaeajdaaGreatDoorJ4
import GoSem.ClaimJoined
import Derived.Below
import Derived.Test.YteiecapbaeajdaaGreatDoorRows
import Derived.WalkKit
import Derived.ProofKit
import Derived.OpenShut
import Derived.ShutString
import Derived.ChangeOld
import Derived.LaidMore
import Derived.MakeChecks
import Derived.SizedLaws
import Derived.Stop.Joined
namespace Go.Avc
set_option linter.unusedVariables false
set_option linter.unusedSimpArgs false
mutual
def wfC:CSh→CD→Prop
  | .int k,.int n=>k.min≤n∧n≤k.max
  | .sl e,.sl l=>∀ row∈l,wfRow e row
  | _,_=>True
def wfRow:List CSh→List CD→Prop
  | [],_=>True
  | sh::e,row=>(match row with | cd::row=>wfC sh cd∧wfRow e row | [] =>True)
end
section
variable (P:Program)
def pM:List Field→Nat→Bool
  | [],_=>true
  | f::fs,o=>Nat.beq f.offset o&&pM fs (o+P.cellsOf f.type)
def Ar (f:TypeId→Option (List CSh)):List Field→Option (List CSh)
  | [] =>some []
  | fd::fs=>match f fd.type,Ar f fs with | some a,some b=>(bif Nat.beq a.length (P.cellsOf fd.type) then some (a++b) else none) | _,_=>none
def sC:Nat→TypeId→Option (List CSh)
  | 0,_=>none
  | d+1,T=>match P.underlying T with
    | some (.int k)=>some [.int k]
    | some .bool=>some [.bool]
    | some .string=>some [.str]
    | some (.slice E)=>(match sC d E with | some e=>(bif Nat.beq e.length (P.cellsOf E)&&!Nat.beq e.length 0 then some [.sl e] else none) | none=>none)
    | some (.struct fs)=>(match Ar P (sC d) fs.toList with | some e=>(bif pM P fs.toList 0&&Nat.beq e.length (P.cellsOf T) then some e else none) | none=>none)
    | some (.array n E)=>(match sC d E with | some e=>(bif Nat.beq e.length (P.cellsOf E)&&Nat.beq (n*e.length) (P.cellsOf T) then some (List.replicate n e).flatten else none) | none=>none)
    | _=>none
end
section
variable {P:Program} {W:World} {H:Type} {enc:TypeId×Value→H}
abbrev il (W:World):Nat→Prop:=fun i=>i<W.heap.size
theorem ti {Im:Nat→Prop} {w:World} :∀ {e1 e2:List CSh} {r1 r2:List CD} {v1 v2:List Value},RowRel Im w e1 r1 v1→RowRel Im w e2 r2 v2→RowRel Im w (e1++e2) (r1++r2) (v1++v2):=by
  intro e1
  induction e1 with
  | nil=>intro e2 r1 r2 v1 v2 h k;cases h;exact k
  | cons sh e1 ih=>
    intro e2 r1 r2 v1 v2 h k
    cases h with
    | cons _ cd v _ row vs h1 h2=>exact .cons _ _ _ _ _ _ h1 (ih h2 k)
theorem lc:∀ {e1 e2:List CSh} {r1 r2:List CD},e1.length=r1.length→wfRow e1 r1→wfRow e2 r2→wfRow (e1++e2) (r1++r2)
  | [],e2,[],r2,_,_,k=>k
  | [],_,_::_,_,h,_,_=>by simp at h
  | _::_,_,[],_,h,_,_=>by simp at h
  | sh::e1,e2,cd::r1,r2,hl,h,k=>⟨h.1,lc (by simpa using hl) h.2 k⟩
theorem HH {w:World} {a:Addr} {n:Nat} :∀ {cs:List Value},(List.range n).mapM (fun i=>w.cell? (a.add i))=some cs→cs.length=n∧∀ j x,cs[j]? =some x→w.cell? (a.add j)=some x:=by
  induction n with
  | zero=>intro cs h;simp at h;subst h;exact ⟨rfl,fun j x h=>by simp at h⟩
  | succ n ih=>
    intro cs h
    rw [List.range_succ,List.mapM_append] at h
    cases h1:(List.range n).mapM (fun i=>w.cell? (a.add i)) with
    | none=>rw [h1] at h;simp at h
    | some l=>
      rw [h1] at h
      cases h2:w.cell? (a.add n) with
      | none=>simp [h2] at h
      | some x=>
        simp [h2] at h
        subst h
        obtain ⟨k1,k2⟩:=ih h1
        refine ⟨by simp [k1],fun j y hy=> ?_⟩
        rcases Nat.lt_or_ge j l.length with hj | hj
        · rw [List.getElem?_append_left hj] at hy;exact k2 j y hy
        · rw [List.getElem?_append_right hj] at hy
          cases hz:j-l.length with
          | zero=>
            rw [hz] at hy
            simp at hy
            subst hy
            rw [show j=n from by omega];exact h2
          | succ m=>rw [hz] at hy;simp at hy
theorem C5 {w:World} {a:Addr} {x:Value} (h:w.cell? a=some x):a.block<w.heap.size:=by
  unfold World.cell? at h
  split at h
  · rename_i heq
    exact (Array.getElem?_eq_some_iff.1 heq).1
  · cases h
theorem vY (a:Addr) (j:Nat):(a.add j).block=a.block:=by unfold Addr.add;split <;>rfl
def LQ (P:Program) (W:World) (enc:TypeId×Value→H) (fuel:Nat):Prop:=∀ T cs d ps,DataW.trod enc P W 0 (fun _=>true) true fuel T cs=some (d,ps)→∀ D e,sC P D T=some e→∃ row,RowRel (il W) W e row cs∧wfRow e row
theorem sZ {fuel D:Nat} (ih:LQ P W enc fuel) {cs:List Value} :∀ {fs:List Field} {o:Nat} {e:List CSh} {xs:List (DataW H×List MemPlace)},pM P fs o=true→Ar P (sC P D) fs=some e→
    fs.mapM (fun f=>DataW.trod enc P W 0 (fun _=>true) true fuel f.type ((cs.drop f.offset).take (P.cellsOf f.type)))=some xs→∃ row,RowRel (il W) W e row ((cs.drop o).take e.length)∧wfRow e row
  | [],o,e,xs,h1,h2,h3=>by
    simp only [Ar,Option.some.injEq] at h2
    subst h2
    exact ⟨[],by simpa using RowRel.nil,trivial⟩
  | f::fs,o,e,xs,h1,h2,h3=>by
    simp only [pM,Bool.and_eq_true] at h1
    have ho:=aA.1 h1.1
    simp only [Ar] at h2
    split at h2
    · rename_i a b ha hb
      cases hl:Nat.beq a.length (P.cellsOf f.type) with
      | false=>rw [hl] at h2;cases h2
      | true=>
        rw [hl] at h2
        cases h2
        have hal:=aA.1 hl
        rw [List.mapM_cons] at h3
        cases hx:DataW.trod enc P W 0 (fun _=>true) true fuel f.type ((cs.drop f.offset).take (P.cellsOf f.type)) with
        | none=>rw [hx] at h3;simp at h3
        | some x=>
          rw [hx] at h3
          cases hxs:fs.mapM (fun f=>DataW.trod enc P W 0 (fun _=>true) true fuel f.type ((cs.drop f.offset).take (P.cellsOf f.type))) with
          | none=>simp [hxs] at h3
          | some ys=>
            obtain ⟨r1,k1,k2⟩:=ih _ _ _ _ hx D a ha
            obtain ⟨r2,k3,k4⟩:=sZ ih h1.2 hb hxs
            have hlen:=RowRel.length k1
            refine ⟨r1++r2,?_,lc hlen.2.symm k2 k4⟩
            have:=ti k1 k3
            rw [ho,← hal] at this
            have e1:(cs.drop o).take a.length++(cs.drop (o+a.length)).take b.length=(cs.drop o).take (a++b).length:=by
              rw [List.length_append,List.take_add,List.drop_drop]
            rw [← e1];exact this
    · cases h2
theorem wD {fuel D:Nat} (ih:LQ P W enc fuel) {cs:List Value} {E:TypeId} {e:List CSh} (he:sC P D E=some e) (hl:e.length=P.cellsOf E):∀ (n:Nat) {xs:List (DataW H×List MemPlace)},
    (List.range n).mapM (fun i=>DataW.trod enc P W 0 (fun _=>true) true fuel E ((cs.drop (i*P.cellsOf E)).take (P.cellsOf E)))=some xs→∃ row,RowRel (il W) W (List.replicate n e).flatten row (cs.take (n*e.length))∧wfRow (List.replicate n e).flatten row
  | 0,xs,h=>⟨[],by simpa using RowRel.nil,trivial⟩
  | n+1,xs,h=>by
    rw [List.range_succ,List.mapM_append] at h
    cases h1:(List.range n).mapM (fun i=>DataW.trod enc P W 0 (fun _=>true) true fuel E ((cs.drop (i*P.cellsOf E)).take (P.cellsOf E))) with
    | none=>rw [h1] at h;simp at h
    | some l=>
      rw [h1] at h
      cases h2:DataW.trod enc P W 0 (fun _=>true) true fuel E ((cs.drop (n*P.cellsOf E)).take (P.cellsOf E)) with
      | none=>simp [h2] at h
      | some x=>
        obtain ⟨r1,k1,k2⟩:=wD ih he hl n h1
        obtain ⟨r2,k3,k4⟩:=ih _ _ _ _ h2 D e he
        have hlen:=RowRel.length k1
        have e0:(List.replicate (n+1) e).flatten=(List.replicate n e).flatten++e:=by
          rw [show n+1=n+1 from rfl,List.replicate_succ',List.flatten_append];simp
        refine ⟨r1++r2,?_,by rw [e0];exact lc hlen.2.symm k2 k4⟩
        rw [e0,Nat.succ_mul,List.take_add]
        rw [hl] at k1 ⊢
        exact ti k1 k3
theorem vL {fuel D:Nat} (ih:LQ P W enc fuel) {a:Addr} {E:TypeId} {e:List CSh} (he:sC P D E=some e) (hl:e.length=P.cellsOf E):∀ (n:Nat) {xs:List (DataW H×List MemPlace)},
    (List.range n).mapM (fun i=>(W.cells? 0 (a.add (i*P.cellsOf E)) (P.cellsOf E)).bind (DataW.trod enc P W 0 (fun _=>true) true fuel E))=some xs→
      ∃ rows vs,rows.length=n∧FlatRel (il W) W e rows vs∧(∀ j x,vs[j]? =some x→W.cell? (a.add j)=some x)∧∀ row∈rows,wfRow e row
  | 0,xs,h=>⟨[],[],rfl,.nil _,fun j x h=>by simp at h,fun r h=>by simp at h⟩
  | n+1,xs,h=>by
    rw [List.range_succ,List.mapM_append] at h
    cases h1:(List.range n).mapM (fun i=>(W.cells? 0 (a.add (i*P.cellsOf E)) (P.cellsOf E)).bind (DataW.trod enc P W 0 (fun _=>true) true fuel E)) with
    | none=>rw [h1] at h;simp at h
    | some l=>
      rw [h1] at h
      cases h2:W.cells? 0 (a.add (n*P.cellsOf E)) (P.cellsOf E) with
      | none=>simp [h2] at h
      | some cs=>
        cases h3:DataW.trod enc P W 0 (fun _=>true) true fuel E cs with
        | none=>simp [h2,h3] at h
        | some x=>
          obtain ⟨rows,vs,k1,k2,k3,k4⟩:=vL ih he hl n h1
          obtain ⟨row,g1,g2⟩:=ih _ _ _ _ h3 D e he
          unfold World.cells? at h2
          rw [if_pos (Nat.zero_le _)] at h2
          obtain ⟨g3,g4⟩:=HH h2
          have hvl:=FlatRel.length k2
          refine ⟨rows++ [row],vs++cs,by simp [k1],?_,fun j y hy=> ?_,fun r hr=> ?_⟩
          · have:=FlatRel.append k2 (.cons e row cs [] [] g1 (.nil e))
            simpa using this
          · rcases Nat.lt_or_ge j vs.length with hj | hj
            · rw [List.getElem?_append_left hj] at hy;exact k3 j y hy
            · rw [List.getElem?_append_right hj] at hy
              have hc:=g4 _ y hy
              have ha:a.spot=none:=by
                have hcs:0<cs.length:=by have:=(List.getElem?_eq_some_iff.1 hy).1;omega
                have h00:∀ (x:Value),W.cell? (a.add 0)=some x→a.spot=none:=fun x hx=>by
                  have:=lk hx (.inl rfl)
                  simpa [Addr.add] using this
                rcases Nat.eq_zero_or_pos n with hn | hn
                · subst hn
                  have:=g4 0 cs[0] (List.getElem?_eq_getElem hcs)
                  rw [Nat.zero_mul] at this
                  have e0:(a.add 0).add 0=a.add 0:=by simp [Addr.add]
                  rw [e0] at this
                  exact h00 _ this
                · have hvp:0<vs.length:=by rw [hvl,k1];exact Nat.mul_pos hn (by omega)
                  exact h00 _ (k3 0 vs[0] (List.getElem?_eq_getElem hvp))
              rw [add_add _ _ _ ha] at hc
              rw [show j=n*P.cellsOf E+(j-vs.length) from by rw [hvl,k1,hl] at *;omega]
              rw [hvl,k1,hl] at hc ⊢
              simpa using hc
          · rcases List.mem_append.1 hr with hr | hr
            · exact k4 r hr
            · simp at hr;subst hr;exact g2
theorem AZ:∀ fuel,LQ P W enc fuel
  | 0=>fun T cs d ps h=>by simp [DataW.trod] at h
  | fuel+1=>fun T cs d ps h D e he=>by
    have ih:=AZ fuel
    cases D with
    | zero=>cases he
    | succ D=>
      unfold DataW.trod at h
      simp only [sC] at he
      cases hu:P.underlying T with
      | none=>rw [hu] at he;cases he
      | some td=>
        rw [hu] at he h
        cases td with
        | bool=>
          cases he
          split at h <;>try cases h
          all_goals (rename_i heq;cases heq)
          exact ⟨[.bool _],.cons _ _ _ _ _ _ (.bool _) .nil,trivial,trivial⟩
        | int k=>
          cases he
          split at h <;>try cases h
          all_goals (rename_i heq;cases heq)
          split at h
          · rename_i hk
            obtain ⟨rfl,hw⟩:=hk
            refine ⟨[.int _],.cons _ _ _ _ _ _ (.int _ _) .nil,?_,trivial⟩
            unfold Lit.wf at hw
            simpa [wfC] using hw
          · cases h
        | string=>
          cases he
          split at h <;>try cases h
          all_goals (rename_i heq;cases heq)
          split at h
          · rename_i s hs
            obtain ⟨⟨l⟩⟩:=s
            exact ⟨[.str l],.cons _ _ _ _ _ _ (.str l hs) .nil,trivial,trivial⟩
          · cases h
        | slice E=>
          simp only at he h
          split at he
          · rename_i e' he'
            cases hl:(Nat.beq e'.length (P.cellsOf E)&&!Nat.beq e'.length 0) with
            | false=>rw [hl] at he;cases he
            | true=>
              rw [hl] at he
              cases he
              simp only [Bool.and_eq_true,Bool.not_eq_true'] at hl
              have hl':=aA.1 hl.1
              have hl0:=dw.1 hl.2
              split at h <;>try cases h
              all_goals (rename_i heq;cases heq)
              · exact ⟨[.sl []],.cons _ _ _ _ _ _ (.sl0 _ _ _ (Nat.zero_le _)) .nil,(fun r hr=>by simp at hr),trivial⟩
              · rename_i a len cap
                split at h
                · rename_i hc
                  obtain ⟨_,hc1,hc2⟩:=hc
                  cases hm:(List.range len).mapM (fun i=>(W.cells? 0 (a.add (i*P.cellsOf E)) (P.cellsOf E)).bind (DataW.trod enc P W 0 (fun _=>true) true fuel E)) with
                  | none=>rw [hm] at h;simp at h
                  | some xs=>
                    obtain ⟨rows,vs,k1,k2,k3,k4⟩:=vL ih he' hl' len hm
                    refine ⟨[.sl rows],.cons _ _ _ _ _ _ ?_ .nil,k4,trivial⟩
                    rcases Nat.eq_zero_or_pos len with h0 | h0
                    · subst h0
                      have:rows= [] :=List.length_eq_zero_iff.1 k1
                      subst this
                      exact .sl0 _ _ _ hc2
                    · subst k1
                      refine .sl _ _ a cap vs hc1 hc2 ?_ k2 k3
                      have hvl:=FlatRel.length k2
                      have hpos:0<vs.length:=by rw [hvl];exact Nat.mul_pos h0 (by omega)
                      have:=k3 0 vs[0] (List.getElem?_eq_getElem hpos)
                      have:=C5 this
                      rwa [vY] at this
                · cases h
          · cases he
        | struct fs=>
          simp only at he h
          split at he
          · rename_i e' he'
            cases hl:(pM P fs.toList 0&&Nat.beq e'.length (P.cellsOf T)) with
            | false=>rw [hl] at he;cases he
            | true=>
              rw [hl] at he
              cases he
              simp only [Bool.and_eq_true] at hl
              have hl':=aA.1 hl.2
              split at h
              · rename_i hcl
                cases hm:fs.toList.mapM (fun f=>DataW.trod enc P W 0 (fun _=>true) true fuel f.type ((cs.drop f.offset).take (P.cellsOf f.type))) with
                | none=>rw [hm] at h;simp at h
                | some xs=>
                  obtain ⟨row,k1,k2⟩:=sZ ih hl.1 he' hm
                  rw [List.drop_zero,hl',← hcl,List.take_length] at k1
                  exact ⟨row,k1,k2⟩
              · cases h
          · cases he
        | array n E=>
          simp only at he h
          split at he
          · rename_i e' he'
            cases hl:(Nat.beq e'.length (P.cellsOf E)&&Nat.beq (n*e'.length) (P.cellsOf T)) with
            | false=>rw [hl] at he;cases he
            | true=>
              rw [hl] at he
              cases he
              simp only [Bool.and_eq_true] at hl
              have hl1:=aA.1 hl.1
              have hl2:=aA.1 hl.2
              split at h
              · rename_i hcl
                cases hm:(List.range n).mapM (fun i=>DataW.trod enc P W 0 (fun _=>true) true fuel E ((cs.drop (i*P.cellsOf E)).take (P.cellsOf E))) with
                | none=>rw [hm] at h;simp at h
                | some xs=>
                  obtain ⟨row,k1,k2⟩:=wD ih he' hl1 n hm
                  rw [hl2,← hcl,List.take_length] at k1
                  exact ⟨row,k1,k2⟩
              · cases h
          · cases he
        | _=>cases he
theorem ID {Im:Nat→Prop} {w:World} {e:List CSh} :∀ {l:List (List CD)} {xs:List Value},FlatRel Im w e l xs→∀ row∈l,∃ vs,RowRel Im w e row vs:=by
  intro l
  induction l with
  | nil=>intro xs _ row h;cases h
  | cons r l ih=>
    intro xs h row hr
    cases h with
    | cons _ _ vs _ xs h1 h2=>
      rcases List.mem_cons.1 hr with rfl | hr
      · exact ⟨vs,h1⟩
      · exact ih h2 row hr
theorem v5 {Im:Nat→Prop} {w:World} {e:List CSh} {l:List (List CD)} {v:Value} (h:CRel Im w (.sl e) (.sl l) v):∀ row∈l,∃ vs,RowRel Im w e row vs:=by
  cases h with
  | sl0=>intro row h;cases h
  | sl _ _ ad cap xs _ _ _ hf _=>exact ID hf
theorem BS {T:TypeId} {e:List CSh} (D:Nat) (hr:sC P D T=some [.sl e]) {v:Value} {d:DataW H} {ps:List MemPlace} (hv:∃ a n c,v= .slice a n c) (h:DataW.Trod enc P W 0 (fun _=>true) true T v d ps):
    ∃ l,CRel (il W) W (.sl e) (.sl l) v∧∀ row∈l,wfRow e row:=by
  obtain ⟨a,n,c,rfl⟩:=hv
  obtain ⟨fuel,hf⟩:=h
  obtain ⟨row,h1,h2⟩:=AZ fuel _ _ _ _ hf D _ hr
  have h1':RowRel (il W) W [.sl e] row [.slice a n c] :=h1
  cases h1' with
  | cons _ cd _ _ row vs k1 k2=>
    cases k1 with
    | sl0 e a cap h=>exact ⟨[],.sl0 _ _ _ h,fun row hr=>by cases hr⟩
    | sl e l ad _ xs q1 q2 q3 q4 q5=>exact ⟨l,.sl e l ad _ xs q1 q2 q3 q4 q5,h2.1⟩
theorem IP {C:Ctx} {f:FuncId} {F:List SV→List Blk→CR} (hs:af C f F) {W:World} {svs:List SV} {vs:List Value} (hcall:(callFunc f vs.toArray).run C.P W= .ok (.enter f vs.toArray) W)
    (hv:VRels (il W) (fun _=>none) W svs vs) (hg:Globs C (il W) (fun _=>none) W) (hK:(F svs []).wp [] fun sv _=>sv= .bool true):
    Calls C.P f vs.toArray W fun e w'=>e= .returned (.bool true)∧RowKit.Below W.heap.size W w':=by
  have hm:Mem C ⟨W,il W,fun _=>none,fun _=>False,[]⟩ [] (il W) (fun _=>none) W:=
    ⟨(fun b v h=>by cases h),⟨fun i h=>h,(fun b v r _ h=>by cases h),(fun b b' v v' r _ _ h=>by cases h),fun b v r _ h=>by cases h⟩,
      ⟨rfl,rfl,rfl,Nat.le_refl _,fun _ _ _=>rfl,(fun b v h=>by cases h),fun _ h=>h,fun _ h=> .inl h⟩,hg⟩
  have h:=hs svs [] (fun sv _=>sv= .bool true) (fun _=>True) (CR.wp_mono (fun sv hp h=>⟨h,fun _ _ _=>trivial⟩) _ hK) _ _ _ W vs hm (fun _ _=>rfl) hv
  rcases h with ⟨_,h⟩ | ⟨v,h,_⟩
  · refine Calls.mono h ?_
    rintro e w' ⟨v,sv,hp',Im',ι',rfl,rfl,hv,hm',_⟩
    have hv':v= .bool true:=hv
    subst hv'
    exact ⟨rfl,hm'.since.os,hm'.since.tape,hm'.since.output,hm'.since.size,fun k hk=>hm'.since.block k hk id⟩
  · rw [hcall] at h;cases h
end
end Go.Avc
namespace Go.Proofs.YteiecapbaeajdaaGreatDoor
open Go Go.Avc Go.ChangeShapes Go.WideShapes Go.ChangeAt Go.RowKit
set_option linter.unusedVariables false
set_option linter.unusedSimpArgs false
theorem own:ownKnob Tryz.prog.godebug=none:=by kernel_rfl
theorem DM:laidOutB Tryz.prog=true:=by kernel_rfl
theorem Kr {H:Type} {enc:TypeId×Value→H} {P:Program} {W:World} {base:Nat} {sp:Nat→Bool} {held:Bool} {fuel:Nat} {T E:TypeId} {n:Nat} {k:IntKind} {cs:List Value} {x:DataW H×List MemPlace}
    (hT:P.underlying T=some (.array n E)) (hE:P.underlying E=some (.int k)) (hc:P.cellsOf E=1) (hc2:P.cellsOf T=n) (h:DataW.trod enc P W base sp held fuel T cs=some x):
    ∃ l:List Int,l.length=n∧cs=l.map (Value.int k)∧x.1= .agg (l.map fun i=> .lit (.int k i))∧∀ i∈l,(Lit.int k i).wf=true:=by
  obtain ⟨xs,m,rfl,rfl,hlen,hn,hel⟩:=DataW.trod_array hT h
  rw [hc2] at hlen
  have one:∀ i,i<n→∃ a:Int,cs[i]? =some (.int k a)∧(xs.map (·.1))[i]? =some (.lit (.int k a))∧(Lit.int k a).wf=true:=fun i hi=>by
    have h1:=hel i hi
    rw [hc,Nat.mul_one] at h1
    have hx:xs[i]? =some xs[i] :=List.getElem?_eq_getElem (by omega)
    rw [hx] at h1
    obtain ⟨a,e1,e2,e3⟩:=DataW.trod_int hE h1
    refine ⟨a,?_,?_,e3⟩
    · have:((cs.drop i).take 1)[0]? =some (.int k a):=by rw [e1];rfl
      rwa [List.getElem?_take_of_lt (by omega),List.getElem?_drop,Nat.add_zero] at this
    · rw [List.getElem?_map,hx]
      simp [e2]
  have hcs:∀ i,i<n→∃ a:Int,cs[i]? =some (.int k a):=fun i hi=>by obtain ⟨a,h,_⟩:=one i hi;exact ⟨a,h⟩
  let f:Value→Int:=fun v=>match v with | .int _ a=>a | _=>0
  have key:∀ i,i<n→cs[i]? =some (.int k ((cs.map f).getD i 0))∧(xs.map (·.1))[i]? =some (.lit (.int k ((cs.map f).getD i 0)))∧(Lit.int k ((cs.map f).getD i 0)).wf=true:=fun i hi=>by
    obtain ⟨a,h1,h2,h3⟩:=one i hi
    have:(cs.map f).getD i 0=a:=by
      rw [List.getD_eq_getElem?_getD,List.getElem?_map,h1];rfl
    rw [this]
    exact ⟨h1,h2,h3⟩
  have ll:(cs.map f).length=n:=by rw [List.length_map,hlen]
  refine ⟨cs.map f,ll,?_,?_,?_⟩
  · apply List.ext_getElem (by simp)
    intro i h1 h2
    have:=(key i (by omega)).1
    rw [List.getElem?_eq_getElem h1,List.getD_eq_getElem?_getD,List.getElem?_eq_getElem (by rw [List.length_map];exact h1)] at this
    simpa using this
  · show DataW.agg _=DataW.agg _
    congr 1
    apply List.ext_getElem (by simp [hn,hlen])
    intro i h1 h2
    have hi:i<n:=by rw [List.length_map] at h1;omega
    have:=(key i hi).2.1
    rw [List.getElem?_eq_getElem h1,List.getD_eq_getElem?_getD,List.getElem?_eq_getElem (by omega)] at this
    simpa using this
  · intro a ha
    obtain ⟨i,hi,rfl⟩:=List.getElem_of_mem ha
    have:=(key i (by omega)).2.2
    rwa [List.getD_eq_getElem?_getD,List.getElem?_eq_getElem hi] at this
def tA:List (String×DataW Unit):= [("avouch/keccak.constants",Rows.laid_avouch_keccak_constants)]
theorem gRc:Tryz.prog.globalNamed "avouch/keccak.constants" =some 0:=by kernel_rfl
theorem tRc:(Tryz.prog.globals[0]?).map (·.type)=some 381:=by kernel_rfl
theorem Nh:Tryz.prog.cellsOf 381=24:=by kernel_rfl
theorem N4:Tryz.prog.cellsOf 73=1:=by kernel_rfl
theorem vP {Im:Nat→Prop} {w:World} (k:IntKind):∀ l:List Int,FlatRel Im w [.int k] (l.map fun n=> [.int n]) (l.map (Value.int k))
  | [] => .nil _
  | n::l=> .cons _ _ [.int k n] _ _ (.cons _ _ _ _ _ _ (.int k n) .nil) (vP k l)
theorem KE:(Rows.laid_avouch_keccak_constants:DataW Unit)= .agg (CE.map fun i=> .lit (.int .u64 i)):=rfl
theorem Oc {k:IntKind} :∀ {l m:List Int},(DataW.agg (l.map fun i=>DataW.lit (H:=Unit) (.int k i))=DataW.agg (m.map fun i=>DataW.lit (.int k i)))→l=m:=by
  intro l m h
  injection h with h
  have:=congrArg (List.map fun d:DataW Unit=>match d with | .lit (.int _ i)=>i | _=>0) h
  rw [List.map_map,List.map_map] at this
  have e:((fun d:DataW Unit=>match d with | .lit (.int _ i)=>i | _=>0) ∘ fun i:Int=>DataW.lit (.int k i))=id:=by funext i;rfl
  rwa [e,List.map_id,List.map_id] at this
theorem N2 {W:World} (h:laidMetH Tryz.prog tA W) (f:Nat→Option SV) (hf:∀ g sv,f g=some sv→gl g=some sv):∀ g sv,f g=some sv→VRel (il W) (fun _=>none) W sv (.pointer (some ⟨g,0,none⟩)):=by
  rw [MakeChecks.laidMetH_plain _ _ _ (by kernel_rfl)] at h
  obtain ⟨ps,⟨g0,t0,cs0,f0,p0,q0,hg0,ht0,hv0,hd0,_⟩,_,_⟩:=h
  obtain rfl:=Option.some.inj (gRc.symm.trans hg0)
  obtain rfl:=Option.some.inj (tRc.symm.trans ht0)
  obtain ⟨l,hl,hcs,hx,_⟩:=Kr Tryz.underlying381 Tryz.underlying73 N4 Nh hd0
  rw [KE] at hx
  obtain rfl:=Oc hx.symm
  intro g sv hg
  have hg':=hf g sv hg
  unfold gl at hg'
  cases hb:Nat.beq g 0 with
  | false=>rw [hb] at hg';cases hg'
  | true=>
    rw [hb] at hg'
    cases hg'
    obtain rfl:=aA.1 hb
    have hcell:∀ j x,(CE.map (Value.int .u64))[j]? =some x→W.cell? ((⟨0,0,none⟩:Addr).add j)=some x:=fun j x hj=>by
      have:=World.var?_cell hg0 hv0 j
      rw [← Array.getElem?_toList,hcs,hj] at this
      have e:(⟨0,0,none⟩:Addr).add j=⟨0,j,none⟩:=by
        unfold Addr.add
        split
        · rename_i h;subst h;rfl
        · simp
      rw [e];exact this
    refine ⟨⟨0,0,none⟩,CE.map (Value.int .u64),rfl,?_,vP .u64 CE,hcell⟩
    have h0:=hcell 0 (.int .u64 1) rfl
    have:=C5 h0
    rwa [vY] at this
theorem KV (os:Os) (args:Array Value):laidMetH Tryz.prog tA ((World.doorLaid Tryz.prog 400 os).forCall (fun _ _=>0) ⟨#[],args,[]⟩).memory:=by
  rw [MakeChecks.laidMetH_plain _ _ _ (by kernel_rfl)]
  exact laidMet_of_run' 8 (by kernel_rfl) (by kernel_rfl)
theorem UI {Im:Nat→Prop} {w:World} {l:List (List CD)} {v:Value} (h:CRel Im w (.sl iO) (.sl l) v) (q:∀ row∈l,wfRow iO row):cI l:=by
  have k:=v5 h
  clear h
  unfold cI
  induction l with
  | nil=>rfl
  | cons r l ih=>
    obtain ⟨vs,hv⟩:=k r (List.mem_cons_self ..)
    have hq:=q r (List.mem_cons_self ..)
    cases hv with
    | cons _ cd v _ row vs h1 h2=>
      cases h2
      cases h1 with
      | int _ n=>
        have hn:(0:Int)≤n∧n≤255:=hq.1
        have e:(((UInt8.ofNat n.toNat).toNat:Nat):Int)=n:=by
          rw [UInt8.toNat_ofNat',Nat.mod_eq_of_lt (by omega)];omega
        show [CD.int n] ::l= [CD.int (((UInt8.ofNat n.toNat).toNat:Nat):Int)] ::ah (aa l)
        rw [e,← ih (fun r hr=>q r (List.mem_cons_of_mem _ hr)) fun r hr=>k r (List.mem_cons_of_mem _ hr)]
end Go.Proofs.YteiecapbaeajdaaGreatDoor
namespace Go.Proofs.YteiecapbaeajdaaGreatDoor
open Go Go.Avc Go.Proofs
set_option linter.unusedVariables false
set_option maxRecDepth 100000
def Tz:Prop:= ∀ (n n_1 n_2:Int) (l:List UInt8) (n_3 n_4 n_5:Int) (l_1:List UInt8),
 l.length≤9223372036854775807→
 l_1.length≤9223372036854775807→
 True→(decide (n=n_3) && (decide (n_1=n_4) && (decide (n_2=n_5) && (decide (([] :List UInt8)= []) && true))))=sM n n_1 n_2 n_3 n_4 n_5
theorem ab8:av Fd Tryz.f175 DZ au=Tz:=by kernel_rfl
noncomputable def xZ:ai:=al Fd 175 (ag DZ)
def P87:Prop:=
 ∀ (n n_1:Int),
 W4 n n_1→
 (Mr n n_1 n n_1 (0:Int) [] ∧True)∧
 ∀ (n_2 n_3 n_4:Int) (l:List (List CD)),
 l.length≤(9223372036854775807:Nat)→
 Mr n n_1 n_2 n_3 n_4 l→
 bif decide (n_4<n_3) then
 ((0:Int)≤n_2∧(0:Int)<(256:Int))∧
 ((l.length+(1:Nat))*(1:Nat)≤(140737488355328:Nat)∧l.length+(1:Nat)≤(9223372036854775807:Nat))∧
 ((0:Int)≤n_2∧(0:Int)<(256:Int)∧n_2≤Go.IntKind.i64.max)∧
 ((-9223372036854775808:Int)≤n_4+(1:Int)∧n_4+(1:Int)≤(9223372036854775807:Int))∧
 Mr n n_1 (n_2 / (256:Int)) n_3 (n_4+(1:Int)) (l++ [[CD.int (Go.IntKind.u8.wrap (n_2%(256:Int)))]])∧
 (n_3-(n_4+(1:Int))).toNat<(n_3-n_4).toNat
 else l=ah (fI n n_1.toNat)
def QO:Prop:= ∀ (l:List (List CD)),
 l.length≤9223372036854775807→
 pQ l→
 ∀ (β:Bool),
 (β=true→l= [])→
 bif β then [] =l else ((0+l.length)*1≤140737488355328∧0+l.length≤9223372036854775807)∧ [] ++l=l
theorem adj:av xZ Tryz.f171 Fi au=QO:=by kernel_rfl
noncomputable def yZ:ai:=al xZ 171 (ag Fi)
def UP:Prop:= ∀ (n:Int) (l:List (List CD)) (b:Bool),
 l.length≤9223372036854775807→
 m9 n→
 l.length≤9223372036854775807→
 bif decide ((↑l.length:Int) < n) then
 ((0:Int)≤0∧(0:Int)≤0∧(0:Int)≤0∧0≤(↑l.length:Int))∧
 ((0:Int)≤0∧0≤(↑l.length:Int)∧(↑l.length:Int)≤(↑l.length:Int))∧
 List.drop 0 (List.take 0 l)=dO l n∧
 List.drop 0 (List.take (↑l.length:Int).toNat l)=aW l n∧true=kF l n b
 else
 ((0:Int)≤0∧0≤n∧n≤n∧n≤(↑l.length:Int))∧
 (0≤n∧n≤(↑l.length:Int)∧(↑l.length:Int)≤(↑l.length:Int))∧
 List.drop 0 (List.take n.toNat l)=dO l n∧
 List.drop n.toNat (List.take (↑l.length:Int).toNat l)=aW l n∧b=kF l n b
theorem aeZ:av yZ Tryz.f170 EH au=UP:=by kernel_rfl
noncomputable def yy:ai:=al yZ 170 (ag EH)
def Uf:Prop:= ∀ (n:Int) (l:List (List CD)) (b:Bool),
 l.length≤9223372036854775807→
 nu n l→
 m9 n∧
 ((dO l n).length≤9223372036854775807→
 (EE n l b 0 (dO l n) (↑(dO l n).length:Int)
 0 (aW l n) (kF l n b)∧
 True)∧
 ∀ (n_1:Int) (l_1:List (List CD)) (n_2 n_3:Int) (l_2:List (List CD)) (b_1:Bool),
 l_1.length≤9223372036854775807→
 EE n l b n_1 l_1 n_2 n_3 l_2 b_1→
 bif decide (n_3 < n_2) then
 (0≤n_3∧n_3 < ↑l_1.length)∧
 n_3.toNat < l_1.length∧
 ((-9223372036854775808:Int)≤8*n_3∧(8:Int)*n_3≤9223372036854775807)∧
 (0:Int)≤8*n_3∧
 ((-9223372036854775808:Int)≤n_3+1∧n_3+1≤9223372036854775807)∧
 EE n l b
 (dQ .i64 n_1
 (cn .i64 (IntKind.i64.wrap ((l_1.getD n_3.toNat []).getD 0 (.int 0)).toInt) ((8:Int)*n_3)))
 l_1 n_2 (n_3+1) l_2 b_1∧
 (n_2 - (n_3+1)).toNat < (n_2 - n_3).toNat
 else
 n_1=(↑(cq (aa (dO l n))):Int)∧
 l_2=aW l n∧b_1=kF l n b)
theorem aco:av yy Tryz.f169 FE UL=Uf:=by kernel_rfl
noncomputable def yU:ai:=al yy 169 (ag FE)
def TE:Prop:= ∀ (l:List (List CD)),
 l.length≤9223372036854775807→
 dY l→
 nu 1 l∧
 nu 1 (aW l 1)∧
 nu 4 (aW (aW l 1) 1)∧
 nu 2
 (aW (aW (aW l 1) 1) 4)∧
 m9
 (↑(cq
 (aa
 (dO
 (aW (aW (aW l 1) 1)
 4)
 2))):
 Int)∧
 bif
 kF
 (aW
 (aW (aW (aW l 1) 1)
 4)
 2)
 (↑(cq
 (aa
 (dO
 (aW (aW (aW l 1) 1)
 4)
 2))):
 Int)
 (kF
 (aW (aW (aW l 1) 1)
 4)
 2
 (kF (aW (aW l 1) 1) 4
 (kF (aW l 1) 1
 (kF l 1 false)))) then
 0=(dM (aa l)).k∧
 0=(dM (aa l)).t∧
 0=(dM (aa l)).c∧
 [] =(dM (aa l)).l∧
 2=ir (aa l)∧
 [] =ah (lX (aa l))
 else
 True∧
 bif
 decide
 (cH
 (↑(cq (aa (dO l 1))):Int)
 (↑(cq
 (aa (dO (aW l 1) 1))):
 Int)
 (↑(cq
 (aa
 (dO
 (aW (aW l 1) 1) 4))):
 Int)
 (aa
 (dO
 (aW
 (aW
 (aW (aW l 1) 1) 4)
 2)
 (↑(cq
 (aa
 (dO
 (aW
 (aW (aW l 1) 1) 4)
 2))):
 Int)))≠
 (0:Int)) then
 0=(dM (aa l)).k∧
 0=(dM (aa l)).t∧
 0=(dM (aa l)).c∧
 [] =(dM (aa l)).l∧
 cH
 (↑(cq (aa (dO l 1))):Int)
 (↑(cq
 (aa (dO (aW l 1) 1))):
 Int)
 (↑(cq
 (aa
 (dO
 (aW (aW l 1) 1) 4))):
 Int)
 (aa
 (dO
 (aW
 (aW
 (aW (aW l 1) 1) 4)
 2)
 (↑(cq
 (aa
 (dO
 (aW
 (aW (aW l 1) 1) 4)
 2))):
 Int)))=
 ir (aa l)∧
 [] =ah (lX (aa l))
 else
 pQ
 (aW
 (aW
 (aW (aW (aW l 1) 1)
 4)
 2)
 (↑(cq
 (aa
 (dO
 (aW
 (aW (aW l 1) 1) 4)
 2))):
 Int))∧
 (↑(cq (aa (dO l 1))):Int)=
 (dM (aa l)).k∧
 (↑(cq
 (aa (dO (aW l 1) 1))):
 Int)=
 (dM (aa l)).t∧
 (↑(cq
 (aa
 (dO
 (aW (aW l 1) 1) 4))):
 Int)=
 (dM (aa l)).c∧
 aa
 (dO
 (aW
 (aW
 (aW (aW l 1) 1) 4)
 2)
 (↑(cq
 (aa
 (dO
 (aW
 (aW (aW l 1) 1) 4)
 2))):
 Int))=
 (dM (aa l)).l∧
 0=ir (aa l)∧
 aW
 (aW
 (aW
 (aW (aW l 1) 1) 4)
 2)
 (↑(cq
 (aa
 (dO
 (aW
 (aW (aW l 1) 1) 4)
 2))):
 Int)=
 ah (lX (aa l))
theorem ae0:av yU Tryz.f129 GO au=TE:=by kernel_rfl
noncomputable def zp:ai:=al yU 129 (ag GO)
end Go.Proofs.YteiecapbaeajdaaGreatDoor
namespace Go.Proofs.YteiecapbaeajdaaGreatDoor
open Go Go.Avc Go.Proofs
set_option linter.unusedVariables false
set_option linter.unusedSimpArgs false
set_option maxRecDepth 100000
theorem Yh:Tz:=by
  intro a b c l a' b' c' l' _ _ _
  simp [sM]
theorem Wc:af (base.with Fd) 175 (ag DZ):=am c40 Tryz.func175 (by kernel_rfl) (by kernel_rfl) Tryz.call175 ab8 Yh
theorem UN:(base.with xZ).Ok:=ae c40 Wc
theorem N9:IntKind.i64.max=9223372036854775807:=by decide
theorem wrap_i64 {n:Int} (h0: -9223372036854775808≤n) (h:n≤9223372036854775807):IntKind.i64.wrap n=n:=Du .i64 n rfl ⟨h0,h⟩
theorem OI {n:Int} (k:Nat) (h0:0≤n):0≤n / 256 ^ k∧n / 256 ^ k≤n:=by
  have hp:(0:Int)<256 ^ k:=Int.pow_pos (by decide)
  exact ⟨Int.ediv_nonneg h0 (Int.le_of_lt hp),Int.ediv_le_self _ h0⟩
theorem agB:P87:=by
  rintro n w ⟨hn,hn2,hw0,hw8⟩
  refine ⟨⟨⟨by simp,rfl,by omega,hw0,by simp [fI,ah]⟩,trivial⟩,?_⟩
  rintro n' w' i out hout ⟨rfl,rfl,h0,h1,rfl⟩
  have hd:=OI (n:=n) i.toNat hn
  refine ab (fun h=> ?_) fun h=> ?_
  · simp only [decide_eq_true_eq] at h
    rw [N9]
    simp only [aZ,jY,List.length_cons,List.length_nil]
    refine ⟨⟨by omega,by omega⟩,⟨by omega,by omega⟩,⟨by omega,by omega,by omega⟩,⟨by omega,by omega⟩,⟨?_,rfl,by omega,by omega,?_⟩,by omega⟩
    · rw [show (i+1).toNat=i.toNat+1 from by omega,Int.ediv_ediv_of_nonneg (Int.le_of_lt (Int.pow_pos (by decide))),Int.pow_succ]
    · rw [show (i+1).toNat=i.toNat+1 from by omega,wz,fg,qu,Int.emod_emod_of_dvd _ (Int.dvd_refl 256),← lq]
      rfl
  · simp only [decide_eq_false_iff_not] at h
    rw [show i=w' from by omega]
theorem PI (b:List UInt8):cq b<256 ^ b.length:=by
  induction b with
  | nil=>simp [cq]
  | cons x b ih=>
    have:=x.toNat_lt
    simp only [cq,List.length_cons,Nat.pow_succ]
    omega
theorem Aq (b:List UInt8) {i:Nat} (h:i<b.length):(((ah b).getD i []).getD 0 (CD.int 0)).toInt=((b.getD i 0).toNat:Int):=by
  simp [ah,h,CD.toInt]
theorem IV (b:List UInt8) (n:Nat):(ah b).drop n=ah (b.drop n):=by simp [ah]
theorem IE (b:List UInt8) (n:Nat):(ah b).take n=ah (b.take n):=by simp [ah]
theorem gu (b:List UInt8):cI (ah b):=by unfold cI;rw [eL]
theorem kc {l:List (List CD)} (h:cI l):∃ b,l=ah b:=⟨_,h⟩
theorem Jj (x:UInt8):IntKind.i64.wrap ((x.toNat:Int))=(x.toNat:Int):=by
  have:=x.toNat_lt
  exact wrap_i64 (by omega) (by omega)
theorem Nb {n:Nat} (h:n≤6):256 ^ n≤281474976710656:=by
  have:=Nat.pow_le_pow_right (show 0<256 by decide) h
  simpa using this
theorem NI {b:List UInt8} {i:Nat} (h:i<b.length):b.getD i 0=b[i] :=by simp [h]
theorem Wo:QO:=by
  intro l hl hp β hβ
  unfold pQ at hp
  refine ab (fun h=>(hβ h).symm) fun h=>⟨⟨by omega,by omega⟩,rfl⟩
theorem Xa:af (base.with xZ) 171 (ag Fi):=am UN Tryz.func171 (by kernel_rfl) (by kernel_rfl) Tryz.call171 adj Wo
theorem R0:(base.with yZ).Ok:=ae UN Xa
theorem VY:UP:=by
  intro n l b hl hp _
  unfold m9 at hp
  refine ab (fun h=> ?_) fun h=> ?_
  · simp only [decide_eq_true_eq] at h
    simp only [dO,aW,kF,if_pos h,decide_eq_true h]
    refine ⟨by omega,by omega,by simp,by simp,rfl⟩
  · simp only [decide_eq_false_iff_not] at h
    simp only [dO,aW,kF,if_neg h,decide_eq_false h]
    refine ⟨by omega,by omega,by simp,by simp,rfl⟩
theorem Yc:af (base.with yZ) 170 (ag EH):=am R0 Tryz.func170 (by kernel_rfl) (by kernel_rfl) Tryz.call170 aeZ VY
theorem UD:(base.with yy).Ok:=ae R0 Yc
theorem Lk (i:Nat):((256 ^ i:Nat):Int)=(256:Int) ^ i:=by rw [Int.natCast_pow];rfl
theorem TV {a x i:Nat} (ha:a<256 ^ i) (hx:x<256) (hi:i<7):dQ .i64 (a:Int) (cn .i64 (x:Int) (8*(i:Int)))=((a+x*256 ^ i:Nat):Int):=by
  have hp:=Nb (n:=i) (by omega)
  have hxp:x*256 ^ i≤255*281474976710656:=Nat.mul_le_mul (by omega) hp
  have e1:cn .i64 (x:Int) (8*(i:Int))=((x*256 ^ i:Nat):Int):=by
    unfold cn
    have:min (8*(i:Int)).toNat (IntKind.bits .i64)=8*i:=by
      show min (8*(i:Int)).toNat 64=8*i
      omega
    rw [this,Int.pow_mul,show (2:Int) ^ 8=256 from by decide,← Lk,← Int.natCast_mul]
    exact wrap_i64 (by omega) (by omega)
  rw [e1]
  unfold dQ
  have e3:(BitVec.ofInt (IntKind.bits .i64) (a:Int) |||BitVec.ofInt (IntKind.bits .i64) ((x*256 ^ i:Nat):Int)).toNat=a+x*256 ^ i:=by
    rw [BitVec.ofInt_natCast,BitVec.ofInt_natCast,BitVec.toNat_or,BitVec.toNat_ofNat,BitVec.toNat_ofNat]
    rw [show 2 ^ IntKind.bits .i64=18446744073709551616 from by decide,Nat.mod_eq_of_lt (by omega),Nat.mod_eq_of_lt (by omega)]
    have h8:256 ^ i=2 ^ (8*i):=by rw [Nat.pow_mul]
    rw [h8] at ha ⊢
    rw [Nat.or_comm,← Nat.shiftLeft_eq,← Nat.shiftLeft_add_eq_or_of_lt ha]
    omega
  rw [e3]
  exact wrap_i64 (by omega) (by omega)
theorem JI (b:List UInt8) (x:UInt8):cq (b++ [x])=cq b+x.toNat*256 ^ b.length:=by
  induction b with
  | nil=>simp [cq]
  | cons y b ih=>simp only [List.cons_append,cq,ih,List.length_cons,Nat.pow_succ];rw [Nat.mul_add,Nat.add_assoc,Nat.mul_left_comm,Nat.mul_comm 256 (256 ^ b.length)]
def jK (b:List UInt8) (n:Int):List UInt8:=if (b.length:Int)<n then [] else b.take n.toNat
def dG (b:List UInt8) (n:Int):List UInt8:=if (b.length:Int)<n then b else b.drop n.toNat
theorem sk (b:List UInt8) (n:Int):dO (ah b) n=ah (jK b n):=by
  unfold dO jK
  rw [aZ]
  split
  · rfl
  · rw [IE]
theorem Lz (b:List UInt8) (n:Int):aW (ah b) n=ah (dG b n):=by
  unfold aW dG
  rw [aZ]
  split
  · rfl
  · rw [IV]
theorem NM (b:List UInt8) (n:Int) (h:0≤n):(jK b n).length≤n.toNat:=by
  unfold jK
  split
  · simp
  · rw [List.length_take];omega
theorem Wm:Uf:=by
  rintro n l sh hl ⟨h0,h7,hB⟩
  obtain ⟨b,rfl⟩:=kc hB
  refine ⟨h0,fun _=>⟨⟨⟨rfl,rfl,by omega,by omega,rfl,rfl,by simp [cq]⟩,trivial⟩,?_⟩⟩
  rintro n' tk m i rest sh' htk ⟨rfl,rfl,h0',h1,rfl,rfl,h2⟩
  rw [sk,aZ] at *
  rw [eL] at *
  have hle:=NM b n h0
  generalize ht:jK b n=t at *
  refine ab (fun h=> ?_) fun h=> ?_
  · simp only [decide_eq_true_eq] at h
    have hlt:i.toNat<t.length:=by omega
    rw [Aq t hlt,Jj,NI hlt]
    have hx:=t[i.toNat].toNat_lt
    have hn:=PI (t.take i.toNat)
    rw [List.length_take,Nat.min_eq_left (by omega)] at hn
    have e:=TV hn hx (by omega)
    rw [h2,show (8:Int)*i=8*((i.toNat:Nat):Int) from by omega,e]
    refine ⟨⟨by omega,by omega⟩,hlt,by omega,by omega,by omega,⟨by rw [sk,ht],by rw [aZ],by omega,by omega,rfl,rfl,?_⟩,by omega⟩
    rw [eL,show (i+1).toNat=i.toNat+1 from by omega,List.take_add_one,List.getElem?_eq_getElem hlt]
    simp only [Option.toList_some]
    rw [JI,List.length_take,Nat.min_eq_left (by omega)]
  · simp only [decide_eq_false_iff_not] at h
    refine ⟨?_,rfl,rfl⟩
    rw [h2,List.take_of_length_le (by omega)]
theorem ZP:af (base.with yy) 169 (ag FE):=am UD Tryz.func169 (by kernel_rfl) (by kernel_rfl) Tryz.call169 aco Wm
theorem SQ:(base.with yU).Ok:=ae UD ZP
def i4 (b:List UInt8) (n:Int) (sh:Bool):Bool:=decide ((b.length:Int)<n)||sh
theorem JC (b:List UInt8) (n:Int) (sh:Bool):kF (ah b) n sh=i4 b n sh:=by unfold kF i4;rw [aZ]
theorem mn (b:List UInt8) (n:Int):i4 b n true=true:=by simp [i4]
theorem iE {b:List UInt8} {n:Nat} (h:n≤b.length):dG b n=b.drop n:=by
  unfold dG;rw [if_neg (by omega)];simp
theorem mX {b:List UInt8} {n:Nat} (h:n≤b.length):jK b n=b.take n:=by
  unfold jK;rw [if_neg (by omega)];simp
theorem qx {b:List UInt8} {n:Int} {sh:Bool} (h:(b.length:Int)<n):i4 b n sh=true:=by simp [i4,h]
theorem qz {b:List UInt8} {n:Int} {sh:Bool} (h:n≤(b.length:Int)):i4 b n sh=sh:=by
  unfold i4;rw [decide_eq_false (by omega)];rfl
def tC (b:List UInt8):Bool:=
  i4 (dG (dG (dG (dG b 1) 1) 4) 2) (cq (jK (dG (dG (dG b 1) 1) 4) 2):Int) (i4 (dG (dG (dG b 1) 1) 4) 2 (i4 (dG (dG b 1) 1) 4 (i4 (dG b 1) 1 (i4 b 1 false))))
theorem BJ {b:List UInt8} (h:8≤b.length):dG b 1=b.drop 1∧dG (b.drop 1) 1=b.drop 2∧dG (b.drop 2) 4=b.drop 6∧dG (b.drop 6) 2=b.drop 8∧
    jK b 1=b.take 1∧jK (b.drop 1) 1=(b.drop 1).take 1∧jK (b.drop 2) 4=(b.drop 2).take 4∧jK (b.drop 6) 2=(b.drop 6).take 2:=by
  have d1:=iE (b:=b) (n:=1) (by omega)
  have d2:=iE (b:=b.drop 1) (n:=1) (by rw [List.length_drop];omega)
  have d3:=iE (b:=b.drop 2) (n:=4) (by rw [List.length_drop];omega)
  have d4:=iE (b:=b.drop 6) (n:=2) (by rw [List.length_drop];omega)
  have r1:=mX (b:=b) (n:=1) (by omega)
  have r2:=mX (b:=b.drop 1) (n:=1) (by rw [List.length_drop];omega)
  have r3:=mX (b:=b.drop 2) (n:=4) (by rw [List.length_drop];omega)
  have r4:=mX (b:=b.drop 6) (n:=2) (by rw [List.length_drop];omega)
  simp only [List.drop_drop] at d1 d2 d3 d4
  exact ⟨d1,d2,d3,d4,r1,r2,r3,r4⟩
theorem wH (b:List UInt8):tC b=decide (b.length<8∨b.length<8+cq ((b.drop 6).take 2)):=by
  unfold tC
  rcases Nat.lt_or_ge b.length 8 with h | h
  · rw [decide_eq_true (.inl h)]
    rcases Nat.lt_or_ge b.length 1 with h1 | h1
    · rw [qx (b:=b) (by omega)];simp only [mn]
    have d1:dG b 1=b.drop 1:=iE (b:=b) (n:=1) (by omega)
    rw [d1]
    rcases Nat.lt_or_ge b.length 2 with h2 | h2
    · rw [qx (b:=b.drop 1) (by rw [List.length_drop];omega)];simp only [mn]
    have d2:dG (b.drop 1) 1=b.drop 2:=by
      have:=iE (b:=b.drop 1) (n:=1) (by rw [List.length_drop];omega)
      rw [List.drop_drop] at this
      exact this
    rw [d2]
    rcases Nat.lt_or_ge b.length 6 with h3 | h3
    · rw [qx (b:=b.drop 2) (by rw [List.length_drop];omega)];simp only [mn]
    have d3:dG (b.drop 2) 4=b.drop 6:=by
      have:=iE (b:=b.drop 2) (n:=4) (by rw [List.length_drop];omega)
      rw [List.drop_drop] at this
      exact this
    rw [d3,qx (b:=b.drop 6) (by rw [List.length_drop];omega)]
    simp only [mn]
  · obtain ⟨d1,d2,d3,d4,r1,r2,r3,r4⟩:=BJ h
    rw [d1,d2,d3,d4,r4,qz (b:=b) (by omega),qz (b:=b.drop 1) (by rw [List.length_drop];omega),qz (b:=b.drop 2) (by rw [List.length_drop];omega),qz (b:=b.drop 6) (by rw [List.length_drop];omega)]
    unfold i4
    rw [Bool.or_false,decide_eq_decide,List.length_drop]
    omega
theorem ZZ:TE:=by
  rintro l hl ⟨hB,hlen⟩
  obtain ⟨b,rfl⟩:=kc hB
  simp only [Lz,sk,JC,eL,aZ] at *
  refine ⟨⟨by omega,by omega,gu _⟩,⟨by omega,by omega,gu _⟩,⟨by omega,by omega,gu _⟩,⟨by omega,by omega,gu _⟩,by unfold m9;omega,ab (fun h=> ?_) fun h=>⟨trivial,?_⟩⟩
  · have hs:tC b=true:=h
    rw [wH,decide_eq_true_eq] at hs
    have he:ir b=2:=by unfold ir;rw [if_pos hs]
    unfold dM lX
    rw [he,if_neg (by decide),if_neg (by decide)]
    exact ⟨rfl,rfl,rfl,rfl,rfl,rfl⟩
  · have hs:tC b=false:=h
    rw [wH,decide_eq_false_iff_not] at hs
    have h8:8≤b.length:=by omega
    obtain ⟨d1,d2,d3,d4,r1,r2,r3,r4⟩:=BJ h8
    rw [d1,d2,d3,d4,r1,r2,r3,r4]
    have r5:jK (b.drop 8) (cq ((b.drop 6).take 2):Int)=(b.drop 8).take (cq ((b.drop 6).take 2)):=mX (by rw [List.length_drop];omega)
    have d5:dG (b.drop 8) (cq ((b.drop 6).take 2):Int)=b.drop (8+cq ((b.drop 6).take 2)):=by
      rw [iE (by rw [List.length_drop];omega),List.drop_drop]
    rw [r5,d5]
    have he:ir b=cH (cq (b.take 1)) (cq ((b.drop 1).take 1)) (cq ((b.drop 2).take 4)) ((b.drop 8).take (cq ((b.drop 6).take 2))):=by
      unfold ir;rw [if_neg hs];rfl
    refine ab (fun h=> ?_) fun h=> ?_
    · simp only [ne_eq,decide_not,Bool.not_eq_true',decide_eq_false_iff_not] at h
      unfold dM lX
      rw [he,if_neg h,if_neg h]
      exact ⟨rfl,rfl,rfl,rfl,rfl,rfl⟩
    · simp only [ne_eq,decide_not,Bool.not_eq_false',decide_eq_true_eq] at h
      unfold dM lX
      rw [he,if_pos h,if_pos h]
      refine ⟨?_,rfl,rfl,rfl,rfl,h.symm,rfl⟩
      unfold pQ
      rw [aZ,List.length_drop];omega
theorem XW:af (base.with yU) 129 (ag GO):=am SQ Tryz.func129 (by kernel_rfl) (by kernel_rfl) Tryz.call129 ae0 ZZ
theorem Qc:(base.with zp).Ok:=ae SQ XW
end Go.Proofs.YteiecapbaeajdaaGreatDoor
namespace Go.Proofs.YteiecapbaeajdaaGreatDoor
open Go Go.Avc Go.Proofs
set_option linter.unusedVariables false
set_option linter.unusedSimpArgs false
set_option maxRecDepth 100000
theorem M6 {a b c:Int} {l:List UInt8} (h:cH a b c l=0):lG a b c l=ah (zw a b c l):=if_pos h
end Go.Proofs.YteiecapbaeajdaaGreatDoor
namespace Go.Proofs.YteiecapbaeajdaaGreatDoor
open Go.Avc
set_option linter.unusedVariables false
def og:Nat→List It→List UInt8→List It×Int×Int
  | 0,acc,b=>if b.length=0 then (acc,-1,0) else ([],acc.length,9)
  | n+1,acc,b=>if b.length=0 then (acc,-1,0) else if ir b=0 then og n (acc++ [rE b]) (lX b) else ([],acc.length,ir b)
def aB (b:List UInt8):List It×Int×Int:=og 1024 [] b
def ta (x:It):List UInt8:=zw x.k x.t x.c x.l
def kQ (x:It):Int:=cH x.k x.t x.c x.l
def lW:Nat→List UInt8→List It→List UInt8×Int×Int
  | _,acc,[] =>(acc,-1,0)
  | i,acc,x::l=>if i=1024 then ([],i,9) else if kQ x=0 then lW (i+1) (acc++ta x) l else ([],i,kQ x)
def cm (l:List It):List UInt8×Int×Int:=lW 0 [] l
def J4:Ct:= {ps:= [.rd iO],bs:= [],pre:=fun | [.r l] =>dY l | _=>False,res:=fun | [.r l] => .ret (.tup [.own 0,i64,i64]) [.own 116 gH] [.i (aB (aa l)).2.1,.i (aB (aa l)).2.2,.r (aF (aB (aa l)).1)] | _=>aj}
def Mo (l l':List (List CD)) (i:Int) (acc:List (List CD)):Prop:=dY l'∧0≤i∧i≤1024∧i=acc.length∧acc=aF (aE acc)∧aB (aa l)=og (1024-acc.length) (aE acc) (aa l')
def Vz:List Dat→Ann
  | [.r l] => {cut:= [],loop:= [(3,[la 34 [(0,.rd iO),(5,.own 0),(6,i64)] [.own 116 gH] (fun | [.r l',.i i,.r acc] =>Mo l l' i acc | _=>False) (fun | [_,.i i,_] =>(1025-i).toNat | _=>0)])]}
  | _=> {cut:= [],loop:= []}
def qk (l:List (List CD)):Prop:=l.length≤100000000
def JW:Ct:= {ps:= [.rd gH],bs:= [],pre:=fun | [.r l] =>qk l | _=>False,res:=fun | [.r l] => .ret (.tup [.own 0,i64,i64]) [.own 5 iO] [.i (cm (aE l)).2.1,.i (cm (aE l)).2.2,.r (ah (cm (aE l)).1)] | _=>aj}
def MO (l acc l':List (List CD)) (n i:Int):Prop:=l'=l∧n=l.length∧0≤i∧i≤n∧i≤1024∧acc.length≤263*i∧cI acc∧cm (aE l)=lW i.toNat (aa acc) ((aE l).drop i.toNat)
def Yo:List Dat→Ann
  | [.r l] => {cut:= [],loop:= [(3,[la 34 [(5,.own 0),(10,.rd gH),(11,i64),(12,i64)] [.own 5 iO] (fun | [.r l',.i n,.i i,.r acc] =>MO l acc l' n i | _=>False) (fun | [_,.i n,.i i,_] =>(n-i).toNat | _=>0)])]}
  | _=> {cut:= [],loop:= []}
end Go.Proofs.YteiecapbaeajdaaGreatDoor
namespace Go.Proofs.YteiecapbaeajdaaGreatDoor
open Go Go.Avc Go.Proofs
set_option linter.unusedVariables false
set_option maxRecDepth 100000
def P80:Prop:= ∀ (l:List (List CD)),
 l.length≤9223372036854775807→
 dY l→
 (Mo l l 0 [] ∧True)∧
 ∀ (l_1:List (List CD)) (n:Int) (l_2:List (List CD)),
 l_1.length≤9223372036854775807→
 l_2.length≤9223372036854775807→
 Mo l l_1 n l_2→
 l_1.length≤9223372036854775807→
 bif decide (0 < (↑l_1.length:Int)) then
 bif decide (n=1024) then
 n=(aB (aa l)).snd.fst∧
 9=(aB (aa l)).snd.snd∧
 [] =aF (aB (aa l)).fst
 else
 dY l_1∧
 bif decide (ir (aa l_1)≠0) then
 n=(aB (aa l)).snd.fst∧
 ir (aa l_1)=(aB (aa l)).snd.snd∧
 [] =aF (aB (aa l)).fst
 else
 ((l_2.length+1)*40≤140737488355328∧l_2.length+1≤9223372036854775807)∧
 ((-9223372036854775808:Int)≤n+1∧n+1≤9223372036854775807)∧
 Mo l (ah (lX (aa l_1))) (n+1)
 (l_2++
 [[.int (dM (aa l_1)).k,
 .int (dM (aa l_1)).t,
 .int (dM (aa l_1)).c,
 .str (dM (aa l_1)).l]])∧
 ((1025:Int) - (n+1)).toNat < ((1025:Int) - n).toNat
 else
 (-1:Int)=(aB (aa l)).snd.fst∧
 0=(aB (aa l)).snd.snd∧
 l_2=aF (aB (aa l)).fst
theorem e80:av zp Tryz.f80 J4 Vz=P80:=by kernel_rfl
noncomputable def Ej:ai:=al zp 80 (ag J4)
def P17:Prop:= ∀ (l:List (List CD)),
 l.length≤9223372036854775807→
 qk l→
 l.length≤9223372036854775807→
 (MO l [] l ↑l.length 0∧True)∧
 ∀ (l_1:List (List CD)) (n n_1:Int) (l_2:List (List CD)),
 l_1.length≤9223372036854775807→
 l_2.length≤9223372036854775807→
 MO l l_2 l_1 n n_1→
 bif decide (n_1 < n) then
 (0≤n_1∧n_1 < ↑l_1.length)∧
 n_1.toNat < l_1.length∧
 bif decide (n_1=1024) then
 n_1=(cm (aE l)).snd.fst∧
 9=(cm (aE l)).snd.snd∧
 [] =ah (cm (aE l)).fst
 else
 True∧
 bif
 decide
 (cH ((l_1.getD n_1.toNat []).getD 0 (.int 0)).toInt
 ((l_1.getD n_1.toNat []).getD 1 (.int 0)).toInt
 ((l_1.getD n_1.toNat []).getD 2 (.int 0)).toInt
 ((l_1.getD n_1.toNat []).getD 3 (.int 0)).toStr≠
 (0:Int)) then
 n_1=(cm (aE l)).snd.fst∧
 cH ((l_1.getD n_1.toNat []).getD 0 (.int 0)).toInt
 ((l_1.getD n_1.toNat []).getD 1 (.int 0)).toInt
 ((l_1.getD n_1.toNat []).getD 2 (.int 0)).toInt
 ((l_1.getD n_1.toNat []).getD 3 (.int 0)).toStr=
 (cm (aE l)).snd.snd∧
 [] =ah (cm (aE l)).fst
 else
 ((l_2.length+
 (lG ((l_1.getD n_1.toNat []).getD 0 (.int 0)).toInt
 ((l_1.getD n_1.toNat []).getD 1 (.int 0)).toInt
 ((l_1.getD n_1.toNat []).getD 2 (.int 0)).toInt
 ((l_1.getD n_1.toNat []).getD 3 (.int 0)).toStr).length)*
 1≤
 140737488355328∧
 l_2.length+
 (lG ((l_1.getD n_1.toNat []).getD 0 (.int 0)).toInt
 ((l_1.getD n_1.toNat []).getD 1 (.int 0)).toInt
 ((l_1.getD n_1.toNat []).getD 2 (.int 0)).toInt
 ((l_1.getD n_1.toNat []).getD 3 (.int 0)).toStr).length≤
 9223372036854775807)∧
 ((-9223372036854775808:Int)≤n_1+1∧n_1+1≤9223372036854775807)∧
 MO l
 (l_2++
 lG ((l_1.getD n_1.toNat []).getD 0 (.int 0)).toInt
 ((l_1.getD n_1.toNat []).getD 1 (.int 0)).toInt
 ((l_1.getD n_1.toNat []).getD 2 (.int 0)).toInt
 ((l_1.getD n_1.toNat []).getD 3 (.int 0)).toStr)
 l_1 n (n_1+1)∧
 (n - (n_1+1)).toNat < (n - n_1).toNat
 else
 (-1:Int)=(cm (aE l)).snd.fst∧
 0=(cm (aE l)).snd.snd∧
 l_2=ah (cm (aE l)).fst
theorem e17:av Ej Tryz.f17 JW Yo=P17:=by kernel_rfl
noncomputable def FV:ai:=al Ej 17 (ag JW)
end Go.Proofs.YteiecapbaeajdaaGreatDoor
namespace Go.Proofs.YteiecapbaeajdaaGreatDoor
open Go Go.Avc Go.Proofs
set_option linter.unusedVariables false
set_option linter.unusedSimpArgs false
theorem Rj {x:It} (h:kQ x=0):(ta x).length≤263:=by
  obtain ⟨_,_,_,_,_,_,_,_,_,_,h7⟩:=BE h
  unfold ta zw
  simp only [List.length_append,jY]
  omega
theorem wV (l:List It):(aF l).length=l.length:=List.length_map ..
theorem jl (l:List (List CD)):(aE l).length=l.length:=List.length_map ..
end Go.Proofs.YteiecapbaeajdaaGreatDoor
namespace Go.Proofs.YteiecapbaeajdaaGreatDoor
open Go Go.Avc Go.Proofs
set_option linter.unusedVariables false
set_option linter.unusedSimpArgs false
set_option maxRecDepth 100000
theorem r9 {l:List (List CD)} {i:Nat} (h:i<l.length):(aE l).drop i=i7 (l.getD i [])::(aE l).drop (i+1):=by
  have h':i<(aE l).length:=by rw [jl];exact h
  rw [List.drop_eq_getElem_cons h']
  congr 1
  simp [aE,h]
theorem Nk {b:List UInt8} (h:ir b=0):dM b=rE b:=if_pos h
theorem adY:P80:=by
  intro l hl hp
  refine ⟨⟨⟨hp,by omega,by omega,by simp,rfl,rfl⟩,trivial⟩,?_⟩
  rintro l' n acc hl' hacc ⟨hp2,h0,h1,h2,h3,h4⟩ _
  obtain ⟨b,rfl⟩:=kc hp2.1
  rw [eL] at h4 ⊢
  rw [aZ] at *
  refine ab (fun h=> ?_) fun h=> ?_
  · simp only [decide_eq_true_eq] at h
    have hb:b.length≠0:=by omega
    refine ab (fun h5=> ?_) fun h5=> ?_
    · simp only [decide_eq_true_eq] at h5
      rw [h4,show 1024-acc.length=0 from by omega,og,if_neg hb]
      exact ⟨by rw [jl];exact h2,rfl,rfl⟩
    · simp only [decide_eq_false_iff_not] at h5
      obtain ⟨k,hk⟩:∃ k,1024-acc.length=k+1:=⟨1023-acc.length,by omega⟩
      rw [hk,og,if_neg hb] at h4
      refine ⟨hp2,ab (fun h6=> ?_) fun h6=> ?_⟩
      · simp only [ne_eq,decide_not,Bool.not_eq_true',decide_eq_false_iff_not] at h6
        rw [h4,if_neg h6]
        exact ⟨by rw [jl];exact h2,rfl,rfl⟩
      · simp only [ne_eq,decide_not,Bool.not_eq_false',decide_eq_true_eq] at h6
        rw [if_pos h6] at h4
        have hl2:=hp2.2
        rw [aZ] at hl2
        have hd:(lX b).length≤b.length:=by unfold lX;rw [if_pos h6,List.length_drop];omega
        refine ⟨⟨by first | omega | (simp only [List.length_cons,List.length_nil];omega),by first | omega | (simp only [List.length_cons,List.length_nil];omega)⟩,⟨by omega,by omega⟩,⟨⟨gu _,by rw [aZ];omega⟩,by omega,by omega,by simp only [List.length_append,List.length_cons,List.length_nil];omega,?_,?_⟩,by omega⟩
        · conv=>lhs;rw [h3]
          simp only [aE,aF,List.map_append,List.map_cons,List.map_nil]
          rfl
        · rw [h4,eL,List.length_append,List.length_cons,List.length_nil,show 1024-(acc.length+(0+1))=k from by omega,← Nk h6]
          simp only [aE,List.map_append,List.map_cons,List.map_nil]
          rfl
  · simp only [decide_eq_false_iff_not] at h
    have hb:b.length=0:=by omega
    have e:aB (aa l)=(aE acc,-1,0):=by
      rw [h4]
      cases 1024-acc.length <;>rw [og,if_pos hb]
    rw [e]
    exact ⟨rfl,rfl,h3⟩
theorem acA:af (base.with zp) 80 (ag J4):=am Qc Tryz.func80 (by kernel_rfl) (by kernel_rfl) Tryz.call80 e80 adY
theorem c80:(base.with Ej).Ok:=ae Qc acA
theorem Kt {l:List (List CD)} {i:Nat} {acc:List UInt8} (h:cm (aE l)=lW i acc ((aE l).drop i)) (hi:l.length≤i):cm (aE l)=(acc,-1,0):=by
  rw [h,List.drop_eq_nil_of_le (by rw [jl];exact hi)]
  cases i <;>rfl
theorem Ko {l:List (List CD)} {acc:List UInt8} {i:Nat} (h:cm (aE l)=lW i acc ((aE l).drop i)) (hi:i<l.length) (h2:i=1024):cm (aE l)=([],1024,9):=by
  rw [h,r9 hi,lW,if_pos h2,h2];rfl
theorem Ob {l:List (List CD)} {acc:List UInt8} {i:Nat} (h:cm (aE l)=lW i acc ((aE l).drop i)) (hi:i<l.length) (h2:i≠1024) (h3:kQ (i7 (l.getD i []))≠0):cm (aE l)=([],(i:Int),kQ (i7 (l.getD i []))):=by
  rw [h,r9 hi,lW,if_neg h2,if_neg h3]
theorem J3 {l:List (List CD)} {acc:List UInt8} {i:Nat} (h:cm (aE l)=lW i acc ((aE l).drop i)) (hi:i<l.length) (h2:i≠1024) (h3:kQ (i7 (l.getD i []))=0):cm (aE l)=lW (i+1) (acc++ta (i7 (l.getD i []))) ((aE l).drop (i+1)):=by
  rw [h,r9 hi,lW,if_neg h2,if_pos h3]
theorem Nm {x:It} (h:kQ x=0):lG x.k x.t x.c x.l=ah (ta x):=M6 h
theorem abL:P17:=by
  intro l hl hp _
  unfold qk at hp
  refine ⟨⟨⟨rfl,rfl,by omega,by omega,by omega,by simp,rfl,rfl⟩,trivial⟩,?_⟩
  rintro l' n i acc hl' hacc ⟨rfl,rfl,h1,h2,h3,h4,h5,h6⟩
  obtain ⟨a,rfl⟩:=kc h5
  rw [eL] at h6
  rw [aZ] at *
  refine ab (fun h=> ?_) fun h=> ?_
  · simp only [decide_eq_true_eq] at h
    have hlt:i.toNat<l'.length:=by omega
    refine ⟨⟨by omega,by omega⟩,hlt,ab (fun h7=> ?_) fun h7=>⟨trivial,ab (fun h8=> ?_) fun h8=> ?_⟩⟩
    · simp only [decide_eq_true_eq] at h7
      rw [Ko h6 hlt (by omega)]
      exact ⟨h7,rfl,rfl⟩
    · simp only [decide_eq_false_iff_not] at h7
      have h8':kQ (i7 (l'.getD i.toNat []))≠0:=of_decide_eq_true h8
      rw [Ob h6 hlt (by omega) h8']
      exact ⟨by show i=(i.toNat:Int);omega,rfl,rfl⟩
    · simp only [decide_eq_false_iff_not] at h7
      have h8':kQ (i7 (l'.getD i.toNat []))=0:=Decidable.not_not.1 (of_decide_eq_false h8)
      have e:=Nm h8'
      have k1:=Rj h8'
      change lG ((l'.getD i.toNat []).getD 0 (CD.int 0)).toInt ((l'.getD i.toNat []).getD 1 (CD.int 0)).toInt ((l'.getD i.toNat []).getD 2 (CD.int 0)).toInt ((l'.getD i.toNat []).getD 3 (CD.int 0)).toStr=_ at e
      rw [e,aZ]
      refine ⟨⟨by omega,by omega⟩,⟨by omega,by omega⟩,⟨rfl,rfl,by omega,by omega,by omega,?_,?_,?_⟩,by omega⟩
      · rw [List.length_append,aZ,aZ];omega
      · rw [← fg];exact gu _
      · rw [← fg,eL,show (i+1).toNat=i.toNat+1 from by omega,J3 h6 hlt (by omega) h8']
  · simp only [decide_eq_false_iff_not] at h
    rw [Kt h6 (by omega)]
    exact ⟨rfl,rfl,rfl⟩
theorem abH:af (base.with Ej) 17 (ag JW):=am c80 Tryz.func17 (by kernel_rfl) (by kernel_rfl) Tryz.call17 e17 abL
theorem c17:(base.with FV).Ok:=ae c80 abH
theorem Nq (b:List UInt8):(aB b).1.length≤1024:=by
  suffices h:∀ n acc b,acc.length+n≤1024→(og n acc b).1.length≤1024 from h 1024 [] b (by simp)
  intro n
  induction n with
  | zero=>intro acc b h;unfold og;split <;>simp_all
  | succ n ih=>
    intro acc b h
    unfold og
    split
    · show acc.length≤_;omega
    · split
      · exact ih _ _ (by simp only [List.length_append,List.length_cons,List.length_nil];omega)
      · exact Nat.zero_le _
end Go.Proofs.YteiecapbaeajdaaGreatDoor
namespace Go.Proofs.YteiecapbaeajdaaGreatDoor
open Go.Avc
set_option linter.unusedVariables false
abbrev gA:BPat:= .cells 185 [.rd gH,i64,.nilp]
abbrev gB:BPat:= .cells 185 [.rd gH,i64,.ptr 1 0]
abbrev eB:BPat:= .cells 204 [i64]
def J1:Ct:= {ps:= [.rd iO],bs:= [],pre:=fun | [.r l] =>dY l | _=>False,res:=fun
  | [.r l] => .ite (decide ((aB (aa l)).2.2=0)) (.ret (.tup [.ptr 0 0,i64,i64]) [gA] [.i (-1),.i 0,.r (aF (aB (aa l)).1),.i 0]) (.ret (.tup [.nilp,i64,i64]) [] [.i (aB (aa l)).2.1,.i (aB (aa l)).2.2])
  | _=>aj}
def Gd:Ct:= {ps:= [.ptr 0 0,i64],bs:= [gA],pre:=fun _=>True,res:=fun
  | [.i e,.r l,.i n] => .ite (decide (e=0)) (.ret i64 [gA] [.i 0,.r l,.i n]) (.ret i64 [gB,eB] [.i e,.r l,.i n,.i e])
  | _=>aj}
def DP:Ct:= {ps:= [.ptr 0 0,i64],bs:= [gB,eB],pre:=fun _=>True,res:=fun
  | [.i _,.r l,.i n,.i w] => .ret i64 [gB,eB] [.i w,.r l,.i n,.i w]
  | _=>aj}
def Et:Ct:= {ps:= [.ptr 0 0,.bool,i64],bs:= [gA],pre:=fun | [.b _,.i e,.r _,.i _] =>e≠0 | _=>False,res:=fun
  | [.b ok,.i e,.r l,.i n] => .ite ok (.ret i64 [gA] [.i 0,.r l,.i n]) (.ret i64 [gB,eB] [.i e,.r l,.i n,.i e])
  | _=>aj}
def Gn:Ct:= {ps:= [.ptr 0 0,.bool,i64],bs:= [gB,eB],pre:=fun _=>True,res:=fun
  | [.b _,.i _,.r l,.i n,.i w] => .ret i64 [gB,eB] [.i w,.r l,.i n,.i w]
  | _=>aj}
def ie (l:List (List CD)) (n a b c:Int):Bool:=decide (n<l.length)&&sM (i7 (l.getD n.toNat [])).k (i7 (l.getD n.toNat [])).t (i7 (l.getD n.toNat [])).c a b c
def cS (l:List (List CD)) (n:Int):Prop:=0≤n∧n≤1000000
def Af:Ct:= {ps:= [.ptr 0 0,i64,i64,i64],bs:= [gA],pre:=fun | [.i _,.i _,.i _,.r l,.i n] =>cS l n | _=>False,res:=fun
  | [.i a,.i b,.i c,.r l,.i n] => .ite (ie l n a b c) (.ret i64 [gA] [.i 0,.r l,.i (n+1)]) (.ret i64 [gB,eB] [.i 10,.r l,.i n,.i 10])
  | _=>aj}
def AT:Ct:= {ps:= [.ptr 0 0,i64,i64,i64],bs:= [gB,eB],pre:=fun | [.i _,.i _,.i _,.r l,.i n,.i w] =>cS l n∧w≠0 | _=>False,res:=fun
  | [.i _,.i _,.i _,.r l,.i n,.i w] => .ret i64 [gB,eB] [.i w,.r l,.i n,.i w]
  | _=>aj}
def GY:Ct:= {ps:= [.ptr 0 0],bs:= [gA],pre:=fun _=>True,res:=fun
  | [.r l,.i n] => .ite (decide (n=l.length)) (.ret i64 [gA] [.i 0,.r l,.i n]) (.ret i64 [gB,eB] [.i 12,.r l,.i n,.i 12])
  | _=>aj}
def Ef:Ct:= {ps:= [.ptr 0 0],bs:= [gB,eB],pre:=fun _=>True,res:=fun
  | [.r l,.i n,.i w] => .ret i64 [gB,eB] [.i w,.r l,.i n,.i w]
  | _=>aj}
end Go.Proofs.YteiecapbaeajdaaGreatDoor
namespace Go.Proofs.YteiecapbaeajdaaGreatDoor
open Go Go.Avc Go.Proofs
set_option linter.unusedVariables false
set_option maxRecDepth 100000
def P43:Prop:= ∀ (l:List (List CD)),
 l.length≤9223372036854775807→
 dY l→
 dY l∧
 bif decide ((aB (aa l)).snd.snd≠0) then
 bif decide ((aB (aa l)).snd.snd=0) then
 Miss (2:Nat)
 {n:=0,ov:= [],tm:= [.tup [.nilp,.int .i64 (aB (aa l)).snd.fst,.int .i64 (aB (aa l)).snd.snd]],hp:= [.own (116:TypeId) [.int .i64,.int .i64,.int .i64,.str] (aF (aB (aa l)).fst)],G:= []}
 else
 (aB (aa l)).snd.fst=(aB (aa l)).snd.fst∧
 (aB (aa l)).snd.snd=(aB (aa l)).snd.snd
 else
 bif decide ((aB (aa l)).snd.snd=0) then
 (-1:Int)=(-1:Int)∧
 (0:Int)=0∧
 aF (aB (aa l)).fst=
 aF (aB (aa l)).fst∧
 (0:Int)=0
 else
 Miss (2:Nat)
 {n:=0,ov:= [],tm:= [.tup [.ptr (1:Nat) (0:Nat),.int .i64 (-1:Int),.int .i64 (0:Int)]],hp:= [.own (116:TypeId) [.int .i64,.int .i64,.int .i64,.str] (aF (aB (aa l)).fst),.cells (185:Nat) [.own (0:Nat),.int .i64 (0:Int),.nilp]],G:= []}
theorem e43:av FV Tryz.f43 J1 au=P43:=by kernel_rfl
noncomputable def uA:ai:=al FV 43 (ag J1)
def OK:Prop:= ∀ (n:Int) (l:List (List CD)) (n_1:Int),
 l.length≤9223372036854775807→
 True→
 bif true && decide (n≠0) then
 bif decide (n=0) then
 Miss (2:Nat)
 {n:=0,ov:= [],tm:= [.int .i64 n],hp:= [.cells (185:TypeId) [.rd [.int .i64,.int .i64,.int .i64,.str] l,.int .i64 n_1,.ptr (1:Nat) (0:Nat)],.cells (204:Nat) [.int .i64 n]],G:= []}
 else n=n∧l=l∧n_1=n_1∧n=n
 else
 bif decide (n=0) then (0:Int)=0∧l=l∧n_1=n_1
 else
 Miss (2:Nat)
 {n:=0,ov:= [],tm:= [.int .i64 (0:Int)],hp:= [.cells (185:TypeId) [.rd [.int .i64,.int .i64,.int .i64,.str] l,.int .i64 n_1,.nilp]],G:= []}
theorem aeJ:av uA Tryz.f55 Gd au=OK:=by kernel_rfl
def SN:Prop:= ∀ (n:Int) (l:List (List CD)) (n n_1:Int),l.length≤9223372036854775807→True→n_1=n_1∧l=l∧n=n∧n_1=n_1
theorem ada:av uA Tryz.f55 DP au=SN:=by kernel_rfl
noncomputable def uM:ai:=al uA 55 (oB Gd (ag DP))
def Pj:Prop:= ∀ (b:Bool) (n:Int) (l:List (List CD)) (n_1:Int),
 l.length≤9223372036854775807→
 n≠0→
 bif b then
 True∧
 bif b then (0:Int)=0∧l=l∧n_1=n_1
 else
 Miss 2
 {n:=0,ov:= [],tm:= [.int .i64 (0:Int)],hp:= [.cells (185:TypeId) [.rd [.int .i64,.int .i64,.int .i64,.str] l,.int .i64 n_1,.nilp]],G:= []}
 else
 True∧
 bif decide (n=0) then
 bif b then (0:Int)=0∧l=l∧n_1=n_1
 else
 Miss 2
 {n:=0,ov:= [],tm:= [.int .i64 (0:Int)],hp:= [.cells (185:TypeId) [.rd [.int .i64,.int .i64,.int .i64,.str] l,.int .i64 n_1,.nilp]],G:= []}
 else
 bif b then
 Miss 2
 {n:=0,ov:= [],tm:= [.int .i64 n],hp:= [.cells (185:TypeId) [.rd [.int .i64,.int .i64,.int .i64,.str] l,.int .i64 n_1,.ptr 1 0],.cells (204:TypeId) [.int .i64 n]],G:= []}
 else n=n∧l=l∧n_1=n_1∧n=n
theorem ach:av uM Tryz.f94 Et au=Pj:=by kernel_rfl
def S7:Prop:= ∀ (b:Bool) (n:Int) (l:List (List CD)) (n n_1:Int),
 l.length≤9223372036854775807→True→bif b then True∧n_1=n_1∧l=l∧n=n∧n_1=n_1 else True∧n_1=n_1∧l=l∧n=n∧n_1=n_1
theorem adO:av uM Tryz.f94 Gn au=S7:=by kernel_rfl
noncomputable def ux:ai:=al uM 94 (oB Et (ag Gn))
def L4:Prop:= ∀ (n n_1 n_2:Int) (l:List (List CD)) (n_3:Int),
 l.length≤9223372036854775807→
 cS l n_3→
 (decide (n_3 < ↑l.length)=true→0≤n_3∧n_3 < ↑l.length)∧
 (decide (n_3 < ↑l.length)=true→n_3.toNat < l.length)∧
 (decide (n_3 < ↑l.length)=true→True)∧
 (10:Int)≠0∧
 bif
 decide (n_3 < ↑l.length) &&
 sM ((l.getD n_3.toNat []).getD (0:Nat) (.int 0)).toInt
 ((l.getD n_3.toNat []).getD (1:Nat) (.int 0)).toInt ((l.getD n_3.toNat []).getD (2:Nat) (.int 0)).toInt n n_1 n_2 then
 ((-9223372036854775808:Int)≤n_3+1∧n_3+1≤9223372036854775807)∧
 bif ie l n_3 n n_1 n_2 then (0:Int)=0∧l=l∧n_3+1=n_3+1
 else
 Miss (2:Nat)
 {n:=0,ov:= [],tm:= [.int .i64 (0:Int)],hp:= [.cells (185:TypeId) [.rd [.int .i64,.int .i64,.int .i64,.str] l,.int .i64 (n_3+1),.nilp],.cells (116:Nat) [.int .i64 n,.int .i64 n_1,.int .i64 n_2,.str []]],G:= []}
 else
 bif ie l n_3 n n_1 n_2 then
 Miss (2:Nat)
 {n:=0,ov:= [],tm:= [.int .i64 (10:Int)],hp:= [.cells (185:TypeId) [.rd [.int .i64,.int .i64,.int .i64,.str] l,.int .i64 n_3,.ptr (2:Nat) (0:Nat)],.cells (116:Nat) [.int .i64 n,.int .i64 n_1,.int .i64 n_2,.str []],.cells (204:TypeId) [.int .i64 (10:Int)]],G:= []}
 else (10:Int)=10∧l=l∧n_3=n_3∧(10:Int)=10
theorem Wt:av ux Tryz.f137 Af au=L4:=by kernel_rfl
def Ml:Prop:= ∀ (n n n:Int) (l:List (List CD)) (n n_1:Int),
 l.length≤9223372036854775807→
 cS l n∧n_1≠0→
 (decide (n < ↑l.length)=true→0≤n∧n < ↑l.length)∧
 (decide (n < ↑l.length)=true→n.toNat < l.length)∧
 (decide (n < ↑l.length)=true→True)∧
 True∧
 bif decide (n_1=0) then
 ((-9223372036854775808:Int)≤n+1∧n+1≤9223372036854775807)∧n_1=n_1∧l=l∧n+1=n∧n_1=n_1
 else n_1=n_1∧l=l∧n=n∧n_1=n_1
theorem Zt:av ux Tryz.f137 AT au=Ml:=by kernel_rfl
noncomputable def qo:ai:=al ux 137 (oB Af (ag AT))
def RK:Prop:= ∀ (l:List (List CD)) (n:Int),
 l.length≤9223372036854775807→
 True→
 (12:Int)≠(0:Int)∧
 bif decide (n=↑l.length) then
 bif decide (n=↑l.length) then 0=(0:Int)∧l=l∧n=n
 else
 Miss 2
 {n:=0,ov:= [],tm:= [.int .i64 0],hp:= [.cells (185:TypeId) [.rd [.int .i64,.int .i64,.int .i64,.str] l,.int .i64 n,.nilp]],G:= []}
 else
 bif decide (n=↑l.length) then
 Miss 2
 {n:=0,ov:= [],tm:= [.int .i64 12],hp:= [.cells (185:TypeId) [.rd [.int .i64,.int .i64,.int .i64,.str] l,.int .i64 n,.ptr 1 0],.cells (204:TypeId) [.int .i64 12]],G:= []}
 else 12=(12:Int)∧l=l∧n=n∧(12:Int)=(12:Int)
theorem afb:av qo Tryz.f57 GY au=RK:=by kernel_rfl
def QY:Prop:= ∀ (l:List (List CD)) (n n_1:Int),l.length≤9223372036854775807→True→True∧n_1=n_1∧l=l∧n=n∧n_1=n_1
theorem aeH:av qo Tryz.f57 Ef au=QY:=by kernel_rfl
noncomputable def DT:ai:=al qo 57 (oB GY (ag Ef))
end Go.Proofs.YteiecapbaeajdaaGreatDoor
namespace Go.Proofs.YteiecapbaeajdaaGreatDoor
open Go Go.Avc Go.Proofs
set_option linter.unusedVariables false
set_option linter.unusedSimpArgs false
set_option maxRecDepth 100000
theorem adK:P43:=by
  intro l hl hp
  refine ⟨hp,ab (fun h=> ?_) fun h=> ?_⟩
  · have h:=of_decide_eq_true h
    rw [decide_eq_false h]
    exact ⟨rfl,rfl⟩
  · have h:(aB (aa l)).2.2=0:=Decidable.not_not.1 (of_decide_eq_false h)
    rw [decide_eq_true h]
    exact ⟨rfl,rfl,rfl,rfl⟩
theorem aeE:af (base.with FV) 43 (ag J1):=am c17 Tryz.func43 (by kernel_rfl) (by kernel_rfl) Tryz.call43 e43 adK
theorem R6:(base.with uA).Ok:=ae c17 aeE
theorem YE:OK:=by
  intro n l k hl _
  refine ab (fun h=>ab (fun h2=> ?_) fun _=>⟨rfl,rfl,rfl,rfl⟩) fun h=>ab (fun _=>⟨rfl,rfl,rfl⟩) fun h2=> ?_
  · simp only [Bool.true_and,ne_eq,decide_not,Bool.not_eq_true',decide_eq_false_iff_not,decide_eq_true_eq] at h h2
    exact absurd h2 h
  · simp only [Bool.true_and,ne_eq,decide_not,Bool.not_eq_false',decide_eq_false_iff_not,decide_eq_true_eq] at h h2
    exact absurd h h2
theorem Zp:SN:=fun _ _ _ _ _ _=>⟨rfl,rfl,rfl,rfl⟩
theorem X3:af (base.with uA) 55 (ag Gd):=am R6 Tryz.func55 (by kernel_rfl) (by kernel_rfl) Tryz.call55 aeJ YE
theorem XA:af (base.with uA) 55 (ag DP):=am R6 Tryz.func55 (by kernel_rfl) (by kernel_rfl) Tryz.call55 ada Zp
theorem Qn:(base.with uM).Ok:=ae R6 (lh X3 XA)
theorem UY:Pj:=by
  intro b n l k hl hn
  refine ab (fun hb=>⟨trivial,ab (fun _=>⟨rfl,rfl,rfl⟩) fun h=> ?_⟩) fun hb=>⟨trivial,ab (fun h=>absurd (of_decide_eq_true h) hn) fun _=>ab (fun h=> ?_) fun _=>⟨rfl,rfl,rfl,rfl⟩⟩
  · rw [hb] at h;cases h
  · rw [hb] at h;cases h
theorem ZG:S7:=fun _ _ _ _ _ _ _=>ab (fun _=>⟨trivial,rfl,rfl,rfl,rfl⟩) fun _=>⟨trivial,rfl,rfl,rfl,rfl⟩
theorem VR:af (base.with uM) 94 (ag Et):=am Qn Tryz.func94 (by kernel_rfl) (by kernel_rfl) Tryz.call94 ach UY
theorem Ym:af (base.with uM) 94 (ag Gn):=am Qn Tryz.func94 (by kernel_rfl) (by kernel_rfl) Tryz.call94 adO ZG
theorem PJ:(base.with ux).Ok:=ae Qn (lh VR Ym)
theorem Pp:L4:=by
  intro a b c l n hl hp
  obtain ⟨h0,h1⟩:=hp
  refine ⟨fun h=>⟨h0,of_decide_eq_true h⟩,fun h=>by have:=of_decide_eq_true h;omega,fun _=>trivial,by decide,ab (fun h=>⟨⟨by omega,by omega⟩,ab (fun _=>⟨rfl,rfl,rfl⟩) fun h2=> ?_⟩) fun h=>ab (fun h2=> ?_) fun _=>⟨rfl,rfl,rfl,rfl⟩⟩
  · have h':ie l n a b c=true:=h
    rw [h'] at h2;cases h2
  · have h':ie l n a b c=false:=h
    rw [h'] at h2;cases h2
theorem PM:Ml:=by
  intro a b c l n w hl hp
  obtain ⟨⟨h0,h1⟩,hw⟩:=hp
  exact ⟨fun h=>⟨h0,of_decide_eq_true h⟩,fun h=>by have:=of_decide_eq_true h;omega,fun _=>trivial,trivial,ab (fun h=>absurd (of_decide_eq_true h) hw) fun _=>⟨rfl,rfl,rfl,rfl⟩⟩
theorem QE:af (base.with ux) 137 (ag Af):=am PJ Tryz.func137 (by kernel_rfl) (by kernel_rfl) Tryz.call137 Wt Pp
theorem Pn:af (base.with ux) 137 (ag AT):=am PJ Tryz.func137 (by kernel_rfl) (by kernel_rfl) Tryz.call137 Zt PM
theorem JL:(base.with qo).Ok:=ae PJ (lh QE Pn)
theorem Vr:RK:=by
  intro l n hl _
  refine ⟨by decide,ab (fun h=>ab (fun _=>⟨rfl,rfl,rfl⟩) fun h2=> ?_) fun h=>ab (fun h2=> ?_) fun _=>⟨rfl,rfl,rfl,rfl⟩⟩
  · rw [h] at h2;cases h2
  · rw [h] at h2;cases h2
theorem YX:QY:=fun _ _ _ _ _=>⟨trivial,rfl,rfl,rfl,rfl⟩
theorem Ys:af (base.with qo) 57 (ag GY):=am JL Tryz.func57 (by kernel_rfl) (by kernel_rfl) Tryz.call57 afb Vr
theorem WN:af (base.with qo) 57 (ag Ef):=am JL Tryz.func57 (by kernel_rfl) (by kernel_rfl) Tryz.call57 aeH YX
theorem c57:(base.with DT).Ok:=ae JL (lh Ys WN)
end Go.Proofs.YteiecapbaeajdaaGreatDoor
namespace Go.Proofs.YteiecapbaeajdaaGreatDoor
open Go.Avc
set_option linter.unusedVariables false
abbrev u64:Pat:= .int .u64
abbrev L0:Pat:= .arrI 25 .u64
abbrev st:Pat:= .agg [L0]
def xr (a b:Int):Int:=oC .u64 a b
def oL (x s:Int):Int:=dQ .u64 (cn .u64 x s) (aw .u64 x (64-s))
def fq (s:List Int):Nat→List Int
  | 0=>List.replicate 5 0
  | i+1=>(fq s i).set (i%5) (xr ((fq s i).getD (i%5) 0) (s.getD i 0))
def mF (c s:List Int):Nat→List Int
  | 0=>s
  | i+1=>(mF c s i).set i (xr ((mF c s i).getD i 0) (xr (c.getD ((i%5+4)%5) 0) (oL (c.getD ((i%5+1)%5) 0) 1)))
def gc (s:List Int):List Int:=mF (fq s 25) s 25
def bR:Nat→Nat×Nat
  | 0=>(1,0)
  | i+1=>((bR i).2,(2*(bR i).1+3*(bR i).2)%5)
def tR (s:List Int):Nat→List Int
  | 0=>(List.replicate 25 0).set 0 (s.getD 0 0)
  | i+1=>(tR s i).set ((bR i).2+5*((2*(bR i).1+3*(bR i).2)%5)) (oL (s.getD ((bR i).1+5*(bR i).2) 0) (((i+1)*(i+2) / 2:Nat)%64:Nat))
def i6 (s:List Int):List Int:=tR s 24
def pg (s:List Int):Nat→List Int
  | 0=>s
  | i+1=>(pg s i).set i (xr ((pg s i).getD i 0) (jJ .u64 (s.getD (i-i%5+(i+2)%5) 0) (s.getD (i-i%5+(i+1)%5) 0)))
def nh (s:List Int):List Int:=pg s 25
def qj (r:Int):Int:=if r<0∨24≤r then 0 else CE.getD r.toNat 0
def round (s:List Int) (r:Int):List Int:=(nh (i6 (gc s))).set 0 (xr ((nh (i6 (gc s))).getD 0 0) (qj r))
def dk (s:List Int):Nat→List Int
  | 0=>s
  | i+1=>round (dk s i) i
noncomputable def eE:List Int→List Int:=Classical.choose (⟨fun s=>dk s 24,rfl⟩:∃ f:List Int→List Int,f=fun s=>dk s 24)
theorem uy (s:List Int):eE s=dk s 24:=congrFun (Classical.choose_spec (⟨fun s=>dk s 24,rfl⟩:∃ f:List Int→List Int,f=fun s=>dk s 24)) s
def D1:Ct:= {ps:= [u64,i64],bs:= [],pre:=fun | [.i _,.i k] =>0≤k∧k≤1000 | _=>False,res:=fun | [.i x,.i k] => .ret u64 [] [.i (oL x (k%64))] | _=>aj}
def EL:Ct:= {ps:= [i64],bs:= [],pre:=fun _=>True,res:=fun | [.i r] => .ret u64 [] [.i (qj r)] | _=>aj}
abbrev o6:BPat:= .cells 212 [L0]
def Hb:Ct:= {ps:= [st],bs:= [],pre:=fun _=>True,res:=fun | [.li s] => .ret st [] [.li (gc s)] | _=>aj}
def R8:List Dat→Ann
  | [.li s] => {cut:= [],loop:= [
    (3,[la 45 [(1,.ptr 0 0),(2,.ptr 1 0),(3,.ptr 2 0),(8,st),(9,i64)] [o6,o6,.cells 337 [.arrI 5 .u64]] (fun | [.li s',.i i,.li s'',.li z,.li c] =>s'=s∧s''=s∧0≤i∧i≤25∧c=fq s i.toNat | _=>False) (fun | [_,.i i,_,_,_] =>(25-i).toNat | _=>0)]),
    (8,[la 45 [(1,.ptr 0 0),(2,.ptr 1 0),(3,.ptr 2 0),(21,i64)] [o6,o6,.cells 337 [.arrI 5 .u64]] (fun | [.i i,.li t,.li z,.li c] =>0≤i∧i≤25∧c=fq s 25∧t=mF c s i.toNat | _=>False) (fun | [.i i,_,_,_] =>(25-i).toNat | _=>0)])]}
  | _=> {cut:= [],loop:= []}
def FJ:Ct:= {ps:= [st],bs:= [],pre:=fun _=>True,res:=fun | [.li s] => .ret st [] [.li (i6 s)] | _=>aj}
def Sd:List Dat→Ann
  | [.li s] => {cut:= [],loop:= [
    (4,[la 42 [(1,.ptr 0 0),(2,.ptr 1 0),(3,.ptr 2 0),(4,i64),(5,i64),(11,i64)] [o6,o6,o6] (fun | [.i x,.i y,.i i,.li s',.li z,.li t] =>s'=s∧0≤i∧i≤24∧x=(bR i.toNat).1∧y=(bR i.toNat).2∧t=tR s i.toNat | _=>False) (fun | [_,_,.i i,_,_,_] =>(24-i).toNat | _=>0)])]}
  | _=> {cut:= [],loop:= []}
def Fa:Ct:= {ps:= [st],bs:= [],pre:=fun _=>True,res:=fun | [.li s] => .ret st [] [.li (nh s)] | _=>aj}
def OF:List Dat→Ann
  | [.li s] => {cut:= [],loop:= [
    (3,[la 36 [(1,.ptr 0 0),(2,.ptr 1 0),(3,.ptr 2 0),(7,i64)] [o6,o6,o6] (fun | [.i i,.li s',.li z,.li t] =>s'=s∧0≤i∧i≤25∧t=pg s i.toNat | _=>False) (fun | [.i i,_,_,_] =>(25-i).toNat | _=>0)])]}
  | _=> {cut:= [],loop:= []}
def EA:Ct:= {ps:= [st,i64],bs:= [],pre:=fun _=>True,res:=fun | [.li s,.i r] => .ret st [] [.li (round s r)] | _=>aj}
noncomputable def FQ:Ct:= {ps:= [st],bs:= [],pre:=fun _=>True,res:=fun | [.li s] => .ret st [] [.li (eE s)] | _=>aj}
def Ss:List Dat→Ann
  | [.li s] => {cut:= [],loop:= [
    (2,[la 12 [(1,.ptr 0 0),(2,.ptr 1 0),(4,i64)] [o6,o6] (fun | [.i i,.li t,.li z] =>0≤i∧i≤24∧t=dk s i.toNat | _=>False) (fun | [.i i,_,_] =>(24-i).toNat | _=>0)])]}
  | _=> {cut:= [],loop:= []}
end Go.Proofs.YteiecapbaeajdaaGreatDoor
namespace Go.Proofs.YteiecapbaeajdaaGreatDoor
open Go Go.Avc Go.Proofs
set_option linter.unusedVariables false
set_option maxRecDepth 100000
def SL:Prop:= ∀ (n n_1:Int),
 0≤n_1∧n_1≤1000→
 0≤bU IntKind.u64 (IntKind.u64.wrap n_1) 63∧
 0≤IntKind.u64.wrap ((64:Int) - bU IntKind.u64 (IntKind.u64.wrap n_1) 63)∧
 dQ IntKind.u64 (cn IntKind.u64 n (bU IntKind.u64 (IntKind.u64.wrap n_1) 63))
 (aw IntKind.u64 n (IntKind.u64.wrap ((64:Int) - bU IntKind.u64 (IntKind.u64.wrap n_1) 63)))=
 oL n (n_1 % 64)
theorem aeA:av DT Tryz.f238 D1 au=SL:=by kernel_rfl
noncomputable def yz:ai:=al DT 238 (ag D1)
def Q3:Prop:= ∀ (n:Int),
 True→
 bif decide (n < 0) || decide (24≤n) then 0=qj n
 else
 (0≤n∧n < (↑(24:Nat):Int)∧(0:Nat)+n.toNat < 24)∧
 (0:Nat)+n.toNat < 24∧
 (([[CD.int 1],[CD.int 32898],[CD.int 9223372036854808714],[CD.int 9223372039002292224],
 [CD.int 32907],[CD.int 2147483649],[CD.int 9223372039002292353],[CD.int 9223372036854808585],
 [CD.int 138],[CD.int 136],[CD.int 2147516425],[CD.int 2147483658],
 [CD.int 2147516555],[CD.int 9223372036854775947],[CD.int 9223372036854808713],
 [CD.int 9223372036854808579],[CD.int 9223372036854808578],[CD.int 9223372036854775936],
 [CD.int 32778],[CD.int 9223372039002259466],[CD.int 9223372039002292353],
 [CD.int 9223372036854808704],[CD.int 2147483649],[CD.int 9223372039002292232]].getD
 ((0:Nat)+n.toNat) []).getD
 0 (CD.int 0)).toInt=
 qj n
theorem aeR:av yz Tryz.f214 EL au=Q3:=by kernel_rfl
noncomputable def yg:ai:=al yz 214 (ag EL)
def Uy:Prop:= ∀ (l:List Int),
 l.length=25→
 True→
 ((l=l∧
 l=l∧
 (0:Int)≤0∧(0:Int)≤25∧ [(0:Int),0,0,0,0] =fq l 0)∧
 True)∧
 ∀ (l_1:List Int) (n:Int) (l_2 l_3 l_4:List Int),
 l_1.length=25→
 l_2.length=25→
 l_3.length=25→
 l_4.length=5→
 l_1=l∧l_2=l∧0≤n∧n≤25∧l_4=fq l n.toNat→
 bif decide (n < 25) then
 (0≤n∧n < (↑(25:Nat):Int)∧n.toNat*1 < 25)∧
 (0≤n∧(0:Int) < 5)∧
 (0≤n % 5∧n % 5 < (↑(5:Nat):Int))∧
 (n % 5).toNat*1 < 5∧
 (0≤n % 5∧n % 5 < (↑(5:Nat):Int))∧
 (n % 5).toNat*1 < 5∧
 ((-9223372036854775808:Int)≤n+1∧n+1≤9223372036854775807)∧
 (l_1=l∧
 l_2=l∧
 0≤n+1∧
 n+1≤25∧
 l_4.set ((n % 5).toNat*1)
 (oC IntKind.u64 (l_4.getD ((n % 5).toNat*1) 0) (l_1.getD (n.toNat*1) 0))=
 fq l (n+1).toNat)∧
 ((25:Int) - (n+1)).toNat < ((25:Int) - n).toNat
 else
 (((0:Int)≤0∧
 (0:Int)≤25∧l_4=fq l 25∧l_2=mF l_4 l 0)∧
 True)∧
 ∀ (n:Int) (l_5 l_6 l_7:List Int),
 l_5.length=25→
 l_6.length=25→
 l_7.length=5→
 0≤n∧
 n≤25∧l_7=fq l 25∧l_5=mF l_7 l n.toNat→
 bif decide (n < 25) then
 (0≤n∧(0:Int) < 5)∧
 (0≤n∧n < (↑(25:Nat):Int))∧
 n.toNat*1 < 25∧
 ((-9223372036854775808:Int)≤n % 5+4∧n % 5+4≤9223372036854775807)∧
 (0≤n % 5+4∧(0:Int) < 5)∧
 (0≤(n % 5+4) % 5∧(n % 5+4) % 5 < (↑(5:Nat):Int))∧
 ((n % 5+4) % 5).toNat*1 < 5∧
 ((-9223372036854775808:Int)≤n % 5+1∧n % 5+1≤9223372036854775807)∧
 (0≤n % 5+1∧(0:Int) < 5)∧
 (0≤(n % 5+1) % 5∧(n % 5+1) % 5 < (↑(5:Nat):Int))∧
 ((n % 5+1) % 5).toNat*1 < 5∧
 ((0:Int)≤1∧(1:Int)≤1000)∧
 (0≤n∧n < (↑(25:Nat):Int))∧
 n.toNat*1 < 25∧
 ((-9223372036854775808:Int)≤n+1∧n+1≤9223372036854775807)∧
 (0≤n+1∧
 n+1≤25∧
 l_7=fq l 25∧
 l_5.set (n.toNat*1)
 (oC IntKind.u64 (l_5.getD (n.toNat*1) 0)
 (oC IntKind.u64
 (l_7.getD (((n % 5+4) % 5).toNat*1) 0)
 (oL
 (l_7.getD (((n % 5+1) % 5).toNat*1) 0)
 ((1:Int) % 64))))=
 mF l_7 l (n+1).toNat)∧
 ((25:Int) - (n+1)).toNat < ((25:Int) - n).toNat
 else l_5=gc l
theorem acB:av yg Tryz.f211 Hb R8=Uy:=by kernel_rfl
noncomputable def xu:ai:=al yg 211 (ag Hb)
def Tv:Prop:= ∀ (l:List Int),
 l.length=25→
 True→
 ((0:Int)≤0∧0 < (↑(25:Nat):Int))∧
 (0:Nat) < 25∧
 ((l=l∧
 (0:Int)≤0∧
 (0:Int)≤24∧
 1=(↑(1:Nat):Int)∧
 0=(↑(0:Nat):Int)∧
 [(0:Int),0,0,0,0,0,0,0,0,0,0,0,0,0,
 (0:Int),0,0,0,0,0,0,0,0,0,0].set
 0 (l.getD 0 0)=
 tR l 0)∧
 True)∧
 ∀ (n n_1 n_2:Int) (l_1 l_2 l_3:List Int),
 l_1.length=25→
 l_2.length=25→
 l_3.length=25→
 l_1=l∧
 0≤n_2∧
 n_2≤24∧
 n=(↑(bR n_2.toNat).fst:Int)∧
 n_1=(↑(bR n_2.toNat).snd:Int)∧l_3=tR l n_2.toNat→
 bif decide (n_2 < 24) then
 ((-9223372036854775808:Int)≤2*n∧(2:Int)*n≤9223372036854775807)∧
 ((-9223372036854775808:Int)≤3*n_1∧(3:Int)*n_1≤9223372036854775807)∧
 ((-9223372036854775808:Int)≤2*n+3*n_1∧(2:Int)*n+3*n_1≤9223372036854775807)∧
 ((0:Int)≤2*n+3*n_1∧(0:Int) < 5)∧
 ((-9223372036854775808:Int)≤5*(((2:Int)*n+3*n_1) % 5)∧
 (5:Int)*(((2:Int)*n+3*n_1) % 5)≤9223372036854775807)∧
 ((-9223372036854775808:Int)≤n_1+5*(((2:Int)*n+3*n_1) % 5)∧
 n_1+5*(((2:Int)*n+3*n_1) % 5)≤9223372036854775807)∧
 ((-9223372036854775808:Int)≤5*n_1∧(5:Int)*n_1≤9223372036854775807)∧
 ((-9223372036854775808:Int)≤n+5*n_1∧n+5*n_1≤9223372036854775807)∧
 (0≤n+5*n_1∧n+5*n_1 < (↑(25:Nat):Int))∧
 (n+5*n_1).toNat*1 < 25∧
 ((-9223372036854775808:Int)≤n_2+1∧n_2+1≤9223372036854775807)∧
 ((-9223372036854775808:Int)≤n_2+2∧n_2+2≤9223372036854775807)∧
 ((-9223372036854775808:Int)≤(n_2+1)*(n_2+2)∧
 (n_2+1)*(n_2+2)≤9223372036854775807)∧
 (0≤(n_2+1)*(n_2+2)∧
 (0:Int) < 2∧(n_2+1)*(n_2+2)≤IntKind.i64.max)∧
 (0≤(n_2+1)*(n_2+2) / 2∧
 (n_2+1)*(n_2+2) / 2≤1000)∧
 (0≤n_1+5*(((2:Int)*n+3*n_1) % 5)∧
 n_1+5*(((2:Int)*n+3*n_1) % 5) < (↑(25:Nat):Int))∧
 (n_1+5*(((2:Int)*n+3*n_1) % 5)).toNat*1 < 25∧
 ((-9223372036854775808:Int)≤n_2+1∧n_2+1≤9223372036854775807)∧
 (l_1=l∧
 0≤n_2+1∧
 n_2+1≤24∧
 n_1=(↑(bR (n_2+1).toNat).fst:Int)∧
 ((2:Int)*n+3*n_1) % 5=
 (↑(bR (n_2+1).toNat).snd:Int)∧
 l_3.set ((n_1+5*(((2:Int)*n+3*n_1) % 5)).toNat*1)
 (oL (l_1.getD ((n+5*n_1).toNat*1) 0)
 ((n_2+1)*(n_2+2) / 2 % 64))=
 tR l (n_2+1).toNat)∧
 ((24:Int) - (n_2+1)).toNat < ((24:Int) - n_2).toNat
 else l_3=i6 l
theorem ado:av xu Tryz.f212 FJ Sd=Tv:=by kernel_rfl
noncomputable def yr:ai:=al xu 212 (ag FJ)
def SR:Prop:= ∀ (l:List Int),
 l.length=25→
 True→
 ((l=l∧(0:Int)≤0∧(0:Int)≤25∧l=pg l 0)∧True)∧
 ∀ (n:Int) (l_1 l_2 l_3:List Int),
 l_1.length=25→
 l_2.length=25→
 l_3.length=25→
 l_1=l∧0≤n∧n≤25∧l_3=pg l n.toNat→
 bif decide (n < 25) then
 (0≤n∧(0:Int) < 5)∧
 ((-9223372036854775808:Int)≤n - n % 5∧n - n % 5≤9223372036854775807)∧
 (0≤n∧n < (↑(25:Nat):Int))∧
 n.toNat*1 < 25∧
 ((-9223372036854775808:Int)≤n+2∧n+2≤9223372036854775807)∧
 (0≤n+2∧(0:Int) < 5)∧
 ((-9223372036854775808:Int)≤n - n % 5+(n+2) % 5∧
 n - n % 5+(n+2) % 5≤9223372036854775807)∧
 (0≤n - n % 5+(n+2) % 5∧n - n % 5+(n+2) % 5 < (↑(25:Nat):Int))∧
 (n - n % 5+(n+2) % 5).toNat*1 < 25∧
 ((-9223372036854775808:Int)≤n+1∧n+1≤9223372036854775807)∧
 (0≤n+1∧(0:Int) < 5)∧
 ((-9223372036854775808:Int)≤n - n % 5+(n+1) % 5∧
 n - n % 5+(n+1) % 5≤9223372036854775807)∧
 (0≤n - n % 5+(n+1) % 5∧n - n % 5+(n+1) % 5 < (↑(25:Nat):Int))∧
 (n - n % 5+(n+1) % 5).toNat*1 < 25∧
 (0≤n∧n < (↑(25:Nat):Int))∧
 n.toNat*1 < 25∧
 ((-9223372036854775808:Int)≤n+1∧n+1≤9223372036854775807)∧
 (l_1=l∧
 0≤n+1∧
 n+1≤25∧
 l_3.set (n.toNat*1)
 (oC IntKind.u64 (l_3.getD (n.toNat*1) 0)
 (jJ IntKind.u64
 (l_1.getD ((n - n % 5+(n+2) % 5).toNat*1) 0)
 (l_1.getD ((n - n % 5+(n+1) % 5).toNat*1) 0)))=
 pg l (n+1).toNat)∧
 ((25:Int) - (n+1)).toNat < ((25:Int) - n).toNat
 else l_3=nh l
theorem aff:av yr Tryz.f213 Fa OF=SR:=by kernel_rfl
noncomputable def xw:ai:=al yr 213 (ag Fa)
def TC:Prop:= ∀ (l:List Int) (n:Int),
 l.length=25→
 True→
 True∧
 True∧
 True∧
 ((0:Int)≤0∧0 < (↑(25:Nat):Int))∧
 (0:Nat) < 25∧
 True∧
 ((0:Int)≤0∧0 < (↑(25:Nat):Int))∧
 (0:Nat) < 25∧
 (nh (i6 (gc l))).set 0
 (oC IntKind.u64
 ((nh (i6 (gc l))).getD 0
 0)
 (qj n))=
 round l n
theorem aeV:av xw Tryz.f187 EA au=TC:=by kernel_rfl
noncomputable def xg:ai:=al xw 187 (ag EA)
def Tb:Prop:= ∀ (l:List Int),
 l.length=25→
 True→
 (((0:Int)≤0∧(0:Int)≤24∧l=dk l 0)∧True)∧
 ∀ (n:Int) (l_1 l_2:List Int),
 l_1.length=25→
 l_2.length=25→
 0≤n∧n≤24∧l_1=dk l n.toNat→
 bif decide (n < 24) then
 True∧
 ((-9223372036854775808:Int)≤n+1∧n+1≤9223372036854775807)∧
 (0≤n+1∧
 n+1≤24∧round l_1 n=dk l (n+1).toNat)∧
 ((24:Int) - (n+1)).toNat < ((24:Int) - n).toNat
 else l_1=eE l
theorem aew:av xg Tryz.f147 FQ Ss=Tb:=by kernel_rfl
noncomputable def xd:ai:=al xg 147 (ag FQ)
end Go.Proofs.YteiecapbaeajdaaGreatDoor
namespace Go.Proofs.YteiecapbaeajdaaGreatDoor
open Go Go.Avc Go.Proofs
set_option linter.unusedVariables false
theorem qB (l:List Int) (i j:Nat) (x:Int) (hj:j<l.length):(l.set i x).getD j 0=if i=j then x else l.getD j 0:=by
  rw [List.getD_eq_getElem?_getD,List.getD_eq_getElem?_getD,List.getElem?_set]
  by_cases h:i=j
  · subst h;simp [hj]
  · simp [h]
theorem Bj (c s:List Int):∀ n,(mF c s n).length=s.length
  | 0=>rfl
  | n+1=>by rw [mF,List.length_set,Bj c s n]
theorem AV (c s:List Int):∀ n j,j<s.length→(mF c s n).getD j 0=if j<n then xr (s.getD j 0) (xr (c.getD ((j%5+4)%5) 0) (oL (c.getD ((j%5+1)%5) 0) 1)) else s.getD j 0
  | 0,j,h=>by rw [if_neg (by omega)];rfl
  | n+1,j,h=>by
    rw [mF,qB _ _ _ _ (by rw [Bj];exact h)]
    by_cases e:n=j
    · subst e
      rw [if_pos rfl,if_pos (by omega),AV c s n n h,if_neg (by omega)]
    · rw [if_neg e,AV c s n j h]
      by_cases e2:j<n
      · rw [if_pos e2,if_pos (by omega)]
      · rw [if_neg e2,if_neg (by omega)]
theorem zN (s:List Int):∀ n,(pg s n).length=s.length
  | 0=>rfl
  | n+1=>by rw [pg,List.length_set,zN s n]
theorem zE (s:List Int):∀ n j,j<s.length→(pg s n).getD j 0=if j<n then xr (s.getD j 0) (jJ .u64 (s.getD (j-j%5+(j+2)%5) 0) (s.getD (j-j%5+(j+1)%5) 0)) else s.getD j 0
  | 0,j,h=>by rw [if_neg (by omega)];rfl
  | n+1,j,h=>by
    rw [pg,qB _ _ _ _ (by rw [zN];exact h)]
    by_cases e:n=j
    · subst e
      rw [if_pos rfl,if_pos (by omega),zE s n n h,if_neg (by omega)]
    · rw [if_neg e,zE s n j h]
      by_cases e2:j<n
      · rw [if_pos e2,if_pos (by omega)]
      · rw [if_neg e2,if_neg (by omega)]
theorem Dl (s:List Int) (x:Nat) (h:x<5):(fq s 25).getD x 0=xr (xr (xr (xr (xr 0 (s.getD x 0)) (s.getD (x+5) 0)) (s.getD (x+10) 0)) (s.getD (x+15) 0)) (s.getD (x+20) 0):=by
  match x,h with
  | 0,_=>simp [fq]
  | 1,_=>simp [fq]
  | 2,_=>simp [fq]
  | 3,_=>simp [fq]
  | 4,_=>simp [fq]
theorem z8 {l:List Int} {n:Nat} {f:Nat→Int} (hl:l.length=n) (h:∀ j,j<n→l.getD j 0=f j):l=(List.range n).map f:=by
  apply List.ext_getElem
  · simp [hl]
  · intro i h1 h2
    have:=h i (by omega)
    rw [List.getD_eq_getElem?_getD,List.getElem?_eq_getElem h1] at this
    simpa using this
def Mm (s:List Int) (x:Nat):Int:=xr (xr (xr (xr (xr 0 (s.getD x 0)) (s.getD (x+5) 0)) (s.getD (x+10) 0)) (s.getD (x+15) 0)) (s.getD (x+20) 0)
theorem JG {s:List Int} (hs:s.length=25):gc s=(List.range 25).map fun j=>xr (s.getD j 0) (xr (Mm s ((j%5+4)%5)) (oL (Mm s ((j%5+1)%5)) 1)):=by
  refine z8 (by unfold gc;rw [Bj,hs]) fun j hj=> ?_
  unfold gc
  rw [AV _ _ _ _ (by omega),if_pos hj,Dl _ _ (by omega),Dl _ _ (by omega)]
  rfl
theorem sX {s:List Int} (hs:s.length=25):nh s=(List.range 25).map fun j=>xr (s.getD j 0) (jJ .u64 (s.getD (j-j%5+(j+2)%5) 0) (s.getD (j-j%5+(j+1)%5) 0)):=by
  refine z8 (by unfold nh;rw [zN,hs]) fun j hj=> ?_
  unfold nh
  rw [zE _ _ _ (by omega),if_pos hj]
end Go.Proofs.YteiecapbaeajdaaGreatDoor
namespace Go.Proofs.YteiecapbaeajdaaGreatDoor
open Go Go.Avc Go.Proofs
set_option linter.unusedVariables false
set_option linter.unusedSimpArgs false
set_option maxRecDepth 100000
theorem wrap_u64 {n:Int} (h0:0≤n) (h:n≤18446744073709551615):IntKind.u64.wrap n=n:=by
  unfold IntKind.wrap
  simp [IntKind.signed,IntKind.bits]
  omega
theorem Yf {k:Nat} (h:k≤1000):bU .u64 (k:Int) 63=((k%64:Nat):Int):=by
  unfold bU
  rw [BitVec.ofInt_natCast,show (63:Int)=((63:Nat):Int) from rfl,BitVec.ofInt_natCast,BitVec.toNat_and,BitVec.toNat_ofNat,BitVec.toNat_ofNat,show 2 ^ IntKind.bits .u64=18446744073709551616 from by decide,Nat.mod_eq_of_lt (by omega),Nat.mod_eq_of_lt (by omega)]
  have:=Nat.and_two_pow_sub_one_eq_mod k 6
  rw [show (2:Nat) ^ 6-1=63 from by decide,show (2:Nat) ^ 6=64 from by decide] at this
  rw [this]
  exact wrap_u64 (by omega) (by omega)
theorem Yr:SL:=by
  rintro x k ⟨h0,h1⟩
  obtain ⟨i,rfl⟩:∃ i:Nat,k=i:=⟨k.toNat,by omega⟩
  rw [wrap_u64 (by omega) (by omega),Yf (by omega),wrap_u64 (by omega) (by omega)]
  exact ⟨by omega,by omega,rfl⟩
theorem Wj:af (base.with DT) 238 (ag D1):=am c57 Tryz.func238 (by kernel_rfl) (by kernel_rfl) Tryz.call238 aeA Yr
theorem O3:(base.with yz).Ok:=ae c57 Wj
theorem U9:Q3:=by
  intro n _
  refine ab (fun h=> ?_) fun h=> ?_
  · simp only [Bool.or_eq_true,decide_eq_true_eq] at h
    unfold qj
    rw [if_pos h]
  · simp only [Bool.or_eq_false_iff,decide_eq_false_iff_not] at h
    refine ⟨⟨by omega,by omega,by omega⟩,by omega,?_⟩
    unfold qj
    rw [if_neg (by omega),Nat.zero_add]
    obtain ⟨i,rfl⟩:∃ i:Nat,n=i:=⟨n.toNat,by omega⟩
    rw [Int.toNat_natCast]
    have hi:i<24:=by omega
    clear h
    revert i
    decide
theorem XG:af (base.with yz) 214 (ag EL):=am O3 Tryz.func214 (by kernel_rfl) (by kernel_rfl) Tryz.call214 aeR U9
theorem Sn:(base.with yg).Ok:=ae O3 XG
theorem Xn:Uy:=by
  intro s hs _
  refine ⟨⟨⟨rfl,rfl,by omega,by omega,rfl⟩,trivial⟩,?_⟩
  rintro s' n s'' z c _ _ _ _ ⟨rfl,rfl,h0,h1,rfl⟩
  obtain ⟨i,rfl⟩:∃ i:Nat,n=i:=⟨n.toNat,by omega⟩
  refine ab (fun h=> ?_) fun h=> ?_
  · simp only [decide_eq_true_eq] at h
    simp only [Nat.mul_one,Int.toNat_natCast]
    have e:((i:Int)%5).toNat=i%5:=by omega
    rw [e]
    refine ⟨⟨by omega,by omega,by omega⟩,⟨by omega,by omega⟩,⟨by omega,by omega⟩,by omega,⟨by omega,by omega⟩,by omega,⟨by omega,by omega⟩,⟨by trivial,by trivial,by omega,by omega,?_⟩,by omega⟩
    rw [show ((i:Int)+1).toNat=i+1 from by omega]
    rfl
  · simp only [decide_eq_false_iff_not] at h
    have hi:i=25:=by omega
    subst hi
    rw [show ((25:Nat):Int).toNat=25 from rfl]
    have z0:∀ c:List Int,mF c s'' 0=s'':=fun c=>by rw [mF]
    refine ⟨⟨⟨by omega,by omega,Eq.refl (fq s'' 25),(z0 _).symm⟩,trivial⟩,?_⟩
    have fin:∀ c t,c=fq s'' 25→t=mF c s'' 25→t=gc s'':=fun c t h1 h2=>by rw [h2,h1];rfl
    generalize fq s'' 25=cc at *
    rintro n t z c _ _ _ ⟨h0,h1,ec,et⟩
    subst ec et
    obtain ⟨i,rfl⟩:∃ i:Nat,n=i:=⟨n.toNat,by omega⟩
    refine ab (fun h=> ?_) fun h=> ?_
    · simp only [decide_eq_true_eq] at h
      simp only [Nat.mul_one,Int.toNat_natCast]
      have e1:(((i:Int)%5+4)%5).toNat=(i%5+4)%5:=by omega
      have e2:(((i:Int)%5+1)%5).toNat=(i%5+1)%5:=by omega
      rw [e1,e2]
      refine ⟨⟨by omega,by omega⟩,⟨by omega,by omega⟩,by omega,⟨by omega,by omega⟩,⟨by omega,by omega⟩,⟨by omega,by omega⟩,by omega,⟨by omega,by omega⟩,⟨by omega,by omega⟩,⟨by omega,by omega⟩,by omega,⟨by omega,by omega⟩,⟨by omega,by omega⟩,by omega,⟨by omega,by omega⟩,⟨by omega,by omega,by trivial,?_⟩,by omega⟩
      rw [show ((i:Int)+1).toNat=i+1 from by omega]
      rfl
    · simp only [decide_eq_false_iff_not] at h
      have hi:i=25:=by omega
      subst hi
      exact fin _ _ rfl rfl
theorem VW:af (base.with yg) 211 (ag Hb):=am Sn Tryz.func211 (by kernel_rfl) (by kernel_rfl) Tryz.call211 acB Xn
theorem Pk:(base.with xu).Ok:=ae Sn VW
theorem MG (i:Nat):(bR i).1<5∧(bR i).2<5:=by
  induction i with
  | zero=>decide
  | succ i ih=>simp only [bR];omega
theorem Ya:Tv:=by
  intro s hs _
  refine ⟨⟨by omega,by omega⟩,by omega,⟨⟨rfl,by omega,by omega,rfl,rfl,rfl⟩,trivial⟩,?_⟩
  rintro x y n s' z t _ _ _ ⟨rfl,h0,h1,rfl,rfl,rfl⟩
  obtain ⟨i,rfl⟩:∃ i:Nat,n=i:=⟨n.toNat,by omega⟩
  rw [Int.toNat_natCast]
  obtain ⟨hx,hy⟩:=MG i
  refine ab (fun h=> ?_) fun h=> ?_
  · simp only [decide_eq_true_eq] at h
    have hm:(i+1)*(i+2)≤24*25:=Nat.mul_le_mul (by omega) (by omega)
    have em:((i:Int)+1)*((i:Int)+2)=(((i+1)*(i+2):Nat):Int):=by simp
    rw [em]
    generalize hM:(i+1)*(i+2)=M at *
    have emax:IntKind.max .i64=9223372036854775807:=by decide
    rw [emax]
    simp only [Nat.mul_one]
    have e1:(((bR i).1:Int)+5*((bR i).2:Int)).toNat=(bR i).1+5*(bR i).2:=by omega
    have e2:(((bR i).2:Int)+5*((2*((bR i).1:Int)+3*((bR i).2:Int))%5)).toNat=(bR i).2+5*((2*(bR i).1+3*(bR i).2)%5):=by
      have e0:(2*((bR i).1:Int)+3*((bR i).2:Int))=((2*(bR i).1+3*(bR i).2:Nat):Int):=by omega
      rw [e0]
      generalize 2*(bR i).1+3*(bR i).2=m at *
      omega
    rw [e1,e2]
    refine ⟨by omega,by omega,by omega,by omega,by omega,by omega,by omega,by omega,by omega,by omega,by omega,by omega,by omega,by omega,by omega,by omega,by omega,by omega,⟨by trivial,by omega,by omega,?_,?_,?_⟩,by omega⟩
    · rw [show ((i:Int)+1).toNat=i+1 from by omega];rfl
    · rw [show ((i:Int)+1).toNat=i+1 from by omega]
      show _=(((2*(bR i).1+3*(bR i).2)%5:Nat):Int)
      have e0:(2*((bR i).1:Int)+3*((bR i).2:Int))=((2*(bR i).1+3*(bR i).2:Nat):Int):=by omega
      rw [e0]
      generalize 2*(bR i).1+3*(bR i).2=m
      omega
    · rw [show ((i:Int)+1).toNat=i+1 from by omega,show (M:Int) / 2%64=((M / 2%64:Nat):Int) from by omega,← hM]
      rfl
  · simp only [decide_eq_false_iff_not] at h
    have hi:i=24:=by omega
    subst hi
    rfl
theorem Xm:af (base.with xu) 212 (ag FJ):=am Pk Tryz.func212 (by kernel_rfl) (by kernel_rfl) Tryz.call212 ado Ya
theorem QT:(base.with yr).Ok:=ae Pk Xm
theorem XF:SR:=by
  intro s hs _
  refine ⟨⟨⟨rfl,by omega,by omega,rfl⟩,trivial⟩,?_⟩
  rintro n s' z t _ _ _ ⟨rfl,h0,h1,rfl⟩
  obtain ⟨i,rfl⟩:∃ i:Nat,n=i:=⟨n.toNat,by omega⟩
  refine ab (fun h=> ?_) fun h=> ?_
  · simp only [decide_eq_true_eq] at h
    simp only [Nat.mul_one,Int.toNat_natCast]
    have e1:((i:Int)-(i:Int)%5+((i:Int)+2)%5).toNat=i-i%5+(i+2)%5:=by omega
    have e2:((i:Int)-(i:Int)%5+((i:Int)+1)%5).toNat=i-i%5+(i+1)%5:=by omega
    rw [e1,e2]
    refine ⟨by omega,by omega,by omega,by omega,by omega,by omega,by omega,by omega,by omega,by omega,by omega,by omega,by omega,by omega,by omega,by omega,by omega,⟨by trivial,by omega,by omega,?_⟩,by omega⟩
    rw [show ((i:Int)+1).toNat=i+1 from by omega]
    rfl
  · simp only [decide_eq_false_iff_not] at h
    have hi:i=25:=by omega
    subst hi
    rw [show ((25:Nat):Int).toNat=25 from rfl]
    rfl
theorem Ww:af (base.with yr) 213 (ag Fa):=am QT Tryz.func213 (by kernel_rfl) (by kernel_rfl) Tryz.call213 aff XF
theorem Qw:(base.with xw).Ok:=ae QT Ww
theorem Yd:TC:=by
  intro s r hs _
  exact ⟨trivial,trivial,trivial,by omega,by omega,trivial,by omega,by omega,rfl⟩
theorem XJ:af (base.with xw) 187 (ag EA):=am Qw Tryz.func187 (by kernel_rfl) (by kernel_rfl) Tryz.call187 aeV Yd
theorem Ta:(base.with xg).Ok:=ae Qw XJ
theorem Yw:Tb:=by
  intro s hs _
  refine ⟨⟨⟨by omega,by omega,rfl⟩,trivial⟩,?_⟩
  rintro n t z _ _ ⟨h0,h1,rfl⟩
  obtain ⟨i,rfl⟩:∃ i:Nat,n=i:=⟨n.toNat,by omega⟩
  refine ab (fun h=> ?_) fun h=> ?_
  · simp only [decide_eq_true_eq] at h
    refine ⟨trivial,by omega,⟨by omega,by omega,?_⟩,by omega⟩
    rw [show ((i:Int)+1).toNat=i+1 from by omega]
    rfl
  · simp only [decide_eq_false_iff_not] at h
    have hi:i=24:=by omega
    subst hi
    rw [uy];rfl
theorem Ye:af (base.with xg) 147 (ag FQ):=am Ta Tryz.func147 (by kernel_rfl) (by kernel_rfl) Tryz.call147 aew Yw
theorem QD:(base.with xd).Ok:=ae Ta Ye
end Go.Proofs.YteiecapbaeajdaaGreatDoor
namespace Go.Proofs.YteiecapbaeajdaaGreatDoor
open Go.Avc
set_option linter.unusedVariables false
def yG (m r:Int):Int:=if r / m%2=1 then r-m else r+m
def Cl:List Int:= [64,32,16,1]
def mm (r:Int):Nat→Int
  | 0=>r
  | j+1=>yG (Cl.getD j 0) (mm r j)
def IS (r:Int):Int:=if 256≤r*2 then mm (r*2-256) 4 else r*2
def kC:Nat→Int
  | 0=>1
  | n+1=>IS (kC n)
def Id (t:Nat):Bool:=decide (kC t%2=1)
def Aa (r:Nat):Nat→List Bool
  | 0=>List.replicate 64 false
  | j+1=>(Aa r j).set (2 ^ j-1) (Id (j+7*r))
def fN (r:Int):List Bool:=if r<0∨23<r then List.replicate 64 false else Aa r.toNat 7
def DV:Ct:= {ps:= [i64],bs:= [],pre:=fun | [.i t] =>0≤t∧t≤1000 | _=>False,res:=fun | [.i t] => .ret .bool [] [.b (Id t.toNat)] | _=>aj}
def MC:List (Nat×Pat):= [(0,i64),(3,i64),(4,i64),(18,.rd [.int .i64]),(19,i64),(20,i64)]
def Ur:List Dat→Ann
  | [.i t] =>⟨[],[(3,[la 39 [(0,i64),(3,i64),(4,i64)] [] (fun | [.i t',.i r,.i i] =>t'=t∧0≤i∧i≤t∧r=kC i.toNat | _=>False) (fun | [.i t',_,.i i] =>(t'-i).toNat | _=>0)])],
      [(9,[la 39 MC [] (fun _=>True) (fun _=>0)],fun | [.i t0,.i r0,.i i0,.r l0,.i n0,.i _] => [la 39 MC []
        (fun | [.i t',.i r,.i i,.r l,.i n,.i j] =>t'=t0∧i=i0∧l=l0∧n=n0∧0≤j∧j≤4∧r=mm r0 j.toNat | _=>False) (fun | [_,_,_,_,_,.i j] =>(4-j).toNat | _=>0)] | _=> [])]⟩
  | _=> {cut:= [],loop:= []}
abbrev b64:Pat:= .agg [.arrB 64]
abbrev Pb:BPat:= .cells 341 [.arrB 64]
def Fc:Ct:= {ps:= [i64],bs:= [],pre:=fun _=>True,res:=fun | [.i r] => .ret b64 [] [.lb (fN r)] | _=>aj}
def Th:List Dat→Ann
  | [.i r] =>⟨[],[(6,[la 29 [(0,i64),(2,.ptr 0 0),(3,.ptr 1 0),(4,i64),(5,i64)] [Pb,Pb] (fun | [.i r',.i p,.i j,.lb z,.lb c] =>r'=r∧0≤r∧r≤23∧0≤j∧j≤7∧p=2 ^ j.toNat∧c=Aa r.toNat j.toNat | _=>False) (fun | [_,_,.i j,_,_] =>(7-j).toNat | _=>0)])],[]⟩
  | _=> {cut:= [],loop:= []}
end Go.Proofs.YteiecapbaeajdaaGreatDoor
namespace Go.Proofs.YteiecapbaeajdaaGreatDoor
open Go Go.Avc Go.Proofs
set_option linter.unusedVariables false
set_option maxRecDepth 100000
def Or:Prop:= ∀ (n:Int),
 0≤n∧n≤1000→
 ((n=n∧(0:Int)≤0∧0≤n∧1=kC 0)∧True)∧
 ∀ (n_1 n_2 n_3:Int),
 n_1=n∧0≤n_3∧n_3≤n∧n_2=kC n_3.toNat→
 bif decide (n_3 < n_1) then
 ((-9223372036854775808:Int)≤n_2*2∧n_2*2≤9223372036854775807)∧
 bif decide (256≤n_2*2) then
 ((-9223372036854775808:Int)≤n_2*2 - 256∧n_2*2 - 256≤9223372036854775807)∧
 ((4:Nat)≤9223372036854775807→
 ((n_1=n_1∧
 n_3=n_3∧
 [[CD.int 64],[CD.int 32],[CD.int 16],[CD.int 1]] =
 [[CD.int 64],[CD.int 32],[CD.int 16],[CD.int 1]] ∧
 (↑(4:Nat):Int)=(↑(4:Nat):Int)∧
 (0:Int)≤0∧
 (0:Int)≤4∧n_2*2 - 256=mm (n_2*2 - 256) 0)∧
 True)∧
 ∀ (n_4 n_5 n_6:Int) (l:List (List CD)) (n_7 n_8:Int),
 l.length≤9223372036854775807→
 n_4=n_1∧
 n_6=n_3∧
 l= [[CD.int 64],[CD.int 32],[CD.int 16],[CD.int 1]] ∧
 n_7=(↑(4:Nat):Int)∧
 0≤n_8∧n_8≤4∧n_5=mm (n_2*2 - 256) n_8.toNat→
 bif decide (n_8 < n_7) then
 (0≤n_8∧n_8 < ↑l.length)∧
 n_8.toNat < l.length∧
 (0≤n_5∧0 < ((l.getD n_8.toNat []).getD 0 (CD.int 0)).toInt∧n_5≤IntKind.i64.max)∧
 (0≤n_5 / ((l.getD n_8.toNat []).getD 0 (CD.int 0)).toInt∧(0:Int) < 2)∧
 bif decide (n_5 / ((l.getD n_8.toNat []).getD 0 (CD.int 0)).toInt % 2=1) then
 ((-9223372036854775808:Int)≤n_5 - ((l.getD n_8.toNat []).getD 0 (CD.int 0)).toInt∧
 n_5 - ((l.getD n_8.toNat []).getD 0 (CD.int 0)).toInt≤9223372036854775807)∧
 ((-9223372036854775808:Int)≤n_8+1∧n_8+1≤9223372036854775807)∧
 (n_4=n_1∧
 n_6=n_3∧
 l= [[CD.int 64],[CD.int 32],[CD.int 16],[CD.int 1]] ∧
 n_7=(↑(4:Nat):Int)∧
 0≤n_8+1∧
 n_8+1≤4∧
 n_5 - ((l.getD n_8.toNat []).getD 0 (CD.int 0)).toInt=
 mm (n_2*2 - 256) (n_8+1).toNat)∧
 ((4:Int) - (n_8+1)).toNat < ((4:Int) - n_8).toNat
 else
 ((-9223372036854775808:Int)≤n_5+((l.getD n_8.toNat []).getD 0 (CD.int 0)).toInt∧
 n_5+((l.getD n_8.toNat []).getD 0 (CD.int 0)).toInt≤9223372036854775807)∧
 ((-9223372036854775808:Int)≤n_8+1∧n_8+1≤9223372036854775807)∧
 (n_4=n_1∧
 n_6=n_3∧
 l= [[CD.int 64],[CD.int 32],[CD.int 16],[CD.int 1]] ∧
 n_7=(↑(4:Nat):Int)∧
 0≤n_8+1∧
 n_8+1≤4∧
 n_5+((l.getD n_8.toNat []).getD 0 (CD.int 0)).toInt=
 mm (n_2*2 - 256) (n_8+1).toNat)∧
 ((4:Int) - (n_8+1)).toNat < ((4:Int) - n_8).toNat
 else
 ((-9223372036854775808:Int)≤n_6+1∧n_6+1≤9223372036854775807)∧
 (n_4=n∧0≤n_6+1∧n_6+1≤n∧n_5=kC (n_6+1).toNat)∧
 (n_4 - (n_6+1)).toNat < (n_1 - n_3).toNat)
 else
 ((-9223372036854775808:Int)≤n_3+1∧n_3+1≤9223372036854775807)∧
 (n_1=n∧0≤n_3+1∧n_3+1≤n∧n_2*2=kC (n_3+1).toNat)∧
 (n_1 - (n_3+1)).toNat < (n_1 - n_3).toNat
 else (0≤n_2∧(0:Int) < 2)∧decide (n_2 % 2=1)=Id n.toNat
theorem acb:av xd Tryz.f239 DV Ur=Or:=by kernel_rfl
noncomputable def xz:ai:=al xd 239 (ag DV)
def SH:Prop:= ∀ (n:Int),
 True→
 bif decide (n < 0) || decide (23 < n) then List.replicate 64 false=fN n
 else
 ((n=n∧
 0≤n∧
 n≤23∧
 (0:Int)≤0∧
 (0:Int)≤7∧(1:Int)=2 ^ (0:Nat)∧List.replicate 64 false=Aa n.toNat 0)∧
 True)∧
 ∀ (n_1 n_2 n_3:Int) (l l_1:List Bool),
 l.length=64→
 l_1.length=64→
 n_1=n∧
 0≤n∧
 n≤23∧0≤n_3∧n_3≤7∧n_2=2 ^ n_3.toNat∧l_1=Aa n.toNat n_3.toNat→
 bif decide (n_3 < 7) then
 ((-9223372036854775808:Int)≤n_2 - 1∧n_2 - 1≤9223372036854775807)∧
 ((-9223372036854775808:Int)≤7*n_1∧(7:Int)*n_1≤9223372036854775807)∧
 ((-9223372036854775808:Int)≤n_3+7*n_1∧n_3+7*n_1≤9223372036854775807)∧
 (0≤n_3+7*n_1∧n_3+7*n_1≤1000)∧
 (0≤n_2 - 1∧n_2 - 1 < (↑(64:Nat):Int))∧
 (n_2 - 1).toNat*1 < 64∧
 ((-9223372036854775808:Int)≤n_2*2∧n_2*2≤9223372036854775807)∧
 ((-9223372036854775808:Int)≤n_3+1∧n_3+1≤9223372036854775807)∧
 (n_1=n∧
 0≤n∧
 n≤23∧
 0≤n_3+1∧
 n_3+1≤7∧
 n_2*2=2 ^ (n_3+1).toNat∧
 l_1.set ((n_2 - 1).toNat*1) (Id (n_3+7*n_1).toNat)=
 Aa n.toNat (n_3+1).toNat)∧
 ((7:Int) - (n_3+1)).toNat < ((7:Int) - n_3).toNat
 else l_1=fN n
theorem ac7:av xz Tryz.f224 Fc Th=SH:=by kernel_rfl
noncomputable def yu:ai:=al xz 224 (ag Fc)
end Go.Proofs.YteiecapbaeajdaaGreatDoor
namespace Go.Proofs.YteiecapbaeajdaaGreatDoor
open Go Go.Avc Go.Proofs
set_option linter.unusedVariables false
set_option linter.unusedSimpArgs false
set_option maxRecDepth 100000
theorem RH:∀ r:Fin 256,0≤IS (r.val:Int)∧IS (r.val:Int)≤255:=by decide+kernel
theorem Ze (n:Nat):0≤kC n∧kC n≤255:=by
  induction n with
  | zero=>decide
  | succ n ih=>
    have:=RH ⟨(kC n).toNat,by omega⟩
    rw [show (((⟨(kC n).toNat,by omega⟩:Fin 256).val:Nat):Int)=kC n from by show (((kC n).toNat:Nat):Int)=_;omega] at this
    exact this
theorem S5:∀ r:Fin 128,∀ j:Fin 5,0≤mm (2*(r.val:Int)) j.val∧mm (2*(r.val:Int)) j.val≤255:=by decide+kernel
theorem YB {r:Int} {j:Nat} (h0:256≤r*2) (h1:r≤255) (hj:j≤4):0≤mm (r*2-256) j∧mm (r*2-256) j≤255:=by
  have:=S5 ⟨(r-128).toNat,by omega⟩ ⟨j,by omega⟩
  rw [show 2*(((⟨(r-128).toNat,by omega⟩:Fin 128).val:Nat):Int)=r*2-256 from by show 2*(((r-128).toNat:Nat):Int)=_;omega] at this
  exact this
theorem Rl:∀ j:Fin 4,(((([[CD.int 64],[CD.int 32],[CD.int 16],[CD.int 1]] :List (List CD)).getD j.val []).getD 0 (CD.int 0)).toInt=Cl.getD j.val 0)∧0<Cl.getD j.val 0∧Cl.getD j.val 0≤64:=by decide
theorem Z3:Or:=by
  rintro t ⟨ht0,ht1⟩
  refine ⟨⟨⟨rfl,by omega,ht0,rfl⟩,trivial⟩,?_⟩
  rintro t' r i ⟨e1,h0,h1,e2⟩
  subst e1 e2
  obtain ⟨b0,b1⟩:=Ze i.toNat
  generalize hr:kC i.toNat=r at *
  have emax:IntKind.max .i64=9223372036854775807:=by decide
  refine ab (fun h=>⟨⟨by omega,by omega⟩,ab (fun h2=> ?_) fun h2=> ?_⟩) fun h=> ?_
  · simp only [decide_eq_true_eq] at h h2
    refine ⟨⟨by omega,by omega⟩,fun _=>⟨⟨⟨rfl,rfl,rfl,rfl,by omega,by omega,rfl⟩,trivial⟩,?_⟩⟩
    rintro t2 q i2 l n j _ ⟨e1,e2,e3,e4,h3,h4,e5⟩
    subst e1 e2 e3 e4 e5
    obtain ⟨k,rfl⟩:∃ k:Nat,j=k:=⟨j.toNat,by omega⟩
    rw [Int.toNat_natCast]
    obtain ⟨c0,c1⟩:=YB h2 b1 (show k≤4 by omega)
    refine ab (fun h5=> ?_) fun h5=> ?_
    · simp only [decide_eq_true_eq] at h5
      have hk:k<4:=by omega
      obtain ⟨m1,m2,m3⟩:=Rl ⟨k,hk⟩
      simp only at m1 m2 m3
      rw [m1,emax,show ((k:Int)+1).toNat=k+1 from by omega]
      have fs:mm (r*2-256) (k+1)=yG (Cl.getD k 0) (mm (r*2-256) k):=rfl
      have hd:0≤mm (r*2-256) k / Cl.getD k 0:=Int.ediv_nonneg c0 (by omega)
      refine ⟨⟨by omega,by show (k:Int)<4;omega⟩,hk,⟨c0,m2,by omega⟩,⟨hd,by omega⟩,ab (fun h6=> ?_) fun h6=> ?_⟩
      · refine ⟨⟨by omega,by omega⟩,⟨by omega,by omega⟩,⟨rfl,rfl,rfl,rfl,by omega,by omega,?_⟩,by omega⟩
        rw [fs,yG,if_pos (of_decide_eq_true h6)]
      · refine ⟨⟨by omega,by omega⟩,⟨by omega,by omega⟩,⟨rfl,rfl,rfl,rfl,by omega,by omega,?_⟩,by omega⟩
        rw [fs,yG,if_neg (of_decide_eq_false h6)]
    · simp only [decide_eq_false_iff_not] at h5
      have hk:k=4:=by omega
      subst hk
      refine ⟨⟨by omega,by omega⟩,⟨rfl,by omega,by omega,?_⟩,by omega⟩
      rw [show (i2+1).toNat=i2.toNat+1 from by omega,kC,hr,IS,if_pos h2]
  · simp only [decide_eq_true_eq,decide_eq_false_iff_not] at h h2
    refine ⟨⟨by omega,by omega⟩,⟨rfl,by omega,by omega,?_⟩,by omega⟩
    rw [show (i+1).toNat=i.toNat+1 from by omega,kC,hr,IS,if_neg h2]
  · simp only [decide_eq_false_iff_not] at h
    refine ⟨⟨b0,by omega⟩,?_⟩
    unfold Id
    rw [← hr,show i=t' from by omega]
theorem V4:af (base.with xd) 239 (ag DV):=am QD Tryz.func239 (by kernel_rfl) (by kernel_rfl) Tryz.call239 acb Z3
theorem TD:(base.with xz).Ok:=ae QD V4
theorem ZW:SH:=by
  intro r _
  refine ab (fun h=> ?_) fun h=> ?_
  · simp only [Bool.or_eq_true,decide_eq_true_eq] at h
    unfold fN
    rw [if_pos h];try rfl
  · simp only [Bool.or_eq_false_iff,decide_eq_false_iff_not] at h
    refine ⟨⟨⟨rfl,by omega,by omega,by omega,by omega,rfl,rfl⟩,trivial⟩,?_⟩
    rintro r' p n z c _ _ ⟨e1,h0,h1,h2,h3,e2,e3⟩
    subst e1 e2 e3
    obtain ⟨j,rfl⟩:∃ j:Nat,n=j:=⟨n.toNat,by omega⟩
    rw [Int.toNat_natCast]
    refine ab (fun h5=> ?_) fun h5=> ?_
    · simp only [decide_eq_true_eq] at h5
      have hj:j<7:=by omega
      have hp:∀ j:Fin 7,(1:Int)≤2 ^ j.val∧(2:Int) ^ j.val≤64∧((2:Int) ^ j.val-1).toNat=2 ^ j.val-1∧(2:Int) ^ (j.val+1)=2 ^ j.val*2:=by decide
      obtain ⟨p1,p2,p3,p4⟩:=hp ⟨j,hj⟩
      simp only at p1 p2 p3 p4
      rw [show ((j:Int)+1).toNat=j+1 from by omega,p3,Nat.mul_one]
      refine ⟨by omega,by omega,by omega,by omega,by omega,by omega,by omega,by omega,⟨rfl,by omega,by omega,by omega,by omega,p4.symm,?_⟩,by omega⟩
      rw [Aa,show ((j:Int)+7*r').toNat=j+7*r'.toNat from by omega]
    · simp only [decide_eq_false_iff_not] at h5
      have hj:j=7:=by omega
      subst hj
      unfold fN
      rw [if_neg (by omega)]
theorem Yz:af (base.with xz) 224 (ag Fc):=am TD Tryz.func224 (by kernel_rfl) (by kernel_rfl) Tryz.call224 ac7 ZW
theorem TJ:(base.with yu).Ok:=ae TD Yz
end Go.Proofs.YteiecapbaeajdaaGreatDoor
namespace Go.Proofs.YteiecapbaeajdaaGreatDoor
open Go Go.Avc Go.Proofs
set_option linter.unusedVariables false
set_option maxRecDepth 100000
def bt (w:Int) (z:Nat):Bool:=w.toNat.testBit z
def ak (w:Int):Prop:=0≤w∧w<18446744073709551616
theorem eY (n:Int):IntKind.u64.wrap n=n%18446744073709551616:=by
  simp [IntKind.wrap,IntKind.signed,IntKind.bits]
theorem qO {a:Int} (h:ak a):(BitVec.ofInt 64 a).toNat=a.toNat:=by
  obtain ⟨n,rfl⟩:∃ n:Nat,a=n:=⟨a.toNat,by have:=h.1;omega⟩
  have:=h.2
  rw [BitVec.ofInt_natCast,BitVec.toNat_ofNat,Int.toNat_natCast]
  exact Nat.mod_eq_of_lt (by omega)
theorem aez (v:BitVec 64):IntKind.u64.wrap (v.toNat:Int)=(v.toNat:Int):=by
  have:=v.isLt
  rw [eY]
  omega
theorem I1 (v:BitVec 64):ak (IntKind.u64.wrap (v.toNat:Int)):=by
  have:=v.isLt
  rw [aez]
  exact ⟨by omega,by omega⟩
theorem An (a b:Int):ak (dQ .u64 a b):=I1 (BitVec.ofInt 64 a |||BitVec.ofInt 64 b)
theorem Fq (n s:Nat) (hs:s≤64):cn .u64 (n:Int) (s:Int)=((n*2 ^ s%18446744073709551616:Nat):Int):=by
  unfold cn
  rw [eY,show min (s:Int).toNat (IntKind.bits .u64)=s from by show min (s:Int).toNat 64=s;omega]
  have:(n:Int)*2 ^ s=((n*2 ^ s:Nat):Int):=by rw [Int.natCast_mul,Int.natCast_pow];rfl
  rw [this]
  rfl
end Go.Proofs.YteiecapbaeajdaaGreatDoor
namespace Go.Proofs.YteiecapbaeajdaaGreatDoor
open Go.Avc
set_option linter.unusedVariables false
abbrev o4:Pat:= .agg [.arrB 1600]
abbrev bh:BPat:= .cells 344 [.arrB 1600]
abbrev kE:BPat:= .cells 211 [L0]
abbrev q8:BPat:= .cells 342 [.arrB 320]
noncomputable def hid {α:Type} (x:α):α:=Classical.choose (⟨x,rfl⟩:∃ y:α,y=x)
theorem aR {α:Type} (x:α):hid x=x:=Classical.choose_spec (⟨x,rfl⟩:∃ y:α,y=x)
def dg (f:Nat→Nat) (g:Nat→Bool) (l:List Bool):Nat→List Bool
  | 0=>l
  | n+1=>(dg f g l n).set (f n) (g n)
def dD (f:Nat→Nat→Nat) (g:Nat→Nat→Bool) (m:Nat) (l:List Bool):Nat→List Bool
  | 0=>l
  | n+1=>dg (f n) (g n) (dD f g m l n) m
def ja (f:Nat→Nat→Nat→Nat) (g:Nat→Nat→Nat→Bool) (k m:Nat) (l:List Bool):Nat→List Bool
  | 0=>l
  | n+1=>dD (f n) (g n) m (ja f g k m l n) k
def zB:List Bool:=List.replicate 1600 false
def cp (x y z:Nat):Nat:=x*320+y*64+z
def gb (a:List Bool) (k:Nat):Bool:=a.getD k false
def nm (a:List Bool) (x y z:Nat):Bool:=gb a (cp x y z) !=(!gb a (cp ((x+1)%5) y z)&&gb a (cp ((x+2)%5) y z))
def pH (a:List Bool):List Bool:=ja cp (nm a) 5 64 zB 5
def Mx (t l:List Bool) (i:Nat):List Bool:=t.take i++l++t.drop (i+64)
def SP (a:List Bool) (i:Nat):List Bool:=(a.drop i).take 64
def C2 (a:List Bool) (x:Nat) (t:List Bool):Nat→List Bool
  | 0=>t
  | n+1=>Mx (C2 a x t n) (SP a (x*320+n*64)) (n*320+(2*x+3*n)%5*64)
def CB (a:List Bool) (t:List Bool):Nat→List Bool
  | 0=>t
  | n+1=>C2 a n (CB a t n) 5
def wB (a:List Bool):List Bool:=CB a zB 5
def Jl (a:List Bool) (t:Nat) (l:List Bool) (n:Nat):List Bool:=
  dg (fun z=>cp (bR t).1 (bR t).2 ((z+(t+1)*(t+2) / 2)%64)) (fun z=>gb a (cp (bR t).1 (bR t).2 z)) l n
def CN (a:List Bool):Nat→List Bool
  | 0=>Mx zB (SP a 0) 0
  | n+1=>Jl a n (CN a n) 64
def dW (a:List Bool):List Bool:=CN a 24
def fZ (a:List Bool) (x z:Nat):Nat→Int
  | 0=>0
  | n+1=>if gb a (cp x n z)=true then fZ a x z n+1 else fZ a x z n
def AY (a:List Bool):List Bool:=dD (fun x z=>x*64+z) (fun x z=>decide (fZ a x z 5%2=1)) 64 (List.replicate 320 false) 5
def nK (a p:List Bool) (x y z:Nat):Bool:=gb a (cp x y z) !=(gb p ((x+4)%5*64+z) !=gb p ((x+1)%5*64+(z+63)%64))
def ku (a:List Bool):List Bool:=ja cp (nK a (AY a)) 5 64 zB 5
def rV (a c:List Bool):Nat→List Bool
  | 0=>a
  | n+1=>(rV a c n).set n (gb (rV a c n) n !=gb c n)
def sI (a:List Bool) (r:Int):List Bool:=rV (pH (wB (dW (ku a)))) (fN r) 64
def wA (s:List Int):List Bool:=dD (fun i z=>cp (i%5) (i / 5) z) (fun i z=>bt (s.getD i 0) z) 64 zB 25
def wv (a:List Bool) (i:Nat):Nat→Nat
  | 0=>0
  | n+1=>2*wv a i n+(if gb a (cp (i%5) (i / 5) (63-n))=true then 1 else 0)
def CI (a:List Bool):Nat→List Int
  | 0=>List.replicate 25 0
  | n+1=>(CI a n).set n (wv a n 64:Nat)
noncomputable def IY (a:List Bool):List Int:=hid (CI a 25)
def qK (a:List Bool):Nat→List Bool
  | 0=>a
  | n+1=>sI (qK a n) n
noncomputable def FB (s:List Int):List Int:=hid (IY (qK (wA s) 24))
def aq (s:List Int):Prop:=∀ j,ak (s.getD j 0)
def bQ:List (Nat×Pat):= [(1,.ptr 0 0),(2,.ptr 1 0),(3,.ptr 2 0),(4,i64)]
def kw:List Dat→Prop:=fun _=>True
def jv:List Dat→Nat:=fun _=>0
def FC:Ct:= {ps:= [o4],bs:= [],pre:=fun _=>True,res:=fun | [.lb a] => .ret o4 [] [.lb (pH a)] | _=>aj}
def P6:List Dat→Ann
  | [.lb a] =>⟨[],[(3,[la 56 bQ [bh,bh,bh] (fun | [.i x,.lb a',.lb _,.lb t] =>a'=a∧0≤x∧x≤5∧t=ja cp (nm a) 5 64 zB x.toNat | _=>False) (fun | [.i x,_,_,_] =>(5-x).toNat | _=>0)])],
    [(6,[la 56 (bQ++ [(5,i64)]) [bh,bh,bh] kw jv],fun | [.i x0,.i _,.lb a0,.lb _,.lb t0] => [la 56 (bQ++ [(5,i64)]) [bh,bh,bh]
      (fun | [.i x,.i y,.lb a',.lb _,.lb t] =>x=x0∧a'=a0∧0≤y∧y≤5∧t=dD (cp x0.toNat) (nm a0 x0.toNat) 64 t0 y.toNat | _=>False) (fun | [_,.i y,_,_,_] =>(5-y).toNat | _=>0)] | _=> []),
     (9,[la 56 (bQ++ [(5,i64),(6,i64)]) [bh,bh,bh] kw jv],fun | [.i x0,.i y0,.i _,.lb a0,.lb _,.lb t0] => [la 56 (bQ++ [(5,i64),(6,i64)]) [bh,bh,bh]
      (fun | [.i x,.i y,.i z,.lb a',.lb _,.lb t] =>x=x0∧y=y0∧a'=a0∧0≤z∧z≤64∧t=dg (cp x0.toNat y0.toNat) (nm a0 x0.toNat y0.toNat) t0 z.toNat | _=>False) (fun | [_,_,.i z,_,_,_] =>(64-z).toNat | _=>0)] | _=> [])]⟩
  | _=> {cut:= [],loop:= []}
def Ev:Ct:= {ps:= [o4],bs:= [],pre:=fun _=>True,res:=fun | [.lb a] => .ret o4 [] [.lb (wB a)] | _=>aj}
def Rc:List Dat→Ann
  | [.lb a] =>⟨[],[(3,[la 30 bQ [bh,bh,bh] (fun | [.i x,.lb a',.lb _,.lb t] =>a'=a∧0≤x∧x≤5∧t=CB a zB x.toNat | _=>False) (fun | [.i x,_,_,_] =>(5-x).toNat | _=>0)])],
    [(6,[la 30 (bQ++ [(5,i64)]) [bh,bh,bh] kw jv],fun | [.i x0,.i _,.lb a0,.lb _,.lb t0] => [la 30 (bQ++ [(5,i64)]) [bh,bh,bh]
      (fun | [.i x,.i y,.lb a',.lb _,.lb t] =>x=x0∧a'=a0∧0≤y∧y≤5∧t=C2 a0 x0.toNat t0 y.toNat | _=>False) (fun | [_,.i y,_,_,_] =>(5-y).toNat | _=>0)] | _=> [])]⟩
  | _=> {cut:= [],loop:= []}
def G9:Ct:= {ps:= [o4],bs:= [],pre:=fun _=>True,res:=fun | [.lb a] => .ret o4 [] [.lb (dW a)] | _=>aj}
def QI:List Dat→Ann
  | [.lb a] =>⟨[],[(5,[la 51 (bQ++ [(5,i64),(6,i64)]) [bh,bh,bh] (fun | [.i x,.i y,.i t,.lb a',.lb _,.lb l] =>a'=a∧0≤t∧t≤24∧x=(bR t.toNat).1∧y=(bR t.toNat).2∧l=CN a t.toNat | _=>False) (fun | [_,_,.i t,_,_,_] =>(24-t).toNat | _=>0)])],
    [(8,[la 51 (bQ++ [(5,i64),(6,i64),(7,i64)]) [bh,bh,bh] kw jv],fun | [.i x0,.i y0,.i t0,.i _,.lb a0,.lb _,.lb l0] => [la 51 (bQ++ [(5,i64),(6,i64),(7,i64)]) [bh,bh,bh]
      (fun | [.i x,.i y,.i t,.i z,.lb a',.lb _,.lb l] =>x=x0∧y=y0∧t=t0∧a'=a0∧0≤z∧z≤64∧l=Jl a0 t0.toNat l0 z.toNat | _=>False) (fun | [_,_,_,.i z,_,_,_] =>(64-z).toNat | _=>0)] | _=> [])]⟩
  | _=> {cut:= [],loop:= []}
def D3:Ct:= {ps:= [o4],bs:= [],pre:=fun _=>True,res:=fun | [.lb a] => .ret o4 [] [.lb (ku a)] | _=>aj}
def tX:List (Nat×Pat):= [(1,.ptr 0 0),(2,.ptr 1 0),(3,.ptr 2 0),(8,.ptr 3 0),(9,i64)]
def RR:List Dat→Ann
  | [.lb a] =>⟨[],[(3,[la 88 bQ [bh,bh,q8] (fun | [.i x,.lb a',.lb _,.lb p] =>a'=a∧0≤x∧x≤5∧p=dD (fun x z=>x*64+z) (fun x z=>decide (fZ a x z 5%2=1)) 64 (List.replicate 320 false) x.toNat | _=>False) (fun | [.i x,_,_,_] =>(5-x).toNat | _=>0)]),
     (17,[la 88 tX [bh,bh,q8,bh] (fun | [.i x,.lb a',.lb _,.lb p,.lb t] =>a'=a∧p=AY a∧0≤x∧x≤5∧t=ja cp (nK a p) 5 64 zB x.toNat | _=>False) (fun | [.i x,_,_,_,_] =>(5-x).toNat | _=>0)])],
    [(6,[la 88 (bQ++ [(5,i64)]) [bh,bh,q8] kw jv],fun | [.i x0,.i _,.lb a0,.lb _,.lb p0] => [la 88 (bQ++ [(5,i64)]) [bh,bh,q8]
      (fun | [.i x,.i z,.lb a',.lb _,.lb p] =>x=x0∧a'=a0∧0≤z∧z≤64∧p=dg (fun z=>x0.toNat*64+z) (fun z=>decide (fZ a0 x0.toNat z 5%2=1)) p0 z.toNat | _=>False) (fun | [_,.i z,_,_,_] =>(64-z).toNat | _=>0)] | _=> []),
     (10,[la 88 (bQ++ [(5,i64),(6,i64),(7,i64)]) [bh,bh,q8] kw jv],fun | [.i x0,.i z0,.i _,.i _,.lb a0,.lb _,.lb p0] => [la 88 (bQ++ [(5,i64),(6,i64),(7,i64)]) [bh,bh,q8]
      (fun | [.i x,.i z,.i n,.i y,.lb a',.lb _,.lb p] =>x=x0∧z=z0∧a'=a0∧p=p0∧0≤y∧y≤5∧n=fZ a0 x0.toNat z0.toNat y.toNat∧0≤n∧n≤y | _=>False) (fun | [_,_,_,.i y,_,_,_] =>(5-y).toNat | _=>0)] | _=> []),
     (20,[la 88 (tX++ [(10,i64)]) [bh,bh,q8,bh] kw jv],fun | [.i x0,.i _,.lb a0,.lb _,.lb p0,.lb t0] => [la 88 (tX++ [(10,i64)]) [bh,bh,q8,bh]
      (fun | [.i x,.i y,.lb a',.lb _,.lb p,.lb t] =>x=x0∧a'=a0∧p=p0∧0≤y∧y≤5∧t=dD (cp x0.toNat) (nK a0 p0 x0.toNat) 64 t0 y.toNat | _=>False) (fun | [_,.i y,_,_,_,_] =>(5-y).toNat | _=>0)] | _=> []),
     (23,[la 88 (tX++ [(10,i64),(11,i64)]) [bh,bh,q8,bh] kw jv],fun | [.i x0,.i y0,.i _,.lb a0,.lb _,.lb p0,.lb t0] => [la 88 (tX++ [(10,i64),(11,i64)]) [bh,bh,q8,bh]
      (fun | [.i x,.i y,.i z,.lb a',.lb _,.lb p,.lb t] =>x=x0∧y=y0∧a'=a0∧p=p0∧0≤z∧z≤64∧t=dg (cp x0.toNat y0.toNat) (nK a0 p0 x0.toNat y0.toNat) t0 z.toNat | _=>False) (fun | [_,_,.i z,_,_,_,_] =>(64-z).toNat | _=>0)] | _=> [])]⟩
  | _=> {cut:= [],loop:= []}
def Gq:Ct:= {ps:= [o4,i64],bs:= [],pre:=fun _=>True,res:=fun | [.lb a,.i r] => .ret o4 [] [.lb (sI a r)] | _=>aj}
def Rt:List Dat→Ann
  | [.lb a,.i r] =>⟨[],[(4,[la 32 [(2,.ptr 0 0),(4,.ptr 1 0),(5,.ptr 2 0),(6,i64)] [bh,bh,Pb] (fun | [.i z,.lb t,.lb _,.lb c] =>c=fN r∧0≤z∧z≤64∧t=rV (pH (wB (dW (ku a)))) (fN r) z.toNat | _=>False) (fun | [.i z,_,_,_] =>(64-z).toNat | _=>0)])],[]⟩
  | _=> {cut:= [],loop:= []}
def Fy:Ct:= {ps:= [st],bs:= [],pre:=fun | [.li s] =>aq s | _=>False,res:=fun | [.li s] => .ret o4 [] [.lb (wA s)] | _=>aj}
def UV:List Dat→Ann
  | [.li s] =>⟨[],[(3,[la 33 bQ [kE,bh,bh] (fun | [.i i,.li s',.lb _,.lb t] =>s'=s∧0≤i∧i≤25∧t=dD (fun i z=>cp (i%5) (i / 5) z) (fun i z=>bt (s.getD i 0) z) 64 zB i.toNat | _=>False) (fun | [.i i,_,_,_] =>(25-i).toNat | _=>0)])],
    [(7,[la 33 (bQ++ [(5,u64),(6,i64)]) [kE,bh,bh] kw jv],fun | [.i i0,.i v0,.i _,.li s0,.lb _,.lb t0] => [la 33 (bQ++ [(5,u64),(6,i64)]) [kE,bh,bh]
      (fun | [.i i,.i v,.i z,.li s,.lb _,.lb t] =>i=i0∧s=s0∧0≤z∧z≤64∧v=v0 / 2 ^ z.toNat∧t=dg (fun z=>cp (i0.toNat%5) (i0.toNat / 5) z) (fun z=>bt v0 z) t0 z.toNat | _=>False) (fun | [_,_,.i z,_,_,_] =>(64-z).toNat | _=>0)] | _=> [])]⟩
  | _=> {cut:= [],loop:= []}
noncomputable def Gk:Ct:= {ps:= [o4],bs:= [],pre:=fun _=>True,res:=fun | [.lb a] => .ret st [] [.li (IY a)] | _=>aj}
def Qe:List Dat→Ann
  | [.lb a] =>⟨[],[(3,[la 33 bQ [bh,kE,kE] (fun | [.i i,.lb a',.li _,.li t] =>a'=a∧0≤i∧i≤25∧t=CI a i.toNat | _=>False) (fun | [.i i,_,_,_] =>(25-i).toNat | _=>0)])],
    [(7,[la 33 (bQ++ [(5,u64),(6,i64)]) [bh,kE,kE] kw jv],fun | [.i i0,.i _,.i _,.lb a0,.li _,.li t0] => [la 33 (bQ++ [(5,u64),(6,i64)]) [bh,kE,kE]
      (fun | [.i i,.i v,.i z,.lb a,.li _,.li t] =>i=i0∧a=a0∧t=t0∧-1≤z∧z≤63∧v=(wv a0 i0.toNat (63-z).toNat:Nat) | _=>False) (fun | [_,_,.i z,_,_,_] =>(z+1).toNat | _=>0)] | _=> [])]⟩
  | _=> {cut:= [],loop:= []}
noncomputable def Hk:Ct:= {ps:= [st],bs:= [],pre:=fun | [.li s] =>aq s | _=>False,res:=fun | [.li s] => .ret st [] [.li (FB s)] | _=>aj}
def TQ:List Dat→Ann
  | [.li s] =>⟨[],[(3,[la 16 bQ [kE,kE,bh] (fun | [.i i,.li _,.li _,.lb t] =>0≤i∧i≤24∧t=qK (wA s) i.toNat | _=>False) (fun | [.i i,_,_,_] =>(24-i).toNat | _=>0)])],[]⟩
  | _=> {cut:= [],loop:= []}
end Go.Proofs.YteiecapbaeajdaaGreatDoor
namespace Go.Proofs.YteiecapbaeajdaaGreatDoor
open Go Go.Avc Go.Proofs
set_option linter.unusedVariables false
set_option maxRecDepth 100000
def QX:Prop:= ∀ (l:List Bool),
 l.length=1600→
 True→
 ((l=l∧
 (0:Int)≤0∧
 (0:Int)≤5∧
 List.replicate 1600 false=
 ja cp (nm l) 5 64
 (List.replicate 1600 false) 0)∧
 True)∧
 ∀ (n:Int) (l_1 l_2 l_3:List Bool),
 l_1.length=1600→
 l_2.length=1600→
 l_3.length=1600→
 l_1=l∧
 0≤n∧
 n≤5∧
 l_3=
 ja cp (nm l) 5 64
 (List.replicate 1600 false) n.toNat→
 bif decide (n < 5) then
 ((n=n∧
 l_1=l_1∧
 (0:Int)≤0∧
 (0:Int)≤5∧
 l_3=
 dD (cp n.toNat) (nm l_1 n.toNat)
 64 l_3 0)∧
 True)∧
 ∀ (n_1 n_2:Int) (l_4 l_5 l_6:List Bool),
 l_4.length=1600→
 l_5.length=1600→
 l_6.length=1600→
 n_1=n∧
 l_4=l_1∧
 0≤n_2∧
 n_2≤5∧
 l_6=
 dD (cp n.toNat)
 (nm l_1 n.toNat) 64 l_3 n_2.toNat→
 bif decide (n_2 < 5) then
 ((n_1=n_1∧
 n_2=n_2∧
 l_4=l_4∧
 (0:Int)≤0∧
 (0:Int)≤64∧
 l_6=
 dg (cp n_1.toNat n_2.toNat)
 (nm l_4 n_1.toNat n_2.toNat) l_6 0)∧
 True)∧
 ∀ (n_3 n_4 n_5:Int) (l l_7 l_8:List Bool),
 l.length=1600→
 l_7.length=1600→
 l_8.length=1600→
 n_3=n_1∧
 n_4=n_2∧
 l=l_4∧
 0≤n_5∧
 n_5≤64∧
 l_8=
 dg (cp n_1.toNat n_2.toNat)
 (nm l_4 n_1.toNat n_2.toNat) l_6 n_5.toNat→
 bif decide (n_5 < 64) then
 (0≤n_3∧n_3 < (↑(5:Nat):Int))∧
 (0≤n_4∧n_4 < (↑(5:Nat):Int))∧
 (0≤n_5∧n_5 < (↑(64:Nat):Int))∧
 n_3.toNat*320+n_4.toNat*64+n_5.toNat*1 < 1600∧
 ((-9223372036854775808:Int)≤n_3+1∧n_3+1≤9223372036854775807)∧
 (0≤n_3+1∧(0:Int) < 5)∧
 (0≤(n_3+1) % 5∧(n_3+1) % 5 < (↑(5:Nat):Int))∧
 (0≤n_4∧n_4 < (↑(5:Nat):Int))∧
 (0≤n_5∧n_5 < (↑(64:Nat):Int))∧
 ((n_3+1) % 5).toNat*320+n_4.toNat*64+n_5.toNat*1 <
 (1600:Nat)∧
 ((!l.getD (((n_3+1) % 5).toNat*320+n_4.toNat*64+n_5.toNat*1)
 false)=
 true→
 (-9223372036854775808:Int)≤n_3+2∧n_3+2≤9223372036854775807)∧
 ((!l.getD
 (((n_3+1) % 5).toNat*320+n_4.toNat*64+
 n_5.toNat*1)
 false)=
 true→
 0≤n_3+2∧(0:Int) < 5)∧
 ((!l.getD
 (((n_3+1) % 5).toNat*320+n_4.toNat*64+
 n_5.toNat*1)
 false)=
 true→
 0≤(n_3+2) % 5∧(n_3+2) % 5 < (↑(5:Nat):Int))∧
 ((!l.getD
 (((n_3+1) % 5).toNat*320+n_4.toNat*64+
 n_5.toNat*1)
 false)=
 true→
 0≤n_4∧n_4 < (↑(5:Nat):Int))∧
 ((!l.getD
 (((n_3+1) % 5).toNat*320+n_4.toNat*64+
 n_5.toNat*1)
 false)=
 true→
 0≤n_5∧n_5 < (↑(64:Nat):Int))∧
 ((!l.getD
 (((n_3+1) % 5).toNat*320+n_4.toNat*64+
 n_5.toNat*1)
 false)=
 true→
 ((n_3+2) % 5).toNat*320+n_4.toNat*64+
 n_5.toNat*1 <
 (1600:Nat))∧
 (0≤n_3∧n_3 < (↑(5:Nat):Int))∧
 (0≤n_4∧n_4 < (↑(5:Nat):Int))∧
 (0≤n_5∧n_5 < (↑(64:Nat):Int))∧
 n_3.toNat*320+n_4.toNat*64+n_5.toNat*1 < 1600∧
 ((-9223372036854775808:Int)≤n_5+1∧
 n_5+1≤9223372036854775807)∧
 (n_3=n_1∧
 n_4=n_2∧
 l=l_4∧
 0≤n_5+1∧
 n_5+1≤64∧
 l_8.set
 (n_3.toNat*320+n_4.toNat*64+n_5.toNat*1)
 (l.getD
 (n_3.toNat*320+n_4.toNat*64+
 n_5.toNat*1)
 false !=
 (!l.getD
 (((n_3+1) % 5).toNat*320+
 n_4.toNat*64+
 n_5.toNat*1)
 false &&
 l.getD
 (((n_3+2) % 5).toNat*320+
 n_4.toNat*64+
 n_5.toNat*1)
 false))=
 dg
 (cp n_1.toNat n_2.toNat)
 (nm l_4 n_1.toNat n_2.toNat) l_6
 (n_5+1).toNat)∧
 ((64:Int) - (n_5+1)).toNat < ((64:Int) - n_5).toNat
 else
 ((-9223372036854775808:Int)≤n_4+1∧n_4+1≤9223372036854775807)∧
 (n_3=n∧
 l=l_1∧
 0≤n_4+1∧
 n_4+1≤5∧
 l_8=
 dD (cp n.toNat)
 (nm l_1 n.toNat) 64 l_3 (n_4+1).toNat)∧
 ((5:Int) - (n_4+1)).toNat < ((5:Int) - n_2).toNat
 else
 ((-9223372036854775808:Int)≤n_1+1∧n_1+1≤9223372036854775807)∧
 (l_4=l∧
 0≤n_1+1∧
 n_1+1≤5∧
 l_6=
 ja cp (nm l)
 5 64 (List.replicate 1600 false) (n_1+1).toNat)∧
 ((5:Int) - (n_1+1)).toNat < ((5:Int) - n).toNat
 else l_3=pH l
theorem aet:av yu Tryz.f220 FC P6=QX:=by kernel_rfl
noncomputable def xH:ai:=al yu 220 (ag FC)
def T5:Prop:= ∀ (l:List Bool),
 l.length=1600→
 True→
 ((l=l∧
 (0:Int)≤0∧
 (0:Int)≤5∧List.replicate 1600 false=CB l (List.replicate 1600 false) 0)∧
 True)∧
 ∀ (n:Int) (l_1 l_2 l_3:List Bool),
 l_1.length=1600→
 l_2.length=1600→
 l_3.length=1600→
 l_1=l∧0≤n∧n≤5∧l_3=CB l (List.replicate 1600 false) n.toNat→
 bif decide (n < 5) then
 ((n=n∧l_1=l_1∧(0:Int)≤0∧(0:Int)≤5∧l_3=C2 l_1 n.toNat l_3 0)∧True)∧
 ∀ (n_1 n_2:Int) (l_4 l_5 l_6:List Bool),
 l_4.length=1600→
 l_5.length=1600→
 l_6.length=1600→
 n_1=n∧l_4=l_1∧0≤n_2∧n_2≤5∧l_6=C2 l_1 n.toNat l_3 n_2.toNat→
 bif decide (n_2 < 5) then
 ((-9223372036854775808:Int)≤2*n_1∧(2:Int)*n_1≤9223372036854775807)∧
 ((-9223372036854775808:Int)≤3*n_2∧(3:Int)*n_2≤9223372036854775807)∧
 ((-9223372036854775808:Int)≤2*n_1+3*n_2∧(2:Int)*n_1+3*n_2≤9223372036854775807)∧
 ((0:Int)≤2*n_1+3*n_2∧(0:Int) < 5)∧
 (0≤n_1∧n_1 < (↑(5:Nat):Int))∧
 (0≤n_2∧n_2 < (↑(5:Nat):Int))∧
 n_1.toNat*320+n_2.toNat*64+64≤1600∧
 (0≤n_2∧n_2 < (↑(5:Nat):Int))∧
 (0≤((2:Int)*n_1+3*n_2) % 5∧
 ((2:Int)*n_1+3*n_2) % 5 < (↑(5:Nat):Int))∧
 n_2.toNat*320+(((2:Int)*n_1+3*n_2) % 5).toNat*64+64≤1600∧
 ((-9223372036854775808:Int)≤n_2+1∧n_2+1≤9223372036854775807)∧
 (n_1=n∧
 l_4=l_1∧
 0≤n_2+1∧
 n_2+1≤5∧
 List.take (n_2.toNat*320+(((2:Int)*n_1+3*n_2) % 5).toNat*64) l_6++
 List.take 64 (List.drop (n_1.toNat*320+n_2.toNat*64) l_4)++
 List.drop
 (n_2.toNat*320+(((2:Int)*n_1+3*n_2) % 5).toNat*64+
 (64:Nat))
 l_6=
 C2 l_1 n.toNat l_3 (n_2+1).toNat)∧
 ((5:Int) - (n_2+1)).toNat < ((5:Int) - n_2).toNat
 else
 ((-9223372036854775808:Int)≤n_1+1∧n_1+1≤9223372036854775807)∧
 (l_4=l∧
 0≤n_1+1∧
 n_1+1≤5∧
 l_6=CB l (List.replicate 1600 false) (n_1+1).toNat)∧
 ((5:Int) - (n_1+1)).toNat < ((5:Int) - n).toNat
 else l_3=wB l
theorem adz:av xH Tryz.f221 Ev Rc=T5:=by kernel_rfl
noncomputable def xh:ai:=al xH 221 (ag Ev)
def S1:Prop:= ∀ (l:List Bool),
 l.length=1600→
 True→
 ((0:Int)≤0∧0 < (↑(5:Nat):Int))∧
 ((0:Int)≤0∧0 < (↑(5:Nat):Int))∧
 (64:Nat)≤1600∧
 ((0:Int)≤0∧0 < (↑(5:Nat):Int))∧
 ((0:Int)≤0∧0 < (↑(5:Nat):Int))∧
 (64:Nat)≤1600∧
 ((l=l∧
 (0:Int)≤0∧
 (0:Int)≤24∧
 1=(↑(1:Nat):Int)∧
 0=(↑(0:Nat):Int)∧
 [] ++List.take 64 (List.drop 0 l)++List.replicate 1536 false=CN l 0)∧
 True)∧
 ∀ (n n_1 n_2:Int) (l_1 l_2 l_3:List Bool),
 l_1.length=1600→
 l_2.length=1600→
 l_3.length=1600→
 l_1=l∧
 0≤n_2∧
 n_2≤24∧
 n=(↑(bR n_2.toNat).fst:Int)∧
 n_1=(↑(bR n_2.toNat).snd:Int)∧l_3=CN l n_2.toNat→
 bif decide (n_2 < 24) then
 ((n=n∧
 n_1=n_1∧
 n_2=n_2∧
 l_1=l_1∧(0:Int)≤0∧(0:Int)≤64∧l_3=Jl l_1 n_2.toNat l_3 0)∧
 True)∧
 ∀ (n_3 n_4 n_5 n_6:Int) (l_4 l_5 l_6:List Bool),
 l_4.length=1600→
 l_5.length=1600→
 l_6.length=1600→
 n_3=n∧
 n_4=n_1∧
 n_5=n_2∧
 l_4=l_1∧0≤n_6∧n_6≤64∧l_6=Jl l_1 n_2.toNat l_3 n_6.toNat→
 bif decide (n_6 < 64) then
 ((-9223372036854775808:Int)≤n_5+1∧n_5+1≤9223372036854775807)∧
 ((-9223372036854775808:Int)≤n_5+2∧n_5+2≤9223372036854775807)∧
 ((-9223372036854775808:Int)≤(n_5+1)*(n_5+2)∧
 (n_5+1)*(n_5+2)≤9223372036854775807)∧
 (0≤(n_5+1)*(n_5+2)∧
 (0:Int) < 2∧(n_5+1)*(n_5+2)≤IntKind.i64.max)∧
 ((-9223372036854775808:Int)≤n_6+(n_5+1)*(n_5+2) / 2∧
 n_6+(n_5+1)*(n_5+2) / 2≤9223372036854775807)∧
 (0≤n_6+(n_5+1)*(n_5+2) / 2∧(0:Int) < 64)∧
 (0≤n_3∧n_3 < (↑(5:Nat):Int))∧
 (0≤n_4∧n_4 < (↑(5:Nat):Int))∧
 (0≤n_6∧n_6 < (↑(64:Nat):Int))∧
 n_3.toNat*320+n_4.toNat*64+n_6.toNat*1 < 1600∧
 (0≤n_3∧n_3 < (↑(5:Nat):Int))∧
 (0≤n_4∧n_4 < (↑(5:Nat):Int))∧
 (0≤(n_6+(n_5+1)*(n_5+2) / 2) % 64∧
 (n_6+(n_5+1)*(n_5+2) / 2) % 64 < (↑(64:Nat):Int))∧
 n_3.toNat*320+n_4.toNat*64+
 ((n_6+(n_5+1)*(n_5+2) / 2) % 64).toNat*1 <
 (1600:Nat)∧
 ((-9223372036854775808:Int)≤n_6+1∧n_6+1≤9223372036854775807)∧
 (n_3=n∧
 n_4=n_1∧
 n_5=n_2∧
 l_4=l_1∧
 0≤n_6+1∧
 n_6+1≤64∧
 l_6.set
 (n_3.toNat*320+n_4.toNat*64+
 ((n_6+(n_5+1)*(n_5+2) / 2) % 64).toNat*
 (1:Nat))
 (l_4.getD (n_3.toNat*320+n_4.toNat*64+n_6.toNat*1)
 false)=
 Jl l_1 n_2.toNat l_3 (n_6+1).toNat)∧
 ((64:Int) - (n_6+1)).toNat < ((64:Int) - n_6).toNat
 else
 ((-9223372036854775808:Int)≤2*n_3∧(2:Int)*n_3≤9223372036854775807)∧
 ((-9223372036854775808:Int)≤3*n_4∧(3:Int)*n_4≤9223372036854775807)∧
 ((-9223372036854775808:Int)≤2*n_3+3*n_4∧
 (2:Int)*n_3+3*n_4≤9223372036854775807)∧
 ((0:Int)≤2*n_3+3*n_4∧(0:Int) < 5)∧
 ((-9223372036854775808:Int)≤n_5+1∧n_5+1≤9223372036854775807)∧
 (l_4=l∧
 0≤n_5+1∧
 n_5+1≤24∧
 n_4=(↑(bR (n_5+1).toNat).fst:Int)∧
 ((2:Int)*n_3+3*n_4) % 5=
 (↑(bR (n_5+1).toNat).snd:Int)∧
 l_6=CN l (n_5+1).toNat)∧
 ((24:Int) - (n_5+1)).toNat < ((24:Int) - n_2).toNat
 else l_3=dW l
theorem aeh:av xh Tryz.f222 G9 QI=S1:=by kernel_rfl
noncomputable def yL:ai:=al xh 222 (ag G9)
def OB:Prop:= ∀ (l:List Bool),
 l.length=1600→
 True→
 ((l=l∧
 (0:Int)≤0∧
 (0:Int)≤5∧
 List.replicate 320 false=
 dD (fun x z=>x*64+z)
 (fun x z=>decide (fZ l x z 5 % 2=1)) 64 (List.replicate 320 false)
 0)∧
 True)∧
 ∀ (n:Int) (l_1 l_2 l_3:List Bool),
 l_1.length=1600→
 l_2.length=1600→
 l_3.length=320→
 l_1=l∧
 0≤n∧
 n≤5∧
 l_3=
 dD (fun x z=>x*64+z)
 (fun x z=>decide (fZ l x z 5 % 2=1)) 64 (List.replicate 320 false)
 n.toNat→
 bif decide (n < 5) then
 ((n=n∧
 l_1=l_1∧
 (0:Int)≤0∧
 (0:Int)≤64∧
 l_3=
 dg (fun z=>n.toNat*64+z)
 (fun z=>decide (fZ l_1 n.toNat z 5 % 2=1)) l_3 0)∧
 True)∧
 ∀ (n_1 n_2:Int) (l_4 l_5 l_6:List Bool),
 l_4.length=1600→
 l_5.length=1600→
 l_6.length=320→
 n_1=n∧
 l_4=l_1∧
 0≤n_2∧
 n_2≤64∧
 l_6=
 dg (fun z=>n.toNat*64+z)
 (fun z=>decide (fZ l_1 n.toNat z 5 % 2=1)) l_3 n_2.toNat→
 bif decide (n_2 < 64) then
 ((n_1=n_1∧
 n_2=n_2∧
 l_4=l_4∧
 l_6=l_6∧
 (0:Int)≤0∧
 (0:Int)≤5∧
 0=fZ l_4 n_1.toNat n_2.toNat 0∧
 (0:Int)≤0∧(0:Int)≤0)∧
 True)∧
 ∀ (n_3 n_4 n_5 n_6:Int) (l l_7 l_8:List Bool),
 l.length=1600→
 l_7.length=1600→
 l_8.length=320→
 n_3=n_1∧
 n_4=n_2∧
 l=l_4∧
 l_8=l_6∧
 0≤n_6∧
 n_6≤5∧
 n_5=fZ l_4 n_1.toNat n_2.toNat n_6.toNat∧0≤n_5∧n_5≤n_6→
 bif decide (n_6 < 5) then
 (0≤n_3∧n_3 < (↑(5:Nat):Int))∧
 (0≤n_6∧n_6 < (↑(5:Nat):Int))∧
 (0≤n_4∧n_4 < (↑(64:Nat):Int))∧
 n_3.toNat*320+n_6.toNat*64+n_4.toNat*1 < 1600∧
 bif l.getD (n_3.toNat*320+n_6.toNat*64+n_4.toNat*1) false then
 ((-9223372036854775808:Int)≤n_5+1∧n_5+1≤9223372036854775807)∧
 ((-9223372036854775808:Int)≤n_6+1∧n_6+1≤9223372036854775807)∧
 (n_3=n_1∧
 n_4=n_2∧
 l=l_4∧
 l_8=l_6∧
 0≤n_6+1∧
 n_6+1≤5∧
 n_5+1=
 fZ l_4 n_1.toNat n_2.toNat (n_6+1).toNat∧
 0≤n_5+1∧n_5+1≤n_6+1)∧
 ((5:Int) - (n_6+1)).toNat < ((5:Int) - n_6).toNat
 else
 ((-9223372036854775808:Int)≤n_6+1∧n_6+1≤9223372036854775807)∧
 (n_3=n_1∧
 n_4=n_2∧
 l=l_4∧
 l_8=l_6∧
 0≤n_6+1∧
 n_6+1≤5∧
 n_5=fZ l_4 n_1.toNat n_2.toNat (n_6+1).toNat∧
 0≤n_5∧n_5≤n_6+1)∧
 ((5:Int) - (n_6+1)).toNat < ((5:Int) - n_6).toNat
 else
 (0≤n_5∧(0:Int) < 2)∧
 (0≤n_3∧n_3 < (↑(5:Nat):Int))∧
 (0≤n_4∧n_4 < (↑(64:Nat):Int))∧
 n_3.toNat*64+n_4.toNat*1 < 320∧
 ((-9223372036854775808:Int)≤n_4+1∧n_4+1≤9223372036854775807)∧
 (n_3=n∧
 l=l_1∧
 0≤n_4+1∧
 n_4+1≤64∧
 l_8.set (n_3.toNat*64+n_4.toNat*1) (decide (n_5 % 2=1))=
 dg (fun z=>n.toNat*64+z)
 (fun z=>decide (fZ l_1 n.toNat z 5 % 2=1))
 l_3 (n_4+1).toNat)∧
 ((64:Int) - (n_4+1)).toNat < ((64:Int) - n_2).toNat
 else
 ((-9223372036854775808:Int)≤n_1+1∧n_1+1≤9223372036854775807)∧
 (l_4=l∧
 0≤n_1+1∧
 n_1+1≤5∧
 l_6=
 dD (fun x z=>x*64+z)
 (fun x z=>decide (fZ l x z 5 % 2=1)) 64
 (List.replicate 320 false) (n_1+1).toNat)∧
 ((5:Int) - (n_1+1)).toNat < ((5:Int) - n).toNat
 else
 ((l_1=l∧
 l_3=AY l∧
 (0:Int)≤0∧
 (0:Int)≤5∧
 List.replicate 1600 false=
 ja cp (nK l l_3) 5
 64 (List.replicate 1600 false) 0)∧
 True)∧
 ∀ (n:Int) (l_4 l_5 l_6 l_7:List Bool),
 l_4.length=1600→
 l_5.length=1600→
 l_6.length=320→
 l_7.length=1600→
 l_4=l∧
 l_6=AY l∧
 0≤n∧
 n≤5∧
 l_7=
 ja cp (nK l l_6)
 5 64 (List.replicate 1600 false) n.toNat→
 bif decide (n < 5) then
 ((n=n∧
 l_4=l_4∧
 l_6=l_6∧
 (0:Int)≤0∧
 (0:Int)≤5∧
 l_7=
 dD (cp n.toNat)
 (nK l_4 l_6 n.toNat) 64 l_7 0)∧
 True)∧
 ∀ (n_1 n_2:Int) (l_8 l_9 l_10 l_11:List Bool),
 l_8.length=1600→
 l_9.length=1600→
 l_10.length=320→
 l_11.length=1600→
 n_1=n∧
 l_8=l_4∧
 l_10=l_6∧
 0≤n_2∧
 n_2≤5∧
 l_11=
 dD (cp n.toNat)
 (nK l_4 l_6 n.toNat) 64 l_7 n_2.toNat→
 bif decide (n_2 < 5) then
 ((n_1=n_1∧
 n_2=n_2∧
 l_8=l_8∧
 l_10=l_10∧
 (0:Int)≤0∧
 (0:Int)≤64∧
 l_11=
 dg (cp n_1.toNat n_2.toNat)
 (nK l_8 l_10 n_1.toNat n_2.toNat) l_11 0)∧
 True)∧
 ∀ (n_3 n_4 n_5:Int) (l l_12 l_13 l_14:List Bool),
 l.length=1600→
 l_12.length=1600→
 l_13.length=320→
 l_14.length=1600→
 n_3=n_1∧
 n_4=n_2∧
 l=l_8∧
 l_13=l_10∧
 0≤n_5∧
 n_5≤64∧
 l_14=
 dg
 (cp n_1.toNat n_2.toNat)
 (nK l_8 l_10 n_1.toNat n_2.toNat) l_11 n_5.toNat→
 bif decide (n_5 < 64) then
 ((-9223372036854775808:Int)≤n_3+4∧n_3+4≤9223372036854775807)∧
 (0≤n_3+4∧(0:Int) < 5)∧
 (0≤(n_3+4) % 5∧(n_3+4) % 5 < (↑(5:Nat):Int))∧
 (0≤n_5∧n_5 < (↑(64:Nat):Int))∧
 ((n_3+4) % 5).toNat*64+n_5.toNat*1 < 320∧
 ((-9223372036854775808:Int)≤n_3+1∧n_3+1≤9223372036854775807)∧
 (0≤n_3+1∧(0:Int) < 5)∧
 ((-9223372036854775808:Int)≤n_5+63∧
 n_5+63≤9223372036854775807)∧
 (0≤n_5+63∧(0:Int) < 64)∧
 (0≤(n_3+1) % 5∧
 (n_3+1) % 5 < (↑(5:Nat):Int))∧
 (0≤(n_5+63) % 64∧
 (n_5+63) % 64 < (↑(64:Nat):Int))∧
 ((n_3+1) % 5).toNat*64+
 ((n_5+63) % 64).toNat*1 <
 (320:Nat)∧
 (0≤n_3∧n_3 < (↑(5:Nat):Int))∧
 (0≤n_4∧n_4 < (↑(5:Nat):Int))∧
 (0≤n_5∧n_5 < (↑(64:Nat):Int))∧
 n_3.toNat*320+n_4.toNat*64+n_5.toNat*1 <
 (1600:Nat)∧
 (0≤n_3∧n_3 < (↑(5:Nat):Int))∧
 (0≤n_4∧n_4 < (↑(5:Nat):Int))∧
 (0≤n_5∧n_5 < (↑(64:Nat):Int))∧
 n_3.toNat*320+n_4.toNat*64+n_5.toNat*1 <
 (1600:Nat)∧
 ((-9223372036854775808:Int)≤n_5+1∧
 n_5+1≤9223372036854775807)∧
 (n_3=n_1∧
 n_4=n_2∧
 l=l_8∧
 l_13=l_10∧
 0≤n_5+1∧
 n_5+1≤64∧
 l_14.set
 (n_3.toNat*320+n_4.toNat*64+
 n_5.toNat*1)
 (l.getD
 (n_3.toNat*320+
 n_4.toNat*64+
 n_5.toNat*1)
 false !=
 (l_13.getD
 (((n_3+4) % 5).toNat*
 (64:Nat)+
 n_5.toNat*1)
 false !=
 l_13.getD
 (((n_3+1) % 5).toNat*
 (64:Nat)+
 ((n_5+63) % 64).toNat*
 (1:Nat))
 false))=
 dg
 (cp n_1.toNat
 n_2.toNat)
 (nK l_8 l_10
 n_1.toNat n_2.toNat)
 l_11 (n_5+1).toNat)∧
 ((64:Int) - (n_5+1)).toNat < ((64:Int) - n_5).toNat
 else
 ((-9223372036854775808:Int)≤n_4+1∧n_4+1≤9223372036854775807)∧
 (n_3=n∧
 l=l_4∧
 l_13=l_6∧
 0≤n_4+1∧
 n_4+1≤5∧
 l_14=
 dD (cp n.toNat)
 (nK l_4 l_6 n.toNat) 64 l_7
 (n_4+1).toNat)∧
 ((5:Int) - (n_4+1)).toNat < ((5:Int) - n_2).toNat
 else
 ((-9223372036854775808:Int)≤n_1+1∧n_1+1≤9223372036854775807)∧
 (l_8=l∧
 l_10=AY l∧
 0≤n_1+1∧
 n_1+1≤5∧
 l_11=
 ja cp
 (nK l l_10) 5 64 (List.replicate 1600 false)
 (n_1+1).toNat)∧
 ((5:Int) - (n_1+1)).toNat < ((5:Int) - n).toNat
 else l_7=ku l
theorem abK:av yL Tryz.f223 D3 RR=OB:=by kernel_rfl
noncomputable def x9:ai:=al yL 223 (ag D3)
def Ug:Prop:= ∀ (l:List Bool) (n:Int),
 l.length=1600→
 True→
 True∧
 True∧
 True∧
 True∧
 True∧
 ((fN n=fN n∧
 (0:Int)≤0∧
 (0:Int)≤64∧
 pH
 (wB (dW (ku l)))=
 rV
 (pH
 (wB (dW (ku l))))
 (fN n) 0)∧
 True)∧
 ∀ (n_1:Int) (l_1 l_2 l_3:List Bool),
 l_1.length=1600→
 l_2.length=1600→
 l_3.length=64→
 l_3=fN n∧
 0≤n_1∧
 n_1≤64∧
 l_1=
 rV
 (pH
 (wB (dW (ku l))))
 (fN n) n_1.toNat→
 bif decide (n_1 < 64) then
 ((0:Int)≤0∧0 < (↑(5:Nat):Int))∧
 ((0:Int)≤0∧0 < (↑(5:Nat):Int))∧
 (0≤n_1∧n_1 < (↑(64:Nat):Int))∧
 (0:Nat)+n_1.toNat*1 < 1600∧
 (0≤n_1∧n_1 < (↑(64:Nat):Int))∧
 n_1.toNat*1 < 64∧
 ((0:Int)≤0∧0 < (↑(5:Nat):Int))∧
 ((0:Int)≤0∧0 < (↑(5:Nat):Int))∧
 (0≤n_1∧n_1 < (↑(64:Nat):Int))∧
 (0:Nat)+n_1.toNat*1 < 1600∧
 ((-9223372036854775808:Int)≤n_1+1∧n_1+1≤9223372036854775807)∧
 (l_3=fN n∧
 0≤n_1+1∧
 n_1+1≤64∧
 l_1.set ((0:Nat)+n_1.toNat*1)
 (l_1.getD ((0:Nat)+n_1.toNat*1) false !=l_3.getD (n_1.toNat*1) false)=
 rV
 (pH
 (wB
 (dW (ku l))))
 (fN n) (n_1+1).toNat)∧
 ((64:Int) - (n_1+1)).toNat < ((64:Int) - n_1).toNat
 else l_1=sI l n
theorem ads:av x9 Tryz.f195 Gq Rt=Ug:=by kernel_rfl
noncomputable def w6:ai:=al x9 195 (ag Gq)
def Qt:Prop:= ∀ (l:List Int),
 l.length=25→
 aq l→
 ((l=l∧
 (0:Int)≤0∧
 (0:Int)≤25∧
 List.replicate 1600 false=
 dD (fun i z=>cp (i % 5) (i / 5) z)
 (fun i z=>bt (l.getD i 0) z) 64 (List.replicate 1600 false) 0)∧
 True)∧
 ∀ (n:Int) (l_1:List Int) (l_2 l_3:List Bool),
 l_1.length=25→
 l_2.length=1600→
 l_3.length=1600→
 l_1=l∧
 0≤n∧
 n≤25∧
 l_3=
 dD (fun i z=>cp (i % 5) (i / 5) z)
 (fun i z=>bt (l.getD i 0) z) 64 (List.replicate 1600 false) n.toNat→
 bif decide (n < 25) then
 (0≤n∧n < (↑(25:Nat):Int))∧
 n.toNat*1 < 25∧
 ((n=n∧
 l_1=l_1∧
 (0:Int)≤0∧
 (0:Int)≤64∧
 l_1.getD (n.toNat*1) 0=l_1.getD (n.toNat*1) 0 / 2 ^ (0:Nat)∧
 l_3=
 dg (fun z=>cp (n.toNat % 5) (n.toNat / 5) z)
 (fun z=>bt (l_1.getD (n.toNat*1) 0) z) l_3 0)∧
 True)∧
 ∀ (n_1 n_2 n_3:Int) (l_4:List Int) (l_5 l_6:List Bool),
 l_4.length=25→
 l_5.length=1600→
 l_6.length=1600→
 n_1=n∧
 l_4=l_1∧
 0≤n_3∧
 n_3≤64∧
 n_2=l_1.getD (n.toNat*1) 0 / 2 ^ n_3.toNat∧
 l_6=
 dg
 (fun z=>cp (n.toNat % 5) (n.toNat / 5) z)
 (fun z=>bt (l_1.getD (n.toNat*1) 0) z) l_3 n_3.toNat→
 bif decide (n_3 < 64) then
 (0≤n_1∧(0:Int) < 5)∧
 (0≤n_1∧(0:Int) < 5∧n_1≤IntKind.i64.max)∧
 (0≤n_2∧(0:Int) < 2)∧
 (0≤n_1 % 5∧n_1 % 5 < (↑(5:Nat):Int))∧
 (0≤n_1 / 5∧n_1 / 5 < (↑(5:Nat):Int))∧
 (0≤n_3∧n_3 < (↑(64:Nat):Int))∧
 (n_1 % 5).toNat*320+(n_1 / 5).toNat*64+n_3.toNat*1 < 1600∧
 (0≤n_2∧(0:Int) < 2∧n_2≤IntKind.u64.max)∧
 ((-9223372036854775808:Int)≤n_3+1∧n_3+1≤9223372036854775807)∧
 (n_1=n∧
 l_4=l_1∧
 0≤n_3+1∧
 n_3+1≤64∧
 n_2 / 2=l_1.getD (n.toNat*1) 0 / 2 ^ (n_3+1).toNat∧
 l_6.set ((n_1 % 5).toNat*320+(n_1 / 5).toNat*64+n_3.toNat*1)
 (decide (n_2 % 2=1))=
 dg
 (fun z=>cp (n.toNat % 5) (n.toNat / 5) z)
 (fun z=>bt (l_1.getD (n.toNat*1) 0) z) l_3
 (n_3+1).toNat)∧
 ((64:Int) - (n_3+1)).toNat < ((64:Int) - n_3).toNat
 else
 ((-9223372036854775808:Int)≤n_1+1∧n_1+1≤9223372036854775807)∧
 (l_4=l∧
 0≤n_1+1∧
 n_1+1≤25∧
 l_6=
 dD (fun i z=>cp (i % 5) (i / 5) z)
 (fun i z=>bt (l.getD i 0) z) 64 (List.replicate 1600 false)
 (n_1+1).toNat)∧
 ((25:Int) - (n_1+1)).toNat < ((25:Int) - n).toNat
 else l_3=wA l
theorem abI:av w6 Tryz.f194 Fy UV=Qt:=by kernel_rfl
noncomputable def yS:ai:=al w6 194 (ag Fy)
def S0:Prop:= ∀ (l:List Bool),
 l.length=1600→
 True→
 ((l=l∧
 (0:Int)≤0∧
 (0:Int)≤25∧
 [0,0,0,0,0,0,0,0,0,0,0,0,0,0,
 (0:Int),0,0,0,0,0,0,0,0,0,0] =
 CI l 0)∧
 True)∧
 ∀ (n:Int) (l_1:List Bool) (l_2 l_3:List Int),
 l_1.length=1600→
 l_2.length=25→
 l_3.length=25→
 l_1=l∧0≤n∧n≤25∧l_3=CI l n.toNat→
 bif decide (n < 25) then
 ((n=n∧l_1=l_1∧l_3=l_3∧(-1:Int)≤63∧(63:Int)≤63∧0=(↑(0:Nat):Int))∧True)∧
 ∀ (n_1 n_2 n_3:Int) (l_4:List Bool) (l_5 l_6:List Int),
 l_4.length=1600→
 l_5.length=25→
 l_6.length=25→
 n_1=n∧
 l_4=l_1∧
 l_6=l_3∧(-1:Int)≤n_3∧n_3≤63∧n_2=(↑(wv l_1 n.toNat ((63:Int) - n_3).toNat):Int)→
 bif decide (0≤n_3) then
 (0≤n_1∧(0:Int) < 5)∧
 (0≤n_1∧(0:Int) < 5∧n_1≤IntKind.i64.max)∧
 (0≤n_1 % 5∧n_1 % 5 < (↑(5:Nat):Int))∧
 (0≤n_1 / 5∧n_1 / 5 < (↑(5:Nat):Int))∧
 (0≤n_3∧n_3 < (↑(64:Nat):Int))∧
 (n_1 % 5).toNat*320+(n_1 / 5).toNat*64+n_3.toNat*1 < 1600∧
 bif l_4.getD ((n_1 % 5).toNat*320+(n_1 / 5).toNat*64+n_3.toNat*1) false then
 ((-9223372036854775808:Int)≤n_3 - 1∧n_3 - 1≤9223372036854775807)∧
 (n_1=n∧
 l_4=l_1∧
 l_6=l_3∧
 (-1:Int)≤n_3 - 1∧
 n_3 - 1≤63∧
 IntKind.u64.wrap (IntKind.u64.wrap (n_2*2)+1)=
 (↑(wv l_1 n.toNat ((63:Int) - (n_3 - 1)).toNat):Int))∧
 (n_3 - 1+1).toNat < (n_3+1).toNat
 else
 ((-9223372036854775808:Int)≤n_3 - 1∧n_3 - 1≤9223372036854775807)∧
 (n_1=n∧
 l_4=l_1∧
 l_6=l_3∧
 (-1:Int)≤n_3 - 1∧
 n_3 - 1≤63∧
 IntKind.u64.wrap (n_2*2)=
 (↑(wv l_1 n.toNat ((63:Int) - (n_3 - 1)).toNat):Int))∧
 (n_3 - 1+1).toNat < (n_3+1).toNat
 else
 (0≤n_1∧n_1 < (↑(25:Nat):Int))∧
 n_1.toNat*1 < 25∧
 ((-9223372036854775808:Int)≤n_1+1∧n_1+1≤9223372036854775807)∧
 (l_4=l∧
 0≤n_1+1∧
 n_1+1≤25∧
 l_6.set (n_1.toNat*1) n_2=CI l (n_1+1).toNat)∧
 ((25:Int) - (n_1+1)).toNat < ((25:Int) - n).toNat
 else l_3=IY l
theorem acW:av yS Tryz.f196 Gk Qe=S0:=by kernel_rfl
noncomputable def xf:ai:=al yS 196 (ag Gk)
def Rd:Prop:= ∀ (l:List Int),
 l.length=25→
 aq l→
 aq l∧
 (((0:Int)≤0∧
 (0:Int)≤24∧
 wA l=qK (wA l) 0)∧
 True)∧
 ∀ (n:Int) (l_1 l_2:List Int) (l_3:List Bool),
 l_1.length=25→
 l_2.length=25→
 l_3.length=1600→
 0≤n∧n≤24∧l_3=qK (wA l) n.toNat→
 bif decide (n < 24) then
 True∧
 ((-9223372036854775808:Int)≤n+1∧n+1≤9223372036854775807)∧
 (0≤n+1∧
 n+1≤24∧
 sI l_3 n=
 qK (wA l) (n+1).toNat)∧
 ((24:Int) - (n+1)).toNat < ((24:Int) - n).toNat
 else True∧IY l_3=FB l
theorem adu:av xf Tryz.f156 Hk TQ=Rd:=by kernel_rfl
noncomputable def zl:ai:=al xf 156 (ag Hk)
end Go.Proofs.YteiecapbaeajdaaGreatDoor
