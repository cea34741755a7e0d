/-
 The sponge of bytes: the conditions are met.
-/
import Derived.Test.YteiecapbaeajdaaGreatDoorJ6
import Derived.Laws.MathBits
import Derived.WalkKit
open List renaming nil_append→asp,take_length→aww,getElem?_set→asX,drop_zero→as8,take_of_length_le→agv,map→asv,take→ar0,drop→ar1,mem_of_getElem?→awZ,replicate→ab0,length_replicate→asy,getElem?_replicate→awV,map_replicate→aw0,getElem?_take→aky,length_take→ajw
open Int renaming le_refl→asw,eq_ofNat_of_zero_le→as6,ediv_one→awQ,fdiv_eq_ediv_of_nonneg→awT,toNat→aw1
open Nat renaming le_of_eq→awY,min_eq_left→ato,zero_le→asq
open Decidable renaming not_not→awJ
open Bool renaming and_eq_false_iff→atd
namespace Go.Proofs.YteiecapbaeajdaaGreatDoor
open Go Go.Avc Go.Proofs
set_option linter.unusedVariables false
set_option linter.unusedSimpArgs false
set_option maxRecDepth 100000
open Go.Avc
open Go Go.Avc
noncomputable section
theorem j4 (s:LD):(fD s).length=200:=by unfold fD;rw [bp,sI]
theorem OZ (s:LD):av (fD s):=QG _
theorem Nj {l m:LD} (h:l.length=m.length):gj l 0 l.length m=m:=by
 unfold gj
 rw [h,List.take_zero,asp,Nat.min_self,Nat.zero_add,aww,List.drop_of_length_le (by omega),List.append_nil]
theorem Uw {s:LD} (h:av s) {u:Int} (hu:0≤u∧u<256) (k:Nat):av (s.set k ((s.getD k []).set 0 (.int u))):=fun j=>by
 have key:(s.set k ((s.getD k []).set 0 (.int u))).getD j [] =if k=j then (if k<s.length then (s.getD k []).set 0 (.int u) else []) else s.getD j [] :=by
  rw [ay,asX]
  split
  ·split <;>rfl
  ·rw [← ay]
 show 0≤(((s.set k ((s.getD k []).set 0 (.int u))).getD j []).getD 0 .d0).toInt∧(((s.set k ((s.getD k []).set 0 (.int u))).getD j []).getD 0 .d0).toInt<256
 rw [key]
 split
 ·split
  ·cases s.getD k [] with
   | nil=>exact ⟨asw 0,show (0:Int)<256 by decide⟩
   | cons a r=>exact hu
  ·exact ⟨asw 0,by decide⟩
 ·exact h j
def cg (n:Int) (x:Sp):Prop:=0≤x.1∧x.1≤136∧0≤x.2.1∧x.2.1≤136∧0≤x.2.2.1∧x.2.2.1≤n∧x.2.2.2.length=200∧av x.2.2.2
theorem aiJ {n:Int} {x:Sp} (h:cg n x):cg (n+1) (Js x)∧(Js x).1<136:=by
 obtain ⟨h1,h2,h3,h4,h5,h6,h7,h8⟩:=h
 unfold Js
 split
 ·exact ⟨⟨asw 0,by show (0:Int)≤136;omega,h3,h4,by show 0≤x.2.2.1+1;omega,by show x.2.2.1+1≤n+1;omega,j4 _,OZ _⟩,by show (0:Int)<136;omega⟩
 ·exact ⟨⟨h1,h2,h3,h4,h5,by omega,h7,h8⟩,by omega⟩
theorem ab9 {n:Int} {x:Sp} (h:cg n x) (h0:x.1<136) {u:Int} (hu:0≤u∧u<256):cg n (ab1 x u):=by
 obtain ⟨h1,h2,h3,h4,h5,h6,h7,h8⟩:=h
 exact ⟨by show 0≤x.1+1;omega,by show x.1+1≤136;omega,by show (0:Int)≤136;omega,asw 136,h5,h6,by show (List.set _ _ _).length=200;rw [df];exact h7,Uw h8 hu _⟩
theorem DY {l:LD} (hl:av l) {n:Int} {x:Sp} (h:cg n x):∀ i:Nat,cg (n+i) (b7 l x i)
 | 0=>by rw [show n+((0:Nat):Int)=n from by omega];exact h
 | i+1=>by
  have h1:=aiJ (DY hl h i)
  have h2:=ab9 h1.1 h1.2 (hl i)
  rw [show n+((i+1:Nat):Int)=n+i+1 from by omega]
  exact h2
theorem S4 {n:Int} {x:Sp} (h:cg n x):cg (n+1) (oG x)∧(oG x).2.1<136:=by
 obtain ⟨h1,h2,h3,h4,h5,h6,h7,h8⟩:=h
 unfold oG
 split
 ·exact ⟨⟨asw 0,by show (0:Int)≤136;omega,asw 0,by show (0:Int)≤136;omega,by show 0≤x.2.2.1+1;omega,by show x.2.2.1+1≤n+1;omega,j4 _,OZ _⟩,by show (0:Int)<136;omega⟩
 ·exact ⟨⟨h1,h2,h3,h4,h5,by omega,h7,h8⟩,by omega⟩
theorem qm {n:Int} {x:Sp} (h:cg n x):∀ i:Nat,cg (n+i) (aU x i)
 | 0=>by rw [show n+((0:Nat):Int)=n from by omega];exact h
 | i+1=>by
  obtain ⟨⟨h1,h2,h3,h4,h5,h6,h7,h8⟩,h9⟩:=S4 (qm h i)
  rw [show n+((i+1:Nat):Int)=n+i+1 from by omega]
  exact ⟨h1,h2,by show 0≤(oG (aU x i)).2.1+1;omega,by show (oG (aU x i)).2.1+1≤136;omega,h5,h6,h7,h8⟩
theorem Be (x:Sp):∀ i,(kr x i).length=i
 | 0=>rfl
 | i+1=>by rw [kr,ce,Be x i];rfl
theorem amu:aux:=fun _=>rfl
theorem ajT:(base.with ZL).Ok:=ab ajY (ai am ajY Tryz.func294 (by kernel_rfl) Tryz.call294 (by kernel_rfl) amu)
theorem apY:avB:=fun _=>rfl
theorem afd:(base.with Vu).Ok:=ab ajT (ai am ajT Tryz.func295 (by kernel_rfl) Tryz.call295 (by kernel_rfl) apY)
theorem amr:ag0:=by
 delta ag0 lM
 rintro s _ ⟨h1,h2⟩
 have hw:(bg s 200).length=25:=by rw [fK,h1]
 have hp:=Gi hw (Ah s 200)
 refine ⟨h2,aa (fun h=>absurd h1 (au h)) fun _=>⟨trivial,hp.2,⟨by omega,by omega,by omega,by omega⟩,?_⟩⟩
 rw [as8,agv (awY (sI _))]
 exact Nj (by rw [h1,bp,sI])
theorem agF:(base.with Zw).Ok:=ab afd (ai am afd Tryz.func293 (by kernel_rfl) Tryz.call293 (by kernel_rfl) amr)
theorem avH:P83:=fun _=>trivial
theorem c83:(base.with aht).Ok:=ab agF (ai am agF Tryz.func83 (by kernel_rfl) Tryz.call83 (by kernel_rfl) avH)
theorem amv:aiS:=by
 delta aiS lM iR
 intro l _ hl _
 refine ⟨trivial,trivial,⟨by omega,by omega⟩,aa (fun h=> ?_) fun _=>⟨trivial,⟨by omega,by omega,by omega,by omega⟩,trivial,trivial,⟨by omega,by omega,by omega,by omega⟩,rfl,rfl,rfl,rfl,rfl⟩⟩
 have:=au h
 omega
theorem ags:(base.with Wj).Ok:=ab c83 (ai am c83 Tryz.func130 (by kernel_rfl) Tryz.call130 (by kernel_rfl) amv)
theorem avJ:P82:=by
 delta P82 lM
 exact fun l _ h=>⟨h,rfl,rfl,rfl,rfl⟩
theorem c82:(base.with ah9).Ok:=ab ags (ai am ags Tryz.func82 (by kernel_rfl) Tryz.call82 (by kernel_rfl) avJ)
theorem awd:P45:=by
 intro t ht _
 rw [as8,agv (awY ht)]
 exact ⟨trivial,⟨by omega,by omega,by omega,by omega⟩,by rw [bp];omega,rfl,rfl,rfl,rfl⟩
theorem c45:(base.with adJ).Ok:=ab c82 (ai am c82 Tryz.func45 (by kernel_rfl) Tryz.call45 (by kernel_rfl) awd)
theorem ap6:aec:=by
 delta aec iR Fy
 exact fun a b c s ⟨h1,h2,h3,h4⟩=>⟨⟨h1,h2⟩,⟨by omega,by omega⟩,rfl,rfl,rfl,rfl⟩
theorem ajK:(base.with XF).Ok:=ab c45 (ai am c45 Tryz.func271 (by kernel_rfl) Tryz.call271 (by kernel_rfl) ap6)
theorem apC:ahC:=by
 delta ahC lM iR bR Fy JP Gz
 rintro l a b c s hll ⟨hx,hl,hn⟩
 refine ⟨trivial,fun _=>⟨⟨⟨rfl,rfl,rfl,by omega,by omega,rfl,rfl,rfl,rfl⟩,trivial⟩,?_⟩⟩
 rintro q l' n i a' b' c' s' _ ⟨rfl,rfl,rfl,h0,h1,ea,eb,ec,es⟩
 obtain ⟨i,rfl⟩:=as6 h0
 rw [aA] at ea eb ec es ⊢
 have hN:=DY hl hx i
 have e2:((i:Int)+1).toNat=i+1:=by omega
 have hs1:b7 l' (a,b,c,s) (i+1)=ab1 (Js (b7 l' (a,b,c,s) i)) (rv l' i):=rfl
 rw [e2,hs1]
 generalize hX:b7 l' (a,b,c,s) i=X at *
 obtain ⟨x1,x2,x3,x4⟩:=X
 simp only at ea eb ec es
 subst ea eb ec es
 obtain ⟨k1,k2,k3,k4,k5,k6,k7,k8⟩:=hN
 simp only at k1 k2 k3 k4 k5 k6 k7 k8
 refine aa (fun h=> ?_) fun h=> ?_
 ·have h:=au h
  refine ⟨⟨h0,h⟩,by omega,aa (fun h2=> ?_) fun h2=> ?_⟩
  ·have h2:=au h2
   subst h2
   have hab:Js (136,b',c',s')=(0,b',c'+1,fD s'):=if_pos rfl
   rw [hab]
   refine ⟨⟨k7,k8,k5,by omega⟩,⟨by omega,by rw [j4];omega⟩,by rw [j4];omega,⟨by omega,by omega⟩,⟨by omega,by omega⟩,⟨rfl,rfl,rfl,by omega,by omega,rfl,rfl,rfl,rfl⟩,by omega⟩
  ·have h2:=aw h2
   have hab:Js (a',b',c',s')=(a',b',c',s'):=if_neg h2
   rw [hab]
   refine ⟨⟨k1,by omega⟩,by omega,⟨by omega,by omega⟩,⟨by omega,by omega⟩,⟨rfl,rfl,rfl,by omega,by omega,rfl,rfl,rfl,rfl⟩,by omega⟩
 ·have h:=aw h
  have ei:i=l'.length:=by omega
  rw [← ei,hX]
  exact ⟨rfl,rfl,rfl,rfl⟩
theorem acd:(base.with Zt).Ok:=ab ajK (ai ajE ajK Tryz.func278 (by kernel_rfl) Tryz.call278 (by kernel_rfl) apC)
theorem alJ:afx:=by
 delta afx lM iR aR bR Fy JP Gz U9
 rintro n a b c s ⟨hx,hn⟩
 refine ⟨⟨⟨rfl,by omega,by omega,rfl,rfl,rfl,rfl,rfl⟩,trivial⟩,?_⟩
 rintro m i a' b' c' s' o _ ⟨rfl,h0,h1,ea,eb,ec,es,eo⟩
 obtain ⟨i,rfl⟩:=as6 h0
 rw [aA] at ea eb ec es eo
 have hN:=qm hx i
 have e2:((i:Int)+1).toNat=i+1:=by omega
 have hs1:aU (a,b,c,s) (i+1)=sq1 (oG (aU (a,b,c,s) i)):=rfl
 have ho1:kr (a,b,c,s) (i+1)=kr (a,b,c,s) i++ [[.int (rv (oG (aU (a,b,c,s) i)).2.2.2 (oG (aU (a,b,c,s) i)).2.1.toNat)]] :=rfl
 have hol:=Be (a,b,c,s) i
 rw [e2,hs1,ho1]
 generalize hX:aU (a,b,c,s) i=X at *
 obtain ⟨x1,x2,x3,x4⟩:=X
 simp only at ea eb ec es
 subst ea eb ec es eo
 obtain ⟨k1,k2,k3,k4,k5,k6,k7,k8⟩:=hN
 simp only at k1 k2 k3 k4 k5 k6 k7 k8
 refine aa (fun h=> ?_) fun h=> ?_
 ·have h:=au h
  refine ⟨trivial,aa (fun h2=> ?_) fun h2=> ?_⟩
  ·have h2:=au h2
   subst h2
   have hab:oG (a',136,c',s')=(0,0,c'+1,fD s'):=if_pos rfl
   rw [hab]
   refine ⟨⟨k7,k8,k5,by omega⟩,⟨by omega,by rw [j4];omega⟩,by rw [j4];omega,⟨by omega,by omega⟩,⟨by omega,by omega⟩,⟨by omega,by omega⟩,⟨rfl,by omega,by omega,rfl,rfl,rfl,rfl,rfl⟩,by omega⟩
  ·have h2:=aw h2
   have hab:oG (a',b',c',s')=(a',b',c',s'):=if_neg h2
   rw [hab]
   refine ⟨⟨k3,by omega⟩,by omega,⟨by omega,by omega⟩,⟨by omega,by omega⟩,⟨by omega,by omega⟩,⟨rfl,by omega,by omega,rfl,rfl,rfl,rfl,rfl⟩,by omega⟩
 ·have h:=aw h
  have ei:n.toNat=i:=by omega
  rw [ei,hX]
  exact ⟨rfl,rfl,rfl,rfl,rfl⟩
theorem ahs:(base.with ZA).Ok:=ab acd (ai afe acd Tryz.func275 (by kernel_rfl) Tryz.call275 (by kernel_rfl) alJ)
theorem apw:auq:=by
 intro a b c s h
 have hl:=Be (a,b,c,s) 32
 rw [qo,al]
 generalize kr (a,b,c,s) 32=O at *
 generalize aU (a,b,c,s) 32=X at *
 rw [as8,agv (awY hl)]
 exact ⟨⟨h,by omega⟩,by omega,by omega,rfl,rfl,rfl,rfl,rfl⟩
theorem adc:(base.with Vv).Ok:=ab ahs (ai am ahs Tryz.func277 (by kernel_rfl) Tryz.call277 (by kernel_rfl) apw)
abbrev qS:Pat:= .agg [i64,i64,i64,rb]
def fe (l:LD):Int:=if l.length=0∨1048576<l.length then 7 else 0
def xh (k t n:Int) (l:LD):Bool:=bif decide (cV k t n [] ≠0) then false else (bif decide (k≠1) then decide (l.length=0) else decide (fe l=0)&&decide (n=l.length))
def cB (k t n:Int) (l:LD):LD:=if xh k t n l=true then [k%256,t%256,n%256,n / 256%256,n / 65536%256,n / 16777216%256].map ae++l else []
def pQ (k t n:Int) (l:LD):Prop:=k=1→t=1
def amW:Ct:= {ps:= [i64],bs:= [],pre:=fun | [.i t] =>t=1 | _=>False,res:=fun _=> .ret (.agg [i64,.nilf,.nils]) [] [.i 1]}
def amm:Ct:= {ps:= [i64],bs:= [],pre:=fun | [.i t] =>t=1 | _=>False,res:=fun _=> .ret i64 [] [.i 1]}
def avU:Ct:= {ps:= [i64,rb],bs:= [],pre:=fun | [.i t,.r l] =>t=1 | _=>False,res:=fun | [.i t,.r l] => .ret (.tup [i64,i64]) [] [.i (if fe l=0 then l.length else 0),.i (fe l)] | _=>ag}
def au1:Ct:= {ps:= [i64,rb],bs:= [],pre:=fun | [.i t,.r l] =>t=1 | _=>False,res:=fun | [.i t,.r l] => .ret i64 [] [.i (fe l)] | _=>ag}
def aqj:List Dat→Ann
 | [.i t,.r l] => {cut:= [],loop:= [(6,[la 44 [(1,rb),(7,.ptr 0 0),(8,i64)] [.cells 265 [i64,.nilf,.nils]] (fun | [.r l',.i i,.i s] =>i=0∧fe l=0 | _=>False) (fun _=>0)])]}
 | _=> {cut:= [],loop:= []}
def avn:Ct:= {ps:= [qS],bs:= [],pre:=fun | [.i k,.i t,.i n,.r l] =>pQ k t n l | _=>False,res:=fun | [.i k,.i t,.i n,.r l] => .ret .bool [] [.b (xh k t n l)] | _=>ag}
def auY:Ct:= {ps:= [qS],bs:= [],pre:=fun | [.i k,.i t,.i n,.r l] =>pQ k t n l∧l.length≤1000 | _=>False,res:=fun | [.i k,.i t,.i n,.r l] => .ret (.own 0) [ob] [.r (cB k t n l)] | _=>ag}
def ank:Ct:= {ps:= [KT,qS],bs:= [eV,ob],pre:=fun | [.i k,.i t,.i n,.r l,.i a,.i b,.i c,.r s] =>pQ k t n l∧l.length≤1000∧av l∧db (a,b,c,s) | _=>False,res:=fun
 | [.i k,.i t,.i n,.r l,.i a,.i b,.i c,.r s] => .ret (.tup []) [eV,ob] [.i (b7 (cB k t n l) (a,b,c,s) (cB k t n l).length).1,.i (b7 (cB k t n l) (a,b,c,s) (cB k t n l).length).2.1,.i (b7 (cB k t n l) (a,b,c,s) (cB k t n l).length).2.2.1,.r (b7 (cB k t n l) (a,b,c,s) (cB k t n l).length).2.2.2]
 | _=>ag}
def awb:Prop:=
 ∀ (a:Int),
 a=1→
 bif decide (a=1) then (1:Int)=1
 else
 bif decide (a=2) then
 Miss 2 eS
 else
 bif decide (a=3) then
 Miss 2 eS
 else
 bif decide (a=4) then
 Miss 2 eS
 else (0:Int)=1
def Xi:ac:=ak Vv 138 (aq amW)
def auh:Prop:=
 ∀ (a:Int),a=1→a=1∧(1:Int)=1
def YC:ac:=ak Xi 136 (aq amm)
abbrev w7 (a:LD):Int:=
 if fe a=0 then ↑a.length else 0
abbrev Bv (a:LD):Bool:=
 decide (↑a.length=(0:Int))
def P91:Prop:=
 ∀ (a:Int) (b:LD),
 lM b→
 a=1→
 a=1∧
 (lM b→
 ((0:Int)≤↑b.length∧(0:Int)<(1:Int))∧
 bif decide (↑b.length%(1:Int)≠0) then
 0=w7 b∧(3:Int)=fe b
 else
 lM b→
 (bw false (Bv b)=true→lM b)→
 ((!Bv b)=true→(0:Int)≤↑b.length∧(0:Int)<(1:Int)∧↑b.length≤IntKind.i64.max)∧
 bif Bv b||decide ((1048576:Int)<↑b.length / 1) then
 0=w7 b∧(7:Int)=fe b
 else
 lM b→
 ((0:Int)≤↑b.length∧(0:Int)<(1:Int)∧↑b.length≤IntKind.i64.max)∧
 ↑b.length / 1=w7 b∧(0:Int)=fe b)
def af2:ac:=ak YC 91 (aq avU)
def P93:Prop:=
 ∀ (a:Int) (b:LD),
 lM b→
 a=1→
 a=1∧
 bif decide (fe b≠0) then fe b=fe b
 else
 a=1∧
 (((0:Int)=0∧fe b=0)∧True)∧
 ∀ (c:LD) (d n_1:Int),
 lM c→
 d=0∧fe b=0→
 ((bw true !true)=true→lM c)→0=fe b
def afV:ac:=ak af2 93 (aq au1)
def P95:Prop:=
 ∀ (a b c:Int) (d:LD),
 lM d→
 pQ a b c d→
 True∧
 bif decide (cV a b c [] ≠(0:Int)) then false=xh a b c d
 else
 bif decide (a≠1) then lM d→Bv d=xh a b c d
 else
 b=1∧
 (decide (w7 d=c)=true→b=1)∧
 (decide (w7 d=c)&&decide (fe d=0))=
 xh a b c d
def ajd:ac:=ak afV 95 (aq avn)
def P58:Prop:=
 ∀ (a b c:Int) (d:LD),
 lM d→
 pQ a b c d∧d.length≤1000→
 pQ a b c d∧
 bif !xh a b c d then [] =cB a b c d
 else
 (0:Int)≤8∧
 (0:Int)≤16∧
 (0:Int)≤24∧
 aR (6+d.length) 1∧
 [[.int (IntKind.u8.wrap a)],[.int (IntKind.u8.wrap b)],[.int (IntKind.u8.wrap c)],
 [.int (IntKind.u8.wrap (aL .i64 c 8))],
 [.int (IntKind.u8.wrap (aL .i64 c 16))],
 [.int (IntKind.u8.wrap (aL .i64 c 24))]] ++
 d=
 cB a b c d
def ajP:ac:=ak ajd 58 (aq auY)
def ade:Prop:=
 ∀ (a b c:Int) (d:LD) (e f g:Int) (h:LD),
 lM d→
 pQ a b c d∧
 d.length≤1000∧av d∧db (e,f,g,h)→
 (pQ a b c d∧d.length≤1000)∧
 (db (e,f,g,h)∧
 av (cB a b c d)∧
 (cB a b c d).length≤1000000)∧
 (b7 (cB a b c d) (e,f,g,h) (cB a b c d).length).fst=
 (b7 (cB a b c d) (e,f,g,h)
 (cB a b c d).length).fst∧
 (b7 (cB a b c d) (e,f,g,h)
 (cB a b c d).length).snd.fst=
 (b7 (cB a b c d) (e,f,g,h)
 (cB a b c d).length).snd.fst∧
 (b7 (cB a b c d) (e,f,g,h)
 (cB a b c d).length).snd.snd.fst=
 (b7 (cB a b c d) (e,f,g,h)
 (cB a b c d).length).snd.snd.fst∧
 (b7 (cB a b c d) (e,f,g,h)
 (cB a b c d).length).snd.snd.snd=
 (b7 (cB a b c d) (e,f,g,h)
 (cB a b c d).length).snd.snd.snd
def Y6:ac:=ak ajP 274 (aq ank)
theorem aq4:awb:=by
 rintro t rfl
 exact rfl
theorem ajr:(base.with Xi).Ok:=ab adc (ai am adc Tryz.func138 (by kernel_rfl) Tryz.call138 (by kernel_rfl) aq4)
theorem aq7:auh:=fun _ h=>⟨h,rfl⟩
theorem adn:(base.with YC).Ok:=ab ajr (ai am ajr Tryz.func136 (by kernel_rfl) Tryz.call136 (by kernel_rfl) aq7)
theorem UM {l:LD} (h:l.length=0∨1048576<l.length):fe l=7:=if_pos h
theorem abq {l:LD} (h:¬ (l.length=0∨1048576<l.length)):fe l=0:=if_neg h
theorem avx:P91:=by
 delta P91 lM w7 Bv
 rintro t l hl rfl
 refine ⟨rfl,fun _=>⟨⟨by omega,by omega⟩,aa (fun h=> ?_) fun _=>fun _=>fun _=>⟨fun _=>⟨by omega,by omega,by show (l.length:Int)≤9223372036854775807;omega⟩,aa (fun h=> ?_) fun h=> ?_⟩⟩⟩
 ·have:=au h
  omega
 ·simp only [Bool.or_eq_true,aQ,awQ] at h
  rw [UM (by omega)]
  exact ⟨rfl,rfl⟩
 ·simp only [Bool.or_eq_false_iff,aT,awQ] at h
  rw [abq (by omega)]
  exact fun _=>⟨⟨by omega,by omega,by show (l.length:Int)≤9223372036854775807;omega⟩,by rw [awQ];rfl,rfl⟩
theorem c91:(base.with af2).Ok:=ab adn (ai am adn Tryz.func91 (by kernel_rfl) Tryz.call91 (by kernel_rfl) avx)
theorem av3:P93:=by
 delta P93 lM
 rintro t l hl rfl
 refine ⟨rfl,aa (fun _=>rfl) fun h=>⟨rfl,⟨⟨rfl,awJ.1 (aw h)⟩,trivial⟩,?_⟩⟩
 rintro l1 i s _ ⟨_,h2⟩ _
 exact h2.symm
theorem c93:(base.with afV).Ok:=ab c91 (ai aqj c91 Tryz.func93 (by kernel_rfl) Tryz.call93 (by kernel_rfl) av3)
theorem aue:P95:=by
 delta P95 lM w7 Bv
 rintro k t n l hl hp
 unfold xh
 refine ⟨trivial,aa (fun h=> ?_) fun h=>aa (fun h2=> ?_) fun h2=> ?_⟩
 ·rw [h];rfl
 ·rw [h,h2]
  intro _
  exact decide_eq_decide.2 (by omega)
 ·have hk:k=1:=awJ.1 (aw h2)
  rw [h,h2]
  refine ⟨hp hk,fun _=>hp hk,?_⟩
  show _=(decide (fe l=0)&&decide (n=l.length))
  by_cases h3:fe l=0
  ·rw [if_pos h3,decide_eq_true h3,Bool.and_true,Bool.true_and]
   exact decide_eq_decide.2 (by omega)
  ·rw [decide_eq_false h3,Bool.and_false,Bool.false_and]
theorem c95:(base.with ajd).Ok:=ab c93 (ai am c93 Tryz.func95 (by kernel_rfl) Tryz.call95 (by kernel_rfl) aue)
theorem tH (n:Int):IntKind.u8.wrap n=n%256:=AG n
theorem Ax (n:Int) (k:Nat) (hk:k≤64):aL .i64 n (k:Int)=n / 2 ^ k:=by
 unfold aL
 rw [aA,show min k IntKind.i64.bits=k from ato hk]
 exact awT _ (Int.le_of_lt (Int.pow_pos (by decide)))
theorem avh:P58:=by
 delta P58 lM aR
 rintro k t n l hl ⟨hp,hn⟩
 unfold cB
 refine ⟨hp,aa (fun h=> ?_) fun h=>⟨by omega,by omega,by omega,⟨by omega,by omega⟩,?_⟩⟩
 ·have h:xh k t n l=false:=by simpa using h
  rw [if_neg (by rw [h];decide)]
 ·have h:xh k t n l=true:=by simpa using h
  rw [if_pos h,tH,tH,tH,tH,tH,tH,show aL .i64 n 8=n / 256 from Ax n 8 (by omega),show aL .i64 n 16=n / 65536 from Ax n 16 (by omega),show aL .i64 n 24=n / 16777216 from Ax n 24 (by omega)]
  rfl
theorem c58:(base.with ajP).Ok:=ab c95 (ai am c95 Tryz.func58 (by kernel_rfl) Tryz.call58 (by kernel_rfl) avh)
theorem NK (k t n:Int) (l:LD):(cB k t n l).length≤l.length+6:=by
 unfold cB
 split
 ·simp;try omega
 ·simp
theorem YQ (k t n:Int) {l:LD} (h:av l):av (cB k t n l):=fun j=>by
 unfold cB
 split
 ·have b:∀ m:Int,0≤m%256∧m%256<256:=fun m=>by omega
  match j with
  | 0=>exact b k
  | 1=>exact b t
  | 2=>exact b n
  | 3=>exact b _
  | 4=>exact b _
  | 5=>exact b _
  | j+6=>exact h j
 ·exact ⟨asw 0,show (0:Int)<256 by decide⟩
theorem aqv:ade:=by
 delta ade lM
 rintro k t n l a b c s hl ⟨hp,hn,hb,hs⟩
 have:=NK k t n l
 exact ⟨⟨hp,hn⟩,⟨hs,YQ k t n hb,by omega⟩,rfl,rfl,rfl,rfl⟩
theorem adI:(base.with Y6).Ok:=ab c58 (ai am c58 Tryz.func274 (by kernel_rfl) Tryz.call274 (by kernel_rfl) aqv)
abbrev Fj:Pat:= .fb 277 [KT]
abbrev GQ:List CSh:= [.int .u64,.int .u64,.int .u64,.int .u64]
abbrev oe:BPat:= .own 76 GQ
def tR (x:Sp):List Int:=gk ((jy (qo x)).map ae)
def xV (x:Sp):Nat→Sp
 | 0=>x
 | i+1=>aU (xV x i) 32
def nn (x:Sp):Nat→Nat→List Int×Int×Int×Sp
 | 0,i=>([0,0,0,0],64,11,x)
 | f+1,i=>if (ck (tR x) pW 4).2=0 then nn (aU x 32) f (i+1) else (de (tR x),(i:Int)+1,0,aU x 32)
def aC (x:Sp):List Int×Int×Int×Sp:=hid (nn x 64 0)
def BR (x:Sp):Prop:=cg 900000000 x
def cF (w:List Int):List CD:= [.int (gI w 0),.int (gI w 1),.int (gI w 2),.int (gI w 3)]
def amQ:Ct:= {ps:= [Fj],bs:= [eV,ob],pre:=fun | [.i a,.i b,.i c,.r s] =>BR (a,b,c,s) | _=>False,res:=fun
 | [.i a,.i b,.i c,.r s] => .ret (.tup [w4,i64,i64]) [eV,ob] [.li (aC (a,b,c,s)).1,.i (aC (a,b,c,s)).2.1,.i (aC (a,b,c,s)).2.2.1,.i (aC (a,b,c,s)).2.2.2.1,.i (aC (a,b,c,s)).2.2.2.2.1,.i (aC (a,b,c,s)).2.2.2.2.2.1,.r (aC (a,b,c,s)).2.2.2.2.2.2]
 | _=>ag}
def abW:List Dat→Ann
 | [.i a,.i b,.i c,.r s] => {cut:= [],loop:= [(2,[la 27 [(0,Fj),(2,.ptr 2 0),(9,i64)] [eV,ob,qe] (fun
   | [.i i,.i a',.i b',.i c',.r s',.li _] =>0≤i∧i≤64∧(a',b',c',s')=xV (a,b,c,s) i.toNat∧aC (a,b,c,s)=nn (xV (a,b,c,s) i.toNat) (64-i.toNat) i.toNat
   | _=>False) (fun | [.i i,_,_,_,_,_] =>(64-i).toNat | _=>0)])]}
 | _=> {cut:= [],loop:= []}
def ao2:Ct:= {ps:= [i64,Fj],bs:= [eV,ob],pre:=fun | [.i n,.i a,.i b,.i c,.r s] =>n=1∧BR (a,b,c,s) | _=>False,res:=fun
 | [.i n,.i a,.i b,.i c,.r s] => .ite (decide ((aC (a,b,c,s)).2.2.1=0))
   (.ret (.tup [.own 2,i64,i64]) [eV,ob,oe] [.i (aC (a,b,c,s)).2.1,.i 0,.i (aC (a,b,c,s)).2.2.2.1,.i (aC (a,b,c,s)).2.2.2.2.1,.i (aC (a,b,c,s)).2.2.2.2.2.1,.r (aC (a,b,c,s)).2.2.2.2.2.2,.r [cF (aC (a,b,c,s)).1]])
   (.ret (.tup [.nils,i64,i64]) [eV,ob] [.i (aC (a,b,c,s)).2.1,.i (aC (a,b,c,s)).2.2.1,.i (aC (a,b,c,s)).2.2.2.1,.i (aC (a,b,c,s)).2.2.2.2.1,.i (aC (a,b,c,s)).2.2.2.2.2.1,.r (aC (a,b,c,s)).2.2.2.2.2.2])
 | _=>ag}
def akc:List Dat→Ann
 | [.i n,.i a,.i b,.i c,.r s] => {cut:= [],loop:= [(4,[la 36 [(1,Fj),(7,.own 2),(8,i64),(13,i64),(14,i64)] [eV,ob,oe] (fun
   | [.i t,.i m,.i i,.i a',.i b',.i c',.r s',.r o] =>m=1∧((i=0∧t=0∧a'=a∧b'=b∧c'=c∧s'=s∧o= [])∨(i=1∧(aC (a,b,c,s)).2.2.1=0∧t=(aC (a,b,c,s)).2.1∧(a',b',c',s')=(aC (a,b,c,s)).2.2.2∧o= [cF (aC (a,b,c,s)).1]))
   | _=>False) (fun | [_,_,.i i,_,_,_,_,_] =>(1-i).toNat | _=>0)])]}
 | _=> {cut:= [],loop:= []}
def alz:Ct:= {ps:= [KT,i64],bs:= [eV,ob],pre:=fun | [.i n,.i a,.i b,.i c,.r s] =>n=1∧BR (a,b,c,s) | _=>False,res:=fun
 | [.i n,.i a,.i b,.i c,.r s] => .ite (decide ((aC (a,b,c,s)).2.2.1=0))
   (.ret (.tup [.own 2,i64]) [eV,ob,oe] [.i 0,.i (aC (a,b,c,s)).2.2.2.1,.i (aC (a,b,c,s)).2.2.2.2.1,.i (aC (a,b,c,s)).2.2.2.2.2.1,.r (aC (a,b,c,s)).2.2.2.2.2.2,.r [cF (aC (a,b,c,s)).1]])
   (.ret (.tup [.nils,i64]) [eV,ob] [.i (aC (a,b,c,s)).2.2.1,.i (aC (a,b,c,s)).2.2.2.1,.i (aC (a,b,c,s)).2.2.2.2.1,.i (aC (a,b,c,s)).2.2.2.2.2.1,.r (aC (a,b,c,s)).2.2.2.2.2.2])
 | _=>ag}
abbrev Eb (a b c:Int)(d:LD):LD:=
 asv (fun e=> [.int e])
 (ar0 32 (ar1 0 (jy (qo (a,b,c,d)))))
abbrev Qn (a b c d e f g:Int)(h i:LD):Prop:=
 iR (a+1)∧
 (0≤a+1∧
 a+1≤64∧
 ((aU (b,c,d,h) 32).fst,(aU (b,c,d,h) 32).snd.fst,
 (aU (b,c,d,h) 32).snd.snd.fst,(aU (b,c,d,h) 32).snd.snd.snd)=
 xV (e,f,g,i) (a+1).toNat∧
 aC (e,f,g,i)=
 nn (xV (e,f,g,i) (a+1).toNat) (64-(a+1).toNat)
 (a+1).toNat)∧
 ((64:Int)-(a+1)).toNat<((64:Int)-a).toNat
abbrev jK (a b c:Int)(d:LD):Int:=
 (aC (a,b,c,d)).snd.fst
abbrev fQ (a b c:Int)(d:LD):Int:=
 (aC (a,b,c,d)).snd.snd.fst
abbrev eE (a b c:Int)(d:LD):Sp:=
 (aC (a,b,c,d)).snd.snd.snd
abbrev gV (a b c:Int)(d:LD):Int:=
 (eE a b c d).snd.fst
abbrev gX (a b c:Int)(d:LD):Int:=
 (eE a b c d).snd.snd.fst
abbrev gZ (a b c:Int)(d:LD):LD:=
 (eE a b c d).snd.snd.snd
def adt:Prop:=
 ∀ (a b c:Int) (d:LD),
 BR (a,b,c,d)→
 (((0:Int)≤0∧
 (0:Int)≤64∧
 (a,b,c,d)=xV (a,b,c,d) 0∧
 aC (a,b,c,d)=
 nn (xV (a,b,c,d) 0) 64 0)∧
 True)∧
 ∀ (e f g h:Int) (i:LD) (j:List Int),
 j.length=4→
 0≤e∧
 e≤64∧
 (f,g,h,i)=xV (a,b,c,d) e.toNat∧
 aC (a,b,c,d)=
 nn (xV (a,b,c,d) e.toNat) ((64:Nat)-e.toNat) e.toNat→
 bif decide (e<(64:Int)) then
 db (f,g,h,i)∧
 True∧
 ((0:Int)≤0∧0≤(↑(32:Nat):Int)∧(↑(32:Nat):Int)≤(↑(32:Nat):Int)∧(0:Int)<(↑(32:Nat):Int))∧
 av (Eb f g h i)∧
 bif decide ((Eb f g h i).length≠32) then Qn e f g h a b c i d
 else
 bif
 decide
 ((ck (gk (Eb f g h i))
 [4891460686036598785,2896914383306846353,13281191951274694749,3486998266802970665] 4).snd=
 (0:Int)) then
 Qn e f g h a b c i d
 else
 iR (e+1)∧
 de (gk (Eb f g h i))=
 (aC (a,b,c,d)).fst∧
 e+1=jK a b c d∧
 0=fQ a b c d∧
 (aU (f,g,h,i) 32).fst=(eE a b c d).fst∧
 (aU (f,g,h,i) 32).snd.fst=gV a b c d∧
 (aU (f,g,h,i) 32).snd.snd.fst=gX a b c d∧
 (aU (f,g,h,i) 32).snd.snd.snd=gZ a b c d
 else
 [0,0,0,0] =(aC (a,b,c,d)).fst∧
 64=jK a b c d∧
 11=fQ a b c d∧
 f=(eE a b c d).fst∧
 g=gV a b c d∧
 h=gX a b c d∧i=gZ a b c d
def V2:ac:=ak Y6 279 (aq amQ)
abbrev pU (a b c:Int)(d:LD):LD:=
 [cF (aC (a,b,c,d)).fst]
abbrev OI (a b c:Int)(d e:LD):LD:=
 d++
 [[.int ((aC (a,b,c,e)).fst.getD 0 0),
 .int ((aC (a,b,c,e)).fst.getD 1 0),
 .int ((aC (a,b,c,e)).fst.getD 2 0),
 .int ((aC (a,b,c,e)).fst.getD 3 0)]]
def afj:Prop:=
 ∀ (a b c d:Int) (e:LD),
 a=1∧BR (b,c,d,e)→
 ((max a 0=1∧
 ((0:Int)=0∧(0:Int)=0∧b=b∧c=c∧d=d∧e=e∧([] :LD)= [] ∨
 (0:Int)=1∧
 fQ b c d e=0∧
 0=jK b c d e∧
 (b,c,d,e)=eE b c d e∧ [] =pU b c d e))∧
 True)∧
 ∀ (f g h i j k:Int) (m o:LD),
 lM o→
 g=1∧
 (h=0∧f=0∧i=b∧j=c∧k=d∧m=e∧o= [] ∨
 h=1∧
 fQ b c d e=0∧
 f=jK b c d e∧
 (i,j,k,m)=eE b c d e∧o=pU b c d e)→
 bif decide (h<g) then
 BR (i,j,k,m)∧
 iR (f+jK i j k m)∧
 bif decide (fQ i j k m≠0) then
 bif decide (fQ b c d e=0) then
 f+jK i j k m=jK b c d e∧
 fQ i j k m=0∧
 (eE i j k m).fst=(eE b c d e).fst∧
 gV i j k m=gV b c d e∧
 gX i j k m=gX b c d e∧
 gZ i j k m=gZ b c d e∧
 [] =pU b c d e
 else
 f+jK i j k m=jK b c d e∧
 fQ i j k m=fQ b c d e∧
 (eE i j k m).fst=(eE b c d e).fst∧
 gV i j k m=gV b c d e∧
 gX i j k m=gX b c d e∧
 gZ i j k m=gZ b c d e
 else
 aR (o.length+1) 32∧
 iR (h+1)∧
 (g=1∧
 (h+1=0∧
 f+jK i j k m=0∧
 (eE i j k m).fst=b∧
 gV i j k m=c∧
 gX i j k m=d∧
 gZ i j k m=e∧OI i j k o m= [] ∨
 h+1=1∧
 fQ b c d e=0∧
 f+jK i j k m=jK b c d e∧
 ((eE i j k m).fst,gV i j k m,
 gX i j k m,gZ i j k m)=
 eE b c d e∧
 OI i j k o m=pU b c d e))∧
 ((1:Int)-(h+1)).toNat<((1:Int)-h).toNat
 else
 bif decide (fQ b c d e=0) then
 f=jK b c d e∧
 (0:Int)=0∧
 i=(eE b c d e).fst∧
 j=gV b c d e∧
 k=gX b c d e∧
 m=gZ b c d e∧o=pU b c d e
 else
 Miss 2 eS
def Xd:ac:=ak V2 276 (aq ao2)
def abS:Prop:=
 ∀ (a b c d:Int) (e:LD),
 a=1∧BR (b,c,d,e)→
 (a=1∧BR (b,c,d,e))∧
 bif decide (fQ b c d e=0) then
 bif decide (fQ b c d e=0) then
 (0:Int)=0∧
 (eE b c d e).fst=(eE b c d e).fst∧
 gV b c d e=gV b c d e∧
 gX b c d e=gX b c d e∧
 gZ b c d e=gZ b c d e∧
 pU b c d e=pU b c d e
 else
 Miss 2 eS
 else
 bif decide (fQ b c d e=0) then
 fQ b c d e=0∧
 (eE b c d e).fst=(eE b c d e).fst∧
 gV b c d e=gV b c d e∧
 gX b c d e=gX b c d e∧
 gZ b c d e=gZ b c d e∧ [] =pU b c d e
 else
 fQ b c d e=fQ b c d e∧
 (eE b c d e).fst=(eE b c d e).fst∧
 gV b c d e=gV b c d e∧
 gX b c d e=gX b c d e∧
 gZ b c d e=gZ b c d e
def XY:ac:=ak Xd 273 (aq alz)
def Jb (n:Int):Prop:=0≤n∧n<256
theorem akI:Jb 0:=⟨by omega,by omega⟩
theorem aa3 (x:Sp):(qo x).length=32:=by rw [qo,al,bp,Be]
theorem WX {n:Int} {x:Sp} (h:cg n x):∀ i,∀ r∈kr x i,Jb (r.getD 0 .d0).toInt
 | 0,r,hr=>by cases hr
 | i+1,r,hr=>by
  rw [kr,List.mem_append] at hr
  rcases hr with hr | hr
  ·exact WX h i r hr
  ·rw [List.mem_singleton] at hr
   subst hr
   exact (S4 (qm h i)).1.2.2.2.2.2.2.2 _
theorem abd {P:Int→Prop} (h0:P 0) {l:List Int} (h:∀ n∈l,P n) (j:Nat):P (l.getD j 0):=by
 rw [ay]
 cases hj:l[j]? with
 | none=>exact h0
 | some a=>exact h a (awZ hj)
theorem alQ {n:Int} {x:Sp} (h:cg n x) (j:Nat):Jb ((qo x).getD j 0):=by
 refine abd akI (fun m hm=> ?_) j
 rw [qo,al,List.mem_map] at hm
 obtain ⟨r,hr,rfl⟩:=hm
 exact WX h 32 r hr
theorem aoU (a b:Int):Jb (dp .u8 a b):=by
 unfold dp
 rw [tH]
 unfold Jb
 omega
theorem ae0 {l:List Int} (h:∀ j,Jb (l.getD j 0)) (j:Nat):Jb ((jy l).getD j 0):=by
 unfold jy
 rw [ay,asX]
 split
 ·split
  ·exact aoU _ _
  ·exact akI
 ·rw [← ay];exact h j
theorem RT {n:Int} {x:Sp} (h:cg n x):∀ i:Nat,cg (n+32*i) (xV x i)
 | 0=>by rw [show n+32*((0:Nat):Int)=n from by omega];exact h
 | i+1=>by
  have:=qm (RT h i) 32
  rw [show n+32*((i+1:Nat):Int)=n+32*(i:Int)+(32:Nat) from by omega]
  exact this
theorem aY {n m:Int} (hn:n≤m) {x:Sp} (h:cg n x):cg m x:=by
 obtain ⟨h1,h2,h3,h4,h5,h6,h7⟩:=h
 exact ⟨h1,h2,h3,h4,h5,by omega,h7⟩
theorem LK:∀ (f i:Nat) (x:Sp),0≤(nn x f i).2.1∧(nn x f i).2.1≤64+f+i
 | 0,i,x=>⟨by show (0:Int)≤64;omega,by show (64:Int)≤64+((0:Nat):Int)+i;omega⟩
 | f+1,i,x=>by
  rw [nn]
  split
  ·have:=LK f (i+1) (aU x 32)
   omega
  ·exact ⟨by show (0:Int)≤(i:Int)+1;omega,by show (i:Int)+1≤_;omega⟩
theorem y4 (x:Sp):0≤(aC x).2.1∧(aC x).2.1≤128:=by
 have:=LK 64 0 x
 rw [aC,al]
 omega
theorem amg:adt:=by
 delta adt iR Eb Qn jK fQ eE gV gX gZ
 rintro a b c s hc
 refine ⟨⟨⟨by omega,by omega,rfl,by rw [aC,al];rfl⟩,trivial⟩,?_⟩
 rintro i a' b' c' s' z _ ⟨h0,h1,hst,hfd⟩
 obtain ⟨j,rfl⟩:=as6 h0
 rw [aA] at hst hfd
 have hok:=RT hc j
 have hnx:xV (a,b,c,s) (j+1)=aU (xV (a,b,c,s) j) 32:=rfl
 rw [← hst] at hok hfd hnx
 have hok':db (a',b',c',s'):=aY (by omega) hok
 refine aa (fun h=> ?_) fun h=> ?_
 ·have h:=au h
  have e1:((j:Int)+1).toNat=j+1:=by omega
  have hl:(jy (qo (a',b',c',s'))).length=32:=by unfold jy;rw [df,aa3]
  rw [as8,agv (awY hl),e1,hnx]
  have ey:asv (fun x=> [CD.int x]) (jy (qo (a',b',c',s')))=(jy (qo (a',b',c',s'))).map ae:=rfl
  rw [ey]
  have ew:gk ((jy (qo (a',b',c',s'))).map ae)=tR (a',b',c',s'):=rfl
  rw [ew]
  have e64:64-j=64-(j+1)+1:=by omega
  have hy:av ((jy (qo (a',b',c',s'))).map ae):=fun k=>by rw [da];exact ae0 (alQ hok) k
  have hl2:((jy (qo (a',b',c',s'))).map ae).length=32:=by rw [bp];exact hl
  rw [hl2]
  obtain ⟨q,hq⟩:∃ q,(ck (tR (a',b',c',s')) pW 4).2=q:=⟨_,rfl⟩
  have hq':(ck (tR (a',b',c',s')) [4891460686036598785,2896914383306846353,13281191951274694749,3486998266802970665] 4).2=q:=hq
  rw [hq',hfd,e64,nn,hq]
  generalize tR (a',b',c',s')=W at *
  generalize aU (a',b',c',s') 32=X at *
  refine ⟨hok',trivial,⟨by omega,by omega,by omega,by omega⟩,hy,?_⟩
  refine aa (fun h3=>absurd rfl (au h3)) fun _=> ?_
  refine aa (fun h2=> ?_) fun h2=> ?_
  ·rw [if_pos (au h2)]
   exact ⟨⟨by omega,by omega⟩,⟨by omega,by omega,rfl,rfl⟩,by omega⟩
  ·rw [if_neg (aw h2)]
   generalize de W=Y at *
   exact ⟨⟨by omega,by omega⟩,rfl,rfl,rfl,rfl,rfl,rfl,rfl⟩
 ·have h:=aw h
  have ej:j=64:=by omega
  rw [ej,Nat.sub_self,nn] at hfd
  rw [hfd]
  exact ⟨rfl,rfl,rfl,rfl,rfl,rfl,rfl⟩
theorem aeq:(base.with V2).Ok:=ab adI (ai abW adI Tryz.func279 (by kernel_rfl) Tryz.call279 (by kernel_rfl) amg)
theorem alu:afj:=by
 delta afj lM iR aR jK fQ eE gV gX gZ pU OI
 rintro n a b c s ⟨rfl,hc⟩
 have ht:=y4 (a,b,c,s)
 generalize hF:aC (a,b,c,s)=F at *
 refine ⟨⟨⟨rfl,.inl ⟨rfl,rfl,rfl,rfl,rfl,rfl,rfl⟩⟩,trivial⟩,?_⟩
 rintro t m i a' b' c' s' o _ ⟨rfl,h⟩
 rcases h with ⟨rfl,rfl,rfl,rfl,rfl,rfl,rfl⟩ | ⟨rfl,h1,rfl,h2,rfl⟩
 ·rw [hF]
  refine aa (fun _=>⟨hc,⟨by omega,by omega⟩,aa (fun h=> ?_) fun h=> ?_⟩) fun h=>absurd (aw h) (by decide)
  ·have h':=au h
   rw [decide_eq_false h']
   exact ⟨by omega,rfl,rfl,rfl,rfl,rfl⟩
  ·have h':F.2.2.1=0:=awJ.1 (aw h)
   exact ⟨⟨by decide,by decide⟩,⟨by omega,by omega⟩,⟨rfl,.inr ⟨rfl,h',by omega,rfl,rfl⟩⟩,by decide⟩
 ·refine aa (fun h=>absurd (au h) (by decide)) fun _=> ?_
  rw [decide_eq_true h1]
  obtain ⟨F1,F2,F3,F4,F5,F6,F7⟩:=F
  cases h2
  exact ⟨rfl,rfl,rfl,rfl,rfl,rfl,rfl⟩
theorem afT:(base.with Xd).Ok:=ab aeq (ai akc aeq Tryz.func276 (by kernel_rfl) Tryz.call276 (by kernel_rfl) alu)
theorem aoZ:abS:=by
 delta abS fQ eE gV gX gZ pU
 rintro n a b c s h
 refine ⟨h,aa (fun h2=> ?_) fun h2=> ?_⟩
 ·rw [h2]
  exact ⟨rfl,rfl,rfl,rfl,rfl,rfl⟩
 ·rw [h2]
  exact ⟨rfl,rfl,rfl,rfl,rfl⟩
theorem ahi:(base.with XY).Ok:=ab afT (ai am afT Tryz.func273 (by kernel_rfl) Tryz.call273 (by kernel_rfl) aoZ)
abbrev qM:BPat:= .cells 332 [aK,u64,aK]
def uo (x y:Int):Int:=if x<y then -1 else if y<x then 1 else 0
def gJ (a b:LD):Nat→Int
 | 0=>0
 | n+1=>if uo (rv a n) (rv b n)=0 then gJ a b n else uo (rv a n) (rv b n)
def cU (a b:LD):Nat:=max a.length b.length
def d7 (a b:LD):Nat→List Int×Int
 | 0=>(ab0 (cU a b) 0,0)
 | i+1=>((d7 a b i).1.set i (jd (rv a i) (rv b i) (d7 a b i).2),bC (rv a i) (rv b i) (d7 a b i).2)
def n9 (m a:LD) (c:Int):LD:=if c=0∧gJ a m (cU a m)<0 then a else (d7 a m (cU a m)).1.map ae
def fy (a:LD) (bit:Int):Nat→List Int×Int
 | 0=>(ab0 a.length 0,bit)
 | i+1=>((fy a bit i).1.set i (iq .u64 (eG .u64 (rv a i) 1) (fy a bit i).2),aL .u64 (rv a i) 63)
def Bz (m a:LD) (bit:Int):LD:=n9 m ((fy a bit a.length).1.map ae) (fy a bit a.length).2
def aI (l:LD):Prop:=l.length≤1000∧cQ l
def amU:Ct:= {ps:= [aK],bs:= [],pre:=fun | [.r l] =>l.length≤1000 | _=>False,res:=fun | [.r l] => .ret (.own 0) [ow] [.r l] | _=>ag}
def arn:Ct:= {ps:= [aK,i64],bs:= [],pre:=fun | [.r l,.i i] =>0≤i | _=>False,res:=fun | [.r l,.i i] => .ret u64 [] [.i (rv l i.toNat)] | _=>ag}
def apB:Ct:= {ps:= [u64],bs:= [],pre:=fun _=>True,res:=fun _=> .ret .bool [] [.b false]}
def ao1:Ct:= {ps:= [u64,u64],bs:= [],pre:=fun _=>True,res:=fun | [.i x,.i y] => .ret i64 [] [.i (uo x y)] | _=>ag}
def amM:Ct:= {ps:= [aK,aK],bs:= [],pre:=fun | [.r a,.r b] =>a.length≤1000∧b.length≤1000 | _=>False,res:=fun | [.r a,.r b] => .ret i64 [] [.i (gJ a b (cU a b))] | _=>ag}
def adX:List Dat→Ann
 | [.r a,.r b] => {cut:= [],loop:= [(2,[la 27 [(0,aK),(1,aK),(5,i64)] [] (fun | [.r a',.r b',.i i] =>a'=a∧b'=b∧-1≤i∧i<cU a b∧gJ a b (cU a b)=gJ a b (i+1).toNat | _=>False) (fun | [_,_,.i i] =>(i+1).toNat | _=>0)])]}
 | _=> {cut:= [],loop:= []}
def anY:Ct:= {ps:= [aK,aK,.fn 230 []],bs:= [],pre:=fun | [.r a,.r b] =>aI a∧aI b | _=>False,res:=fun | [.r a,.r b] => .ret (.tup [.own 0,u64]) [ow] [.i (d7 a b (cU a b)).2,.r ((d7 a b (cU a b)).1.map ae)] | _=>ag}
def agy:List Dat→Ann
 | [.r a,.r b] => {cut:= [],loop:= [(4,[la 40 [(0,aK),(1,aK),(2,.fn 230 []),(8,.own 0),(9,u64),(18,i64),(19,i64)] [ow] (fun | [.r a',.r b',.i c,.i n,.i i,.r o] =>a'=a∧b'=b∧n=cU a b∧0≤i∧i≤n∧c=(d7 a b i.toNat).2∧o=(d7 a b i.toNat).1.map ae | _=>False) (fun | [_,_,_,.i n,.i i,_] =>(n-i).toNat | _=>0)])]}
 | _=> {cut:= [],loop:= []}
def apG:Ct:= {ps:= [aK,aK],bs:= [],pre:=fun | [.r a,.r b] =>aI a∧aI b | _=>False,res:=fun | [.r a,.r b] => .ret (.tup [.own 0,u64]) [ow] [.i (d7 a b (cU a b)).2,.r ((d7 a b (cU a b)).1.map ae)] | _=>ag}
def ao4:Ct:= {ps:= [.ptr 0 0,aK,u64],bs:= [qM],pre:=fun | [.r a,.i c,.r m,.i _,.r _] =>aI a∧aI m | _=>False,res:=fun | [.r a,.i c,.r m,.i v,.r q] => .ret aK [qM] [.r (n9 m a c),.r m,.i v,.r q] | _=>ag}
def arG:Ct:= {ps:= [.ptr 0 0,aK,u64],bs:= [qM],pre:=fun | [.r a,.i c,.r m,.i _,.r _] =>aI a∧aI m | _=>False,res:=fun | [.r a,.i c,.r m,.i v,.r q] => .ret aK [qM] [.r (Bz m a c),.r m,.i v,.r q] | _=>ag}
def aeb:List Dat→Ann
 | [.r a,.i c,.r m,.i v,.r q] =>⟨[(8,[la 34 [(0,.ptr 0 0),(2,u64),(7,aK)] [qM] (fun | [.i b,.r o,.r m',.i v',.r q'] =>m'=m∧v'=v∧q'=q∧b=(fy a c a.length).2∧o=(fy a c a.length).1.map ae | _=>False) (fun _=>0)])],
   [(3,[la 34 [(0,.ptr 0 0),(2,u64),(7,.own 1),(13,aK),(14,i64),(15,i64)] [qM,ow] (fun | [.i b,.r a',.i n,.i i,.r m',.i v',.r q',.r o] =>a'=a∧n=a.length∧0≤i∧i≤n∧m'=m∧v'=v∧q'=q∧b=(fy a c i.toNat).2∧o=(fy a c i.toNat).1.map ae | _=>False) (fun | [_,_,.i n,.i i,_,_,_,_] =>(n-i).toNat | _=>0)])],[]⟩
 | _=> {cut:= [],loop:= []}
def agz:Prop:=
 ∀ (a:LD),
 lM a→
 a.length≤1000→∀ (b:Bool),(b=true→a= [])→bif b then [] =a else aR (0+a.length) 8∧ [] ++a=a
def Xq:ac:=ak XY 184 (aq amU)
abbrev gU (a:LD):Int:=
 ↑a.length
abbrev CY (a:Int)(b:LD):Int:=
 ((b.getD a.toNat []).getD 0 (.int 0)).toInt
def afc:Prop:=
 ∀ (a:LD) (b:Int),
 lM a→
 0≤b→
 lM a→
 bif decide (b<gU a) then
 bR b a∧b.toNat<a.length∧CY b a=rv a b.toNat
 else 0=rv a b.toNat
def Yk:ac:=ak Xq 245 (aq arn)
def auD:Prop:=
 ∀ (a:Int),True→decide (a≠a)=false
def VV:ac:=ak Yk 248 (aq apB)
def avs:Prop:=
 ∀ (a b:Int),
 True→
 True∧
 True∧
 bif decide (a<b) then (-1:Int)=uo a b
 else bif decide (b<a) then 1=uo a b else 0=uo a b
def Yr:ac:=ak VV 244 (aq ao1)
abbrev mz (a b:LD):Int:=
 max (gU a) (gU b)
def adG:Prop:=
 ∀ (a b:LD),
 lM a→
 lM b→
 a.length≤1000∧b.length≤1000→
 lM a→
 lM b→
 iR (mz a b-(1:Int))∧
 ((a=a∧
 b=b∧
 (-1:Int)≤mz a b-(1:Int)∧
 mz a b-(1:Int)<(↑(cU a b):Int)∧
 gJ a b (cU a b)=
 gJ a b (mz a b-(1:Int)+1).toNat)∧
 True)∧
 ∀ (c d:LD) (e:Int),
 lM c→
 lM d→
 c=a∧
 d=b∧
 (-1:Int)≤e∧
 e<(↑(cU a b):Int)∧
 gJ a b (cU a b)=
 gJ a b (e+1).toNat→
 bif decide (0≤e) then
 0≤e∧
 0≤e∧
 True∧
 bif
 decide
 (uo (rv c e.toNat)
 (rv d e.toNat)≠
 (0:Int)) then
 uo (rv c e.toNat) (rv d e.toNat)=
 gJ a b (cU a b)
 else
 iR (e-(1:Int))∧
 (c=a∧
 d=b∧
 (-1:Int)≤e-(1:Int)∧
 e-(1:Int)<(↑(cU a b):Int)∧
 gJ a b (cU a b)=
 gJ a b (e-(1:Int)+1).toNat)∧
 (e-(1:Int)+1).toNat<(e+1).toNat
 else 0=gJ a b (cU a b)
def Xv:ac:=ak Yr 233 (aq amM)
abbrev Dg (a b:LD):LD:=
 ab0 (mz a b).toNat [.int 0]
abbrev xk (a b:LD):LD:=
 asv ae (d7 a b (cU a b)).fst
def afu:Prop:=
 ∀ (a b:LD),
 lM a→
 lM b→
 aI a∧aI b→
 lM a→
 lM b→
 (0≤mz a b∧
 mz a b≤mz a b∧
 (↑(8:Nat):Int)*mz a b≤140737488355328∧
 mz a b≤9223372036854775807)∧
 (lM (Dg a b)→
 ((a=a∧
 b=b∧
 (↑(Dg a b).length:Int)=(↑(cU a b):Int)∧
 (0:Int)≤0∧
 0≤(↑(Dg a b).length:Int)∧
 0=(d7 a b 0).snd∧
 Dg a b=
 asv ae (d7 a b 0).fst)∧
 True)∧
 ∀ (c d:LD) (e f g:Int) (h:LD),
 lM c→
 lM d→
 lM h→
 c=a∧
 d=b∧
 f=(↑(cU a b):Int)∧
 0≤g∧
 g≤f∧
 e=(d7 a b g.toNat).snd∧
 h=asv ae (d7 a b g.toNat).fst→
 bif decide (g<f) then
 0≤g∧
 0≤g∧
 (ap (rv c g.toNat)∧
 ap (rv d g.toNat)∧0≤e∧e≤1)∧
 bR g h∧
 g.toNat<h.length∧
 iR (g+1)∧
 (c=a∧
 d=b∧
 f=(↑(cU a b):Int)∧
 0≤g+1∧
 g+1≤f∧
 bC (rv c g.toNat)
 (rv d g.toNat) e=
 (d7 a b (g+1).toNat).snd∧
 h.set g.toNat
 ((h.getD g.toNat []).set 0
 (.int
 (jd (rv c g.toNat)
 (rv d g.toNat) e)))=
 asv ae
 (d7 a b (g+1).toNat).fst)∧
 (f-(g+1)).toNat<(f-g).toNat
 else
 e=(d7 a b (cU a b)).snd∧
 h=xk a b)
def WS:ac:=ak Xv 247 (aq anY)
def ako:Prop:=
 ∀ (a b:LD),
 lM a→
 lM b→
 aI a∧aI b→
 (aI a∧aI b)∧
 (d7 a b (cU a b)).snd=
 (d7 a b (cU a b)).snd∧
 xk a b=xk a b
def Zo:ac:=ak WS 237 (aq apG)
def ad2:Prop:=
 ∀ (a:LD) (b:Int) (c:LD) (d:Int) (e:LD),
 lM a→
 lM c→
 lM e→
 aI a∧aI c→
 (decide (b=0)=true→a.length≤1000∧c.length≤1000)∧
 bif decide (b=0)&&decide (gJ a c (cU a c)<(0:Int)) then
 a=n9 c a b∧c=c∧d=d∧e=e
 else
 (aI a∧aI c)∧
 xk a c=n9 c a b∧c=c∧d=d∧e=e
def Vs:ac:=ak Zo 209 (aq ao4)
def afK:Prop:=
 ∀ (a:LD) (b:Int) (c:LD) (d:Int) (e:LD),
 lM a→
 lM c→
 lM e→
 aI a∧aI c→
 lM a→
 (0≤gU a∧
 gU a≤gU a∧
 (↑(8:Nat):Int)*gU a≤140737488355328∧
 gU a≤9223372036854775807)∧
 (lM a→
 ((a=a∧
 gU a=gU a∧
 (0:Int)≤0∧
 0≤gU a∧
 c=c∧
 d=d∧
 e=e∧
 b=(fy a b 0).snd∧
 ab0 (gU a).toNat [.int 0] =
 asv ae (fy a b 0).fst)∧
 True)∧
 ∀ (f:Int) (g:LD) (h i:Int) (j:LD) (k:Int) (m o:LD),
 lM g→
 lM j→
 lM m→
 lM o→
 g=a∧
 h=gU a∧
 0≤i∧
 i≤h∧
 j=c∧
 k=d∧
 m=e∧
 f=(fy a b i.toNat).snd∧
 o=asv ae (fy a b i.toNat).fst→
 bif decide (i<h) then
 bR i g∧
 i.toNat<g.length∧
 (0:Int)≤1∧
 bR i o∧
 i.toNat<o.length∧
 (0:Int)≤63∧
 iR (i+1)∧
 (g=a∧
 h=gU a∧
 0≤i+1∧
 i+1≤h∧
 j=c∧
 k=d∧
 m=e∧
 aL .u64 (CY i g) 63=
 (fy a b (i+1).toNat).snd∧
 o.set i.toNat
 ((o.getD i.toNat []).set 0
 (.int
 (iq .u64
 (eG .u64 (CY i g) 1) f)))=
 asv ae
 (fy a b (i+1).toNat).fst)∧
 (h-(i+1)).toNat<(h-i).toNat
 else
 (j=c∧
 k=d∧
 m=e∧
 f=(fy a b a.length).snd∧
 o=asv ae (fy a b a.length).fst)∧
 True)∧
 ∀ (f:Int) (g h:LD) (i:Int) (j:LD),
 lM g→
 lM h→
 lM j→
 h=c∧
 i=d∧
 j=e∧
 f=(fy a b a.length).snd∧
 g=asv ae (fy a b a.length).fst→
 (aI g∧aI h)∧
 n9 h g f=Bz c a b∧h=c∧i=d∧j=e
def Xu:ac:=ak Vs 185 (aq arG)
theorem anD:agz:=by
 delta agz lM aR
 intro l hl h1 β hβ
 refine aa (fun h=>(hβ h).symm) fun _=>⟨⟨by omega,by omega⟩,rfl⟩
theorem afU:(base.with Xq).Ok:=ab ahi (ai am ahi Tryz.func184 (by kernel_rfl) Tryz.call184 (by kernel_rfl) anD)
theorem xx {l:LD} {i:Nat} (h:l.length≤i):rv l i=0:=by
 have e:l.getD i [] = [] :=by rw [ay,gd h];rfl
 show ((l.getD i []).getD 0 .d0).toInt=0
 rw [e]
 rfl
theorem art:afc:=by
 delta afc lM bR gU CY
 intro l n hl h0 _
 refine aa (fun h=> ?_) fun h=> ?_
 ·have:=au h
  exact ⟨⟨h0,this⟩,by omega,rfl⟩
 ·have:=aw h
  exact (xx (by omega)).symm
theorem aj4:(base.with Yk).Ok:=ab afU (ai am afU Tryz.func245 (by kernel_rfl) Tryz.call245 (by kernel_rfl) art)
theorem aqa:auD:=fun n _=>decide_eq_false fun h=>h rfl
theorem aem:(base.with VV).Ok:=ab aj4 (ai am aj4 Tryz.func248 (by kernel_rfl) Tryz.call248 (by kernel_rfl) aqa)
theorem aoy:avs:=by
 intro x y _
 unfold uo
 refine ⟨trivial,trivial,aa (fun h=> ?_) fun h=>aa (fun h2=> ?_) fun h2=> ?_⟩
 ·rw [if_pos (au h)]
 ·rw [if_neg (aw h),if_pos (au h2)]
 ·rw [if_neg (aw h),if_neg (aw h2)]
theorem ahw:(base.with Yr).Ok:=ab aem (ai am aem Tryz.func244 (by kernel_rfl) Tryz.call244 (by kernel_rfl) aoy)
theorem arq:adG:=by
 delta adG lM iR gU mz
 rintro a b _ _ ⟨ha,hb⟩ _ _
 have hm:max (a.length:Int) (b.length:Int)=(cU a b:Int):=by unfold cU;omega
 rw [hm]
 have hm2:cU a b≤1000:=by unfold cU;omega
 generalize cU a b=M at *
 refine ⟨⟨by omega,by omega⟩,⟨⟨rfl,rfl,by omega,by omega,by rw [show ((M:Int)-1+1).toNat=M from by omega]⟩,trivial⟩,?_⟩
 rintro a' b' n _ _ ⟨rfl,rfl,h0,h1,h2⟩
 refine aa (fun h=> ?_) fun h=> ?_
 ·have h:=au h
  obtain ⟨i,rfl⟩:=as6 h
  rw [aA]
  have e1:((i:Int)+1).toNat=i+1:=by omega
  rw [e1,gJ] at h2
  refine ⟨h,h,trivial,aa (fun h3=> ?_) fun h3=>⟨⟨by omega,by omega⟩,⟨rfl,rfl,by omega,by omega,?_⟩,by omega⟩⟩
  ·rw [h2,if_neg (au h3)]
  ·rw [h2,if_pos (awJ.1 (aw h3)),show ((i:Int)-1+1).toNat=i from by omega]
 ·have h:=aw h
  rw [h2,show (n+1).toNat=0 from by omega]
  rfl
theorem abt:(base.with Xv).Ok:=ab ahw (ai adX ahw Tryz.func233 (by kernel_rfl) Tryz.call233 (by kernel_rfl) arq)
theorem wg (a b:LD):∀ i,(d7 a b i).1.length=cU a b
 | 0=>asy
 | i+1=>by rw [d7,df,wg a b i]
theorem Yj (a b:LD):∀ i,0≤(d7 a b i).2∧(d7 a b i).2≤1
 | 0=>⟨asw 0,show (0:Int)≤1 by decide⟩
 | i+1=>Ei _ _ _
theorem OJ (a b:LD):∀ i,af (d7 a b i).1
 | 0=>fun j=>by
  rw [d7,ay,awV]
  split <;>exact bl
 | i+1=>gC (OJ a b i) (VY _ _ _) i
theorem NY {L:List Int} {i:Nat} (h:i<L.length) (v:Int):(L.map ae).set i (((L.map ae).getD i []).set 0 (.int v))=(L.set i v).map ae:=by
 rw [Cl h,List.map_set]
 rfl
theorem apv:afu:=by
 delta afu lM iR bR gU mz Dg xk
 rintro a b _ _ ⟨ha,hb⟩ _ _
 have hm:max (a.length:Int) (b.length:Int)=(cU a b:Int):=by unfold cU;omega
 rw [hm,aA,asy]
 have hm2:cU a b≤1000:=by have:=ha.1;have:=hb.1;unfold cU;omega
 have hl:=wg a b
 have hc:=Yj a b
 have h0':ab0 (cU a b) [CD.int 0] =asv ae (d7 a b 0).1:=by rw [d7,aw0];rfl
 refine ⟨⟨by omega,by omega,by omega,by omega⟩,fun _=>⟨⟨⟨rfl,rfl,rfl,by omega,by omega,rfl,h0'⟩,trivial⟩,?_⟩⟩
 rintro a' b' c n i o _ _ _ ⟨rfl,rfl,rfl,h0,h1,rfl,rfl⟩
 obtain ⟨j,rfl⟩:=as6 h0
 rw [aA]
 refine aa (fun h=> ?_) fun h=> ?_
 ·have h:=au h
  have hj:j<(d7 a' b' j).1.length:=by rw [hl];omega
  rw [bp,NY hj,show ((j:Int)+1).toNat=j+1 from by omega]
  exact ⟨h0,h0,⟨ha.2 j,hb.2 j,hc j⟩,⟨h0,by omega⟩,hj,⟨by omega,by omega⟩,⟨rfl,rfl,rfl,by omega,by omega,rfl,rfl⟩,by omega⟩
 ·have h:=aw h
  rw [show j=cU a' b' from by omega]
  exact ⟨rfl,rfl⟩
theorem afM:(base.with WS).Ok:=ab abt (ai agy abt Tryz.func247 (by kernel_rfl) Tryz.call247 (by kernel_rfl) apv)
theorem apJ:ako:=by
 delta ako lM xk
 exact fun a b _ _ h=>⟨h,rfl,rfl⟩
theorem acn:(base.with Zo).Ok:=ab afM (ai am afM Tryz.func237 (by kernel_rfl) Tryz.call237 (by kernel_rfl) apJ)
theorem ap1:ad2:=by
 delta ad2 lM xk
 rintro a c m v q _ _ _ ⟨ha,hm⟩
 unfold n9
 refine ⟨fun _=>⟨ha.1,hm.1⟩,aa (fun h=> ?_) fun h=>⟨⟨ha,hm⟩,?_,rfl,rfl,rfl⟩⟩
 ·simp only [cZ,aQ] at h
  rw [if_pos h]
  exact ⟨rfl,rfl,rfl,rfl⟩
 ·simp only [atd,aT] at h
  rw [if_neg (fun k=>h.elim (fun h=>h k.1) fun h=>h k.2)]
theorem agM:(base.with Vs).Ok:=ab acn (ai am acn Tryz.func209 (by kernel_rfl) Tryz.call209 (by kernel_rfl) ap1)
theorem rC (a:LD) (c:Int):∀ i,(fy a c i).1.length=a.length
 | 0=>asy
 | i+1=>by rw [fy,df,rC a c i]
theorem Ie (a:LD) (c:Int):∀ i,af (fy a c i).1
 | 0=>fun j=>by
  rw [fy,ay,awV]
  split <;>exact bl
 | i+1=>gC (Ie a c i) (zE _ _) i
theorem ap2:afK:=by
 delta afK lM iR bR gU CY
 rintro a c m v q _ _ _ ⟨ha,hm⟩ _
 have hl:=rC a c
 have ha1:=ha.1
 have h0':ab0 ((a.length:Int)).toNat [CD.int 0] =asv ae (fy a c 0).1:=by rw [aA,fy,aw0];rfl
 refine ⟨⟨by omega,by omega,by omega,by omega⟩,fun _=>⟨⟨⟨rfl,rfl,by omega,by omega,rfl,rfl,rfl,rfl,h0'⟩,trivial⟩,?_⟩,?_⟩
 ·rintro b a' n i m' v' q' o _ _ _ _ ⟨rfl,rfl,h0,h1,rfl,rfl,rfl,rfl,rfl⟩
  obtain ⟨j,rfl⟩:=as6 h0
  rw [aA]
  refine aa (fun h=> ?_) fun h=> ?_
  ·have h:=au h
   have hj:j<(fy a' c j).1.length:=by rw [hl];omega
   rw [bp,NY hj,show ((j:Int)+1).toNat=j+1 from by omega]
   exact ⟨⟨h0,h⟩,by omega,by omega,⟨h0,by omega⟩,hj,by omega,⟨by omega,by omega⟩,⟨rfl,rfl,by omega,by omega,rfl,rfl,rfl,rfl,rfl⟩,by omega⟩
  ·have h:=aw h
   rw [show j=a'.length from by omega]
   exact ⟨⟨rfl,rfl,rfl,rfl,rfl⟩,trivial⟩
 ·rintro b o m' v' q' _ _ _ ⟨rfl,rfl,rfl,rfl,rfl⟩
  exact ⟨⟨⟨by rw [bp,hl];exact ha1,fun i=>by rw [da];exact Ie a c _ i⟩,hm⟩,rfl,rfl,rfl,rfl⟩
theorem agA:(base.with Xu).Ok:=ab agM (ai aeb agM Tryz.func185 (by kernel_rfl) Tryz.call185 (by kernel_rfl) ap2)
def auZ:Ct:= {ps:= [.rd eg],bs:= [],pre:=fun | [.r l] =>l.length≤1000000 | _=>False,res:=fun | [.r l] => .ret (.own 0) [.own 116 eg] [.r l] | _=>ag}
def avM:Ct:= {ps:= [.ptr 0 0],bs:= [gA],pre:=fun | [.r l,.i _] =>l.length≤1000000 | _=>False,res:=fun | [.r l,.i n] => .ret (.own 1) [gA,.own 116 eg] [.r l,.i n,.r l] | _=>ag}
def Lb:LD:=([97,118,111,117,99,104,47,116,114,97,110,115,99,114,105,112,116,47,49] :List Int).map ae
def aeV (k:Int) (l:LD):List Int:=yZ [[.sl Lb],[.sl [[.int (IntKind.u8.wrap k)]]],[.sl (aj (cL (ar l)).1)]]
def nz (k:Int) (l:LD):List Int:=if (cL (ar l)).2.2=0 then aeV k l else ab0 32 0
def avO:Ct:= {ps:= [i64,.rd eg],bs:= [],pre:=fun | [.i k,.r l] =>(k=1∨k=2)∧qK l | _=>False,res:=fun
 | [.i k,.r l] => .ret (.tup [BW,i64,i64]) [] [.li (nz k l),.i (if (cL (ar l)).2.2=0 then -1 else (cL (ar l)).2.1),.i (cL (ar l)).2.2]
 | _=>ag}
def P81:Prop:=
 ∀ (a:LD),
 lM a→
 a.length≤1000000→∀ (b:Bool),(b=true→a= [])→bif b then [] =a else aR (0+a.length) 40∧ [] ++a=a
def akd:ac:=ak Xu 81 (aq auZ)
def P44:Prop:=
 ∀ (a:LD) (b:Int),lM a→a.length≤1000000→a.length≤1000000∧a=a∧b=b∧a=a
def ai4:ac:=ak akd 44 (aq avM)
abbrev OC (a:Int)(b:LD):Prop:=
 [0,0,0,0,0,0,0,0,0,0,0,0,0,0,0,0,
 (0:Int),0,0,0,0,0,0,0,0,0,0,0,0,0,0,
 (0:Int)] =
 nz a b
abbrev qW (a:LD):Int:=
 (cL (ar a)).snd.snd
abbrev Qe (a:Int)(b:LD):LD:=
 [[.sl
 [[.int 97],[.int 118],[.int 111],[.int 117],[.int 99],[.int 104],
 [.int 47],[.int 116],[.int 114],[.int 97],[.int 110],[.int 115],
 [.int 99],[.int 114],[.int 105],[.int 112],[.int 116],[.int 47],
 [.int 49]]],
 [.sl [[.int (IntKind.u8.wrap a)]]],
 [.sl (aj (cL (ar b)).fst)]]
def P30:Prop:=
 ∀ (a:Int) (b:LD),
 lM b→
 (a=1∨a=2)∧qK b→
 bif decide (a≠1)&&decide (a≠2) then
 OC a b∧
 ((-1:Int)=
 if qW b=0 then (-1:Int)
 else (cL (ar b)).snd.fst)∧
 15=qW b
 else
 qK b∧
 bif decide (qW b≠0) then
 OC a b∧
 ((cL (ar b)).snd.fst=
 if qW b=0 then (-1:Int)
 else (cL (ar b)).snd.fst)∧
 qW b=qW b
 else
 Pn (Qe a b)∧
 yZ (Qe a b)=nz a b∧
 ((-1:Int)=
 if qW b=0 then (-1:Int)
 else (cL (ar b)).snd.fst)∧
 0=qW b
def acX:ac:=ak ai4 30 (aq avO)
theorem rI {l:LD} {i:Nat} (h:l.length≤i):0≤rv l i∧rv l i<256:=by rw [xx h];exact ⟨by decide,by decide⟩
theorem X8 (b:List UInt8):av (aj b):=fun i=>by
 rcases Nat.lt_or_ge i b.length with h | h
 ·have e:rv (aj b) i=((b.getD i 0).toNat:Int):=L0 b h
  have:=UInt8.toNat_lt (b.getD i 0)
  rw [e]
  omega
 ·exact rI (by rw [aZ];exact h)
theorem wr8 (n:Int):0≤IntKind.u8.wrap n∧IntKind.u8.wrap n<256:=by rw [tH];omega
theorem YV {n:Int} (h:0≤n∧n<256):av [[.int n]] :=fun i=>by
 match i with
 | 0=>exact h
 | _+1=>exact rI (by simp)
theorem aoQ:av Lb:=fun i=>by
 unfold Lb
 rw [da]
 rw [ay]
 cases hb:([97,118,111,117,99,104,47,116,114,97,110,115,99,114,105,112,116,47,49] :List Int)[i]? with
 | none=>exact ⟨by decide,by decide⟩
 | some x=>
  have:=awZ hb
  revert x
  have:∀ x∈([97,118,111,117,99,104,47,116,114,97,110,115,99,114,105,112,116,47,49] :List Int),0≤x∧x<256:=by decide
  exact fun x _ h=>this x h
theorem aqT {a b c:LD} (ha:av a) (hb:av b) (hc:av c):Pn [[.sl a],[.sl b],[.sl c]] :=fun i=>by
 match i with
 | 0=>exact ha
 | 1=>exact hb
 | 2=>exact hc
 | _+3=>exact fun j=>rI (l:= []) (asq j)
theorem av0:P81:=by
 delta P81 lM aR
 intro l _ h β hβ
 refine aa (fun e=>(hβ e).symm) fun _=>⟨⟨by omega,by omega⟩,rfl⟩
theorem c81:(base.with akd).Ok:=ab agA (ai am agA Tryz.func81 (by kernel_rfl) Tryz.call81 (by kernel_rfl) av0)
theorem auc:P44:=by
 delta P44 lM
 exact fun l n _ h=>⟨h,rfl,rfl,rfl⟩
theorem c44:(base.with ai4).Ok:=ab c81 (ai am c81 Tryz.func44 (by kernel_rfl) Tryz.call44 (by kernel_rfl) auc)
theorem aub:P30:=by
 delta P30 lM OC qW Qe
 rintro k l _ ⟨hk,hp⟩
 refine aa (fun h=> ?_) fun _=>⟨hp,aa (fun h=> ?_) fun h=> ?_⟩
 ·simp only [cZ,aQ] at h
  omega
 ·have h:=au h
  unfold nz
  rw [if_neg h,if_neg h]
  exact ⟨rfl,rfl,rfl⟩
 ·have h:=awJ.1 (aw h)
  unfold nz
  rw [if_pos h,if_pos h]
  exact ⟨aqT aoQ (YV (wr8 k)) (X8 _),rfl,rfl,h.symm⟩
theorem c30:(base.with acX).Ok:=ab c44 (ai am c44 Tryz.func30 (by kernel_rfl) Tryz.call30 (by kernel_rfl) aub)
def lq:List UInt8:= [0,1,2,2,3,3,3,3,4,4,4,4,4,4,4,4,5,5,5,5,5,5,5,5,5,5,5,5,5,5,5,5,6,6,6,6,6,6,6,6,6,6,6,6,6,6,6,6,6,6,6,6,6,6,6,6,6,6,6,6,6,6,6,6,7,7,7,7,7,7,7,7,7,7,7,7,7,7,7,7,7,7,7,7,7,7,7,7,7,7,7,7,7,7,7,7,7,7,7,7,7,7,7,7,7,7,7,7,7,7,7,7,7,7,7,7,7,7,7,7,7,7,7,7,7,7,7,7,8,8,8,8,8,8,8,8,8,8,8,8,8,8,8,8,8,8,8,8,8,8,8,8,8,8,8,8,8,8,8,8,8,8,8,8,8,8,8,8,8,8,8,8,8,8,8,8,8,8,8,8,8,8,8,8,8,8,8,8,8,8,8,8,8,8,8,8,8,8,8,8,8,8,8,8,8,8,8,8,8,8,8,8,8,8,8,8,8,8,8,8,8,8,8,8,8,8,8,8,8,8,8,8,8,8,8,8,8,8,8,8,8,8,8,8,8,8,8,8,8,8,8,8,8,8,8,8]
def cE (x:Int):Int:=((bitLen x.toNat:Nat):Int)
def bk (a:LD):Nat→Int
 | 0=>0
 | n+1=>if rv a n=0 then bk a n else 64*n+cE (rv a n)
def pR:LD:=pW.map ae
def Ja (m:Int):Nat→Int
 | 0=>1
 | i+1=>IntKind.u64.wrap (Ja m i*IntKind.u64.wrap (2-IntKind.u64.wrap (m*Ja m i)))
def uA (m:Int):Int:=IntKind.u64.wrap (0-Ja m 6)
def qO (m:LD):Nat→LD
 | 0=>(ab0 m.length [.int 0]).set 0 [.int 1]
 | i+1=>Bz m (qO m i) 0
def fp (m:LD):LD:=hid (qO m (128*m.length))
def yp (m:LD):Prop:=2≤m.length∧m.length≤16∧cQ m∧dp .u64 (rv m 0) 1≠0∧rv m (m.length-1)≠0
def p9 (m a:LD) (k:Nat):Nat→LD
 | 0=>ab0 m.length [.int 0]
 | i+1=>Bz m (p9 m a k i) (dp .u64 (aL .u64 (rv a ((k-1-i) / 64)) (((k-1-i)%64:Nat):Int)) 1)
def fm (m a:LD):LD:=hid (p9 m a (bk a a.length).toNat (bk a a.length).toNat)
def anT:Ct:= {ps:= [u64],bs:= [],pre:=fun | [.i x] =>ap x | _=>False,res:=fun | [.i x] => .ret i64 [] [.i (cE x)] | _=>ag}
def aoI:Ct:= {ps:= [aK],bs:= [],pre:=fun | [.r a] =>aI a | _=>False,res:=fun | [.r a] => .ret i64 [] [.i (bk a a.length)] | _=>ag}
def abZ:List Dat→Ann
 | [.r a] => {cut:= [],loop:= [(2,[la 24 [(0,aK),(3,i64)] [] (fun | [.r a',.i i] =>a'=a∧-1≤i∧i<a.length∧bk a a.length=bk a (i+1).toNat | _=>False) (fun | [_,.i i] =>(i+1).toNat | _=>0)])]}
 | _=> {cut:= [],loop:= []}
def ans:Ct:= {ps:= [aK],bs:= [],pre:=fun | [.r l] =>yp l | _=>False,res:=fun | [.r l] => .ret (.tup [.ptr 0 0,i64]) [qM] [.i 0,.r l,.i (uA (rv l 0)),.r (fp l)] | _=>ag}
def ak5:List Dat→Ann
 | [.r l] =>⟨[],[(6,[la 88 [(0,aK),(4,.ptr 0 0),(5,u64),(45,i64)] [qM] (fun | [.r l',.i x,.i i,.r m,.i _,.r q] =>l'=l∧m=l∧0≤i∧i≤6∧x=Ja (rv l 0) i.toNat | _=>False) (fun | [_,_,.i i,_,_,_] =>(6-i).toNat | _=>0)]),
   (13,[la 88 [(4,.ptr 0 0),(74,i64),(75,i64)] [qM] (fun | [.i n,.i i,.r m,.i v,.r q] =>n=128*(l.length:Int)∧0≤i∧i≤n∧m=l∧v=uA (rv l 0)∧q=qO l i.toNat | _=>False) (fun | [.i n,.i i,_,_,_] =>(n-i).toNat | _=>0)])],[]⟩
 | _=> {cut:= [],loop:= []}
def P1:Ct:= {ps:= [.ptr 0 0,aK],bs:= [qM],pre:=fun | [.r a,.r m,.i _,.r _] =>aI a∧aI m | _=>False,res:=fun | [.r a,.r m,.i v,.r q] => .ret aK [qM] [.r (fm m a),.r m,.i v,.r q] | _=>ag}
def acU:List Dat→Ann
 | [.r a,.r m,.i v,.r q] => {cut:= [],loop:= [(3,[la 33 [(0,.ptr 0 0),(1,aK),(5,aK),(6,i64)] [qM] (fun | [.r a',.r o,.i i,.r m',.i v',.r q'] =>a'=a∧m'=m∧v'=v∧q'=q∧-1≤i∧i<bk a a.length∧o=p9 m a (bk a a.length).toNat ((bk a a.length).toNat-(i+1).toNat) | _=>False) (fun | [_,_,.i i,_,_,_] =>(i+1).toNat | _=>0)])]}
 | _=> {cut:= [],loop:= []}
abbrev tJ (a:Int):Int:=
 aL .u64 (aL .u64 a 32) 16
abbrev PL (a:Int):Int:=
 (32:Int)+16+8+
 IntKind.i64.wrap
 (↑(lq.getD (IntKind.u8.wrap (aL .u64 (tJ a) 8)).toNat
 (0:UInt8)).toNat:
 Int)
abbrev Ox (a:Int):Int:=
 (32:Int)+16+
 IntKind.i64.wrap (↑(lq.getD (IntKind.u8.wrap (tJ a)).toNat (0:UInt8)).toNat:Int)
abbrev Ip (a:Int):Int:=
 IntKind.u8.wrap (aL .u64 (aL .u64 a 32) 8)
abbrev Pt (a:Int):Int:=
 (32:Int)+8+IntKind.i64.wrap (↑(lq.getD (Ip a).toNat (0:UInt8)).toNat:Int)
abbrev O9 (a:Int):Int:=
 (32:Int)+IntKind.i64.wrap (↑(lq.getD (IntKind.u8.wrap (aL .u64 a 32)).toNat (0:UInt8)).toNat:Int)
abbrev H4 (a:Int):Int:=
 IntKind.u8.wrap (aL .u64 (aL .u64 a 16) 8)
abbrev Qi (a:Int):Int:=
 (0:Int)+16+8+
 IntKind.i64.wrap (↑(lq.getD (H4 a).toNat (0:UInt8)).toNat:Int)
abbrev PX (a:Int):Int:=
 (0:Int)+16+
 IntKind.i64.wrap (↑(lq.getD (IntKind.u8.wrap (aL .u64 a 16)).toNat (0:UInt8)).toNat:Int)
abbrev Qh (a:Int):Int:=
 (0:Int)+8+
 IntKind.i64.wrap (↑(lq.getD (IntKind.u8.wrap (aL .u64 a 8)).toNat (0:UInt8)).toNat:Int)
abbrev LY (a:Int):Int:=
 (0:Int)+IntKind.i64.wrap (↑(lq.getD (IntKind.u8.wrap a).toNat (0:UInt8)).toNat:Int)
def agO:Prop:=
 ∀ (a:Int),
 ap a→
 bif decide (4294967296≤a) then
 (0:Int)≤32∧
 bif decide (65536≤aL .u64 a 32) then
 (0:Int)≤16∧
 iR ((32:Int)+16)∧
 bif decide (256≤tJ a) then
 (0:Int)≤8∧
 iR ((32:Int)+16+8)∧
 (0≤IntKind.u8.wrap (aL .u64 (tJ a) 8)∧
 IntKind.u8.wrap (aL .u64 (tJ a) 8)<(↑(256:Nat):Int))∧
 iR (PL a)∧
 PL a=cE a
 else
 (0≤IntKind.u8.wrap (tJ a)∧
 IntKind.u8.wrap (tJ a)<(↑(256:Nat):Int))∧
 iR (Ox a)∧
 Ox a=cE a
 else
 bif decide (256≤aL .u64 a 32) then
 (0:Int)≤8∧
 iR ((32:Int)+8)∧
 (0≤Ip a∧Ip a<(↑(256:Nat):Int))∧
 iR (Pt a)∧
 Pt a=cE a
 else
 (0≤IntKind.u8.wrap (aL .u64 a 32)∧IntKind.u8.wrap (aL .u64 a 32)<(↑(256:Nat):Int))∧
 iR (O9 a)∧
 O9 a=cE a
 else
 bif decide (65536≤a) then
 (0:Int)≤16∧
 iR ((0:Int)+16)∧
 bif decide (256≤aL .u64 a 16) then
 (0:Int)≤8∧
 iR ((0:Int)+16+8)∧
 (0≤H4 a∧H4 a<(↑(256:Nat):Int))∧
 iR (Qi a)∧
 Qi a=cE a
 else
 (0≤IntKind.u8.wrap (aL .u64 a 16)∧IntKind.u8.wrap (aL .u64 a 16)<(↑(256:Nat):Int))∧
 iR (PX a)∧
 PX a=cE a
 else
 bif decide (256≤a) then
 (0:Int)≤8∧
 iR ((0:Int)+8)∧
 (0≤IntKind.u8.wrap (aL .u64 a 8)∧IntKind.u8.wrap (aL .u64 a 8)<(↑(256:Nat):Int))∧
 iR (Qh a)∧
 Qh a=cE a
 else
 (0≤IntKind.u8.wrap a∧IntKind.u8.wrap a<(↑(256:Nat):Int))∧
 iR (LY a)∧
 LY a=cE a
def Yl:ac:=ak acX 210 (aq anT)
abbrev bH (a:LD):Int:=
 ↑a.length
abbrev dZ (a:LD):Int:=
 bk a a.length
abbrev zf (a:Int)(b:LD):Int:=
 ((b.getD a.toNat []).getD 0 (.int 0)).toInt
def aj0:Prop:=
 ∀ (a:LD),
 lM a→
 aI a→
 lM a→
 iR (bH a-(1:Int))∧
 ((a=a∧
 (-1:Int)≤bH a-(1:Int)∧
 bH a-(1:Int)<bH a∧
 dZ a=
 bk a (bH a-(1:Int)+1).toNat)∧
 True)∧
 ∀ (b:LD) (c:Int),
 lM b→
 b=a∧
 (-1:Int)≤c∧
 c<bH a∧
 dZ a=bk a (c+1).toNat→
 bif decide (0≤c) then
 bR c b∧
 c.toNat<b.length∧
 bif decide (zf c b≠0) then
 iR ((64:Int)*c)∧
 bR c b∧
 c.toNat<b.length∧
 ap (zf c b)∧
 iR
 ((64:Int)*c+cE (zf c b))∧
 (64:Int)*c+cE (zf c b)=
 dZ a
 else
 iR (c-(1:Int))∧
 (b=a∧
 (-1:Int)≤c-(1:Int)∧
 c-(1:Int)<bH a∧
 dZ a=bk a (c-(1:Int)+1).toNat)∧
 (c-(1:Int)+1).toNat<(c+1).toNat
 else 0=dZ a
def Wq:ac:=ak Yl 186 (aq aoI)
abbrev vX (a:LD):Bool:=
 decide (bH a<(1:Int))||decide ((16:Int)<bH a)
abbrev Jp (a:LD):Bool:=
 vX a||decide (dp .u64 ((a.getD (aw1 0) []).getD 0 .d0).toInt 1=0)
abbrev yX (a:LD):Int:=
 ((a.getD 0 []).getD 0 (.int 0)).toInt
abbrev DO (a:LD):Prop:=
 (!(vX a||decide (dp .u64 (yX a) 1=0)))=true
abbrev KZ (a:LD):Bool:=
 vX a||decide (dp .u64 (yX a) 1=0) ||
 decide (((a.getD (bH a-(1:Int)).toNat []).getD 0 (.int 0)).toInt=0)
abbrev I5 (a:LD):Prop:=
 (({t:=34,d:=30,want:=false,c:= !KZ a,sv:=.bool (decide (bH a=1))} :GE).c &&
 decide (bH a=1))=
 true
abbrev Dq (a:LD):Prop:=
 0≤bH a∧
 bH a≤bH a∧
 (↑(8:Nat):Int)*bH a≤140737488355328∧bH a≤9223372036854775807
abbrev ta (a:LD):LD:=
 ab0 (bH a).toNat [.int 0]
def ahk:Prop:=
 ∀ (a:LD),
 lM a→
 yp a→
 lM a→
 (bw false (decide (bH a<(1:Int)))=true→lM a)→
 ((!vX a)=true→bR 0 a)∧
 ((!vX a)=true→0<a.length)∧
 ((bw false (Jp a)=true→lM a)→
 (DO a→iR (bH a-(1:Int)))∧
 (DO a→bR (bH a-(1:Int)) a)∧
 (DO a→(bH a-(1:Int)).toNat<a.length)∧
 ((bw false
 (Jp a ||
 decide (((a.getD (bH a-(1:Int)).toNat []).getD 0 .d0).toInt=0))=
 true→
 lM a)→
 (I5 a→bR 0 a)∧
 (I5 a→0<a.length)∧
 bif
 KZ a ||
 decide (bH a=1)&&decide (yX a=1) then
 Miss 2 eS
 else
 a.length≤1000∧
 ((a=a∧
 a=a∧
 (0:Int)≤0∧
 (0:Int)≤6∧
 1=Ja (rv a 0) 0)∧
 True)∧
 ∀ (b:LD) (c d:Int) (e:LD) (n_2:Int) (f:LD),
 lM b→
 lM e→
 lM f→
 b=a∧
 e=a∧
 0≤d∧
 d≤6∧c=Ja (rv a 0) d.toNat→
 bif decide (d<(6:Int)) then
 bR 0 b∧
 0<b.length∧
 iR (d+1)∧
 (b=a∧
 e=a∧
 0≤d+1∧
 d+1≤6∧
 IntKind.u64.wrap
 (c*IntKind.u64.wrap ((2:Int)-IntKind.u64.wrap (yX b*c)))=
 Ja (rv a 0)
 (d+1).toNat)∧
 ((6:Int)-(d+1)).toNat<((6:Int)-d).toNat
 else
 lM b→
 Dq b∧
 bR 0 (ta b)∧
 0<(ta b).length∧
 (lM b→
 iR ((128:Int)*bH b)∧
 (((128:Int)*bH b=
 (128:Int)*bH a∧
 (0:Int)≤0∧
 (0:Int)≤128*bH b∧
 e=a∧
 IntKind.u64.wrap ((0:Int)-c)=
 uA (rv a 0)∧
 (ta b).set 0
 (((ta b).getD 0 []).set 0
 (.int 1))=
 qO a 0)∧
 True)∧
 ∀ (g h:Int) (i:LD) (j:Int) (k:LD),
 lM i→
 lM k→
 g=128*bH a∧
 0≤h∧
 h≤g∧
 i=a∧
 j=uA (rv a 0)∧
 k=qO a h.toNat→
 bif decide (h<g) then
 (aI k∧aI i)∧
 iR (h+1)∧
 (g=128*bH a∧
 0≤h+1∧
 h+1≤g∧
 i=a∧
 j=
 uA
 (rv a 0)∧
 Bz i k 0=
 qO a (h+1).toNat)∧
 (g-(h+1)).toNat<(g-h).toNat
 else
 (0:Int)=0∧
 i=a∧
 j=uA (rv a 0)∧
 k=fp a)))
def Zv:ac:=ak Wq 143 (aq ans)
def akz:Prop:=
 ∀ (a b:LD) (c:Int) (d:LD),
 lM a→
 lM b→
 lM d→
 aI a∧aI b→
 lM b→
 Dq b∧
 aI a∧
 iR (dZ a-(1:Int))∧
 ((a=a∧
 b=b∧
 c=c∧
 d=d∧
 (-1:Int)≤dZ a-(1:Int)∧
 dZ a-(1:Int)<dZ a∧
 ta b=
 p9 b a (dZ a).toNat
 ((dZ a).toNat-(dZ a-(1:Int)+1).toNat))∧
 True)∧
 ∀ (e f:LD) (g:Int) (h:LD) (i:Int) (j:LD),
 lM e→
 lM f→
 lM h→
 lM j→
 e=a∧
 h=b∧
 i=c∧
 j=d∧
 (-1:Int)≤g∧
 g<dZ a∧
 f=
 p9 b a (dZ a).toNat
 ((dZ a).toNat-(g+1).toNat)→
 bif decide (0≤g) then
 (0≤g∧(0:Int)<(64:Int)∧g≤IntKind.i64.max)∧
 bR (g / 64) e∧
 (g / 64).toNat<e.length∧
 (0≤g∧(0:Int)<(64:Int))∧
 0≤g%(64:Int)∧
 (aI f∧aI h)∧
 iR (g-(1:Int))∧
 (e=a∧
 h=b∧
 i=c∧
 j=d∧
 (-1:Int)≤g-(1:Int)∧
 g-(1:Int)<dZ a∧
 Bz h f
 (dp .u64
 (aL .u64 ((e.getD (g / 64).toNat []).getD 0 (.int 0)).toInt
 (g%(64:Int)))
 1)=
 p9 b a (dZ a).toNat
 ((dZ a).toNat-(g-(1:Int)+1).toNat))∧
 (g-(1:Int)+1).toNat<(g+1).toNat
 else f=fm b a∧h=b∧i=c∧j=d
def Ws:ac:=ak Zv 144 (aq P1)
theorem Uo:∀ i:Fin 256,(lq.getD i.val 0).toNat=bitLen i.val:=by decide+kernel
theorem UX (i:Nat) (h:i<256):bitLen i≤8:=bitLen_le8 i h
theorem nk {b n z:Int} (h0:0≤z) (h1:z<256) (hb0:0≤b) (hb:b≤56) (h:cE n=b+cE z):
  ((0:Int)≤IntKind.u8.wrap z∧IntKind.u8.wrap z<((256:Nat):Int))∧
  ((-9223372036854775808:Int)≤b+IntKind.i64.wrap (((lq.getD (IntKind.u8.wrap z).toNat 0).toNat:Nat):Int)∧b+IntKind.i64.wrap (((lq.getD (IntKind.u8.wrap z).toNat 0).toNat:Nat):Int)≤9223372036854775807)∧
  b+IntKind.i64.wrap (((lq.getD (IntKind.u8.wrap z).toNat 0).toNat:Nat):Int)=cE n:=by
 obtain ⟨k,rfl⟩:=as6 h0
 have hk:k<256:=by omega
 have e1:IntKind.u8.wrap (k:Int)=k:=ui _ _ (by omega) (by show (k:Int)≤255;omega)
 have h8:=UX k hk
 have e2:(lq.getD k 0).toNat=bitLen k:=Uo ⟨k,hk⟩
 have e3:IntKind.i64.wrap ((bitLen k:Nat):Int)=(bitLen k:Nat):=ui _ _ (by omega) (by show ((bitLen k:Nat):Int)≤9223372036854775807;omega)
 have e4:cE (k:Int)=(bitLen k:Nat):=by unfold cE;rw [aA]
 rw [e1,aA,e2,e3,h,e4]
 exact ⟨⟨by omega,by omega⟩,⟨by omega,by omega⟩,rfl⟩
theorem Lu (n:Int) (b:Nat) (hb:b≤64):aL .u64 n b=n / 2 ^ b:=by
 unfold aL
 rw [aA,show min b IntKind.u64.bits=b from ato hb]
 exact awT _ (by exact_mod_cast asq (2 ^ b))
theorem xn {n:Int} (h0:0≤n) (b:Nat) (h:n / 2 ^ b≠0):cE n=b+cE (n / 2 ^ b):=by
 obtain ⟨k,rfl⟩:=as6 h0
 have e1:((k:Nat):Int) / 2 ^ b=((k / 2 ^ b:Nat):Int):=by simp
 rw [e1] at h ⊢
 unfold cE
 rw [aA,aA,bitLen_shift k b (by omega)]
 omega
theorem Lq {n:Int} (h:ap n):0≤cE n∧cE n≤64:=by
 obtain ⟨k,rfl⟩:=as6 h.1
 unfold cE
 rw [aA]
 refine ⟨by omega,?_⟩
 have hk:k<2 ^ 64:=by have:=h.2;omega
 unfold bitLen
 split
 ·decide
 ·rename_i h0
  have:=(Nat.log2_lt h0).2 hk
  omega
theorem amO:agO:=by
 delta agO iR tJ PL Ox Ip Pt O9 H4 Qi PX Qh LY
 intro n hn
 have h0:0≤n:=hn.1
 have h1:n<18446744073709551616:=hn.2
 have s:∀ z:Int,∀ b:Nat,b≤64→aL .u64 z (b:Int)=z / 2 ^ b:=Lu
 have s32:∀ z:Int,aL .u64 z 32=z / 4294967296:=fun z=>s z 32 (by decide)
 have s16:∀ z:Int,aL .u64 z 16=z / 65536:=fun z=>s z 16 (by decide)
 have s8:∀ z:Int,aL .u64 z 8=z / 256:=fun z=>s z 8 (by decide)
 have l32:∀ z:Int,0≤z→4294967296≤z→cE z=32+cE (z / 4294967296):=fun z h k=>xn h 32 (by show z / 4294967296≠0;omega)
 have l16:∀ z:Int,0≤z→65536≤z→cE z=16+cE (z / 65536):=fun z h k=>xn h 16 (by show z / 65536≠0;omega)
 have l8:∀ z:Int,0≤z→256≤z→cE z=8+cE (z / 256):=fun z h k=>xn h 8 (by show z / 256≠0;omega)
 simp only [s32,s16,s8]
 have T:∀ {p:Prop},p→((0:Int)≤32∧p):=fun h=>⟨by decide,h⟩
 refine aa (fun c1=>⟨by decide,aa (fun c2=>⟨by decide,⟨by decide,by decide⟩,aa (fun c3=>⟨by decide,⟨by decide,by decide⟩,?_⟩) fun c3=> ?_⟩) fun c2=>aa (fun c3=>⟨by decide,⟨by decide,by decide⟩,?_⟩) fun c3=> ?_⟩)
  fun c1=>aa (fun c2=>⟨by decide,⟨by decide,by decide⟩,aa (fun c3=>⟨by decide,⟨by decide,by decide⟩,?_⟩) fun c3=> ?_⟩) fun c2=>aa (fun c3=>⟨by decide,⟨by decide,by decide⟩,?_⟩) fun c3=> ?_
 all_goals
  first
  | replace c1:=au c1
  | replace c1:=aw c1
  first
  | replace c2:=au c2
  | replace c2:=aw c2
  first
  | replace c3:=au c3
  | replace c3:=aw c3
 ·exact nk (by omega) (by omega) (by decide) (by decide) (by rw [l32 n h0 c1,l16 _ (by omega) c2,l8 _ (by omega) c3];omega)
 ·exact nk (by omega) (by omega) (by decide) (by decide) (by rw [l32 n h0 c1,l16 _ (by omega) c2];omega)
 ·exact nk (by omega) (by omega) (by decide) (by decide) (by rw [l32 n h0 c1,l8 _ (by omega) c3];omega)
 ·exact nk (by omega) (by omega) (by decide) (by decide) (by rw [l32 n h0 c1])
 ·exact nk (by omega) (by omega) (by decide) (by decide) (by rw [l16 n h0 c2,l8 _ (by omega) c3];omega)
 ·exact nk (by omega) (by omega) (by decide) (by decide) (by rw [l16 n h0 c2];omega)
 ·exact nk (by omega) (by omega) (by decide) (by decide) (by rw [l8 n h0 c3];omega)
 ·exact nk (by omega) (by omega) (by decide) (by decide) (by omega)
theorem ab2:(base.with Yl).Ok:=ab c30 (ai am c30 Tryz.func210 (by kernel_rfl) Tryz.call210 (by kernel_rfl) amO)
theorem Bc {a:LD} (h:cQ a):∀ n:Nat,0≤bk a n∧bk a n≤64*n
 | 0=>⟨asw 0,by show (0:Int)≤_;omega⟩
 | n+1=>by
  have ih:=Bc h n
  have:=Lq (h n)
  rw [bk]
  split <;>omega
theorem apN:aj0:=by
 delta aj0 lM iR bR bH dZ zf
 rintro a _ ⟨ha,hw⟩ _
 refine ⟨⟨by omega,by omega⟩,⟨⟨rfl,by omega,by omega,by rw [show ((a.length:Int)-1+1).toNat=a.length from by omega]⟩,trivial⟩,?_⟩
 rintro a' n _ ⟨rfl,h0,h1,h2⟩
 refine aa (fun h=> ?_) fun h=> ?_
 ·have h:=au h
  obtain ⟨i,rfl⟩:=as6 h
  rw [aA]
  have e1:((i:Int)+1).toNat=i+1:=by omega
  rw [e1,bk] at h2
  have hb:=Lq (hw i)
  refine ⟨⟨h,h1⟩,by omega,aa (fun h3=> ?_) fun h3=>⟨⟨by omega,by omega⟩,⟨rfl,by omega,by omega,?_⟩,by omega⟩⟩
  ·have h3:rv a' i≠0:=au h3
   rw [if_neg h3] at h2
   have hb':0≤cE ((a'.getD i []).getD 0 (CD.int 0)).toInt∧cE ((a'.getD i []).getD 0 (CD.int 0)).toInt≤64:=hb
   exact ⟨⟨by omega,by omega⟩,⟨h,h1⟩,by omega,hw i,⟨by omega,by omega⟩,h2.symm⟩
  ·have h3:rv a' i=0:=awJ.1 (aw h3)
   rw [h2,if_pos h3,show ((i:Int)-1+1).toNat=i from by omega]
 ·have h:=aw h
  rw [h2,show (n+1).toNat=0 from by omega]
  rfl
theorem alf:(base.with Wq).Ok:=ab ab2 (ai abZ ab2 Tryz.func186 (by kernel_rfl) Tryz.call186 (by kernel_rfl) apN)
theorem yu {l:List Int} (h:af l) (hl:l.length≤1000):aI (l.map ae):=⟨by rw [bp];exact hl,fun i=>by rw [da];exact h i⟩
theorem Nt {m a:LD} (ha:aI a) (hm:aI m) (c:Int):aI (n9 m a c):=by
 unfold n9
 split
 ·exact ha
 ·exact yu (OJ _ _ _) (by rw [wg];have:=ha.1;have:=hm.1;unfold cU;omega)
theorem IS {m a:LD} (h:a.length=m.length) (c:Int):(n9 m a c).length=m.length:=by
 unfold n9
 split
 ·exact h
 ·rw [bp,wg];unfold cU;omega
theorem J6 {m a:LD} (ha:aI a) (hm:aI m) (c:Int):aI (Bz m a c):=Nt (yu (Ie _ _ _) (by rw [rC];exact ha.1)) hm _
theorem FQ {m a:LD} (h:a.length=m.length) (c:Int):(Bz m a c).length=m.length:=IS (by rw [bp,rC];exact h) _
theorem akJ {n:Nat} (h:n≤1000):aI (ab0 n [CD.int 0]):=by
 rw [show ab0 n [CD.int 0] =(ab0 n 0).map ae from by rw [aw0];rfl]
 exact yu (Dy n) (by rw [asy];exact h)
theorem J0 {m a:LD} (hm:aI m) (k:Nat):∀ i,aI (p9 m a k i)
 | 0=>akJ hm.1
 | i+1=>J6 (J0 hm k i) hm _
theorem MG (m a:LD) (k:Nat):∀ i,(p9 m a k i).length=m.length
 | 0=>asy
 | i+1=>FQ (MG m a k i) _
theorem FW (m:LD):∀ i,(qO m i).length=m.length
 | 0=>by rw [qO,df,asy]
 | i+1=>FQ (FW m i) _
theorem aam {n:Nat} (h:0<n):(ab0 n [CD.int 0]).set 0 [CD.int 1] =((ab0 n 0).set 0 1).map ae:=by
 rw [List.map_set,aw0]
 rfl
theorem Du {m:LD} (hm:aI m) (h0:0<m.length):∀ i,aI (qO m i)
 | 0=>by
  rw [qO,aam h0]
  exact yu (gC (Dy _) (by exact ⟨by decide,by decide⟩) 0) (by rw [df,asy];exact hm.1)
 | i+1=>J6 (Du hm h0 i) hm _
theorem apx:ahk:=by
 delta ahk lM iR bR bH vX Jp yX DO KZ I5 Dq ta
 rintro l _ ⟨h2,h16,hw,hodd,htop⟩ _ _
 have c1:decide ((l.length:Int)<1)=false:=decide_eq_false (by omega)
 have c2:decide ((16:Int)<(l.length:Int))=false:=decide_eq_false (by omega)
 have c3:decide (dp .u64 ((l.getD 0 []).getD 0 (CD.int 0)).toInt 1=0)=false:=decide_eq_false hodd
 have e4:((l.length:Int)-1).toNat=l.length-1:=by omega
 have c4:decide (((l.getD ((l.length:Int)-1).toNat []).getD 0 (CD.int 0)).toInt=0)=false:=by rw [e4];exact decide_eq_false htop
 have c9:decide ((l.length:Int)=1)=false:=decide_eq_false (by omega)
 have hl:aI l:=⟨by omega,hw⟩
 refine ⟨fun _=>⟨by omega,by omega⟩,fun _=>by omega,fun _=>⟨fun _=>⟨by omega,by omega⟩,fun _=>⟨by omega,by omega⟩,fun _=>by omega,fun _=>⟨fun _=>⟨by omega,by omega⟩,fun _=>by omega,aa (fun h=> ?_) fun _=>⟨by omega,⟨⟨rfl,rfl,by omega,by omega,rfl⟩,trivial⟩,?_⟩⟩⟩⟩
 ·rw [c1,c2,c3,c4,c9] at h
  cases h
 ·rintro l1 x n l2 v q _ _ _ ⟨e1,e2,h0,h1,rfl⟩
  subst e1 e2
  obtain ⟨i,rfl⟩:=as6 h0
  rw [aA]
  refine aa (fun h=> ?_) fun h _=> ?_
  ·have h:=au h
   refine ⟨⟨by omega,by omega⟩,by omega,⟨by omega,by omega⟩,⟨rfl,rfl,by omega,by omega,?_⟩,by omega⟩
   rw [show ((i:Int)+1).toNat=i+1 from by omega]
   rfl
  ·have h:=aw h
   have hi:i=6:=by omega
   subst hi
   rw [aA]
   have hs:(ab0 l2.length [CD.int 0]).set 0 (((ab0 l2.length [CD.int 0]).getD 0 []).set 0 (CD.int 1))=qO l2 0:=by
    rw [qO]
    congr 1
    rw [ay,awV,if_pos (by omega)]
    rfl
   refine ⟨⟨by omega,by omega,by omega,by omega⟩,⟨by omega,by rw [asy];omega⟩,by rw [asy];omega,fun _=>⟨⟨by omega,by omega⟩,⟨⟨rfl,by omega,by omega,rfl,rfl,hs⟩,trivial⟩,?_⟩⟩
   rintro n k l4 v4 l5 _ _ ⟨rfl,h0,h1,rfl,rfl,rfl⟩
   obtain ⟨j,rfl⟩:=as6 h0
   rw [aA]
   refine aa (fun h=> ?_) fun h=> ?_
   ·have h:=au h
    refine ⟨⟨Du hl (by omega) _,hl⟩,⟨by omega,by omega⟩,⟨rfl,by omega,by omega,rfl,rfl,?_⟩,by omega⟩
    rw [show ((j:Int)+1).toNat=j+1 from by omega]
    rfl
   ·have h:=aw h
    refine ⟨rfl,rfl,rfl,?_⟩
    rw [fp,al,show j=128*l4.length from by omega]
theorem ajv:(base.with Zv).Ok:=ab alf (ai ak5 alf Tryz.func143 (by kernel_rfl) Tryz.call143 (by kernel_rfl) apx)
theorem an6:akz:=by
 delta akz lM iR bR bH dZ Dq ta
 rintro a m v q _ _ _ ⟨ha,hm⟩ _
 have hm1:=hm.1
 have ha1:=ha.1
 have hb:=Bc ha.2 a.length
 have hz:ab0 ((m.length:Int)).toNat [CD.int 0] =p9 m a (bk a a.length).toNat ((bk a a.length).toNat-(bk a a.length-1+1).toNat):=by
  rw [aA,show (bk a a.length).toNat-(bk a a.length-1+1).toNat=0 from by omega]
  rfl
 refine ⟨⟨by omega,by omega,by omega,by omega⟩,ha,⟨by omega,by omega⟩,⟨⟨rfl,rfl,rfl,rfl,by omega,by omega,hz⟩,trivial⟩,?_⟩
 rintro a' o n m' v' q' _ _ _ _ ⟨e1,e2,e3,e4,h0,h1,rfl⟩
 subst e1 e2 e3 e4
 refine aa (fun h=> ?_) fun h=> ?_
 ·have h:=au h
  obtain ⟨j,rfl⟩:=as6 h
  refine ⟨⟨h,by decide,by show (j:Int)≤9223372036854775807;omega⟩,⟨by omega,by omega⟩,by omega,⟨h,by decide⟩,by omega,⟨J0 hm _ _,hm⟩,⟨by omega,by omega⟩,⟨rfl,rfl,rfl,rfl,by omega,by omega,?_⟩,by omega⟩
  rw [show ((j:Int)+1).toNat=j+1 from by omega,show ((j:Int)-1+1).toNat=j from by omega]
  generalize hK:(bk a' a'.length).toNat=K
  have hj:j<K:=by omega
  rw [show K-j=(K-(j+1))+1 from by omega,p9,show K-1-(K-(j+1))=j from by omega]
  rw [show ((j:Int) / 64).toNat=j / 64 from by omega,show ((j%64:Nat):Int)=(j:Int)%64 from by omega]
  rfl
 ·have h:=aw h
  refine ⟨?_,rfl,rfl,rfl⟩
  rw [fm,al,show (n+1).toNat=0 from by omega,Nat.sub_zero]
theorem aej:(base.with Ws).Ok:=ab ajv (ai acU ajv Tryz.func144 (by kernel_rfl) Tryz.call144 (by kernel_rfl) an6)
abbrev u32:Pat:= .int .u32
abbrev i32:Pat:= .int .i32
abbrev fj:BPat:= .cells 318 [u32,i32,u32,.arrI 780 .u64,.arrI 36 .u64]
abbrev VW:Pat:= .iface 259 (.agg [.ptr 0 0])
abbrev qSe:BPat:= .cells 300 [VW,.own 2,i64,i64,i64]
abbrev Hn:BPat:= .cells 300 [.iface 259 (.agg [.ptr 1 0]),.own 2,i64,i64,i64]
def jp (l:LD):List Int:=hid (de ((((fm pR ((bg l l.length).map ae)).drop 0).take 4).map fun r=>(r.getD 0 .d0).toInt))
def ve (l:LD):LD:=gj (ab0 3 [.int 0,.int 0,.int 0,.int 0]) 2 1 l
def fl:List Int:=hid (ab0 780 0)
def jv:List Int:=hid (ab0 36 0)
def ud (l:List Int):Prop:=av (l.map ae)
def aut:Ct:= {ps:= [rb],bs:= [],pre:=fun | [.r l] =>av l∧l.length≤400 | _=>False,res:=fun | [.r l] => .ret w4 [] [.li (jp l)] | _=>ag}
def avW:Ct:= {ps:= [BW],bs:= [],pre:=fun | [.li t] =>ud t | _=>False,res:=fun | [.li t] => .ret w4 [] [.li (jp (t.map ae))] | _=>ag}
def alA:Ct:= {ps:= [],bs:= [],pre:=fun _=>True,res:=fun _=> .ret (.ptr 0 0) [fj] [.i 0,.i 0,.i 0,.li fl,.li jv]}
def au7:Ct:= {ps:= [],bs:= [],pre:=fun _=>True,res:=fun _=> .ret VW [fj] [.i 0,.i 0,.i 0,.li fl,.li jv]}
def anZ:Ct:= {ps:= [.agg [.skip]],bs:= [],pre:=fun _=>True,res:=fun _=> .ret i64 [] [.i 2]}
def alO:Ct:= {ps:= [.agg [.skip]],bs:= [],pre:=fun _=>True,res:=fun _=> .ret i64 [] [.i 3]}
def alN:Ct:= {ps:= [VW,.rd GQ],bs:= [fj],pre:=fun | [.r l,.i _,.i _,.i _,.li _,.li _] =>l.length≤1 | _=>False,res:=fun
 | [.r l,.i a,.i b,.i c,.li u,.li v] => .ret (.tup [.ptr 1 0,i64]) [fj,qSe,oe] [.i 0,.i a,.i b,.i c,.li u,.li v,.i 0,.i 2,.i 0,.r (ve l)]
 | _=>ag}
def aum:Ct:= {ps:= [VW,.rd GQ],bs:= [fj],pre:=fun | [.r l,.i _,.i _,.i _,.li _,.li _] =>l.length≤1 | _=>False,res:=fun
 | [.r l,.i a,.i b,.i c,.li u,.li v] => .ret (.ptr 1 0) [fj,qSe,oe] [.i a,.i b,.i c,.li u,.li v,.i 0,.i 2,.i 0,.r (ve l)]
 | _=>ag}
def at1:Ct:= {ps:= [BW],bs:= [],pre:=fun | [.li t] =>ud t | _=>False,res:=fun
 | [.li t] => .ret (.ptr 0 0) [Hn,fj,oe] [.i 0,.i 2,.i 0,.i 0,.i 0,.i 0,.li fl,.li jv,.r (ve [cF (jp (t.map ae))])]
 | _=>ag}
abbrev A9:LD:=
 [[.int 4891460686036598785],[.int 2896914383306846353],[.int 13281191951274694749],
 [.int 3486998266802970665]]
abbrev OE (a:LD):List Int:=
 asv (fun b=>(b.getD 0 (.int 0)).toInt)
 (ar0 4
 (ar1 0
 (fm A9
 (asv ae (bg a a.length)))))
def P98:Prop:=
 ∀ (a:LD),
 lM a→
 av a∧a.length≤400→
 True∧
 ((0:Int)≤0∧0≤(↑(4:Nat):Int)∧(↑(4:Nat):Int)≤(↑(4:Nat):Int)∧(0:Int)<(↑(4:Nat):Int))∧
 yp A9∧
 (a.length≤1000∧av a)∧
 (aI (asv ae (bg a a.length))∧
 aI A9)∧
 (4:Nat)≤
 (fm A9
 (asv ae (bg a a.length))).length∧
 (4:Nat)≤
 (fm A9
 (asv ae (bg a a.length))).length∧
 af (OE a)∧
 de (OE a)=jp a
def abD:ac:=ak Ws 98 (aq aut)
abbrev Ia (a:List Int):LD:=
 asv (fun b=> [.int b]) (ar0 32 (ar1 0 a))
def P86:Prop:=
 ∀ (a:List Int),
 a.length=32→
 ud a→
 ((0:Int)≤0∧0≤(↑(32:Nat):Int)∧(↑(32:Nat):Int)≤(↑(32:Nat):Int)∧(0:Int)<(↑(32:Nat):Int))∧
 (av (Ia a)∧(Ia a).length≤400)∧
 jp (Ia a)=
 jp (asv ae a)
def aff:ac:=ak abD 86 (aq avW)
def avg:Prop:=
 True→
 (0:Int)=0∧
 (0:Int)=0∧
 (0:Int)=0∧
 ab0 780 0=fl∧ab0 36 0=jv
def XL:ac:=ak aff 132 (aq alA)
def P85:Prop:=
 True→
 True∧
 (0:Int)=0∧
 (0:Int)=0∧
 (0:Int)=0∧
 fl=fl∧jv=jv
def aep:ac:=ak XL 85 (aq au7)
def auo:Prop:=
 True→(2:Int)=2
def W7:ac:=ak aep 345 (aq anZ)
def auK:Prop:=
 True→(3:Int)=3
def Vy:ac:=ak W7 346 (aq alO)
abbrev Ii:List CD:=
 [.int ([0,0,0,0].getD 0 0),.int ([0,0,0,0].getD 1 0),
 .int ([0,0,0,0].getD 2 0),.int ([0,0,0,0].getD 3 0)]
def abI:Prop:=
 ∀ (a:LD) (b c d:Int) (e f:List Int),
 lM a→
 e.length=780→
 f.length=36→
 a.length≤1→
 lM a→
 True∧
 True∧
 iR ((3:Int)-(2:Int))∧
 bif decide ((3:Int)-(2:Int)<↑a.length) then
 Miss 2 eS
 else
 True∧
 ((0:Int)≤3∧(3:Int)≤3∧(↑(32:Nat):Int)*3≤140737488355328∧(3:Int)≤9223372036854775807)∧
 True∧
 True∧
 ((0:Int)≤2∧2≤(↑(3:Nat):Int)∧(↑(3:Nat):Int)≤(↑(3:Nat):Int)∧(2:Int)<(↑(3:Nat):Int))∧
 (0:Int)=0∧
 b=b∧
 c=c∧
 d=d∧
 e=e∧
 f=f∧
 (0:Int)=0∧
 (2:Int)=2∧
 (0:Int)=0∧
 gj
 [Ii,Ii,
 Ii]
 2 1 a=
 ve a
def W9:ac:=ak Vy 131 (aq alN)
def P84:Prop:=
 ∀ (a:LD) (b c d:Int) (e f:List Int),
 lM a→
 e.length=780→
 f.length=36→
 a.length≤1→
 a.length≤1∧
 b=b∧
 c=c∧
 d=d∧
 e=e∧
 f=f∧
 (0:Int)=0∧(2:Int)=2∧(0:Int)=0∧ve a=ve a
def alg:ac:=ak W9 84 (aq aum)
def P46:Prop:=
 ∀ (a:List Int),
 a.length=32→
 ud a→
 True∧
 ud a∧
 1≤1∧
 (0:Int)=0∧
 (2:Int)=2∧
 (0:Int)=0∧
 (0:Int)=0∧
 (0:Int)=0∧
 (0:Int)=0∧
 fl=fl∧
 jv=jv∧
 ve
 [[.int ((jp (asv ae a)).getD 0 0),
 .int ((jp (asv ae a)).getD 1 0),
 .int ((jp (asv ae a)).getD 2 0),
 .int ((jp (asv ae a)).getD 3 0)]] =
 ve
 [cF (jp (asv ae a))]
def ac8:ac:=ak alg 46 (aq at1)
theorem Zp:yp pR:=by
 refine ⟨by decide,by decide,fun i=> ?_,by decide,by decide⟩
 unfold pR
 rw [da]
 exact nX i
theorem Ps:aI pR:=⟨by decide,Zp.2.2.1⟩
theorem Df {l:LD} (h:l.length≤400) (hb:av l):aI ((bg l l.length).map ae):=yu (Ah l _) (by rw [fK];omega)
theorem Mq {m a:LD} (hm:aI m):aI (fm m a):=by rw [fm,al];exact J0 hm _ _
theorem Uf (m a:LD):(fm m a).length=m.length:=by rw [fm,al];exact MG m a _ _
theorem QV {l:LD} (h:cQ l) (n:Nat):af ((l.take n).map fun r=>(r.getD 0 (CD.int 0)).toInt):=fun j=>by
 rw [ay,eW,aky]
 split
 ·cases hj:l[j]? with
  | none=>exact bl
  | some r=>
   have e:l.getD j [] =r:=by rw [ay,hj];rfl
   have:=h j
   unfold rv at this
   rw [e] at this
   exact this
 ·exact bl
theorem avl:P98:=by
 delta P98 lM A9 OE
 rintro l _ ⟨hb,hl⟩
 have hlen:(4:Nat)≤(fm pR ((bg l l.length).map ae)).length:=by rw [Uf];decide
 refine ⟨trivial,⟨by decide,by decide,by decide,by decide⟩,Zp,⟨by omega,hb⟩,⟨Df hl hb,Ps⟩,hlen,hlen,?_,?_⟩
 ·rw [as8]
  exact QV (Mq Ps).2 4
 ·rw [jp,al]
  rfl
theorem c98:(base.with abD).Ok:=ab aej (ai am aej Tryz.func98 (by kernel_rfl) Tryz.call98 (by kernel_rfl) avl)
theorem av9:P86:=by
 delta P86 Ia
 intro t ht hy
 have e:((t.drop 0).take 32).map (fun x=> [CD.int x])=t.map ae:=by
  rw [as8,agv (by omega)]
  rfl
 rw [e]
 exact ⟨⟨by decide,by decide,by decide,by decide⟩,⟨hy,by rw [bp];omega⟩,rfl⟩
theorem c86:(base.with aff).Ok:=ab c98 (ai am c98 Tryz.func86 (by kernel_rfl) Tryz.call86 (by kernel_rfl) av9)
theorem aqX:avg:=fun _=>⟨rfl,rfl,rfl,(by rw [fl,al]),(by rw [jv,al])⟩
theorem ac0:(base.with XL).Ok:=ab c86 (ai am c86 Tryz.func132 (by kernel_rfl) Tryz.call132 (by kernel_rfl) aqX)
theorem auj:P85:=fun _=>⟨trivial,rfl,rfl,rfl,rfl,rfl⟩
theorem c85:(base.with aep).Ok:=ab ac0 (ai am ac0 Tryz.func85 (by kernel_rfl) Tryz.call85 (by kernel_rfl) auj)
theorem ap4:auo:=fun _=>rfl
theorem ac2:(base.with W7).Ok:=ab c85 (ai am c85 Tryz.func345 (by kernel_rfl) Tryz.call345 (by kernel_rfl) ap4)
theorem alT:auK:=fun _=>rfl
theorem agc:(base.with Vy).Ok:=ab ac2 (ai am ac2 Tryz.func346 (by kernel_rfl) Tryz.call346 (by kernel_rfl) alT)
theorem ars:abI:=by
 delta abI lM iR Ii
 rintro l a b c u v _ _ _ h _
 refine ⟨trivial,trivial,⟨by decide,by decide⟩,aa (fun k=> ?_) fun _=>⟨trivial,⟨by decide,by decide,by decide,by decide⟩,trivial,trivial,⟨by decide,by decide,by decide,by decide⟩,rfl,rfl,rfl,rfl,rfl,rfl,rfl,rfl,rfl,rfl⟩⟩
 have:=au k
 omega
theorem aed:(base.with W9).Ok:=ab agc (ai am agc Tryz.func131 (by kernel_rfl) Tryz.call131 (by kernel_rfl) ars)
theorem av8:P84:=by
 delta P84 lM
 exact fun l a b c u v _ _ _ h=>⟨h,rfl,rfl,rfl,rfl,rfl,rfl,rfl,rfl,rfl⟩
theorem c84:(base.with alg).Ok:=ab aed (ai am aed Tryz.func84 (by kernel_rfl) Tryz.call84 (by kernel_rfl) av8)
theorem aua:P46:=fun t _ h=>⟨trivial,h,Nat.le_refl 1,rfl,rfl,rfl,rfl,rfl,rfl,rfl,rfl,rfl⟩
theorem c46:(base.with ac8).Ok:=ab c84 (ai am c84 Tryz.func46 (by kernel_rfl) Tryz.call46 (by kernel_rfl) aua)
def oF (l:LD):LD:=dg (eN (ah l)).1
def sF (k:Int) (l:LD):List Int:=nz k (oF l)
abbrev SZ:BPat:= .cells 128 [.ptr 1 0,.arrI 32 .u8,.iface 133 (.agg [.ptr 2 0])]
abbrev Wn:BPat:= .cells 128 [.ptr 1 0,.arrI 32 .u8,.iface 137 (.agg [.ptr 2 0])]
abbrev Rm:BPat:= .cells 298 [Fl,.own 3,i64,i64,i64]
abbrev WG:BPat:= .cells 300 [.iface 259 (.agg [.ptr 3 0]),.own 4,i64,i64,i64]
def auu:Ct:= {ps:= [i64,rb],bs:= [],pre:=fun | [.i k,.r l] =>fk l | _=>False,res:=fun
 | [.i k,.r l] => .ite (decide (k≠1)&&decide (k≠2)) (.ret (.tup [.nilp,i64,i64]) [] [.i (-1),.i 15])
   (.ite (decide ((eN (ah l)).2.2=0))
    (.ite (decide (k=2)) (.ret (.tup [.ptr 0 0,i64,i64]) [Wn,gA,WG,fj,oe] [.i (-1),.i 0,.li (sF k l),.r (oF l),.i 0,.i 0,.i 2,.i 0,.i 0,.i 0,.i 0,.li fl,.li jv,.r (ve [cF (jp ((sF k l).map ae))])])
     (.ret (.tup [.ptr 0 0,i64,i64]) [SZ,gA,Rm,ob] [.i (-1),.i 0,.li (sF k l),.r (oF l),.i 0,.i 0,.i 136,.i 0,.r (sa ((sF k l).map ae))]))
    (.ret (.tup [.nilp,i64,i64]) [] [.i (eN (ah l)).2.1,.i (eN (ah l)).2.2]))
 | _=>ag}
abbrev Bl (a:Int):Bool:=
 decide (a≠1)&&decide (a≠2)
abbrev nZ (a:LD):Int:=
 (eN (ah a)).snd.snd
abbrev Ph:Prop:=
 Miss 2 eS
abbrev DE (a:LD):Int:=
 (eN (ah a)).snd.fst
abbrev ot (a:LD):LD:=
 dg (eN (ah a)).fst
abbrev aqE:List SV:=
 [.tup [.ptr 1 0,.int .i64 (-1:Int),.int .i64 0]]
abbrev aqx (a:LD):Blk:=
 .cells (185:TypeId)
 [.rd [.int .i64,.int .i64,.int .i64,.str] (ot a),
 .int .i64 0,.nilp]
abbrev arV:Blk:=
 .cells (298:TypeId)
 [.iface (253:TypeId) (.agg []),.own 4,.int .i64 0,.int .i64 136,
 .int .i64 0]
abbrev H7 (a:Int)(b:LD):Prop:=
 Miss 2 eS
abbrev Iv (a:Int)(b:LD):Prop:=
 Miss 2 eS
abbrev J7 (a:LD):Prop:=
 Miss 2 eS
def P21:Prop:=
 ∀ (a:Int) (b:LD),
 lM b→
 fk b→
 bif Bl a then
 bif Bl a then (-1:Int)=(-1:Int)∧(15:Int)=15
 else
 bif decide (nZ b=0) then
 bif decide (a=2) then Ph else Ph
 else (-1:Int)=DE b∧15=nZ b
 else
 fk b∧
 bif decide (nZ b=0) then
 (ot b).length≤1000000∧
 ((a=1∨a=2)∧qK (ot b))∧
 True∧
 bif decide (a=2) then
 ud (nz a (ot b))∧
 bif Bl a then H7 a b
 else
 bif decide (nZ b=0) then
 bif decide (a=2) then
 (-1:Int)=(-1:Int)∧
 (0:Int)=0∧
 nz a (ot b)=sF a b∧
 ot b=oF b∧
 (0:Int)=0∧
 (0:Int)=0∧
 (2:Int)=2∧
 (0:Int)=0∧
 (0:Int)=0∧
 (0:Int)=0∧
 (0:Int)=0∧
 fl=fl∧
 jv=jv∧
 ve
 [cF
 (jp
 (asv ae
 (nz a (ot b))))] =
 ve
 [cF
 (jp
 (asv ae (sF a b)))]
 else H7 a b
 else H7 a b
 else
 bif Bl a then Iv a b
 else
 bif decide (nZ b=0) then
 bif decide (a=2) then Iv a b
 else
 (-1:Int)=(-1:Int)∧
 (0:Int)=0∧
 nz a (ot b)=sF a b∧
 ot b=oF b∧
 (0:Int)=0∧
 (0:Int)=0∧
 (136:Int)=136∧
 (0:Int)=0∧
 sa
 (asv ae
 (nz a (ot b)))=
 sa
 (asv ae (sF a b))
 else Iv a b
 else
 bif decide (nZ b≠0) then
 bif Bl a then
 DE b=(-1:Int)∧nZ b=15
 else
 bif decide (nZ b=0) then
 bif decide (a=2) then J7 b else J7 b
 else
 DE b=DE b∧
 nZ b=nZ b
 else False
def ad9:ac:=ak ac8 21 (aq auu)
theorem ad8 {L:List Int} (h:∀ j,0≤L.getD j 0∧L.getD j 0<256) (n:Nat):ud (L.take n):=fun j=>by
 rw [da,ay,aky]
 split
 ·rw [← ay];exact h j
 ·exact ⟨by decide,by decide⟩
theorem apl (h:Hs):ud (fin h):=by rw [fin,al];exact ad8 (Ky _) 32
theorem akH (l:LD):ud (yZ l):=by rw [yZ,al];exact apl _
theorem Se (k:Int) (l:LD):ud (nz k l):=by
 unfold nz
 split
 ·exact akH _
 ·intro j
  rw [da,ay,awV]
  split <;>exact ⟨by decide,by decide⟩
theorem aul:P21:=by
 delta P21 lM Bl nZ Ph DE ot aqE aqx arV H7 Iv J7
 intro k l _ hp
 have both:∀ {p:Prop} [Decidable p],decide p=true→decide p=false→False:=fun h1 h2=>by rw [h1] at h2;cases h2
 refine aa (fun h=>aa (fun _=>⟨rfl,rfl⟩) fun h'=>by rw [h] at h';cases h') fun h=>⟨hp,aa (fun e=> ?_) fun e=>aa (fun _=>aa (fun h'=>by rw [h] at h';cases h') fun _=>aa (fun e'=>(both e' e).elim) fun _=>⟨rfl,rfl⟩) fun e'=> ?_⟩
 ·have hl:=Z7 (ah l)
  have hr:(dg (eN (ah l)).1).length≤1024:=by rw [HQ];exact hl
  have hk:k=1∨k=2:=by
   simp only [atd,aT] at h
   omega
  refine ⟨by omega,⟨hk,by unfold qK;omega⟩,trivial,aa (fun k2=>⟨Se _ _,aa (fun h'=>by rw [h] at h';cases h') fun _=>aa (fun _=>aa (fun _=> ?_) fun k2'=>(both k2 k2').elim) fun e'=>(both e e').elim⟩) fun k2=>aa (fun h'=>by rw [h] at h';cases h') fun _=>aa (fun _=>aa (fun k2'=>(both k2' k2).elim) fun _=> ?_) fun e'=>(both e e').elim⟩
  ·exact ⟨rfl,rfl,rfl,rfl,rfl,rfl,rfl,rfl,rfl,rfl,rfl,rfl,rfl,rfl⟩
  ·exact ⟨rfl,rfl,rfl,rfl,rfl,rfl,rfl,rfl,rfl⟩
 ·exact absurd (awJ.1 (aw e')) (aw e)
theorem c21:(base.with ad9).Ok:=ab c46 (ai am c46 Tryz.func21 (by kernel_rfl) Tryz.call21 (by kernel_rfl) aul)
abbrev gAe:BPat:= .cells 185 [.rd eg,i64,.ptr 4 0]
abbrev me:List BPat:= [SZ,gA,Rm,ob]
abbrev np:List BPat:= [SZ,gAe,Rm,ob,eB]
def iJ (k t n:Int) (d:LD) (x:Sp):Sp:=b7 (cB k t n d) x (cB k t n d).length
def dN (x:Sp):List Int×Int×Int×Sp:=aC (iJ 2 3 1 [] x)
def Ib (k t n:Int) (d it:LD) (at':Int) (x:Sp):Prop:=
 az it at'∧cg 800000000 x∧((k=0∧t=1∧av d∧d.length≤900∧fe d=0∧cm it at' 1 1 d.length=true)∨(k=2∧n=1∧cm it at' 2 3 1=true∧(dN x).2.2.1=0)∨(k=4∧at'=it.length))
def iB (k:Int) (d:LD) (at':Int) (x:Sp):Int×Sp:=if k=0 then (at'+1,iJ 1 1 d.length d x) else if k=2 then (at'+1,(dN x).2.2.2) else (at',x)
def Ki (k:Int) (x:Sp):LD:=if k=2 then (kV (dN x).1).map ae else []
abbrev DZ:List CSh:= [.int .i64,.int .i64,.int .i64,.sl [.int .u8]]
abbrev abE:List CSh:= [.int .i64,.sl [.int .u8]]
def cC (l:LD) (i c:Nat):Int:=((l.getD i []).getD c .d0).toInt
def cD (l:LD) (i:Nat):LD:=((l.getD i []).getD 3 .d0).toSl
def qN (l:LD) (x:Sp):Nat→Int×Sp
 | 0=>(0,x)
 | i+1=>iB (cC l i 0) (cD l i) (qN l x i).1 (qN l x i).2
def qR (l:LD) (x:Sp):Nat→LD
 | 0=> []
 | i+1=>qR l x i++ [[.int 0,.sl (Ki (cC l i 0) (qN l x i).2)]]
def iu (p:LD):Sp:=(0,136,0,sa ((sF 1 p).map ae))
def ano:Ct:= {ps:= [.ptr 0 0],bs:=me,pre:=fun _=>True,res:=fun
 | [.li tg,.r it,.i at',.i a,.i b,.i c,.r s] => .ret i64 me [.i 0,.li tg,.r it,.i at',.i a,.i b,.i c,.r s]
 | _=>ag}
def apu:Ct:= {ps:= [.ptr 0 0],bs:=np,pre:=fun _=>True,res:=fun
 | [.li tg,.r it,.i at',.i a,.i b,.i c,.r s,.i w] => .ret i64 np [.i w,.li tg,.r it,.i at',.i a,.i b,.i c,.r s,.i w]
 | _=>ag}
def aqN:Ct:= {ps:= [.ptr 0 0,qS],bs:=me,pre:=fun | [.i _,.i _,.i _,.r _,.li _,.r it,.i at',.i _,.i _,.i _,.r _] =>az it at' | _=>False,res:=fun
 | [.i k,.i t,.i n,.r _,.li tg,.r it,.i at',.i a,.i b,.i c,.r s] => .ite (cm it at' k t n) (.ret i64 me [.i 0,.li tg,.r it,.i (at'+1),.i a,.i b,.i c,.r s]) (.ret i64 np [.i 10,.li tg,.r it,.i at',.i a,.i b,.i c,.r s,.i 10])
 | _=>ag}
def aq0:Ct:= {ps:= [.ptr 0 0,qS],bs:=np,pre:=fun | [.i _,.i _,.i _,.r _,.li _,.r it,.i at',.i _,.i _,.i _,.r _,.i w] =>az it at'∧w≠0 | _=>False,res:=fun
 | [.i k,.i t,.i n,.r _,.li tg,.r it,.i at',.i a,.i b,.i c,.r s,.i w] => .ret i64 np [.i w,.li tg,.r it,.i at',.i a,.i b,.i c,.r s,.i w]
 | _=>ag}
def apy:List Dat→Prop
 | [.i t,.r d,.li _,.r it,.i at',.i a,.i b,.i c,.r s] =>t=1∧av d∧d.length≤900∧fe d=0∧az it at'∧cm it at' 1 1 d.length=true∧cg 800000000 (a,b,c,s)
 | _=>False
def awg:Ct:= {ps:= [.ptr 0 0,i64,rb],bs:=me,pre:=apy,res:=fun
 | [.i t,.r d,.li tg,.r it,.i at',.i a,.i b,.i c,.r s] => .ret i64 me [.i 0,.li tg,.r it,.i (at'+1),.i (iJ 1 1 d.length d (a,b,c,s)).1,.i (iJ 1 1 d.length d (a,b,c,s)).2.1,.i (iJ 1 1 d.length d (a,b,c,s)).2.2.1,.r (iJ 1 1 d.length d (a,b,c,s)).2.2.2]
 | _=>ag}
def aro:List Dat→Prop
 | [.i n,.li _,.r it,.i at',.i a,.i b,.i c,.r s] =>n=1∧az it at'∧cm it at' 2 3 1=true∧cg 800000000 (a,b,c,s)∧(dN (a,b,c,s)).2.2.1=0
 | _=>False
def ava:Ct:= {ps:= [.ptr 0 0,i64],bs:=me,pre:=aro,res:=fun
 | [.i n,.li tg,.r it,.i at',.i a,.i b,.i c,.r s] => .ret (.tup [.own 4,i64]) [SZ,gA,Rm,ob,oe] [.i 0,.li tg,.r it,.i (at'+1),.i (dN (a,b,c,s)).2.2.2.1,.i (dN (a,b,c,s)).2.2.2.2.1,.i (dN (a,b,c,s)).2.2.2.2.2.1,.r (dN (a,b,c,s)).2.2.2.2.2.2,.r [cF (dN (a,b,c,s)).1]]
 | _=>ag}
def apZ:Ct:= {ps:= [.ptr 0 0],bs:=me,pre:=fun _=>True,res:=fun
 | [.li tg,.r it,.i at',.i a,.i b,.i c,.r s] => .ite (decide (at'=it.length)) (.ret i64 me [.i 0,.li tg,.r it,.i at',.i a,.i b,.i c,.r s]) (.ret i64 np [.i 12,.li tg,.r it,.i at',.i a,.i b,.i c,.r s,.i 12])
 | _=>ag}
def apj:Ct:= {ps:= [.ptr 0 0],bs:=np,pre:=fun _=>True,res:=fun
 | [.li tg,.r it,.i at',.i a,.i b,.i c,.r s,.i w] => .ret i64 np [.i w,.li tg,.r it,.i at',.i a,.i b,.i c,.r s,.i w]
 | _=>ag}
def aqU:List Dat→Prop
 | [.i k,.i t,.i n,.r d,.li _,.r it,.i at',.i a,.i b,.i c,.r s] =>Ib k t n d it at' (a,b,c,s)
 | _=>False
def av2:Ct:= {ps:= [.agg [i64,i64,i64,rb],.ptr 0 0],bs:=me,pre:=aqU,res:=fun
 | [.i k,.i t,.i n,.r d,.li tg,.r it,.i at',.i a,.i b,.i c,.r s] => .ret (.agg [i64,rb]) me [.i 0,.r (Ki k (a,b,c,s)),.li tg,.r it,.i (iB k d at' (a,b,c,s)).1,.i (iB k d at' (a,b,c,s)).2.1,.i (iB k d at' (a,b,c,s)).2.2.1,.i (iB k d at' (a,b,c,s)).2.2.2.1,.r (iB k d at' (a,b,c,s)).2.2.2.2]
 | _=>ag}
def ao9:List Dat→Ann
 | [.i k,.i t,.i n,.r d,.li tg,.r it,.i at',.i a,.i b,.i c,.r s] => {cut:= [],loop:= [(11,[la 70 [(4,.ptr 4 0),(9,.ptr 5 0),(47,.rd GQ),(48,i64),(49,i64)] (me++ [.cells 86 [i64,.nils],.cells 86 [i64,.own 6],ob]) (fun
   | [.r l',.i m,.i i,.li tg',.r it',.i at2,.i a',.i b',.i c',.r s',.i _,.i e,.r o] =>l'= [cF (dN (a,b,c,s)).1] ∧m=1∧e=0∧tg'=tg∧it'=it∧at2=at'+1∧(a',b',c',s')=(dN (a,b,c,s)).2.2.2∧((i=0∧o= [])∨(i=1∧o=(kV (dN (a,b,c,s)).1).map ae))
   | _=>False) (fun | [_,.i m,.i i,_,_,_,_,_,_,_,_,_,_] =>(m-i).toNat | _=>0)])]}
 | _=> {cut:= [],loop:= []}
def lV (l p:LD):LD:=hid (qR l (iu p) l.length)
def w8 (k:Int) (p l:LD):Prop:=k=1∧fk p∧(eN (ah p)).2.2=0∧l.length≤200∧∀ i,i<l.length→Ib (cC l i 0) (cC l i 1) (cC l i 2) (cD l i) (oF p) (qN l (iu p) i).1 (qN l (iu p) i).2
def ahR:Ct:= {ps:= [.agg [i64,rb,.own 0]],bs:= [.own 84 DZ],pre:=fun | [.i k,.r p,.r l] =>w8 k p l | _=>False,res:=fun
 | [.i k,.r p,.r l] => .ret (.tup [.own 1,i64,i64]) [.own 84 DZ,.own 86 abE] [.i (-1),.i 0,.r l,.r (lV l p)]
 | _=>ag}
def VN:List Dat→Ann
 | [.i k,.r p,.r l] => {cut:= [],loop:= [(6,[la 39 [(5,.ptr 1 0),(8,.own 5),(25,.own 0),(26,i64),(27,i64)] [.own 84 DZ,.cells 128 [.ptr 2 0,.arrI 32 .u8,.iface 133 (.agg [.ptr 3 0])],gA,.cells 298 [Fl,.own 4,i64,i64,i64],ob,.own 86 abE] (fun
   | [.i n,.i i,.r l',.li tg,.r it,.i at',.i a,.i b,.i c,.r s,.r o] =>n=l.length∧0≤i∧i≤n∧l'=l∧it=oF p∧(at',a,b,c,s)=qN l (iu p) i.toNat∧o=qR l (iu p) i.toNat
   | _=>False) (fun | [.i n,.i i,_,_,_,_,_,_,_,_,_] =>(n-i).toNat | _=>0)])]}
 | _=> {cut:= [],loop:= []}
abbrev Ti:BPat:= .cells 90 [rb]
def zJ (l:LD):Nat→Int
 | 0=>0
 | i+1=>iq .i64 (zJ l i) (eG .i64 (IntKind.i64.wrap (rv l i)) (8*(i:Int)))
def avV:Ct:= {ps:= [rb],bs:= [],pre:=fun | [.r l] =>l.length≤1000000 | _=>False,res:=fun | [.r l] => .ret (.own 0) [ob] [.r l] | _=>ag}
def awi:Ct:= {ps:= [.ptr 0 0,i64],bs:= [Ti],pre:=fun | [.i n,.r l] =>0≤n∧n≤l.length∧l.length≤1000000 | _=>False,res:=fun | [.i n,.r l] => .ret rb [Ti] [.r (l.take n.toNat),.r (l.drop n.toNat)] | _=>ag}
def atP:Ct:= {ps:= [.ptr 0 0,i64],bs:= [Ti],pre:=fun | [.i w,.r l] =>0≤w∧w≤2∧w≤l.length∧l.length≤1000000∧av l | _=>False,res:=fun | [.i w,.r l] => .ret i64 [Ti] [.i (zJ (l.take w.toNat) w.toNat),.r (l.drop w.toNat)] | _=>ag}
def arF:List Dat→Ann
 | [.i w,.r l] => {cut:= [],loop:= [(3,[la 26 [(5,i64),(10,rb),(11,i64),(12,i64)] [Ti] (fun | [.i x,.r l',.i n,.i i,.r rest] =>l'=l.take w.toNat∧n=w∧0≤i∧i≤n∧x=zJ (l.take w.toNat) i.toNat∧rest=l.drop w.toNat | _=>False) (fun | [_,_,.i n,.i i,_] =>(n-i).toNat | _=>0)])]}
 | _=> {cut:= [],loop:= []}
abbrev d8 (a:List Int):Prop:=
 a.length=32
def ajB:Prop:=
 ∀ (a:List Int) (b:LD) (c d e f:Int) (g:LD),
 d8 a→True→True∧(0:Int)=0∧a=a∧b=b∧c=c∧d=d∧e=e∧f=f∧g=g
def abJ:Prop:=
 ∀ (a:List Int) (b:LD) (c d e f:Int) (g:LD) (h:Int),
 d8 a→True→True∧h=h∧a=a∧b=b∧c=c∧d=d∧e=e∧f=f∧g=g∧h=h
def akk:ac:=ak ad9 25 (eF ano (aq apu))
abbrev zL (a:List Int):Blk:=
 .cells (128:TypeId)
 [.ptr 1 0,.arrI 32 .u8 a,.iface (133:TypeId) (.agg [.ptr 2 0])]
abbrev wh (a:LD):SV:=
 .rd [.int .i64,.int .i64,.int .i64,.str] a
abbrev z7 (a b c:Int):Blk:=
 .cells (298:TypeId)
 [.iface (253:TypeId) (.agg []),.own 3,.int .i64 a,.int .i64 b,.int .i64 c]
abbrev zN (a:LD):Blk:=
 .own (5:TypeId) [.int .u8] a
abbrev Jo (a:Int)(b:LD):Blk:=
 .cells (185:TypeId) [wh b,.int .i64 a,.ptr 5 0]
abbrev Ks:List Blk:=
 [.cells (204:TypeId) [.int .i64 10]]
def ahI:Prop:=
 ∀ (a b c:Int) (d:LD) (e:List Int) (f:LD) (g h i j:Int) (k:LD),
 lM d→
 d8 e→
 az f g→
 az f g∧
 bif cm f g a b c then
 bif cm f g a b c then (0:Int)=0∧e=e∧f=f∧g+1=g+1∧h=h∧i=i∧j=j∧k=k
 else
 Miss 2 eS
 else
 bif cm f g a b c then
 Miss 2 eS
 else (10:Int)=10∧e=e∧f=f∧g=g∧h=h∧i=i∧j=j∧k=k∧(10:Int)=10
def air:Prop:=
 ∀ (n n n:Int) (a:LD) (b:List Int) (c:LD) (d e f g:Int) (h:LD) (i:Int),
 lM a→
 d8 b→
 az c d∧i≠0→
 (az c d∧i≠0)∧i=i∧b=b∧c=c∧d=d∧e=e∧f=f∧g=g∧h=h∧i=i
def afW:ac:=ak akk 92 (eF aqN (aq aq0))
abbrev bB (a:LD):Int:=
 ↑a.length
abbrev DF (a b c d e:Int)(f g h:LD):Prop:=
 a=1∧
 av f∧
 f.length≤900∧
 fe f=0∧
 az g b∧
 cm g b 1 1 (bB f)=true∧
 cg 800000000 (c,d,e,h)
abbrev yh (a b c:Int)(d e:LD):Int:=
 (iJ 1 1 (bB d) d (a,b,c,e)).snd.snd.fst
abbrev vj (a b c:Int)(d e:LD):LD:=
 (iJ 1 1 (bB d) d (a,b,c,e)).snd.snd.snd
abbrev Gg (a b c:Int)(d e:LD):Prop:=
 a=(iJ 1 1 (bB d) d (a,b,c,e)).fst∧
 b=(iJ 1 1 (bB d) d (a,b,c,e)).snd.fst∧
 c=yh a b c d e∧e=vj a b c d e
abbrev ik (a:LD):Int:=
 if fe a=0 then bB a else 0
abbrev aaR (a:Int)(b:LD):Blk:=
 .cells (151:Nat)
 [.int .i64 (1:Int),.int .i64 a,.int .i64 (ik b),
 .rd [.int .u8] b]
def P51:Prop:=
 ∀ (a:Int) (b:LD) (c:List Int) (d:LD) (e f g h:Int) (i:LD),
 lM b→
 d8 c→
 DF a e f g h b d i→
 True∧
 a=1∧
 bif decide (fe b≠0) then
 True∧
 bif decide (fe b=0) then
 (0:Int)=0∧c=c∧d=d∧e=e+1∧Gg f g h b i
 else
 Miss 2 eS
 else
 az d e∧
 bif cm d e 1 a (ik b) then
 a=1∧
 bif decide (fe b≠0) then
 True∧
 bif decide (fe b=0) then
 (0:Int)=0∧c=c∧d=d∧e+1=e+1∧Gg f g h b i
 else
 Miss 2 eS
 else
 (pQ 1 a (ik b) b∧
 b.length≤1000∧av b∧db (f,g,h,i))∧
 (0:Int)=0∧
 c=c∧
 d=d∧
 e+1=e+1∧
 (b7 (cB 1 a (ik b) b)
 (f,g,h,i) (cB 1 a (ik b) b).length).fst=
 (iJ 1 1 (bB b) b (f,g,h,i)).fst∧
 (b7 (cB 1 a (ik b) b)
 (f,g,h,i) (cB 1 a (ik b) b).length).snd.fst=
 (iJ 1 1 (bB b) b (f,g,h,i)).snd.fst∧
 (b7 (cB 1 a (ik b) b)
 (f,g,h,i)
 (cB 1 a (ik b) b).length).snd.snd.fst=
 yh f g h b i∧
 (b7
 (cB 1 a (ik b) b) (f,g,h,i)
 (cB 1 a (ik b) b).length).snd.snd.snd=
 vj f g h b i
 else
 Miss 2 eS
def adZ:ac:=ak afW 51 (aq awg)
abbrev AM (a b c d e:Int)(f g:LD):Prop:=
 a=1∧
 az f b∧
 cm f b 2 3 1=true∧
 cg 800000000 (c,d,e,g)∧(dN (c,d,e,g)).snd.snd.fst=0
abbrev kc (a b c d:Int)(e:LD):Int×Int×Int×LD:=
 ((b7 (cB 2 3 a []) (b,c,d,e)
 (cB 2 3 a []).length).fst,
 (b7 (cB 2 3 a []) (b,c,d,e)
 (cB 2 3 a []).length).snd.fst,
 (b7 (cB 2 3 a []) (b,c,d,e)
 (cB 2 3 a []).length).snd.snd.fst,
 (b7 (cB 2 3 a []) (b,c,d,e)
 (cB 2 3 a []).length).snd.snd.snd)
abbrev Fu (a b c d:Int)(e:LD):Prop:=
 (aC (kc a b c d e)).snd.snd.snd.fst=
 (dN (b,c,d,e)).snd.snd.snd.fst
abbrev F9 (a b c d:Int)(e:LD):Prop:=
 (aC (kc a b c d e)).snd.snd.snd.snd.fst=
 (dN (b,c,d,e)).snd.snd.snd.snd.fst
abbrev Fk (a b c d:Int)(e:LD):Prop:=
 (aC (kc a b c d e)).snd.snd.snd.snd.snd.fst=
 (dN (b,c,d,e)).snd.snd.snd.snd.snd.fst
abbrev Gl (a b c d:Int)(e:LD):Prop:=
 (aC (kc a b c d e)).snd.snd.snd.snd.snd.snd=
 (dN (b,c,d,e)).snd.snd.snd.snd.snd.snd
abbrev ns (a b c:Int)(d:LD):LD:=
 [cF (dN (a,b,c,d)).fst]
abbrev GI (a b c d e:Int)(f g:LD)(h:List Int):Prop:=
 (0:Int)=0∧
 h=h∧
 f=f∧
 a+1=a+1∧
 Fu b c d e g∧
 F9 b c d e g∧
 Fk b c d e g∧Gl b c d e g∧ [] =ns c d e g
abbrev aa2 (a:Int):Blk:=
 .cells (151:Nat) [.int .i64 (2:Int),.int .i64 (3:Int),.int .i64 a,.nils]
def P53:Prop:=
 ∀ (a:Int) (b:List Int) (c:LD) (d e f g:Int) (h:LD),
 d8 b→
 AM a d e f g c h→
 az c d∧
 bif cm c d 2 3 a then
 (pQ 2 3 a [] ∧
 0≤1000∧av [] ∧db (e,f,g,h))∧
 (a=1∧BR (kc a e f g h))∧
 bif decide ((aC (kc a e f g h)).snd.snd.fst=0) then
 (0:Int)=0∧
 b=b∧
 c=c∧
 d+1=d+1∧
 Fu a e f g h∧
 F9 a e f g h∧
 Fk a e f g h∧
 Gl a e f g h∧
 [cF (aC (kc a e f g h)).fst] =
 ns e f g h
 else
 bif decide ((aC (kc a e f g h)).snd.snd.fst≠0) then
 True∧
 bif decide ((aC (kc a e f g h)).snd.snd.fst=0) then
 GI d a e f g c h b
 else
 Miss 2 eS
 else GI d a e f g c h b
 else
 Miss 2 eS
def afX:ac:=ak adZ 53 (aq ava)
def adY:Prop:=
 ∀ (a:List Int) (b:LD) (c d e f:Int) (g:LD),
 d8 a→
 True→
 True∧
 bif decide (c=bB b) then
 bif decide (c=bB b) then 0=(0:Int)∧a=a∧b=b∧c=c∧d=d∧e=e∧f=f∧g=g
 else
 Miss 2 eS
 else
 bif decide (c=bB b) then
 Miss 2 eS
 else 12=(12:Int)∧a=a∧b=b∧c=c∧d=d∧e=e∧f=f∧g=g∧(12:Int)=(12:Int)
def ag8:Prop:=
 ∀ (a:List Int) (b:LD) (c d e f:Int) (g:LD) (h:Int),
 d8 a→True→True∧h=h∧a=a∧b=b∧c=c∧d=d∧e=e∧f=f∧g=g∧h=h
def abT:ac:=ak afX 27 (eF apZ (aq apj))
abbrev je (a:Int)(b:LD):Int:=
 ((b.getD a.toNat []).getD 0 (.int 0)).toInt
abbrev A5 (a:Int)(b:LD):List Int:=
 [je a b,((b.getD a.toNat []).getD 1 (.int 0)).toInt,
 ((b.getD a.toNat []).getD 2 (.int 0)).toInt,((b.getD a.toNat []).getD 3 (.int 0)).toInt]
def P36:Prop:=
 ∀ (a b c:Int) (d:LD) (e:List Int) (f:LD) (g h i j:Int) (k:LD),
 lM d→
 d8 e→
 Ib a b c d f g (h,i,j,k)→
 bif decide (a=0) then
 DF b g h i j d f k∧
 (0:Int)=0∧
 [] =Ki a (h,i,j,k)∧
 e=e∧
 f=f∧
 g+1=(iB a d g (h,i,j,k)).fst∧
 (iJ (1:Int) (1:Int) (bB d) d (h,i,j,k)).fst=
 (iB a d g (h,i,j,k)).snd.fst∧
 (iJ (1:Int) (1:Int) (bB d) d (h,i,j,k)).snd.fst=
 (iB a d g (h,i,j,k)).snd.snd.fst∧
 yh h i j d k=(iB a d g (h,i,j,k)).snd.snd.snd.fst∧
 vj h i j d k=(iB a d g (h,i,j,k)).snd.snd.snd.snd
 else
 bif decide (a=1) then False
 else
 bif decide (a=2) then
 AM c g h i j f k∧
 ((1:Nat)≤9223372036854775807→
 ((ns h i j k=ns h i j k∧
 (↑(1:Nat):Int)=1∧
 (0:Int)=0∧
 e=e∧
 f=f∧
 g+1=g+1∧
 ((dN (h,i,j,k)).snd.snd.snd.fst,
 (dN (h,i,j,k)).snd.snd.snd.snd.fst,
 (dN (h,i,j,k)).snd.snd.snd.snd.snd.fst,
 (dN (h,i,j,k)).snd.snd.snd.snd.snd.snd)=
 (dN (h,i,j,k)).snd.snd.snd∧
 ((0:Int)=0∧([] :LD)= [] ∨
 (0:Int)=1∧
 [] =
 asv ae
 (kV (dN (h,i,j,k)).fst)))∧
 True)∧
 ∀ (m:LD) (o p:Int) (q:List Int) (r:LD) (s t u v:Int) (w:LD) (n_13 x:Int)
 (y:LD),
 lM m→
 m=ns h i j k∧
 o=1∧
 x=0∧
 q=e∧
 r=f∧
 s=g+1∧
 (t,u,v,w)=(dN (h,i,j,k)).snd.snd.snd∧
 (p=0∧y= [] ∨
 p=1∧
 y=
 asv ae
 (kV (dN (h,i,j,k)).fst))→
 bif decide (p<o) then
 bR p m∧
 p.toNat<m.length∧
 af (A5 p m)∧
 ((0:Int)≤0∧0≤(↑(32:Nat):Int)∧(↑(32:Nat):Int)≤(↑(32:Nat):Int)∧(0:Int)<(↑(32:Nat):Int))∧
 aR (y.length+32) (1:Nat)∧
 iR (p+1)∧
 (m=ns h i j k∧
 o=1∧
 x=0∧
 q=e∧
 r=f∧
 s=g+1∧
 (t,u,v,w)=(dN (h,i,j,k)).snd.snd.snd∧
 (p+1=0∧
 y++
 asv (fun z=> [.int z])
 (ar0 (32:Nat)
 (ar1 (0:Nat)
 (kV (A5 p m))))=
 [] ∨
 p+1=1∧
 y++
 asv (fun z=> [.int z])
 (ar0 (32:Nat)
 (ar1 (0:Nat)
 (kV (A5 p m))))=
 asv ae
 (kV (dN (h,i,j,k)).fst)))∧
 (o-(p+1)).toNat<(o-p).toNat
 else
 x=0∧
 y=Ki a (h,i,j,k)∧
 q=e∧
 r=f∧
 s=(iB a d g (h,i,j,k)).fst∧
 t=(iB a d g (h,i,j,k)).snd.fst∧
 u=(iB a d g (h,i,j,k)).snd.snd.fst∧
 v=(iB a d g (h,i,j,k)).snd.snd.snd.fst∧
 w=(iB a d g (h,i,j,k)).snd.snd.snd.snd)
 else
 bif decide (a=3) then False
 else
 True∧
 bif decide (g=bB f) then
 (0:Int)=0∧
 [] =Ki a (h,i,j,k)∧
 e=e∧
 f=f∧
 g=(iB a d g (h,i,j,k)).fst∧
 h=(iB a d g (h,i,j,k)).snd.fst∧
 i=(iB a d g (h,i,j,k)).snd.snd.fst∧
 j=(iB a d g (h,i,j,k)).snd.snd.snd.fst∧
 k=(iB a d g (h,i,j,k)).snd.snd.snd.snd
 else
 Miss 2 eS
def Ud:ac:=ak abT 36 (aq av2)
abbrev Bb (a:LD):Int:=
 (eN (ah a)).snd.snd
abbrev abf (a:Int)(b:LD):List (Nat×SV):=
 [(15,.rd [.int .u8] b),(14,.ptr 1 1),(13,.int .i64 a),
 (12,.ptr 1 0),(4,.int .i64 0),(3,.int .i64 0),
 (2,.nils),(1,.ptr 1 0)]
abbrev aao (a:LD):Blk:=
 .own (84:TypeId) [.int .i64,.int .i64,.int .i64,.sl [.int .u8]] a
abbrev Gk (a b c d e:Int)(f g:LD):Int×LD:=
 (iB (je a f) ((f.getD a.toNat []).getD 3 (.int 0)).toSl b
 (c,d,e,g)).snd.snd.snd
abbrev Az (a b:LD):Prop:=
 ∀ (c d:Int) (e:LD) (f:List Int) (g:LD) (h i j k:Int) (m o:LD),
 lM e→
 d8 f→
 lM o→
 c=bB a∧
 0≤d∧
 d≤c∧
 e=a∧
 g=oF b∧
 (h,i,j,k,m)=qN a (iu b) d.toNat∧
 o=qR a (iu b) d.toNat→
 bif decide (d<c) then
 bR d e∧
 d.toNat<e.length∧
 Ib (je d e) ((e.getD d.toNat []).getD 1 (.int 0)).toInt
 ((e.getD d.toNat []).getD 2 (.int 0)).toInt ((e.getD d.toNat []).getD 3 (.int 0)).toSl g h (i,j,k,m)∧
 aR (o.length+1) 32∧
 iR (d+1)∧
 (c=bB a∧
 0≤d+1∧
 d+1≤c∧
 e=a∧
 g=oF b∧
 ((iB (je d e)
 ((e.getD d.toNat []).getD 3 (.int 0)).toSl h (i,j,k,m)).fst,
 (iB (je d e)
 ((e.getD d.toNat []).getD 3 (.int 0)).toSl h (i,j,k,m)).snd.fst,
 (iB (je d e)
 ((e.getD d.toNat []).getD 3 (.int 0)).toSl h (i,j,k,m)).snd.snd.fst,
 (Gk d h i j k e m).fst,(Gk d h i j k e m).snd)=
 qN a (iu b) (d+1).toNat∧
 o++
 [[.int 0,
 .sl (Ki (je d e) (i,j,k,m))]] =
 qR a (iu b) (d+1).toNat)∧
 (c-(d+1)).toNat<(c-d).toNat
 else (-1:Int)=(-1:Int)∧(0:Int)=0∧e=a∧o=lV a b
abbrev aaO (a:LD):SV:=
 .int .i64 (eN (ah a)).snd.fst
def P13:Prop:=
 ∀ (a:Int) (b c:LD),
 lM b→
 lM c→
 w8 a b c→
 fk b∧
 bif decide (a≠1)&&decide (a≠2) then (-1:Int)=(-1:Int)∧(15:Int)=0∧c=c∧ [] =lV c b
 else
 bif decide (Bb b=0) then
 bif decide (a=2) then
 lM c→
 Miss 0 eS ∧
 Az c b
 else
 lM c→
 ((bB c=bB c∧
 (0:Int)≤0∧
 0≤bB c∧
 c=c∧
 oF b=oF b∧
 ((0:Int),0,136,0,
 sa (asv ae (sF a b)))=
 qN c (iu b) (0:Nat)∧
 [] =qR c (iu b) (0:Nat))∧
 True)∧
 Az c b
 else
 bif decide (Bb b≠0) then
 (eN (ah b)).snd.fst=(-1:Int)∧
 Bb b=0∧c=c∧ [] =lV c b
 else
 lM c→
 Miss 0 eS ∧
 Az c b
theorem e13:VZ Ud Tryz.f13 ahR VN=P13:=by kernel_rfl
def aid:ac:=ak Ud 13 (aq ahR)
def P62:Prop:=
 ∀ (a:LD),
 lM a→
 a.length≤1000000→∀ (b:Bool),(b=true→a= [])→bif b then [] =a else aR (0+a.length) 1∧ [] ++a=a
def acB:ac:=ak aid 62 (aq avV)
abbrev eR (a:Int)(b:LD):LD:=
 ar0 a.toNat b
def P34:Prop:=
 ∀ (a:Int) (b:LD),
 lM b→
 0≤a∧a≤bB b∧b.length≤1000000→
 lM b→
 bif decide (bB b<a) then False
 else
 ((0:Int)≤0∧0≤a∧a≤bB b)∧
 (ar1 0 (eR a b)).length≤1000000∧
 (0≤a∧a≤bB b∧bB b≤bB b)∧
 ar1 0 (eR a b)=eR a b∧
 ar1 a.toNat (ar0 (bB b).toNat b)=ar1 a.toNat b
def ae8:ac:=ak acB 34 (aq awi)
def P33:Prop:=
 ∀ (a:Int) (b:LD),
 lM b→
 0≤a∧a≤2∧a≤bB b∧b.length≤1000000∧av b→
 (0≤a∧a≤bB b∧b.length≤1000000)∧
 (lM (eR a b)→
 ((eR a b=eR a b∧
 (↑(eR a b).length:Int)=a∧
 (0:Int)≤0∧
 0≤(↑(eR a b).length:Int)∧
 0=zJ (eR a b) 0∧ar1 a.toNat b=ar1 a.toNat b)∧
 True)∧
 ∀ (c:Int) (d:LD) (e f:Int) (g:LD),
 lM d→
 d=eR a b∧
 e=a∧
 0≤f∧f≤e∧c=zJ (eR a b) f.toNat∧g=ar1 a.toNat b→
 bif decide (f<e) then
 bR f d∧
 f.toNat<d.length∧
 iR ((8:Int)*f)∧
 (0:Int)≤8*f∧
 iR (f+1)∧
 (d=eR a b∧
 e=a∧
 0≤f+1∧
 f+1≤e∧
 iq .i64 c
 (eG .i64 (IntKind.i64.wrap (je f d)) ((8:Int)*f))=
 zJ (eR a b) (f+1).toNat∧
 g=ar1 a.toNat b)∧
 (e-(f+1)).toNat<(e-f).toNat
 else c=zJ (eR a b) a.toNat∧g=ar1 a.toNat b)
def Ot:ac:=ak ae8 33 (aq atP)
theorem eD {b:Bool} {p:Prop} (h1:b=true) (h2:b=false):p:=by rw [h1] at h2;cases h2
theorem iM {p:Prop} [Decidable p] {q:Prop} (h:¬ p) (e:decide p=true):q:=absurd (au e) h
theorem jn {p:Prop} [Decidable p] {q:Prop} (h:p) (e:decide p=false):q:=absurd h (aw e)
theorem aqu:ajB:=by
 delta ajB d8
 exact fun l its n a b c s _ _=>⟨trivial,rfl,rfl,rfl,rfl,rfl,rfl,rfl,rfl⟩
theorem apM:abJ:=by
 delta abJ d8
 exact fun l its n a b c s w _ _=>⟨trivial,rfl,rfl,rfl,rfl,rfl,rfl,rfl,rfl,rfl⟩
theorem c25:(base.with akk).Ok:=ab c21 (ci (ai am c21 Tryz.func25 (by kernel_rfl) Tryz.call25 (by kernel_rfl) aqu) (ai am c21 Tryz.func25 (by kernel_rfl) Tryz.call25 (by kernel_rfl) apM))
theorem alw:ahI:=by
 delta ahI lM d8 zL wh z7 zN Jo Ks
 exact fun k t n d tg its at' a b c s _ _ h=>⟨h,aa (fun e=>aa (fun _=>⟨rfl,rfl,rfl,rfl,rfl,rfl,rfl,rfl⟩) fun e'=>eD e e') fun e=>aa (fun e'=>eD e' e) fun _=>⟨rfl,rfl,rfl,rfl,rfl,rfl,rfl,rfl,rfl⟩⟩
theorem ame:air:=by
 delta air lM d8
 exact fun _ _ _ _ _ _ _ _ _ _ _ _ _ _ h=>⟨h,rfl,rfl,rfl,rfl,rfl,rfl,rfl,rfl,rfl⟩
theorem c92:(base.with afW).Ok:=ab c25 (ci (ai am c25 Tryz.func92 (by kernel_rfl) Tryz.call92 (by kernel_rfl) alw) (ai am c25 Tryz.func92 (by kernel_rfl) Tryz.call92 (by kernel_rfl) ame))
theorem aup:P51:=by
 delta P51 lM d8 zL wh z7 zN Jo Ks bB DF yh vj Gg ik aaR
 rintro t d tg its at' a b c s _ _ ⟨rfl,hb,hd,hc,hp,hh,hs⟩
 refine ⟨trivial,rfl,aa (fun e=>iM (fun h=>h hc) e) fun _=> ?_⟩
 rw [if_pos hc]
 exact ⟨hp,aa (fun _=>⟨rfl,aa (fun e=>iM (fun h=>h hc) e) fun _=>⟨⟨fun _=>rfl,by omega,hb,aY (by omega) hs⟩,rfl,rfl,rfl,rfl,rfl,rfl,rfl,rfl⟩⟩) fun e=>eD hh e⟩
theorem c51:(base.with adZ).Ok:=ab c92 (ai am c92 Tryz.func51 (by kernel_rfl) Tryz.call51 (by kernel_rfl) aup)
theorem RP {k t n m:Int} {d:LD} (hd:av d) {x:Sp} (h:cg m x):cg (m+(d.length+6:Nat)) (iJ k t n d x):=
 aY (by have:=NK k t n d;omega) (DY (YQ k t n hd) h _)
theorem Xg:av [] :=fun i=>rI (asq i)
theorem au9:P53:=by
 delta P53 d8 zL wh z7 zN Jo Ks AM kc Fu F9 Fk Gl ns GI aa2
 rintro n tg its at' a b c s _ ⟨rfl,hp,hh,hs,hf⟩
 have ho:=RP (k:=2) (t:=3) (n:=1) Xg hs
 refine ⟨hp,aa (fun _=>⟨⟨fun h=>by omega,by omega,Xg,aY (by omega) hs⟩,⟨rfl,aY (by simp) ho⟩,aa (fun _=>⟨rfl,rfl,rfl,rfl,rfl,rfl,rfl,rfl,rfl⟩) fun e=>jn hf e⟩) fun e=>eD hh e⟩
theorem c53:(base.with afX).Ok:=ab c51 (ai am c51 Tryz.func53 (by kernel_rfl) Tryz.call53 (by kernel_rfl) au9)
theorem aly:adY:=by
 delta adY d8 zL wh z7 zN bB
 exact fun tg its n a b c s _ _=>⟨trivial,aa (fun e=>aa (fun _=>⟨rfl,rfl,rfl,rfl,rfl,rfl,rfl,rfl⟩) fun e'=>eD e e') fun e=>aa (fun e'=>eD e' e) fun _=>⟨rfl,rfl,rfl,rfl,rfl,rfl,rfl,rfl,rfl⟩⟩
theorem alH:ag8:=by
 delta ag8 d8
 exact fun _ _ _ _ _ _ _ _ _ _=>⟨trivial,rfl,rfl,rfl,rfl,rfl,rfl,rfl,rfl,rfl⟩
theorem c27:(base.with abT).Ok:=ab c53 (ci (ai am c53 Tryz.func27 (by kernel_rfl) Tryz.call27 (by kernel_rfl) aly) (ai am c53 Tryz.func27 (by kernel_rfl) Tryz.call27 (by kernel_rfl) alH))
theorem XJ {w:List Int} (h:w.length=4): [gI w 0,gI w 1,gI w 2,gI w 3] =w:=by
 match w,h with
 | [a,b,c,d],_=>rfl
theorem Aw (a:List Int):(de a).length=4:=by unfold de;exact lT _ _
theorem wI {a:List Int} (h:af a):af (de a):=by unfold de;exact fh h (kX 512)
theorem K0:∀ (f i:Nat) (x:Sp),(nn x f i).1.length=4∧af (nn x f i).1
 | 0,i,x=>⟨rfl,IN⟩
 | f+1,i,x=>by
  have h1:=Aw (tR x)
  have h2:af (de (tR x)):=wI (Ah _ _)
  rw [nn]
  generalize de (tR x)=Y at *
  split
  ·exact K0 f _ _
  ·exact ⟨h1,h2⟩
theorem aaP (x:Sp):(aC x).1.length=4:=by rw [aC,al];exact (K0 _ _ _).1
theorem aqw (x:Sp):af (aC x).1:=by rw [aC,al];exact (K0 _ _ _).2
theorem AT (a:List Int):(kV a).length=32:=j9 _ 4
theorem auO:P36:=by
 delta P36 lM iR aR bR d8 zL wh z7 zN bB DF yh vj AM ns je A5
 rintro k t n d tg its at' a b c s _ _ ⟨hp,hs,h | h | h⟩
 ·obtain ⟨rfl,rfl,hb,hd,hc,hh⟩:=h
  exact aa (fun _=>⟨⟨rfl,hb,hd,hc,hp,hh,hs⟩,rfl,rfl,rfl,rfl,rfl,rfl,rfl,rfl,rfl⟩) fun e=>jn rfl e
 ·obtain ⟨rfl,rfl,hh,hf⟩:=h
  have hx1:=aaP (iJ 2 3 1 [] (a,b,c,s))
  have hx2:=aqw (iJ 2 3 1 [] (a,b,c,s))
  refine aa (fun e=>iM (by decide) e) fun _=>aa (fun e=>iM (by decide) e) fun _=>aa (fun _=>⟨⟨rfl,hp,hh,hs,hf⟩,fun _=>⟨⟨⟨rfl,rfl,rfl,rfl,rfl,rfl,rfl,.inl ⟨rfl,rfl⟩⟩,trivial⟩,?_⟩⟩) fun e=>jn rfl e
  rintro l m i tg' its' at2 a' b' c' s' e0 e o _ ⟨rfl,rfl,rfl,rfl,rfl,rfl,hst,hio⟩
  refine aa (fun hlt=> ?_) fun hlt=> ?_
  ·have hlt:=au hlt
   obtain ⟨rfl,rfl⟩:i=0∧o= [] :=hio.resolve_right fun h=>by omega
   have ew: [((([cF (dN (a,b,c,s)).1].getD (0:Int).toNat []).getD 0 (CD.int 0))).toInt,((([cF (dN (a,b,c,s)).1].getD (0:Int).toNat []).getD 1 (CD.int 0))).toInt,((([cF (dN (a,b,c,s)).1].getD (0:Int).toNat []).getD 2 (CD.int 0))).toInt,((([cF (dN (a,b,c,s)).1].getD (0:Int).toNat []).getD 3 (CD.int 0))).toInt] =(dN (a,b,c,s)).1:=XJ hx1
   rw [ew]
   refine ⟨⟨by omega,Int.one_pos⟩,Nat.one_pos,hx2,⟨by decide,by decide,by decide,by decide⟩,⟨by decide,by decide⟩,⟨by decide,by decide⟩,⟨rfl,rfl,rfl,rfl,rfl,rfl,hst,.inr ⟨rfl,?_⟩⟩,by decide⟩
   rw [as8,agv (by rw [AT];exact Nat.le_refl _),asp]
   rfl
  ·have hlt:=aw hlt
   obtain ⟨rfl,rfl⟩:i=1∧o=(kV (dN (a,b,c,s)).1).map ae:=hio.resolve_left fun h=>by omega
   have hst':(a',b',c',s')=(iB 2 d at' (a,b,c,s)).2:=hst
   refine ⟨rfl,rfl,rfl,rfl,rfl,congrArg (·.1) hst',congrArg (·.2.1) hst',congrArg (·.2.2.1) hst',congrArg (·.2.2.2) hst'⟩
 ·obtain ⟨rfl,hat⟩:=h
  exact aa (fun e=>iM (by decide) e) fun _=>aa (fun e=>iM (by decide) e) fun _=>aa (fun e=>iM (by decide) e) fun _=>aa (fun e=>iM (by decide) e) fun _=>⟨trivial,aa (fun _=>⟨rfl,rfl,rfl,rfl,rfl,rfl,rfl,rfl,rfl⟩) fun e=>jn hat e⟩
theorem c36:(base.with Ud).Ok:=ab c27 (ai ao9 c27 Tryz.func36 (by kernel_rfl) Tryz.call36 (by kernel_rfl) auO)
theorem MH (l:LD) (x:Sp):∀ i,(qR l x i).length=i
 | 0=>rfl
 | i+1=>by rw [qR,ce,MH l x i];rfl
theorem avd:P13:=by
 delta P13 lM iR aR bR d8 bB je Bb abf aao Gk Az aaO
 rintro k p l _ _ ⟨rfl,hp,hok,hl,hpre⟩
 refine ⟨hp,aa (fun e=>by cases e) fun _=>aa (fun _=>aa (fun e=>iM (by decide) e) fun _=>fun _=>⟨⟨⟨rfl,by omega,by omega,rfl,rfl,rfl,rfl⟩,trivial⟩,?_⟩) fun e=>jn hok e⟩
 rintro n i' l' tg its at' a b c s o _ _ _ ⟨rfl,h0,h1,rfl,rfl,hst,rfl⟩
 obtain ⟨i,rfl⟩:=as6 h0
 rw [aA] at hst ⊢
 refine aa (fun h=> ?_) fun h=> ?_
 ·have h:=au h
  have hi:i<l'.length:=by omega
  have hpr:=hpre i hi
  rw [← hst] at hpr
  have hn:qN l' (iu p) (i+1)=iB (cC l' i 0) (cD l' i) at' (a,b,c,s):=by rw [qN,← hst]
  have hm:qR l' (iu p) (i+1)=qR l' (iu p) i++ [[.int 0,.sl (Ki (cC l' i 0) (a,b,c,s))]] :=by rw [qR,← hst]
  rw [show ((i:Int)+1).toNat=i+1 from by omega,hn,hm,MH]
  exact ⟨⟨by omega,h⟩,hi,hpr,⟨by omega,by omega⟩,⟨by omega,by omega⟩,⟨rfl,by omega,by omega,rfl,rfl,rfl,rfl⟩,by omega⟩
 ·have h:=aw h
  rw [show i=l'.length from by omega]
  exact ⟨rfl,rfl,rfl,(by rw [lV,al])⟩
theorem c13:(base.with aid).Ok:=ab c36 (ai VN c36 Tryz.func13 (by kernel_rfl) Tryz.call13 (by kernel_rfl) avd)
theorem auM:P62:=by
 delta P62 lM aR
 intro l _ h β hβ
 refine aa (fun e=>(hβ e).symm) fun _=>⟨⟨by omega,by omega⟩,rfl⟩
theorem c62:(base.with acB).Ok:=ab c13 (ai am c13 Tryz.func62 (by kernel_rfl) Tryz.call62 (by kernel_rfl) auM)
theorem avy:P34:=by
 delta P34 lM bB eR
 rintro n l _ ⟨h0,h1,h2⟩ _
 refine aa (fun e=> ?_) fun _=>⟨⟨by omega,h0,h1⟩,?_,⟨h0,h1,by omega⟩,by rw [as8],?_⟩
 ·have:=au e
  omega
 ·rw [as8,ajw];omega
 ·rw [aA,aww]
theorem c34:(base.with ae8).Ok:=ab c62 (ai am c62 Tryz.func34 (by kernel_rfl) Tryz.call34 (by kernel_rfl) avy)
theorem awa:P33:=by
 delta P33 lM iR bR bB je eR
 rintro w l _ ⟨h0,h1,h2,h3,hb⟩
 obtain ⟨k,rfl⟩:=as6 h0
 rw [aA]
 have hk:(l.take k).length=k:=by rw [ajw];omega
 refine ⟨⟨h0,h2,h3⟩,fun _=>⟨⟨⟨rfl,by rw [hk],by omega,by omega,rfl,rfl⟩,trivial⟩,?_⟩⟩
 rintro x l' n i' rest _ ⟨rfl,rfl,g0,g1,rfl,rfl⟩
 obtain ⟨i,rfl⟩:=as6 g0
 rw [aA]
 refine aa (fun h=> ?_) fun h=> ?_
 ·have h:=au h
  rw [show ((i:Int)+1).toNat=i+1 from by omega]
  exact ⟨⟨g0,by rw [hk];exact h⟩,by rw [hk];omega,⟨by omega,by omega⟩,by omega,⟨by omega,by omega⟩,⟨rfl,rfl,by omega,by omega,rfl,rfl⟩,by omega⟩
 ·have h:=aw h
  rw [show i=k from by omega]
  exact ⟨rfl,rfl⟩
theorem c33:(base.with Ot).Ok:=ab c34 (ai arF c34 Tryz.func33 (by kernel_rfl) Tryz.call33 (by kernel_rfl) awa)
def spR:LD:=([1,16,0,1,1,1,0,0,0,0,0,2,3,1,0,0,0,0,0,0,1,1,0,7,2,1,0,4] :List Int).map ae
def cM:LD:=([1,1,1,0,0,0,0,0,2,3,1,0,0,0,0,0] :List Int).map ae
def jc (b:Int):LD:= [[.int 0,.int 1,.int 0,.sl [[.int b]]],[.int 2,.int 0,.int 1,.sl []],[.int 4,.int 0,.int 0,.sl []]]
def kt (j:Nat):LD×LD:=(spR.drop ([19,24,27,28].getD j 28),(jc 7).take j)
def x10:Code:=match Tryz.f10.body with | some (.seq x _)=>x | _=> .skip
def z10:Code:=match Tryz.f10.body with | some (.seq _ (.seq _ z))=>z | _=> .skip
def aeI:Oper:=match Tryz.f10.body with | some (.seq _ (.seq (.region _ os _) _))=>(os[0]?).getD default | _=>default
def adD:Oper:=match Tryz.f10.body with | some (.seq _ (.seq (.region _ os _) _))=>(os[1]?).getD default | _=>default
def FK:Ct:= {ps:= [rb],bs:= [],pre:=fun | [.r l] =>l=spR | _=>False,res:=fun | [.r l] => .ret (.tup [.agg [i64,rb,.own 0],i64]) [.own 84 DZ] [.i 1,.r cM,.i 0,.r (jc 7)] | _=>ag}
def W1:List Dat→Ann:=fun _=> {cut:= [],loop:= [(5,[la 48 [(2,.ptr 0 0),(3,.ptr 1 0),(4,.ptr 2 0)] [.cells 26 [i64,rb,.own 3],.cells 27 [i64],.cells 90 [rb],.own 84 DZ] (fun
 | [.i k,.r p,.i e,.r rest,.r l] =>k=1∧p=cM∧e=0∧((rest,l)=kt 0∨(rest,l)=kt 1∨(rest,l)=kt 2∨(rest,l)=kt 3)
 | _=>False) (fun | [_,_,_,.r rest,_] =>rest.length | _=>0)])]}
end
end Go.Proofs.YteiecapbaeajdaaGreatDoor
namespace Go.Proofs.YteiecapbaeajdaaGreatDoor
open Go Go.Avc Go.Proofs
open Go.RowKit Go.Extern.Stop Go.Stop Go.Extern
set_option linter.unusedVariables false
set_option linter.unusedSimpArgs false
set_option maxRecDepth 100000
theorem akp:Uh Tryz.prog 32 2:=by
 intro vs w hvs
 refine ⟨Tryz.call32 vs w,?_⟩
 have hbin:∀ w:World,(binOp BinOp.neq 20 .nilIface .nilIface).run Tryz.prog w= .ok (.bool false) w:=fun _=>by kernel_rfl
 have hnt:Tryz.f32.ntmps=17:=by kernel_rfl
 obtain ⟨p,q,rfl⟩:∃ p q,vs= #[p,q] :=by
  rcases vs with ⟨l⟩
  match l,hvs with
  | [p,q],_=>exact ⟨p,q,rfl⟩
 refine callsD_of_wpS Tryz.func32 rfl fun c₀ cs hu=> ?_
 apply wpS_seq
 apply wpS_region
 simp [wpOpsS,go_sem,recoverD,hu,hnt,Exit.thenS]
 apply wpS_seq
 apply wpS_region
 simp [wpOpsS,go_sem,hbin,Exit.thenS]
 refine wpS_cond (t:=false) (by simp [Act.eval,Array.replicate]) ?_
 simp only [if_false,Bool.false_eq_true]
 refine wpS_of_wp (wp_skip ?_)
 have hres:Tryz.f32.results= #[] :=by kernel_rfl
 cases c₀
 simp_all [bodyPostS,results,Exit.thenS]
end Go.Proofs.YteiecapbaeajdaaGreatDoor
namespace Go.Proofs.YteiecapbaeajdaaGreatDoor
open Go Go.Avc Go.Proofs
set_option linter.unusedVariables false
set_option maxRecDepth 100000
set_option linter.unusedSimpArgs false
open Go Go.Avc
noncomputable section
abbrev Oz (a:LD):Prop:=
 (0:Int)≤1∧(1:Int)≤2∧1≤(↑a.length:Int)∧a.length≤1000000∧av a
abbrev P2 (a:LD):Prop:=
 (0:Int)≤2∧
 (2:Int)≤2∧
 2≤(↑(ar1 1 a).length:Int)∧(ar1 1 a).length≤1000000∧av (ar1 1 a)
abbrev AI (a:LD):Int:=
 zJ (ar0 2 (ar1 1 a)) 2
abbrev mC (a:LD):Int:=
 zJ (ar0 1 a) 1
abbrev p7:LD:=
 [[.int 1],[.int 1],[.int 1],[.int 0],[.int 0],[.int 0],
 [.int 0],[.int 0],[.int 2],[.int 3],[.int 1],[.int 0],
 [.int 0],[.int 0],[.int 0],[.int 0]]
abbrev Ed (a:LD):LD×LD:=
 (ar1 (AI a).toNat (ar1 2 (ar1 1 a)),[])
abbrev D6:LD:=
 [[.int 0,.int 1,.int 0,.sl [[.int 7]]],
 [.int 2,.int 0,.int 1,.sl []],
 [.int 4,.int 0,.int 0,.sl []]]
abbrev AD (a:LD):Int:=
 zJ (ar0 2 (ar1 1 (ar1 1 a))) 2
abbrev AR (a:LD):LD:=
 ar1 2 (ar1 1 (ar1 1 a))
abbrev El (a b:LD):LD×LD:=
 (ar1 (AD a).toNat (AR a),
 b++
 [[.int (mC a),.int (zJ (ar0 1 (ar1 1 a)) 1),
 .int 0,.sl (ar0 (AD a).toNat (AR a))]])
abbrev zV (a b:LD):LD×LD:=
 (ar1 2 (ar1 1 a),
 b++ [[.int (mC a),.int 0,.int (AI a),.sl []]])
abbrev Kq (a b:Int)(c d e:LD):Prop:=
 P2 c∧
 aR (d.length+1) 48∧
 (a=1∧
 e=p7∧
 b=0∧
 (zV c d=kt 0∨
 zV c d=kt 1∨
 zV c d=kt 2∨
 zV c d=kt 3))∧
 (ar1 2 (ar1 1 c)).length<c.length
abbrev Aa (a b:LD):LD×LD:=
 (ar1 1 a,b++ [[.int (mC a),.int 0,.int 0,.sl []]])
abbrev Lp (a b:Int)(c d e:LD):Prop:=
 aR (c.length+1) 48∧
 (a=1∧
 d=p7∧
 b=0∧
 (Aa e c=kt 0∨
 Aa e c=kt 1∨
 Aa e c=kt 2∨
 Aa e c=kt 3))∧
 (ar1 1 e).length<e.length
abbrev IC (a b:Int)(c d e:LD):Prop:=
 bif decide (mC c=3) then
 bif decide (mC c=3) then Lp a b d e c
 else (0:Int)=1∧ [] =p7∧(5:Int)=0∧ [] =D6
else
 bif decide (mC c=4) then Lp a b d e c
 else (0:Int)=1∧ [] =p7∧(5:Int)=0∧ [] =D6
def P10:Prop:=
 ∀ (a:LD),
 lM a→
 a=
 [[.int 1],[.int 16],[.int 0],[.int 1],[.int 1],[.int 1],
 [.int 0],[.int 0],[.int 0],[.int 0],[.int 0],[.int 2],
 [.int 3],[.int 1],[.int 0],[.int 0],[.int 0],[.int 0],
 [.int 0],[.int 0],[.int 1],[.int 1],[.int 0],[.int 7],
 [.int 2],[.int 1],[.int 0],[.int 4]] →
 Oz a∧
 P2 a∧
 (0≤AI a∧
 AI a≤(↑(ar1 2 (ar1 1 a)).length:Int)∧
 (ar1 2 (ar1 1 a)).length≤1000000)∧
 ((mC a=(1:Int)∧
 ar0 (AI a).toNat (ar1 2 (ar1 1 a))=p7∧
 (0:Int)=(0:Int)∧
 (Ed a=kt 0∨
 Ed a=kt 1∨
 Ed a=kt 2∨
 Ed a=kt 3))∧
 True)∧
 ∀ (b:Int) (c:LD) (d:Int) (e f:LD),
 lM c→
 lM e→
 b=(1:Int)∧
 c=p7∧
 d=(0:Int)∧
 ((e,f)=kt 0∨
 (e,f)=kt 1∨
 (e,f)=kt 2∨(e,f)=kt 3)→
 lM e→
 bif decide ((0:Int)<↑e.length) then
 Oz e∧
 (lM f→
 bif decide (↑f.length=(200:Int)) then
 0=(1:Int)∧ [] =p7∧(9:Int)=(0:Int)∧ [] =D6
 else
 bif decide (mC e=(0:Int)) then
 ((0:Int)≤(1:Int)∧
 (1:Int)≤(2:Int)∧
 1≤(↑(ar1 1 e).length:Int)∧
 (ar1 1 e).length≤1000000∧av (ar1 1 e))∧
 ((0:Int)≤(2:Int)∧
 (2:Int)≤(2:Int)∧
 2≤(↑(ar1 1 (ar1 1 e)).length:Int)∧
 (ar1 1 (ar1 1 e)).length≤1000000∧
 av (ar1 1 (ar1 1 e)))∧
 (0≤AD e∧
 AD e≤(↑(AR e).length:Int)∧
 (AR e).length≤1000000)∧
 aR (f.length+1) 48∧
 (b=(1:Int)∧
 c=p7∧
 d=(0:Int)∧
 (El e f=kt 0∨
 El e f=kt 1∨
 El e f=kt 2∨
 El e f=kt 3))∧
 (ar1 (AD e).toNat (AR e)).length<e.length
 else
 bif decide (mC e=(1:Int)) then
 bif decide (mC e=(1:Int)) then Kq b d e f c
 else IC b d e f c
 else
 bif decide (mC e=(2:Int)) then Kq b d e f c
 else IC b d e f c)
 else b=(1:Int)∧c=p7∧(0:Int)=(0:Int)∧f=D6
theorem EG:FK.VCD (base.with Ot) Tryz.f10.results.toList Tryz.f10.ntmps (Tryz.f10.ntmps-FK.ps.length) x10 aeI adD 6 32 2 z10 W1=P10:=by kernel_rfl
def TI:ac:=ak Ot 10 (aq FK)
theorem ut {l:LD} (h:(l.all fun r=>decide (0≤(r.getD 0 .d0).toInt)&&decide ((r.getD 0 .d0).toInt<256))=true):av l:=fun i=>by
 rcases Nat.lt_or_ge i l.length with hi | hi
 ·have:=List.all_eq_true.1 h l[i] (List.getElem_mem hi)
  simp only [cZ,aQ] at this
  have e:l.getD i [] =l[i] :=by rw [ay,cH hi];rfl
  unfold rv
  rw [e]
  exact this
 ·exact rI hi
theorem jG {b:Bool} {p q:Prop} (h:b=true) (hp:p):bif b then p else q:=by rw [h];exact hp
theorem cf {b:Bool} {p q:Prop} (h:b=false) (hq:q):bif b then p else q:=by rw [h];exact hq
theorem aug:P10:=by
 delta P10 lM aR Oz P2 AI mC p7 Ed D6 AD AR El zV Kq Aa Lp IC
 rintro l _ rfl
 refine ⟨?_,?_,?_,?_,?_⟩
 rotate_left 4
 ·rintro k p e rest l _ _ ⟨rfl,rfl,rfl,h⟩
  rcases h with h | h | h | h
  all_goals
   cases h
   repeat' first
    | exact trivial
    | exact ut (by decide+kernel)
    | refine jG (by decide+kernel) ?_
    | refine cf (by decide+kernel) ?_
    | exact .inl rfl
    | exact .inr (.inl rfl)
    | exact .inr (.inr (.inl rfl))
    | exact .inr (.inr (.inr rfl))
    | apply And.intro
    | rfl
    | decide+kernel
    | intro _
 all_goals
  repeat' first
   | exact trivial
   | exact ut (by decide+kernel)
   | exact .inl rfl
   | apply And.intro
   | rfl
   | decide+kernel
theorem awc:b9 (base.with Ot) 10 (aq FK):=U8 (fn:=Tryz.f10) (x:=x10) (z:=z10) (i1:=1) (o1:=aeI) (o2:=adD) (t:=6) (fc:=32) (nc:=2) (k:=Tryz.f10.ntmps-FK.ps.length) (ct:=FK) c33 Tryz.func10 (by kernel_rfl) (by kernel_rfl) (by kernel_rfl) (by kernel_rfl) akp W1 (by kernel_rfl) (fun vs w _=>Tryz.call10 vs w) (by rw [EG];exact aug)
theorem c10:(base.with TI).Ok:=ab c33 awc
def ct9:Ct:= {ps:= [],bs:= [],pre:=fun _=>True,res:=fun _=> .ret .bool [] [.b true]}
abbrev OF:LD:=
 [[.int 1],[.int 16],[.int 0],[.int 1],[.int 1],[.int 1],
 [.int 0],[.int 0],[.int 0],[.int 0],[.int 0],[.int 2],
 [.int 3],[.int 1],[.int 0],[.int 0],[.int 0],[.int 0],
 [.int 0],[.int 0],[.int 1],[.int 1],[.int 0],[.int 7],
 [.int 2],[.int 1],[.int 0],[.int 4]]
abbrev Bq:LD:=
 [[.int 1],[.int 1],[.int 1],[.int 0],[.int 0],[.int 0],
 [.int 0],[.int 0],[.int 2],[.int 3],[.int 1],[.int 0],
 [.int 0],[.int 0],[.int 0],[.int 0]]
abbrev Pj:LD:=
 [[.int 2,.int 0,.int 1,.sl []],
 [.int 4,.int 0,.int 0,.sl []]]
abbrev Ij:LD:=
 [.int 0,.int 1,.int 0,.sl [[.int 7]]] ::Pj
abbrev Ow:LD:=
 [.int 0,.int 1,.int 0,.sl [[.int 8]]] ::Pj
abbrev nB:LD:=
 lV (jc 7) cM
abbrev OD:Bool:=
 decide ((0:Int)≠0)||decide ((0:Int)≠0)||decide ((↑nB.length:Int)≠3)
abbrev EO:Bool:=
 OD ||
 decide ((↑(lV (jc 8) cM).length:Int)≠3)
abbrev AL:Bool:=
 EO ||
 decide
 ((((lV Ij Bq).getD 2 []).getD 0
 (.int 0)).toInt≠
 (0:Int))
abbrev Pv:Bool:=
 EO||decide (((nB.getD (aw1 2) []).getD 0 .d0).toInt≠0)
abbrev v8:LD:=
 ((nB.getD (aw1 1) []).getD 1 .d0).toSl
abbrev KH:LD:=
 (((lV (jc 8) cM).getD (aw1 1) []).getD
 1 .d0).toSl
def P9:Prop:=
 True→
 OF=OF∧
 ((bw false (decide ((0:Int)≠0))=true→lM (jc 7))→
 w8 1 Bq Ij∧
 ((0:Int)≤0∧(0:Int)<(↑(3:Nat):Int))∧
 (0:Nat)<(3:Nat)∧
 w8 1 Bq Ow∧
 ((bw false (decide ((0:Int)≠0)||decide ((0:Int)≠0))=true→
 lM nB)→
 (bw false OD=true→
 lM
 (lV (jc 8) cM))→
 ((!EO)=true→bR 2 nB)∧
 ((!EO)=true→(2:Nat)<nB.length)∧
 ((!AL)=true→bR 1 nB)∧
 ((!AL)=true→(1:Nat)<nB.length)∧
 ((bw false Pv=true→lM v8)→
 ((!(AL||decide ((↑v8.length:Int)≠32)))=true→
 bR 1
 (lV (jc 8) cM))∧
 ((!(AL||decide ((↑v8.length:Int)≠32)))=true→
 (1:Nat) <
 (lV (jc 8)
 cM).length)∧
 ((bw false (Pv||decide ((↑v8.length:Int)≠32))=
 true→
 lM KH)→
 bif
 AL||decide ((↑v8.length:Int)≠32) ||
 decide ((↑KH.length:Int)≠32) then
 false=true
 else
 bR 1 nB∧
 (1:Nat)<nB.length∧
 bR 1
 (lV (jc 8)
 cM)∧
 (1:Nat) <
 (lV (jc 8)
 cM).length∧
 decide
 (ah
 (((lV Ij
 Bq).getD
 1 []).getD
 1 (.int 0)).toSl≠
 ah
 (((lV Ow
 Bq).getD
 1 []).getD
 1 (.int 0)).toSl)=
 true))))
theorem e9:VZ TI Tryz.f9 ct9 am=P9:=by kernel_rfl
def sp9:ac:=ak TI 9 (aq ct9)
end
end Go.Proofs.YteiecapbaeajdaaGreatDoor
