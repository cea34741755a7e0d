/-
 A story is read, whatever bytes there are: the condition is met.
-/
import Derived.Test.YteiecapbaeajdaaGreatDoorJ11
import Derived.Test.YteiecapbaeajdaaGreatDoorJ8
namespace Go.Proofs.YteiecapbaeajdaaGreatDoor
open Go Go.Avc Go.Proofs
set_option linter.unusedVariables false
set_option linter.unusedSimpArgs false
set_option maxRecDepth 100000
open Go Go.Avc
set_option maxRecDepth 10000
noncomputable section
theorem E3 {l:LD} {k i:Nat} (h:i<k):rv (l.take k) i=rv l i:=by
 rw [rv,rv,aw (l:=List.take k l),List.getElem?_take,if_pos h,← aw]
theorem qu (l:LD) (k i:Nat):rv (l.drop k) i=rv l (k+i):=by
 rw [rv,rv,aw (l:=List.drop k l),List.getElem?_drop,← aw]
theorem fV {l:LD} (h:ar l) (k:Nat):ar (l.drop k):=fun i=>by rw [qu];exact h _
theorem n7 (l:LD) (k i:Nat):bX (l.drop k) i=bX l (k+i):=by rw [bX,bX,qu,qu];rfl
theorem Ev {n:Int} (h:0≤n∧n<256):IntKind.i64.wrap n=n:=wrap_i64 (by omega) (by omega)
theorem nu1 {l:LD} (h:ar l):ka (l.take 1) 1=rv l 0:=by
 obtain ⟨x,hx⟩:=aB (h 0).1
 have h1:=(h 0).2
 have:=Di (a:=0) (x:=x) (i:=0) (by decide) (by omega) (by decide)
 show iE .i64 (0:Int) (de .i64 (IntKind.i64.wrap (rv (l.take 1) 0)) (8*((0:Nat):Int)))=rv l 0
 rw [E3 (by decide),Ev (h 0),hx]
 exact this.trans (by omega)
theorem nu2 {l:LD} (h:ar l):ka (l.take 2) 2=(bX l 0:Int):=by
 obtain ⟨x,hx⟩:=aB (h 0).1
 obtain ⟨y,hy⟩:=aB (h 1).1
 have h0:=(h 0).2
 have h1:=(h 1).2
 have a0:=Di (a:=0) (x:=x) (i:=0) (by decide) (by omega) (by decide)
 have a1:=Di (a:=x) (x:=y) (i:=1) (by omega) (by omega) (by decide)
 show iE .i64 (iE .i64 (0:Int) (de .i64 (IntKind.i64.wrap (rv (l.take 2) 0)) (8*((0:Nat):Int)))) (de .i64 (IntKind.i64.wrap (rv (l.take 2) 1)) (8*((1:Nat):Int)))=_
 rw [E3 (by decide),E3 (by decide),Ev (h 0),Ev (h 1),bX,hx,hy]
 have a0':iE .i64 (0:Int) (de .i64 (x:Int) (8*((0:Nat):Int)))=(x:Int):=a0.trans (by omega)
 rw [a0']
 exact a1.trans (by omega)
theorem eF {l:LD} (h:bP l) (k:Nat):bP (l.drop k):=by
 have:=zf h k l.length
 rwa [List.take_length] at this
theorem G6 {l:LD} (h:l.length<3+bX l 1):(bf l).1=2:=by rw [bf,ak,if_pos h]
theorem tq {l:LD} (hn:¬ l.length<3+bX l 1) {c:Int} {x:LD} (hT:(c,x)=eK l.length (l.drop (3+bX l 1)) []) (hc:c≠0):(bf l).1=c:=by
 rw [bf,ak,if_neg hn,← hT]
 show (if c=0 then _ else _:Int×Int×LD×LD).1=c
 rw [if_neg hc]
theorem UG {l:LD} (hn:¬ l.length<3+bX l 1) {x:LD} (hT:(0,x)=eK l.length (l.drop (3+bX l 1)) []):bf l=(0,rv l 0,(l.drop 3).take (bX l 1),x):=by
 rw [bf,ak,if_neg hn,← hT]
 exact if_pos rfl
theorem lf {l:LD} {c:Int} {A:Prop} (h:(bf l).1=c) (hc:c≠0):bif decide ((bf l).1=0) then A else (0:Int)=0∧c=(bf l).1:=by
 rw [h,decide_eq_false hc]
 exact ⟨rfl,rfl⟩
theorem Ve {f:Nat} {r cs:LD} (hf:r.length≤f) (h0:¬ r.length=0):∃ f',r.length≤f'+1∧eK f r cs=if cs.length=200 then (9,[]) else
  if rv r 0=0 then (if r.length<4+bX r 2 then (2,[]) else eK f' (r.drop (4+bX r 2)) (cs++ [[.int 0,.int (rv r 1),.int 0,.sl ((r.drop 4).take (bX r 2))]]))
  else if rv r 0=1∨rv r 0=2 then (if r.length<3 then (2,[]) else eK f' (r.drop 3) (cs++ [[.int (rv r 0),.int 0,.int (bX r 1),.sl []]]))
  else if rv r 0=3∨rv r 0=4 then eK f' (r.drop 1) (cs++ [[.int (rv r 0),.int 0,.int 0,.sl []]])
  else (5,[]):=by
 obtain ⟨f',rfl⟩:∃ f',f=f'+1:=⟨f-1,by omega⟩
 exact ⟨f',hf,by rw [eK,if_neg h0]⟩
theorem UK {f:Nat} {r cs:LD} (h0:r.length=0):eK f r cs=(0,cs):=by
 cases f with
 | zero=>rfl
 | succ f=>rw [eK,if_pos h0]
set_option maxHeartbeats 2000000 in
theorem akc:R8:=by
 delta R8 lM aR BE qb Mn nH MV jM nR jT zm yO w7 oY pJ CS Ie Hy IK JX Il
 rintro l _ ⟨hB,hlen⟩
 have hA:=dK hB
 have q1:ka (List.take 1 l) 1=rv l 0:=nu1 hA
 have q2:ka (List.take 2 (List.drop 1 l)) 2=(bX l 1:Int):=by rw [nu2 (fV hA 1),n7]
 have d2:List.drop 2 (List.drop 1 l)=l.drop 3:=by rw [List.drop_drop]
 have l1:(List.drop 1 l).length=l.length-1:=cj
 have l3:(List.drop 3 l).length=l.length-3:=cj
 rw [q1,q2,d2,ax,l1,l3]
 refine aa (fun e=>lf (G6 (by have:=av e;omega)) (by decide)) fun e=>⟨⟨by decide,by decide,by have:=au e;omega,by omega,hA⟩,aa (fun e=>lf (G6 (by have:=av e;omega)) (by decide)) fun e=>⟨⟨by decide,by decide,by have:=au e;omega,by omega,fV hA 1⟩,
  aa (fun e2=>lf (G6 (by have:=av e2;have:=au e;omega)) (by decide)) fun e2=> ?_⟩⟩
 have e:=au e
 have e2:=au e2
 have hn:¬ l.length<3+bX l 1:=by omega
 refine ⟨⟨by omega,by omega,by omega⟩,⟨⟨rfl,rfl,rfl,hn,eF (eF hB _) _,by rw [cj];omega,by decide,l.length,by rw [cj];omega,by rw [List.drop_drop]⟩,trivial⟩,?_⟩
 rintro n p z r cs _ _ ⟨rfl,rfl,rfl,_,hr,hrl,hcs,f,hf,hT⟩ _
 have hA':=dK hr
 have k1:ka (List.take 1 r) 1=rv r 0:=nu1 hA'
 have k2:ka (List.take 1 (List.drop 1 r)) 1=rv r 1:=by rw [nu1 (fV hA' 1),qu]
 have k3:ka (List.take 2 (List.drop 1 r)) 2=(bX r 1:Int):=by rw [nu2 (fV hA' 1),n7]
 have k4:ka (List.take 2 (List.drop 1 (List.drop 1 r))) 2=(bX r 2:Int):=by rw [nu2 (fV (fV hA' 1) 1),n7,n7]
 have e2:List.drop 1 (List.drop 1 r)=r.drop 2:=by rw [List.drop_drop]
 have e4:List.drop 2 (List.drop 2 r)=r.drop 4:=by rw [List.drop_drop]
 have e3:List.drop 2 (List.drop 1 r)=r.drop 3:=by rw [List.drop_drop]
 have m1:(List.drop 1 r).length=r.length-1:=cj
 have m2:(List.drop 2 r).length=r.length-2:=cj
 have m3:(List.drop 3 r).length=r.length-3:=cj
 have m4:(List.drop 4 r).length=r.length-4:=cj
 rw [k1,k2,k3,k4,e2,e4,e3,ax,m1,m2,m3,m4]
 refine aa (fun h=> ?_) fun h=> ?_
 ·have h:=av h
  obtain ⟨f',hf',hs⟩:=Ve (cs:=cs) hf (by omega)
  rw [hs] at hT
  refine aa (fun e=>absurd (av e) (by omega)) fun _=>⟨⟨by decide,by decide,by omega,by omega,hA'⟩,fun _=>aa (fun e=> ?_) fun e=> ?_⟩
  ·have e:=av e
   rw [if_pos (by omega)] at hT
   exact lf (tq hn hT (by decide)) (by decide)
  have e:=au e
  rw [if_neg (by omega)] at hT
  have happ:∀ x:List CD,(cs++ [x]).length≤200:=fun x=>by rw [cx];show cs.length+1≤200;omega
  refine aa (fun g=> ?_) fun g=> ?_
  ·have g:=av g
   rw [if_pos g] at hT
   have hbad:r.length<4+bX r 2→(bf l).1=2:=fun h=>by
    rw [if_pos h] at hT
    exact tq hn hT (by decide)
   refine aa (fun e=>lf (hbad (by have:=av e;omega)) (by decide)) fun e1=>⟨⟨by decide,by decide,by have:=au e1;omega,by omega,fV hA' 1⟩,
    aa (fun e=>lf (hbad (by have:=av e;omega)) (by decide)) fun e2=>⟨⟨by decide,by decide,by have:=au e2;omega,by omega,fV hA' 2⟩,
    aa (fun e=>lf (hbad (by have:=av e;omega)) (by decide)) fun e3=> ?_⟩⟩
   have e2:=au e2
   have e3:=au e3
   rw [if_neg (by omega)] at hT
   refine ⟨⟨by omega,by omega,by omega⟩,⟨by omega,by omega⟩,⟨rfl,rfl,rfl,hn,eF (eF hr _) _,by rw [cj];omega,happ _,f',by rw [cj];omega,?_⟩,by rw [cj];omega⟩
   rw [g,List.drop_drop]
   exact hT
  have g:=au g
  rw [if_neg g] at hT
  have c9:¬ rv r 0=1→¬ rv r 0=2→¬ rv r 0=3→¬ rv r 0=4→(bf l).1=5:=fun a b c d=>by
   rw [if_neg (by omega),if_neg (by omega)] at hT
   exact tq hn hT (by decide)
  have c3:¬ rv r 0=1→¬ rv r 0=2→rv r 0=3∨rv r 0=4→eK f' (List.drop 1 r) (cs++ [[.int (rv r 0),.int 0,.int 0,.sl []]])=eK l.length (List.drop (3+bX l 1) l) [] :=fun a b c=>by
   rwa [if_neg (by omega),if_pos c] at hT
  have c12:rv r 0=1∨rv r 0=2→r.length<3→(bf l).1=2:=fun a b=>by
   rw [if_pos a,if_pos b] at hT
   exact tq hn hT (by decide)
  have c12':rv r 0=1∨rv r 0=2→¬ r.length<3→eK f' (List.drop 3 r) (cs++ [[.int (rv r 0),.int 0,.int (bX r 1),.sl []]])=eK l.length (List.drop (3+bX l 1) l) [] :=fun a b=>by
   rwa [if_pos a,if_neg b] at hT
  refine aa (fun g1=>aa (fun _=> ?_) fun e=>cN g1 e) fun g1=>aa (fun g2=> ?_) fun g2=>aa (fun g3=>aa (fun _=> ?_) fun e=>cN g3 e) fun g3=>aa (fun g4=> ?_) fun g4=> ?_
  ·have g1:=av g1
   refine aa (fun e=>lf (c12 (.inl g1) (by have:=av e;omega)) (by decide)) fun e=> ?_
   have e:=au e
   exact ⟨⟨by decide,by decide,by omega,by omega,fV hA' 1⟩,⟨by omega,by omega⟩,⟨rfl,rfl,rfl,hn,eF hr _,by omega,happ _,f',by omega,c12' (.inl g1) (by omega)⟩,by omega⟩
  ·have g2:=av g2
   refine aa (fun e=>lf (c12 (.inr g2) (by have:=av e;omega)) (by decide)) fun e=> ?_
   have e:=au e
   exact ⟨⟨by decide,by decide,by omega,by omega,fV hA' 1⟩,⟨by omega,by omega⟩,⟨rfl,rfl,rfl,hn,eF hr _,by omega,happ _,f',by omega,c12' (.inr g2) (by omega)⟩,by omega⟩
  ·exact ⟨⟨by omega,by omega⟩,⟨rfl,rfl,rfl,hn,eF hr _,by omega,happ _,f',by omega,c3 (au g1) (au g2) (.inl (av g3))⟩,by omega⟩
  ·exact ⟨⟨by omega,by omega⟩,⟨rfl,rfl,rfl,hn,eF hr _,by omega,happ _,f',by omega,c3 (au g1) (au g2) (.inr (av g4))⟩,by omega⟩
  ·exact lf (c9 (au g1) (au g2) (au g3) (au g4)) (by decide)
 ·have h:=au h
  rw [UK (by omega)] at hT
  rw [UG hn hT]
  exact aa (fun _=>⟨rfl,rfl,rfl,rfl⟩) fun e=>cL rfl e
theorem ami:da (base.with GP) 10 (ap zY):=Sw (fn:=Tryz.f10) (x:=UU) (z:=Ux) (i1:=1) (o1:=NA) (o2:=NR) (t:=6) (fc:=32) (nc:=2) (nt:=17) (k5:=15) (n1:=2) (g:=MA) (k:=Tryz.f10.ntmps-zY.ps.length) (ct:=zY) acz adX Tryz.func10 (by kernel_rfl) (by kernel_rfl) (by kernel_rfl) (by kernel_rfl) QC afu rfl P5 (by kernel_rfl) (fun vs w _=>Tryz.call10 vs w) (by have h:=arl;unfold ac9 at h;rw [h];exact akc)
theorem ac2:(base.with Vr).Ok:=ac acz ami
def ft (l:LD) (i:Int):Int:=if i+2 > l.length then -1 else bX l i.toNat
def arq:Ct:= {ps:= [rb,i64],bs:= [],pre:=fun | [.r l,.i i] =>ar l∧0≤i∧i≤1000000 | _=>False,res:=fun | [.r l,.i i] => .ret i64 [] [.i (ft l i)] | _=>ag}
def adg:Ct:= {ps:= [rb],bs:= [],pre:=fun | [.r l] =>bP l∧l.length≤100000 | _=>False,res:=fun
 | [.r l] => .ite (decide ((bf l).1=0)) (.ret (.tup [.agg [i64,rb,.own 0],i64]) [.own 94 fE] [.i (bf l).2.1,.r (bf l).2.2.1,.i 0,.r (bf l).2.2.2]) (.ret (.tup [.agg [i64,.nils,.nils],i64]) [] [.i 0,.i (bf l).1])
 | _=>ag}
def UP:List Dat→Ann
 | [.r l] => {cut:= [],loop:= [(7,[la 118 [(0,rb),(2,.ptr 0 0),(4,.ptr 1 0),(6,.ptr 2 0),(7,i64)] [.cells 32 [i64,.nils,.nils],.cells 32 [i64,.nils,.nils],.cells 32 [i64,rb,.own 3],.own 94 fE] (fun
  | [.r l',.i i,.i z1,.i z2,.i k,.r p,.r cs] =>l'=l∧z2=0∧k=rv l 0∧p=(l.drop 3).take (bX l 1)∧¬ l.length<3+bX l 1∧0≤i∧i≤l.length∧cs.length≤200∧∃ f,(l.drop i.toNat).length≤f∧eK f (l.drop i.toNat) cs=eK l.length (l.drop (3+bX l 1)) []
  | _=>False) (fun | [.r l',.i i,_,_,_,_,_] =>(l'.length-i).toNat | _=>0)])]}
 | _=> {cut:= [],loop:= []}
def nY (l:LD) (n m:Int):Nat→Bool
 | 0=>false
 | i+1=>nY l n m i||decide (n<(cD l i).length)||decide (m<cC l i 2)
def adU:Ct:= {ps:= [.agg [i64,rb,.rd fE],i64,i64,i64],bs:= [],pre:=fun _=>True,res:=fun
 | [.i _,.r p,.r l,.i c,.i n,.i m] => .ret .bool [] [.b (nY l n m l.length||decide (c<l.length)||decide (1000<(p.length:Int)))]
 | _=>ag}
def Ww:List Dat→Ann
 | [.i _,.r p,.r l,.i c,.i n,.i m] => {cut:= [],loop:= [(2,[la 41 [(1,i64),(2,i64),(3,i64),(4,.ptr 0 0),(12,.rd fE),(13,i64),(14,i64)] [.cells 32 [i64,rb,.rd fE]] (fun
  | [.i c',.i n',.i m',.r l',.i k,.i i,.i _,.r p',.r l''] =>c'=c∧n'=n∧m'=m∧l'=l∧k=l.length∧0≤i∧i≤k∧p'=p∧l''=l∧nY l n m i.toNat=false
  | _=>False) (fun | [_,_,_,_,.i k,.i i,_,_,_] =>(k-i).toNat | _=>0)])]}
 | _=> {cut:= [],loop:= []}
abbrev I9:Pat:= .agg [.rd eR,i64,i64]
def mU (it:LD) (p e:Int):Int:=if e=0∧p<it.length then 12 else e
def aks:Ct:= {ps:= [I9],bs:= [],pre:=fun _=>True,res:=fun | [.r it,.i p,.i e] => .ret (.tup [I9,i64]) [] [.r it,.i p,.i (mU it p e),.i (mU it p e)] | _=>ag}
def lz (e w:Int):Int:=if e=0 then w else e
def akQ:Ct:= {ps:= [I9,i64],bs:= [],pre:=fun _=>True,res:=fun | [.r it,.i p,.i e,.i w] => .ret (.tup [I9,i64]) [] [.r it,.i p,.i (lz e w),.i (lz e w)] | _=>ag}
def cA (it:LD) (p e k t n:Int):Int×Int:=if e≠0 then (p,e) else if ci it p k t n=false then (p,10) else (p+1,0)
def aia:Ct:= {ps:= [I9,i64,i64,i64],bs:= [],pre:=fun | [.r it,.i p,.i e,.i k,.i t,.i n] =>0≤p∧p≤1000000 | _=>False,res:=fun
 | [.r it,.i p,.i e,.i k,.i t,.i n] => .ret (.tup [I9,i64]) [] [.r it,.i (cA it p e k t n).1,.i (cA it p e k t n).2,.i (cA it p e k t n).2]
 | _=>ag}
abbrev aZ (a:LD):Int:=
 ↑a.length
abbrev qG (a:Int)(b:LD):Int:=
 IntKind.i64.wrap ((b.getD (a+1).toNat []).getD 0 (.int 0)).toInt
abbrev fN (a:Int)(b:LD):Int:=
 IntKind.i64.wrap ((b.getD a.toNat []).getD 0 (.int 0)).toInt
def P35:Prop:=
 ∀ (a:LD) (b:Int),
 lM a→
 ar a∧0≤b∧b≤1000000→
 iR (b+2)∧
 (lM a→
 bif decide (aZ a<b+2) then (-1:Int)=ft a b
 else
 bR b a∧
 b.toNat<a.length∧
 iR (b+1)∧
 bR (b+1) a∧
 (b+1).toNat<a.length∧
 iR ((256:Int)*qG b a)∧
 iR (fN b a+256*qG b a)∧
 fN b a+256*qG b a=
 ft a b)
def NB:af:=aj Vr 35 (ap arq)
abbrev uy (a:LD):Bool:=
 decide ((bf a).fst=0)
abbrev Jk (a:LD):Prop:=
 [] =(bf a).snd.snd.fst∧(2:Int)=0∧ [] =(bf a).snd.snd.snd
abbrev qF (a:LD):Prop:=
 ¬a.length<3+bX a 1
abbrev rt (a:LD):Int×LD:=
 eK a.length (List.drop (3+bX a 1) a) []
abbrev uC (a b:LD):Prop:=
 a=List.take (bX b 1) (List.drop 3 b)
abbrev cU (a:Int)(b:LD):Int:=
 a+1+3+ft b (a+1+1)
abbrev BS (a:Int)(b:LD):Prop:=
 bif uy b then a=(bf b).snd.fst∧Jk b
else a=0∧2=(bf b).fst
abbrev uk (a:LD):Prop:=
 aR (a.length+1) 48
abbrev Ee (a:Int)(b c:LD):LD:=
 b++
 [[.int (fN a c),.int (qG a c),
 .int (ft c (cU a c)),
 .sl (List.drop (a+1+3).toNat (List.take (cU a c).toNat c))]]
abbrev Ed (a:Int)(b c:LD):LD:=
 b++
 [[.int (fN a c),.int (qG a c),.int 0,
 .sl (List.drop (a+1+3).toNat (List.take (cU a c).toNat c))]]
def P11:Prop:=
 ∀ (a:LD),
 lM a→
 bP a∧a.length≤100000→
 (ar a∧(0:Int)≤1∧(1:Int)≤1000000)∧
 ((bw false (decide (ft a (1:Int)<(0:Int)))=true→lM a)→
 ((!decide (ft a (1:Int)<(0:Int)))=true→
 iR ((3:Int)+ft a (1:Int)))∧
 bif
 decide (ft a (1:Int)<(0:Int)) ||
 decide (aZ a<(3:Int)+ft a (1:Int)) then
 bif uy a then 0=(bf a).snd.fst∧Jk a
 else (0:Int)=0∧2=(bf a).fst
 else
 bR (0:Int) a∧
 0<a.length∧
 iR ((3:Int)+ft a (1:Int))∧
 ((0:Int)≤3∧
 (3:Int)≤3+ft a (1:Int)∧
 (3:Int)+ft a 1≤aZ a)∧
 iR ((3:Int)+ft a (1:Int))∧
 ((a=a∧
 (0:Int)=0∧
 IntKind.i64.wrap ((a.getD 0 []).getD 0 (CD.int 0)).toInt=rv a 0∧
 List.drop 3 (List.take ((3:Int)+ft a (1:Int)).toNat a)=
 List.take (bX a 1) (List.drop 3 a)∧
 qF a∧
 (0:Int)≤3+ft a (1:Int)∧
 (3:Int)+ft a 1≤aZ a∧
 0≤200∧
 ∃ b,
 (List.drop ((3:Int)+ft a (1:Int)).toNat a).length≤b∧
 eK b (List.drop ((3:Int)+ft a (1:Int)).toNat a) [] =
 rt a)∧
 True)∧
 ∀ (b:LD) (c n_1 d e:Int) (f g:LD),
 lM b→
 lM f→
 (b=a∧
 d=0∧
 e=rv a 0∧
 uC f a∧
 qF a∧
 0≤c∧
 c≤aZ a∧
 g.length≤200∧
 ∃ h,
 (List.drop c.toNat a).length≤h∧
 eK h (List.drop c.toNat a) g=rt a)→
 lM b→
 bif decide (c<aZ b) then
 bR c b∧
 c.toNat<b.length∧
 iR (c+1)∧
 (lM g→
 bif decide (aZ g=200) then
 bif uy a then
 d=(bf a).snd.fst∧
 [] =(bf a).snd.snd.fst∧
 (9:Int)=0∧ [] =(bf a).snd.snd.snd
 else d=0∧9=(bf a).fst
 else
 bif decide ((4:Int)<fN c b) then
 bif uy a then
 d=(bf a).snd.fst∧
 [] =(bf a).snd.snd.fst∧
 (5:Int)=0∧ [] =(bf a).snd.snd.snd
 else d=0∧5=(bf a).fst
 else
 bif decide (fN c b=0) then
 iR (c+1+1)∧
 (ar b∧
 0≤c+1+1∧c+1+1≤1000000)∧
 ((bw false (decide (ft b (c+1+1)<(0:Int)))=true→
 lM b)→
 ((!decide (ft b (c+1+1)<(0:Int)))=true→
 iR (c+1+3))∧
 ((!decide (ft b (c+1+1)<(0:Int)))=true→
 iR (cU c b))∧
 bif
 decide (ft b (c+1+1)<(0:Int)) ||
 decide (aZ b<cU c b) then
 BS d a
 else
 bR (c+1) b∧
 (c+1).toNat<b.length∧
 iR (c+1+3)∧
 iR (c+1+3)∧
 iR (cU c b)∧
 (0≤c+1+3∧
 c+1+3≤cU c b∧
 cU c b≤aZ b)∧
 iR (c+1+3)∧
 iR (cU c b)∧
 bif
 decide (fN c b=1) ||
 decide (fN c b=2) then
 (ar b∧
 0≤cU c b∧
 cU c b≤1000000)∧
 bif
 decide
 (ft b
 (cU c b) <
 (0:Int)) then
 BS d a
 else
 iR
 (cU c b+2)∧
 uk g∧
 (b=a∧
 d=0∧
 e=rv a 0∧
 uC f a∧
 qF a∧
 0≤cU c b+2∧
 cU c b+2≤
 aZ a∧
 (Ee c g b).length≤200∧
 ∃ h,
 (List.drop
 (cU c b+
 (2:Int)).toNat
 a).length≤
 h∧
 eK h
 (List.drop
 (cU c b+
 (2:Int)).toNat
 a)
 (Ee c g b)=
 rt a)∧
 (aZ b -
 (cU c b+2)).toNat <
 (aZ b-c).toNat
 else
 uk g∧
 (b=a∧
 d=0∧
 e=rv a 0∧
 uC f a∧
 qF a∧
 0≤cU c b∧
 cU c b≤
 aZ a∧
 (Ed c g b).length≤200∧
 ∃ h,
 (List.drop (cU c b).toNat
 a).length≤
 h∧
 eK h
 (List.drop (cU c b).toNat a)
 (Ed c g b)=
 rt a)∧
 (aZ b -
 cU c b).toNat <
 (aZ b-c).toNat)
 else
 bif
 decide (fN c b=1) ||
 decide (fN c b=2) then
 (ar b∧0≤c+1∧c+1≤1000000)∧
 bif decide (ft b (c+1)<(0:Int)) then
 BS d a
 else
 iR (c+1+2)∧
 uk g∧
 (b=a∧
 d=0∧
 e=rv a 0∧
 uC f a∧
 qF a∧
 0≤c+1+2∧
 c+1+2≤aZ a∧
 (g++
 [[CD.int (fN c b),CD.int 0,
 CD.int (ft b (c+1)),
 CD.sl []]]).length≤
 200∧
 ∃ h,
 (List.drop (c+1+2).toNat a).length≤h∧
 eK h (List.drop (c+1+2).toNat a)
 (g++
 [[CD.int (fN c b),CD.int 0,
 CD.int (ft b (c+1)),
 CD.sl []]])=
 rt a)∧
 (aZ b-(c+1+2)).toNat <
 (aZ b-c).toNat
 else
 uk g∧
 (b=a∧
 d=0∧
 e=rv a 0∧
 uC f a∧
 qF a∧
 0≤c+1∧
 c+1≤aZ a∧
 (g++
 [[CD.int (fN c b),CD.int 0,
 CD.int 0,CD.sl []]]).length≤
 200∧
 ∃ h,
 (List.drop (c+1).toNat a).length≤h∧
 eK h (List.drop (c+1).toNat a)
 (g++
 [[CD.int (fN c b),CD.int 0,
 CD.int 0,CD.sl []]])=
 rt a)∧
 (aZ b-(c+1)).toNat <
 (aZ b-c).toNat)
 else
 bif uy a then
 e=(bf a).snd.fst∧
 f=(bf a).snd.snd.fst∧
 (0:Int)=0∧g=(bf a).snd.snd.snd
 else
 Miss 2 eS)
theorem e11:IW NB Tryz.f11 adg UP=P11:=by kernel_rfl
def My:af:=aj NB 11 (ap adg)
def P12:Prop:=
 ∀ (n:Int) (a b:LD) (c d e:Int),
 lM a→
 lM b→
 True→
 lM b→
 ((c=c∧
 d=d∧
 e=e∧
 b=b∧
 aZ b=aZ b∧
 (0:Int)≤0∧
 0≤aZ b∧a=a∧b=b∧nY b d e 0=false)∧
 True)∧
 ∀ (f g h:Int) (i:LD) (j k n_8:Int) (m o:LD),
 lM i→
 lM m→
 lM o→
 f=c∧
 g=d∧
 h=e∧
 i=b∧
 j=aZ b∧
 0≤k∧k≤j∧m=a∧o=b∧nY b d e k.toNat=false→
 bif decide (k<j) then
 bR k i∧
 k.toNat<i.length∧
 (lM ((i.getD k.toNat []).getD 3 (.int 0)).toSl→
 bif
 decide (g<(↑((i.getD k.toNat []).getD 3 (.int 0)).toSl.length:Int)) ||
 decide (h<((i.getD k.toNat []).getD 2 (.int 0)).toInt) then
 true=
 (nY b d e b.length||decide (c<aZ b) ||
 decide ((1000:Int)<aZ a))
 else
 iR (k+1)∧
 (f=c∧
 g=d∧
 h=e∧
 i=b∧
 j=aZ b∧
 0≤k+1∧
 k+1≤j∧m=a∧o=b∧nY b d e (k+1).toNat=false)∧
 (j-(k+1)).toNat<(j-k).toNat)
 else
 lM o→
 (bw false (decide (f<aZ o))=true→lM m)→
 (decide (f<aZ o)||decide ((1000:Int)<aZ m))=
 (nY b d e b.length||decide (c<aZ b) ||
 decide ((1000:Int)<aZ a))
theorem e12:IW My Tryz.f12 adU Ww=P12:=by kernel_rfl
def UI:af:=aj My 12 (tc (ap adU))
def adV:Prop:=
 ∀ (a:LD) (b c:Int),
 lM a→
 True→
 (bw true (decide (c=0))=true→lM a)→
 bif decide (c=0)&&decide (b<aZ a) then
 a=a∧b=b∧12=mU a b c∧12=mU a b c
 else a=a∧b=b∧c=mU a b c∧c=mU a b c
def PX:af:=aj UI 126 (ap aks)
def acl:Prop:=
 ∀ (a:LD) (b c d:Int),
 lM a→
 True→
 bif decide (c=0) then a=a∧b=b∧d=lz c d∧d=lz c d
 else a=a∧b=b∧c=lz c d∧c=lz c d
def ON:af:=aj PX 159 (ap akQ)
abbrev qy (a b:Int)(c:LD):Bool:=
 decide (aZ c≤a)||decide (((c.getD a.toNat []).getD 0 (.int 0)).toInt≠b)
abbrev zx (a b c:Int)(d:LD):Prop:=
 (!(qy a b d||decide (((d.getD a.toNat []).getD 1 (.int 0)).toInt≠c)))=true
def abT:Prop:=
 ∀ (a:LD) (b c d e f:Int),
 lM a→
 0≤b∧b≤1000000→
 bif decide (c≠0) then
 a=a∧
 b=(cA a b c d e f).fst∧
 c=(cA a b c d e f).snd∧c=(cA a b c d e f).snd
 else
 lM a→
 ((!decide (aZ a≤b))=true→bR b a)∧
 ((!decide (aZ a≤b))=true→b.toNat<a.length)∧
 ((!decide (aZ a≤b))=true→b.toNat<a.length)∧
 ((!qy b d a)=true→bR b a)∧
 ((!qy b d a)=true→b.toNat<a.length)∧
 ((!qy b d a)=true→b.toNat<a.length)∧
 (zx b d e a→bR b a)∧
 (zx b d e a→b.toNat<a.length)∧
 (zx b d e a→b.toNat<a.length)∧
 bif
 qy b d a||decide (((a.getD b.toNat []).getD 1 (.int 0)).toInt≠e) ||
 decide (((a.getD b.toNat []).getD 2 (.int 0)).toInt≠f) then
 a=a∧
 b=(cA a b c d e f).fst∧
 10=(cA a b c d e f).snd∧10=(cA a b c d e f).snd
 else
 iR (b+1)∧
 a=a∧
 b+1=(cA a b c d e f).fst∧
 c=(cA a b c d e f).snd∧0=(cA a b c d e f).snd
def QB:af:=aj ON 160 (ap aia)
theorem zN {l:LD} {i:Int} (h:(l.length:Int)<i+2):ft l i= -1:=if_pos h
theorem yK {l:LD} {i:Nat} (h:¬ (l.length:Int)<i+2):ft l i=bX l i:=if_neg h
theorem ap2:P35:=by
 delta P35 lM iR bR aZ qG fN
 rintro l n _ ⟨hA,h0,h1⟩
 obtain ⟨i,rfl⟩:=aB h0
 refine ⟨⟨by omega,by omega⟩,fun _=>aa (fun e=>(zN (av e)).symm) fun e=> ?_⟩
 have e:=au e
 have a:=hA i
 have b:=hA (i+1)
 rw [show ((i:Int)+1).toNat=i+1 from by omega,ax,dh,dh,Ev a,Ev b,yK e,bX]
 refine ⟨⟨h0,by omega⟩,by omega,⟨by omega,by omega⟩,⟨by omega,by omega⟩,by omega,⟨by omega,by omega⟩,⟨by omega,by omega⟩,by omega⟩
theorem YN:(base.with NB).Ok:=ac ac2 (ai am ac2 Tryz.func35 (by kernel_rfl) Tryz.call35 (by kernel_rfl) ap2)
set_option maxHeartbeats 2000000 in
theorem aqo:P11:=by
 delta P11 lM iR aR bR aZ qG fN uy Jk qF rt uC cU BS uk Ee Ed
 rintro l _ ⟨hB,hlen⟩
 have hA:=dK hB
 have hw:∀ i,IntKind.i64.wrap ((l.getD i []).getD 0 (CD.int 0)).toInt=rv l i:=fun i=>Ev (hA i)
 rw [hw 0]
 have hb:∀ i,(0:Int)≤rv l i∧rv l i<256:=hA
 have hu:∀ i,bX l i<65536:=fun i=>by unfold bX;have:=hA i;have:=hA (i+1);omega
 have hp1:ft l 1= -1∧l.length<3∨ft l 1=bX l 1∧3≤l.length:=by
  by_cases h:(l.length:Int)<1+2
  ·exact .inl ⟨zN h,by omega⟩
  ·exact .inr ⟨yK (i:=1) h,by omega⟩
 refine ⟨⟨hA,by decide,by decide⟩,fun _=>⟨fun _=> ?_,aa (fun e=> ?_) fun e=> ?_⟩⟩
 ·have:=hu 1
  omega
 ·simp only [Bool.or_eq_true,aK] at e
  exact lf (G6 (by omega)) (by decide)
 simp only [Bool.or_eq_false_iff,aT] at e
 obtain ⟨hp,h3⟩:=hp1.resolve_left (by omega)
 rw [hp] at e ⊢
 have hn:¬ l.length<3+bX l 1:=by omega
 have hu1:=hu 1
 rw [show ((3:Int)+(bX l 1:Int)).toNat=3+bX l 1 from by omega]
 refine ⟨⟨by decide,by omega⟩,by omega,⟨by omega,by omega⟩,⟨by decide,by omega,by omega⟩,⟨by omega,by omega⟩,⟨⟨rfl,rfl,rfl,?_,hn,by omega,by omega,by decide,l.length,by rw [cj];omega,rfl⟩,trivial⟩,?_⟩
 ·rw [List.drop_take]
  congr 1
  omega
 rintro l' n z1 z2 k p cs _ _ ⟨rfl,rfl,rfl,rfl,_,g0,g1,hcs,f,hf,hT⟩ _
 obtain ⟨j,rfl⟩:=aB g0
 rw [ax] at hf hT
 rw [ax,hw j,show ((j:Int)+1).toNat=j+1 from by omega,hw (j+1),show ((j:Int)+1+3).toNat=j+4 from by omega]
 have hbj:=hb j
 refine aa (fun h=> ?_) fun h=> ?_
 ·have h:=av h
  have hlj:(List.drop j l').length=l'.length-j:=cj
  obtain ⟨f',hf',hs⟩:=Ve (cs:=cs) hf (by omega)
  rw [hs,qu,qu,n7,n7,List.drop_drop,List.drop_drop,List.drop_drop,List.drop_drop,hlj,Nat.add_zero] at hT
  refine ⟨⟨g0,h⟩,by omega,⟨by omega,by omega⟩,fun _=>aa (fun e=> ?_) fun e=> ?_⟩
  ·have e:=av e
   rw [if_pos (by omega)] at hT
   exact lf (tq hn hT (by decide)) (by decide)
  have e:=au e
  rw [if_neg (by omega)] at hT
  have happ:∀ x:List CD,(cs++ [x]).length≤200:=fun x=>by rw [cx];show cs.length+1≤200;omega
  refine aa (fun g=> ?_) fun g5=> ?_
  ·have g:=av g
   rw [if_neg (by omega),if_neg (by omega),if_neg (by omega)] at hT
   exact lf (tq hn hT (by decide)) (by decide)
  have g5:=au g5
  refine aa (fun g=> ?_) fun g=> ?_
  ·have g:=av g
   rw [if_pos g] at hT
   have hp2:ft l' ((j:Int)+1+1)= -1∧l'.length<j+4∨ft l' ((j:Int)+1+1)=bX l' (j+2)∧j+4≤l'.length:=by
    by_cases h:(l'.length:Int)<(j:Int)+1+1+2
    ·exact .inl ⟨zN h,by omega⟩
    ·exact .inr ⟨yK (i:=j+2) (by omega),by omega⟩
   have hu2:=hu (j+2)
   refine ⟨⟨by omega,by omega⟩,⟨hA,by omega,by omega⟩,fun _=>⟨fun _=>⟨by omega,by omega⟩,fun _=>by omega,aa (fun e=> ?_) fun e=> ?_⟩⟩
   ·simp only [Bool.or_eq_true,aK] at e
    rw [if_pos (by omega)] at hT
    exact lf (tq hn hT (by decide)) (by decide)
   simp only [Bool.or_eq_false_iff,aT] at e
   obtain ⟨hp,h4⟩:=hp2.resolve_left (by omega)
   rw [hp] at e ⊢
   rw [if_neg (by omega)] at hT
   rw [show ((j:Int)+1+3+(bX l' (j+2):Int)).toNat=j+(4+bX l' (j+2)) from by omega]
   refine ⟨⟨by omega,by omega⟩,by omega,⟨by omega,by omega⟩,⟨by omega,by omega⟩,⟨by omega,by omega⟩,⟨by omega,by omega,by omega⟩,⟨by omega,by omega⟩,⟨by omega,by omega⟩,aa (fun e=> ?_) fun _=> ?_⟩
   ·simp only [Bool.or_eq_true,aK] at e
    omega
   refine ⟨⟨by omega,by omega⟩,⟨rfl,rfl,rfl,rfl,hn,by omega,by omega,happ _,f',by rw [cj];omega,?_⟩,by omega⟩
   rw [g,List.drop_take,show j+(4+bX l' (j+2))-(j+4)=bX l' (j+2) from by omega]
   exact hT
  have g:=au g
  rw [if_neg g] at hT
  refine aa (fun g1=> ?_) fun g1=> ?_
  ·simp only [Bool.or_eq_true,aK] at g1
   rw [if_pos g1] at hT
   have hp2:ft l' ((j:Int)+1)= -1∧l'.length<j+3∨ft l' ((j:Int)+1)=bX l' (j+1)∧j+3≤l'.length:=by
    by_cases h:(l'.length:Int)<(j:Int)+1+2
    ·exact .inl ⟨zN h,by omega⟩
    ·exact .inr ⟨yK (i:=j+1) (by omega),by omega⟩
   refine ⟨⟨hA,by omega,by omega⟩,aa (fun e=> ?_) fun e=> ?_⟩
   ·have e:=av e
    rw [if_pos (by omega)] at hT
    exact lf (tq hn hT (by decide)) (by decide)
   have e:=au e
   obtain ⟨hp,h4⟩:=hp2.resolve_left (by omega)
   rw [if_neg (by omega)] at hT
   rw [hp,show ((j:Int)+1+2).toNat=j+3 from by omega]
   exact ⟨⟨by omega,by omega⟩,⟨by omega,by omega⟩,⟨rfl,rfl,rfl,rfl,hn,by omega,by omega,happ _,f',by rw [cj];omega,hT⟩,by omega⟩
  ·simp only [Bool.or_eq_false_iff,aT] at g1
   rw [if_neg (by omega),if_pos (by omega)] at hT
   exact ⟨⟨by omega,by omega⟩,⟨rfl,rfl,rfl,rfl,hn,by omega,by omega,happ _,f',by rw [cj];omega,hT⟩,by omega⟩
 ·have h:=au h
  rw [UK (by rw [cj];omega)] at hT
  rw [UG hn hT]
  exact aa (fun _=>⟨rfl,rfl,rfl,rfl⟩) fun e=>cL rfl e
theorem Zt:(base.with My).Ok:=ac YN (ai UP YN Tryz.func11 (by kernel_rfl) Tryz.call11 (by kernel_rfl) aqo)
theorem Iy {l:LD} {n m:Int} {i:Nat} (h:nY l n m i=true):∀ k,nY l n m (i+k)=true
 | 0=>h
 | k+1=>by rw [show i+(k+1)=(i+k)+1 from rfl,nY,Iy h k];rfl
theorem arx:P12:=by
 delta P12 lM iR bR aZ
 intro _ p l c n m _ _ _ _
 refine ⟨⟨⟨rfl,rfl,rfl,rfl,rfl,by decide,by omega,rfl,rfl,rfl⟩,trivial⟩,?_⟩
 rintro c' n' m' l' k i _ p' l'' _ _ _ ⟨rfl,rfl,rfl,rfl,rfl,g0,g1,rfl,rfl,hl⟩
 obtain ⟨j,rfl⟩:=aB g0
 rw [ax] at hl ⊢
 refine aa (fun h=> ?_) fun h=> ?_
 ·have h:=av h
  have hj:nY l'' n' m' (j+1)=(decide (n'<((((l''.getD j []).getD 3 (CD.int 0)).toSl.length:Nat):Int))||decide (m'<((l''.getD j []).getD 2 (CD.int 0)).toInt)):=by rw [nY,hl];rfl
  refine ⟨⟨g0,h⟩,by omega,fun _=>aa (fun e=> ?_) fun e=> ?_⟩
  ·rw [e] at hj
   have:=Iy hj (l''.length-(j+1))
   rw [show j+1+(l''.length-(j+1))=l''.length from by omega] at this
   rw [this]
   rfl
  ·rw [e] at hj
   exact ⟨⟨by omega,by omega⟩,⟨rfl,rfl,rfl,rfl,rfl,by omega,by omega,rfl,rfl,by rw [show ((j:Int)+1).toNat=j+1 from by omega];exact hj⟩,by omega⟩
 ·have h:=au h
  have hj:nY l'' n' m' l''.length=false:=by rw [show l''.length=j from by omega];exact hl
  intro _ _
  rw [hj]
  rfl
theorem abP:(base.with UI).Ok:=ac Zt (yQ (ai Ww Zt Tryz.func12 (by kernel_rfl) Tryz.call12 (by kernel_rfl) arx))
theorem ahO:adV:=by
 delta adV lM aZ
 intro l n e _ _ _
 refine aa (fun h=> ?_) fun h=> ?_
 ·simp only [cV,aK] at h
  rw [mU,if_pos h]
  exact ⟨rfl,rfl,rfl,rfl⟩
 ·have h:¬ (e=0∧n<l.length):=fun k=>by rw [decide_eq_true k.1,decide_eq_true k.2] at h;cases h
  rw [mU,if_neg h]
  exact ⟨rfl,rfl,rfl,rfl⟩
theorem WL:(base.with PX).Ok:=ac abP (ai am abP Tryz.func126 (by kernel_rfl) Tryz.call126 (by kernel_rfl) ahO)
theorem ahe:acl:=by
 delta acl lM
 intro l n e w _ _
 refine aa (fun h=> ?_) fun h=> ?_
 ·rw [lz,if_pos (av h)]
  exact ⟨rfl,rfl,rfl,rfl⟩
 ·rw [lz,if_neg (au h)]
  exact ⟨rfl,rfl,rfl,rfl⟩
theorem Wk:(base.with ON).Ok:=ac WL (ai am WL Tryz.func159 (by kernel_rfl) Tryz.call159 (by kernel_rfl) ahe)
theorem EV {l:LD} {n k t w:Int} :ci l n k t w=true↔n<l.length∧((l.getD n.toNat []).getD 0 (CD.int 0)).toInt=k∧((l.getD n.toNat []).getD 1 (CD.int 0)).toInt=t∧((l.getD n.toNat []).getD 2 (CD.int 0)).toInt=w:=by
 unfold ci yL jK
 simp only [cV,aK]
theorem alB:abT:=by
 delta abT lM iR bR aZ qy zx
 rintro l n e k t w _ ⟨h0,h1⟩
 refine aa (fun h=> ?_) fun h=>fun _=> ?_
 ·rw [cA,if_pos (av h)]
  exact ⟨rfl,rfl,rfl,rfl⟩
 have h:=au h
 have h9:∀ b c d:Bool,(!(decide ((l.length:Int)≤n)||b||c||d))=true→n<l.length:=fun b c d q=>by
  by_cases g:(l.length:Int)≤n
  ·rw [decide_eq_true g] at q;cases q
  ·omega
 have h6:∀ b:Bool,(!(decide ((l.length:Int)≤n)||b))=true→n<l.length:=fun b q=>h9 b false false (by rw [Bool.or_false,Bool.or_false];exact q)
 have h3:(!(decide ((l.length:Int)≤n)))=true→n<l.length:=fun q=>h6 false (by rw [Bool.or_false];exact q)
 have h8:∀ b c:Bool,(!(decide ((l.length:Int)≤n)||b||c))=true→n<l.length:=fun b c q=>h9 b c false (by rw [Bool.or_false];exact q)
 refine ⟨fun q=>⟨h0,h3 q⟩,fun q=>by have:=h3 q;omega,fun q=>by have:=h3 q;omega,fun q=>⟨h0,h6 _ q⟩,fun q=>by have:=h6 _ q;omega,fun q=>by have:=h6 _ q;omega,fun q=>⟨h0,h8 _ _ q⟩,fun q=>by have:=h8 _ _ q;omega,fun q=>by have:=h8 _ _ q;omega,aa (fun g=> ?_) fun g=> ?_⟩
 ·simp only [Bool.or_eq_true,aK] at g
  have hh:ci l n k t w=false:=by
   cases hc:ci l n k t w with
   | false=>rfl
   | true=>have:=EV.1 hc;omega
  rw [cA,if_neg h,if_pos hh]
  exact ⟨rfl,rfl,rfl,rfl⟩
 ·simp only [Bool.or_eq_false_iff,aT] at g
  have hh:¬ ci l n k t w=false:=by rw [EV.2 ⟨by omega,by omega,by omega,by omega⟩];decide
  rw [cA,if_neg h,if_neg hh]
  exact ⟨⟨by omega,by omega⟩,rfl,rfl,Decidable.not_not.mp h,rfl⟩
theorem Uw:(base.with QB).Ok:=ac Wk (ai am Wk Tryz.func160 (by kernel_rfl) Tryz.call160 (by kernel_rfl) alB)
abbrev BX:Pat:= .agg [rb,i64,i64,i64]
abbrev Wj:BPat:= .cells 105 [.nils,i64,i64,i64]
def dR (x:Sp):List Dat:= [.r x.2.2.2,.i x.1,.i x.2.1,.i x.2.2.1]
def kA (x:Sp):Sp:=hid (x.1,x.2.1,x.2.2.1+1,dn x.2.2.2)
def ahF:Ct:= {ps:= [BX],bs:= [],pre:=fun | [.r s,.i a,.i b,.i c] =>s.length=200∧ar s∧0≤c∧c≤2000000000 | _=>False,res:=fun
 | [.r s,.i a,.i b,.i c] => .ret (.agg [.own 0,i64,i64,i64]) [ob] (dS (kA (a,b,c,s)))
 | _=>ag}
def wA (l:LD) (x:Sp):Sp:=hid (bH l x l.length)
def amZ:Ct:= {ps:= [BX,rb],bs:= [],pre:=fun | [.r s,.i a,.i b,.i c,.r l] =>bM (a,b,c,s)∧ar l∧l.length≤1000000 | _=>False,res:=fun
 | [.r s,.i a,.i b,.i c,.r l] => .ret BX [] (dR (wA l (a,b,c,s)))
 | _=>ag}
def acV:List Dat→Ann
 | [.r s,.i a,.i b,.i c,.r l] => {cut:= [],loop:= [(3,[la 38 [(1,rb),(2,.ptr 0 0),(4,.ptr 1 0),(5,i64)] [.cells 105 [.own 2,i64,i64,i64],Wj,ob] (fun
   | [.r l',.i i,.i a',.i b',.i c',.i _,.i _,.i _,.r s'] =>l'=l∧0≤i∧i≤l.length∧(a',b',c',s')=bH l (a,b,c,s) i.toNat
   | _=>False) (fun | [.r l',.i i,_,_,_,_,_,_,_] =>(l'.length-i).toNat | _=>0)])]}
 | _=> {cut:= [],loop:= []}
def mF (x:Sp) (n:Nat):Sp×LD:=hid (aL x n,c8 x n)
def aif:Ct:= {ps:= [BX,i64],bs:= [],pre:=fun | [.r s,.i a,.i b,.i c,.i n] =>bM (a,b,c,s)∧n≤1000000 | _=>False,res:=fun
 | [.r s,.i a,.i b,.i c,.i n] => .ret (.tup [BX,.own 0]) [ob] (dR (mF (a,b,c,s) n.toNat).1++ [.r (mF (a,b,c,s) n.toNat).2])
 | _=>ag}
def Yl:List Dat→Ann
 | [.r s,.i a,.i b,.i c,.i n] => {cut:= [],loop:= [(3,[la 36 [(1,i64),(2,.ptr 0 0),(4,.ptr 1 0),(6,.own 2),(7,i64)] [.cells 105 [rb,i64,i64,i64],Wj,ob] (fun
   | [.i n',.i i,.r s',.i a',.i b',.i c',.i _,.i _,.i _,.r o] =>n'=n∧0≤i∧(i≤n∨i=0)∧(a',b',c',s')=aL (a,b,c,s) i.toNat∧o=c8 (a,b,c,s) i.toNat
   | _=>False) (fun | [.i n',.i i,_,_,_,_,_,_,_,_] =>(n'-i).toNat | _=>0)])]}
 | _=> {cut:= [],loop:= []}
def JM (x:Sp):Sp:=hid (mq x)
def alX:Ct:= {ps:= [BX],bs:= [],pre:=fun | [.r s,.i a,.i b,.i c] =>s.length=200∧ar s∧0≤c∧c≤2000000000 | _=>False,res:=fun
 | [.r s,.i a,.i b,.i c] => .ret BX [] (dR (JM (a,b,c,s)))
 | _=>ag}
def aiZ (a b c:Int) (s:LD):LA:=la 14 [(1,.ptr 0 0),(2,.ptr 1 0)] [.cells 105 [rb,i64,i64,i64],Wj] (fun
  | [.r s',.i a',.i b',.i c',.i _,.i _,.i _] =>(a',b',c',s')=kA (a,b,c,s)
  | _=>False) js
def ZM:List Dat→Ann
 | [.r s,.i a,.i b,.i c] => {cut:= [(2,[aiZ a b c s])],loop:= []}
 | _=> {cut:= [],loop:= []}
def Ao (l:LD):LD:=hid (nk l)
def alE:Ct:= {ps:= [rb],bs:= [],pre:=fun | [.r l] =>l.length=32 | _=>False,res:=fun | [.r l] => .ret (.tup [BX,i64]) [] [.r (Ao l),.i 0,.i 136,.i 0,.i 0] | _=>ag}
def BB (l:LD) (i:Nat):LD:=hid (List.replicate 136 [CD.int 0] ++l++List.replicate i [CD.int 0])
def agY:List Dat→Ann
 | [.r l] => {cut:= [],loop:= [(4,[la 20 [(2,.ptr 0 0),(4,.own 1)] [Wj,ob] (fun
   | [.i _,.i _,.i _,.r o] =>168≤o.length∧o.length≤200∧o=BB l (o.length-168)
   | _=>False) (fun | [_,_,_,.r o] =>200-o.length | _=>0)])]}
 | _=> {cut:= [],loop:= []}
def arQ:Ct:= {ps:= [rb],bs:= [],pre:=fun | [.r l] =>l.length=32 | _=>False,res:=fun | [.r l] => .ret BX [] [.r (Ao l),.i 0,.i 136,.i 0] | _=>ag}
def aii:Ct:= {ps:= [MF],bs:= [],pre:=fun | [.i k,.i t,.i n,.r l] =>bW l | _=>False,res:=fun | [.i k,.i t,.i n,.r l] => .ret (.own 0) [ob] [.r (dk k t n l)] | _=>ag}
def aqy:Prop:=
 ∀ (l:LD) (n n_1 n_2:Int),
 l.length≤9223372036854775807→
 l.length=200∧ar l∧0≤n_2∧n_2≤2000000000→
 (l.length≤200∧ar l)∧
 aq (i4 l l.length)∧
 aq (jP (i4 l l.length))∧
 ((-9223372036854775808:Int)≤n_2+1∧n_2+1≤9223372036854775807)∧
 n=(kA (n,n_1,n_2,l)).fst∧
 n_1=(kA (n,n_1,n_2,l)).snd.fst∧
 n_2+1=(kA (n,n_1,n_2,l)).snd.snd.fst∧
 List.map ae
 (c7 (jP (i4 l l.length)))=
 (kA (n,n_1,n_2,l)).snd.snd.snd
def Qa:af:=aj QB 165 (ap ahF)
def ari:Prop:=
 ∀ (l:LD) (n n_1 n_2:Int) (l_1:LD),
 l.length≤9223372036854775807→
 l_1.length≤9223372036854775807→
 bM (n,n_1,n_2,l)∧ar l_1∧l_1.length≤1000000→
 ((0+l.length)*1≤140737488355328∧0+l.length≤9223372036854775807)∧
 ((l_1=l_1∧(0:Int)≤0∧(0:Int)≤↑l_1.length∧(n,n_1,n_2,[] ++l)=bH l_1 (n,n_1,n_2,l) 0)∧
 True)∧
 ∀ (l_2:LD) (n_3 n_4 n_5 n_6 n_7 n_8 n_9:Int) (l_3:LD),
 l_2.length≤9223372036854775807→
 l_2=l_1∧(0:Int)≤n_3∧n_3≤↑l_1.length∧(n_4,n_5,n_6,l_3)=bH l_1 (n,n_1,n_2,l) n_3.toNat→
 l_2.length≤9223372036854775807→
 bif decide (n_3<↑l_2.length) then
 bif decide (n_4=136) then
 (l_3.length=200∧ar l_3∧(0:Int)≤n_6∧n_6≤2000000000)∧
 ((0:Int)≤n_3∧n_3<↑l_2.length)∧
 n_3.toNat<l_2.length∧
 ((0:Int)≤0∧(0:Int)<(↑(kA (n_4,n_5,n_6,l_3)).snd.snd.snd.length:Int))∧
 0<(kA (n_4,n_5,n_6,l_3)).snd.snd.snd.length∧
 ((-9223372036854775808:Int)≤0+1∧(0:Int)+1≤9223372036854775807)∧
 ((-9223372036854775808:Int)≤n_3+1∧n_3+1≤9223372036854775807)∧
 (l_2=l_1∧
 (0:Int)≤n_3+1∧
 n_3+1≤↑l_1.length∧
 ((0:Int)+1,136,(kA (n_4,n_5,n_6,l_3)).snd.snd.fst,
 (kA (n_4,n_5,n_6,l_3)).snd.snd.snd.set 0
 (((kA (n_4,n_5,n_6,l_3)).snd.snd.snd.getD 0 []).set 0
 (.int ((l_2.getD n_3.toNat []).getD 0 (.int 0)).toInt)))=
 bH l_1 (n,n_1,n_2,l) (n_3+1).toNat)∧
 (↑l_2.length-(n_3+1)).toNat<(↑l_2.length-n_3).toNat
 else
 ((0:Int)≤n_3∧n_3<↑l_2.length)∧
 n_3.toNat<l_2.length∧
 ((0:Int)≤n_4∧n_4<↑l_3.length)∧
 n_4.toNat<l_3.length∧
 ((-9223372036854775808:Int)≤n_4+1∧n_4+1≤9223372036854775807)∧
 ((-9223372036854775808:Int)≤n_3+1∧n_3+1≤9223372036854775807)∧
 (l_2=l_1∧
 (0:Int)≤n_3+1∧
 n_3+1≤↑l_1.length∧
 (n_4+1,136,n_6,
 l_3.set n_4.toNat
 ((l_3.getD n_4.toNat []).set 0
 (.int ((l_2.getD n_3.toNat []).getD 0 (.int 0)).toInt)))=
 bH l_1 (n,n_1,n_2,l) (n_3+1).toNat)∧
 (↑l_2.length-(n_3+1)).toNat<(↑l_2.length-n_3).toNat
 else
 l_3=(wA l_1 (n,n_1,n_2,l)).snd.snd.snd∧
 n_4=(wA l_1 (n,n_1,n_2,l)).fst∧
 n_5=(wA l_1 (n,n_1,n_2,l)).snd.fst∧
 n_6=(wA l_1 (n,n_1,n_2,l)).snd.snd.fst
def PC:af:=aj Qa 161 (ap amZ)
def apK:Prop:=
 ∀ (l:LD) (n n_1 n_2 n_3:Int),
 l.length≤9223372036854775807→
 bM (n,n_1,n_2,l)∧n_3≤1000000→
 ((n_3=n_3∧
 (0:Int)≤0∧
 (0≤n_3∨(0:Int)=0)∧
 (n,n_1,n_2,l)=aL (n,n_1,n_2,l) 0∧ [] =c8 (n,n_1,n_2,l) 0)∧
 True)∧
 ∀ (n_4 n_5:Int) (l_1:LD) (n_6 n_7 n_8 n_9 n_10 n_11:Int) (l_2:LD),
 l_1.length≤9223372036854775807→
 l_2.length≤9223372036854775807→
 n_4=n_3∧
 0≤n_5∧
 (n_5≤n_3∨n_5=0)∧
 (n_6,n_7,n_8,l_1)=aL (n,n_1,n_2,l) n_5.toNat∧
 l_2=c8 (n,n_1,n_2,l) n_5.toNat→
 bif decide (n_5<n_4) then
 bif decide (n_7=136) then
 (l_1.length=200∧ar l_1∧0≤n_8∧n_8≤2000000000)∧
 ((0:Int)≤0∧(0:Int)<(↑(kA (n_6,n_7,n_8,l_1)).snd.snd.snd.length:Int))∧
 0<(kA (n_6,n_7,n_8,l_1)).snd.snd.snd.length∧
 ((l_2.length+1)*1≤140737488355328∧l_2.length+1≤9223372036854775807)∧
 ((-9223372036854775808:Int)≤0+1∧(0:Int)+1≤9223372036854775807)∧
 ((-9223372036854775808:Int)≤n_5+1∧n_5+1≤9223372036854775807)∧
 (n_4=n_3∧
 0≤n_5+1∧
 (n_5+1≤n_3∨n_5+1=0)∧
 ((0:Int),0+1,(kA (n_6,n_7,n_8,l_1)).snd.snd.fst,
 (kA (n_6,n_7,n_8,l_1)).snd.snd.snd)=
 aL (n,n_1,n_2,l) (n_5+1).toNat∧
 l_2++
 [[.int
 (((kA (n_6,n_7,n_8,l_1)).snd.snd.snd.getD 0 []).getD 0
 (.int 0)).toInt]] =
 c8 (n,n_1,n_2,l) (n_5+1).toNat)∧
 (n_4-(n_5+1)).toNat<(n_4-n_5).toNat
 else
 (0≤n_7∧n_7<↑l_1.length)∧
 n_7.toNat<l_1.length∧
 ((l_2.length+1)*1≤140737488355328∧l_2.length+1≤9223372036854775807)∧
 ((-9223372036854775808:Int)≤n_7+1∧n_7+1≤9223372036854775807)∧
 ((-9223372036854775808:Int)≤n_5+1∧n_5+1≤9223372036854775807)∧
 (n_4=n_3∧
 0≤n_5+1∧
 (n_5+1≤n_3∨n_5+1=0)∧
 (n_6,n_7+1,n_8,l_1)=aL (n,n_1,n_2,l) (n_5+1).toNat∧
 l_2++ [[.int ((l_1.getD n_7.toNat []).getD 0 (.int 0)).toInt]] =
 c8 (n,n_1,n_2,l) (n_5+1).toNat)∧
 (n_4-(n_5+1)).toNat<(n_4-n_5).toNat
 else
 l_1=(mF (n,n_1,n_2,l) n_3.toNat).fst.snd.snd.snd∧
 n_6=(mF (n,n_1,n_2,l) n_3.toNat).fst.fst∧
 n_7=(mF (n,n_1,n_2,l) n_3.toNat).fst.snd.fst∧
 n_8=(mF (n,n_1,n_2,l) n_3.toNat).fst.snd.snd.fst∧
 l_2=(mF (n,n_1,n_2,l) n_3.toNat).snd
def P8:af:=aj PC 118 (ap aif)
def afw:Prop:=
 ∀ (l:LD) (n n_1 n_2:Int),
 l.length≤(9223372036854775807:Nat)→
 l.length=(200:Nat)∧ar l∧0≤n_2∧n_2≤(2000000000:Int)→
 ((l.length=(200:Nat)∧ar l∧0≤n_2∧n_2≤(2000000000:Int))∧
 ((kA (n,n_1,n_2,l)).fst,(kA (n,n_1,n_2,l)).snd.fst,
 (kA (n,n_1,n_2,l)).snd.snd.fst,(kA (n,n_1,n_2,l)).snd.snd.snd)=
 kA (n,n_1,n_2,l)∧
 True)∧
 ∀ (l_1:LD) (n_3 n_4 n_5 n_6 n_7 n_8:Int),
 l_1.length≤(9223372036854775807:Nat)→
 (n_3,n_4,n_5,l_1)=kA (n,n_1,n_2,l)→
 ((0:Int)≤(136:Int)∧(136:Int)≤(136:Int)∧(↑(1:Nat):Int)*(136:Int)≤(140737488355328:Int)∧(136:Int)≤(9223372036854775807:Int))∧
 ((0:Int)≤(136:Int)∧136≤(↑l_1.length:Int)∧(↑l_1.length:Int)≤(↑l_1.length:Int))∧
 (((136:Nat)+(List.drop 136 (List.take (↑l_1.length:Int).toNat l_1)).length)*(1:Nat)≤(140737488355328:Nat)∧
 (136:Nat)+(List.drop 136 (List.take (↑l_1.length:Int).toNat l_1)).length≤(9223372036854775807:Nat))∧
 we ++
 List.drop 136 (List.take (↑l_1.length:Int).toNat l_1)=
 (JM (n,n_1,n_2,l)).snd.snd.snd∧
 0=(JM (n,n_1,n_2,l)).fst∧
 136=(JM (n,n_1,n_2,l)).snd.fst∧
 n_5=(JM (n,n_1,n_2,l)).snd.snd.fst
def O2:af:=aj P8 124 (ap alX)
def ZS:Prop:=
 ∀ (l:LD),
 l.length≤(9223372036854775807:Nat)→
 l.length=(32:Nat)→
 l.length≤(9223372036854775807:Nat)→
 bif decide ((64:Int)<(↑l.length:Int)) then
 [] =Ao l∧(0:Int)=(0:Int)∧(0:Int)=(136:Int)∧(0:Int)=(0:Int)∧(1:Int)=(0:Int)
 else
 ((0:Int)≤(136:Int)∧(136:Int)≤(136:Int)∧(↑(1:Nat):Int)*(136:Int)≤(140737488355328:Int)∧(136:Int)≤(9223372036854775807:Int))∧
 (((136:Nat)+l.length)*(1:Nat)≤(140737488355328:Nat)∧(136:Nat)+l.length≤(9223372036854775807:Nat))∧
 (((168:Nat)≤
 (we ++
 l).length∧
 (we ++
 l).length≤
 (200:Nat)∧
 we ++
 l=
 BB l
 ((we ++
 l).length -
 (168:Nat)))∧
 True)∧
 ∀ (n n n:Int) (l_1:LD),
 l_1.length≤(9223372036854775807:Nat)→
 (168:Nat)≤l_1.length∧l_1.length≤(200:Nat)∧l_1=BB l (l_1.length-(168:Nat))→
 l_1.length≤(9223372036854775807:Nat)→
 bif decide ((↑l_1.length:Int)<(200:Int)) then
 ((l_1.length+(1:Nat))*(1:Nat)≤(140737488355328:Nat)∧l_1.length+(1:Nat)≤(9223372036854775807:Nat))∧
 ((168:Nat)≤(l_1++ [[CD.int (0:Int)]]).length∧
 (l_1++ [[CD.int (0:Int)]]).length≤(200:Nat)∧
 l_1++ [[CD.int (0:Int)]] =BB l ((l_1++ [[CD.int (0:Int)]]).length-(168:Nat)))∧
 Nat.sub (200:Nat) (l_1++ [[CD.int (0:Int)]]).length<Nat.sub (200:Nat) l_1.length
 else l_1=Ao l∧(0:Int)=(0:Int)∧(136:Int)=(136:Int)∧(0:Int)=(0:Int)∧(0:Int)=(0:Int)
def P4:af:=aj O2 112 (ap alE)
def P69:Prop:=
 ∀ (l:LD),
 l.length≤(9223372036854775807:Nat)→
 l.length=(32:Nat)→
 l.length=(32:Nat)∧
 Ao l=Ao l∧(0:Int)=(0:Int)∧(136:Int)=(136:Int)∧(0:Int)=(0:Int)
def Tn:af:=aj P4 69 (ap arQ)
def apD:Prop:=
 ∀ (n n_1 n_2:Int) (l:LD),
 l.length≤(9223372036854775807:Nat)→
 bW l→
 bW l∧
 bif !fO n n_1 n_2 l then [] =dk n n_1 n_2 l
 else
 oS n (1:Int)∧
 oS n_1 (1:Int)∧
 ((2:Nat)≤(140737488355328:Nat)∧(2:Nat)≤(9223372036854775807:Nat))∧
 oS n_2 (4:Int)∧
 ((6:Nat)≤(140737488355328:Nat)∧(6:Nat)≤(9223372036854775807:Nat))∧
 (((6:Nat)+l.length)*(1:Nat)≤(140737488355328:Nat)∧(6:Nat)+l.length≤(9223372036854775807:Nat))∧
 ah (ed n (1:Nat))++ah (ed n_1 (1:Nat))++
 ah (ed n_2 (4:Nat))++
 l=
 dk n n_1 n_2 l
def Om:af:=aj Tn 162 (ap aii)
theorem C2 (x:Sp):kA x=(x.1,x.2.1,x.2.2.1+1,dn x.2.2.2):=ak _
theorem amg {l:LD} (hl:l.length=200) (hb:ar l):(c7 (jP (i4 l l.length))).map ae=dn l:=by
 rw [hl,Qc hl hb,Ku (qO l) (aa5 hb),dn,af7 hl hb]
theorem alj:aqy:=by
 rintro l a b c _ ⟨hl,hb,h0,h1⟩
 rw [C2,amg hl hb]
 exact ⟨⟨by omega,hb⟩,R3 _ _,Ly _,⟨by omega,by omega⟩,rfl,rfl,rfl,rfl⟩
theorem Uy:(base.with Qa).Ok:=ac Uw (ai am Uw Tryz.func165 (by kernel_rfl) Tryz.call165 (by kernel_rfl) alj)
theorem amF:ari:=by
 rintro s a b c l _ _ ⟨hs,hl,hn⟩
 have hs7:s.length=200:=hs.2.2.2.2.2.2.1
 refine ⟨⟨by omega,by omega⟩,⟨⟨rfl,by decide,by omega,rfl⟩,trivial⟩,?_⟩
 rintro l' i a' b' c' _ _ _ s' _ ⟨rfl,g0,g1,he⟩ _
 obtain ⟨j,rfl⟩:=aB g0
 rw [ax] at he ⊢
 have hok:=ya hl hs j
 have hnx:bH l' (a,b,c,s) (j+1)=T5 (Ad (bH l' (a,b,c,s) j)) (rv l' j):=rfl
 rw [← he] at hok hnx
 obtain ⟨o1,o2,o3,o4,o5,o6,o7,o8⟩:=hok
 have o1:0≤a':=o1
 have o2:a'≤136:=o2
 have o5:0≤c':=o5
 have o6:c'≤1000000000+(j:Int):=o6
 have o7:s'.length=200:=o7
 refine aa (fun h=> ?_) fun h=> ?_
 ·have h:=av h
  rw [show ((j:Int)+1).toNat=j+1 from by omega,hnx]
  refine aa (fun e=> ?_) fun e=> ?_
  ·have e:=av e
   have hp:(dn s').length=200:=gS s'
   have h0:Ad (a',b',c',s')=(0,b',c'+1,dn s'):=if_pos e
   rw [C2,h0]
   show _∧_∧_∧(0≤0∧(0:Int)<((dn s').length:Int))∧0<(dn s').length∧_
   rw [hp]
   exact ⟨⟨o7,o8,o5,by omega⟩,⟨by omega,h⟩,by omega,⟨by decide,by decide⟩,by decide,⟨by decide,by decide⟩,⟨by omega,by omega⟩,⟨rfl,by omega,by omega,rfl⟩,by omega⟩
  ·have e:=au e
   have h0:Ad (a',b',c',s')=(a',b',c',s'):=if_neg e
   rw [h0]
   exact ⟨⟨by omega,h⟩,by omega,⟨o1,by omega⟩,by omega,⟨by omega,by omega⟩,⟨by omega,by omega⟩,⟨rfl,by omega,by omega,rfl⟩,by omega⟩
 ·have h:=au h
  rw [wA,ak,show l'.length=j from by omega,← he]
  exact ⟨rfl,rfl,rfl,rfl⟩
theorem TK:(base.with PC).Ok:=ac Uy (ai acV Uy Tryz.func161 (by kernel_rfl) Tryz.call161 (by kernel_rfl) amF)
theorem alv:apK:=by
 rintro s a b c n _ ⟨hs,hn⟩
 refine ⟨⟨⟨rfl,by decide,.inr rfl,rfl,rfl⟩,trivial⟩,?_⟩
 rintro n' i s' a' b' c' _ _ _ o _ _ ⟨rfl,g0,g1,he,rfl⟩
 obtain ⟨j,rfl⟩:=aB g0
 rw [ax] at he ⊢
 have hok:=lL hs j
 have hnx:aL (a,b,c,s) (j+1)=((i8 (aL (a,b,c,s) j)).1,(i8 (aL (a,b,c,s) j)).2.1+1,(i8 (aL (a,b,c,s) j)).2.2.1,(i8 (aL (a,b,c,s) j)).2.2.2):=rfl
 have hno:c8 (a,b,c,s) (j+1)=c8 (a,b,c,s) j++ [[.int (rv (i8 (aL (a,b,c,s) j)).2.2.2 (i8 (aL (a,b,c,s) j)).2.1.toNat)]] :=rfl
 have hol:=mj (a,b,c,s) j
 rw [← he] at hok hnx hno
 obtain ⟨o1,o2,o3,o4,o5,o6,o7,o8⟩:=hok
 have o3:0≤b':=o3
 have o4:b'≤136:=o4
 have o5:0≤c':=o5
 have o6:c'≤1000000000+(j:Int):=o6
 have o7:s'.length=200:=o7
 refine aa (fun h=> ?_) fun h=> ?_
 ·have h:=av h
  rw [show ((j:Int)+1).toNat=j+1 from by omega,hnx,hno,hol]
  refine aa (fun e=> ?_) fun e=> ?_
  ·have e:=av e
   have hp:(dn s').length=200:=gS s'
   have h0:i8 (a',b',c',s')=(0,0,c'+1,dn s'):=if_pos e
   rw [C2,h0]
   show _∧(0≤0∧(0:Int)<((dn s').length:Int))∧0<(dn s').length∧_
   rw [hp]
   exact ⟨⟨o7,o8,o5,by omega⟩,⟨by decide,by decide⟩,by decide,⟨by omega,by omega⟩,⟨by decide,by decide⟩,⟨by omega,by omega⟩,⟨rfl,by omega,.inl (by omega),rfl,rfl⟩,by omega⟩
  ·have e:=au e
   have h0:i8 (a',b',c',s')=(a',b',c',s'):=if_neg e
   rw [h0]
   exact ⟨⟨o3,by omega⟩,by omega,⟨by omega,by omega⟩,⟨by omega,by omega⟩,⟨by omega,by omega⟩,⟨rfl,by omega,.inl (by omega),rfl,rfl⟩,by omega⟩
 ·have h:=au h
  rw [mF,ak,show n'.toNat=j from by omega,← he]
  exact ⟨rfl,rfl,rfl,rfl,rfl⟩
theorem Ul:(base.with P8).Ok:=ac TK (ai Yl TK Tryz.func118 (by kernel_rfl) Tryz.call118 (by kernel_rfl) alv)
theorem OA (x:Sp):JM x=mq x:=ak _
theorem akq:afw:=by
 delta afw we
 rintro s a b c _ ⟨hl,hb,h0,h1⟩
 refine ⟨⟨⟨hl,hb,h0,h1⟩,rfl,trivial⟩,?_⟩
 rintro s' a' b' c' _ _ _ _ he
 rw [C2] at he
 cases he
 have hp:(dn s).length=200:=gS s
 rw [ax,List.take_length,cj,hp,OA]
 exact ⟨⟨by decide,by decide,by decide,by decide⟩,⟨by decide,by decide,by decide⟩,⟨by decide,by decide⟩,rfl,rfl,rfl,rfl⟩
theorem Tc:(base.with O2).Ok:=ac Ul (ai ZM Ul Tryz.func124 (by kernel_rfl) Tryz.call124 (by kernel_rfl) akq)
theorem BW (l:LD) (i:Nat):BB l i=List.replicate 136 [CD.int 0] ++l++List.replicate i [CD.int 0] :=ak _
theorem nbS (l:LD) (i:Nat):BB l (i+1)=BB l i++ [[CD.int 0]] :=by
 rw [BW,BW,show List.replicate (i+1) [CD.int 0] =List.replicate i [CD.int 0] ++ [[CD.int 0]] from List.replicate_succ']
 exact (dO _ _ _).symm
theorem nb0 {l:LD} (h:l.length=32):(168≤(List.replicate 136 [CD.int 0] ++l).length∧(List.replicate 136 [CD.int 0] ++l).length≤200∧List.replicate 136 [CD.int 0] ++l=BB l ((List.replicate 136 [CD.int 0] ++l).length-168))∧True:=by
 rw [cx,List.length_replicate,h,BW]
 exact ⟨⟨by decide,by decide,(List.append_nil _).symm⟩,trivial⟩
theorem nb1 {l:LD} (h:l.length=32):BB l 32=nk l:=by
 rw [BW]
 unfold nk jv
 rw [List.take_replicate,List.drop_replicate,List.take_of_length_le (by omega),h,dO]
 rfl
theorem amq:ZS:=by
 delta ZS we
 rintro l _ h _
 have h0:=nb0 h
 refine aa (fun e=>absurd (av e) (by omega)) fun _=>⟨⟨by decide,by decide,by decide,by decide⟩,⟨by omega,by omega⟩,h0,?_⟩
 rintro _ _ _ o _ ⟨g0,g1,ho⟩ _
 refine aa (fun e=> ?_) fun e=> ?_
 ·have e:=av e
  have hl:(o++ [[CD.int 0]]).length=o.length+1:=by rw [cx];rfl
  rw [hl]
  refine ⟨⟨by omega,by omega⟩,⟨by omega,by omega,?_⟩,by show 200-(o.length+1)<200-o.length;omega⟩
  rw [show o.length+1-168=(o.length-168)+1 from by omega,nbS,← ho]
 ·have e:=au e
  rw [show o.length-168=32 from by omega,nb1 h] at ho
  rw [Ao,ak]
  exact ⟨ho,rfl,rfl,rfl,rfl⟩
theorem UJ:(base.with P4).Ok:=ac Tc (ai agY Tc Tryz.func112 (by kernel_rfl) Tryz.call112 (by kernel_rfl) amq)
theorem arR:P69:=fun l _ h=>⟨h,rfl,rfl,rfl,rfl⟩
theorem Yz:(base.with Tn).Ok:=ac UJ (ai am UJ Tryz.func69 (by kernel_rfl) Tryz.call69 (by kernel_rfl) arR)
theorem alQ:apD:=by
 rintro k t n l _ hp
 have hn:=hp.2
 unfold dk
 refine ⟨hp,aa (fun h=> ?_) fun h=> ?_⟩
 ·have h:fO k t n l=false:=by simpa using h
  rw [if_neg (by rw [h];decide)]
 ·have h:fO k t n l=true:=by simpa using h
  have hc:cR k t n [] =0:=by
   unfold fO at h
   simp only [cV,aK] at h
   exact h.1
  obtain ⟨c1,c2,c3,c4,c9,c6,_⟩:=v7 hc
  rw [if_pos h]
  refine ⟨⟨by omega,by omega,by decide,by decide⟩,⟨by omega,by omega,by decide,by decide⟩,⟨by decide,by decide⟩,⟨by omega,by omega,by decide,by decide⟩,⟨by decide,by decide⟩,⟨by omega,by omega⟩,?_⟩
  show [[CD.int ((gU k 0).toNat:Int)]] ++ [[CD.int ((gU t 0).toNat:Int)]] ++ [[CD.int ((gU n 0).toNat:Int)],[CD.int ((gU n 1).toNat:Int)],[CD.int ((gU n 2).toNat:Int)],[CD.int ((gU n 3).toNat:Int)]] ++l=_
  rw [dy,dy,dy,dy,dy,dy]
  rw [show (256:Int) ^ 0=1 from rfl,show (256:Int) ^ 1=256 from rfl,show (256:Int) ^ 2=65536 from rfl,show (256:Int) ^ 3=16777216 from rfl,Int.ediv_one,Int.ediv_one,Int.ediv_one]
  rfl
theorem TC:(base.with Om).Ok:=ac Yz (ai am Yz Tryz.func162 (by kernel_rfl) Tryz.call162 (by kernel_rfl) alQ)
abbrev nS:Pat:= .agg [i64,.rd eR,i64,i64,rb,rb,i64,i64,i64,.skip,.skip,.skip,.skip,.skip,.skip]
def dT (k:Int) (it:LD) (p e:Int) (tg:LD) (x:Sp):List Dat:= [.i k,.r it,.i p,.i e,.r tg,.r x.2.2.2,.i x.1,.i x.2.1,.i x.2.2.1]
def amY:Ct:= {ps:= [nS,MF],bs:= [],pre:=fun | [.i _,.r it,.i p,.i _,.r _,.r _,.i _,.i _,.i _,.i _,.i _,.i _,.r _] =>0≤p∧p≤1000000 | _=>False,res:=fun
 | [.i k,.r it,.i p,.i e,.r tg,.r s,.i a,.i b,.i c,.i ok,.i ot,.i on,.r _] => .ret (.tup [nS,i64]) [] (dT k it (cA it p e ok ot on).1 (cA it p e ok ot on).2 tg (a,b,c,s)++ [.i (cA it p e ok ot on).2])
 | _=>ag}
def ahk:Ct:= {ps:= [nS,i64],bs:= [],pre:=fun _=>True,res:=fun
 | [.i k,.r it,.i p,.i e,.r tg,.r s,.i a,.i b,.i c,.i w] => .ret (.tup [nS,i64]) [] (dT k it p (lz e w) tg (a,b,c,s)++ [.i (lz e w)])
 | _=>ag}
def aiz:Ct:= {ps:= [nS,MF],bs:= [],pre:=fun | [.i k,.r it,.i _,.i _,.r _,.r s,.i a,.i b,.i c,.i _,.i _,.i _,.r d] =>k=1∧bW d∧bM (a,b,c,s) | _=>False,res:=fun
 | [.i k,.r it,.i p,.i e,.r tg,.r s,.i a,.i b,.i c,.i ok,.i ot,.i on,.r d] => .ret nS [] (dT k it p e tg (bn ok ot on d (a,b,c,s)))
 | _=>ag}
def arS:Ct:= {ps:= [nS],bs:= [],pre:=fun _=>True,res:=fun
 | [.i k,.r it,.i p,.i e,.r tg,.r s,.i a,.i b,.i c] => .ret (.tup [nS,i64]) [] (dT k it p (mU it p e) tg (a,b,c,s)++ [.i (mU it p e)])
 | _=>ag}
def afF:Prop:=
 ∀ (a:Int) (b:LD) (c d:Int) (e f:LD) (g h i j k m:Int) (o:LD),
 lM b→
 lM e→
 lM f→
 lM o→
 (0:Int)≤c∧c≤(1000000:Int)→
 ((0:Int)≤c∧c≤(1000000:Int))∧
 a=a∧
 b=b∧
 (cA b c d j k m).fst=(cA b c d j k m).fst∧
 (cA b c d j k m).snd=(cA b c d j k m).snd∧
 e=e∧
 f=(g,h,i,f).snd.snd.snd∧
 g=(g,h,i,f).fst∧
 h=(g,h,i,f).snd.fst∧
 i=(g,h,i,f).snd.snd.fst∧(cA b c d j k m).snd=(cA b c d j k m).snd
def QQ:af:=aj Om 116 (ap amY)
def ab3:Prop:=
 ∀ (a:Int) (b:LD) (c d:Int) (e f:LD) (g h i j:Int),
 lM b→
 lM e→
 lM f→
 True→
 True∧
 a=a∧
 b=b∧
 c=c∧
 lz d j=lz d j∧
 e=e∧
 f=(g,h,i,f).snd.snd.snd∧
 g=(g,h,i,f).fst∧
 h=(g,h,i,f).snd.fst∧i=(g,h,i,f).snd.snd.fst∧lz d j=lz d j
def P6:af:=aj QQ 115 (ap ahk)
def ag6:Prop:=
 ∀ (a:Int) (b:LD) (c d:Int) (e f:LD) (g h i j k m:Int) (o:LD),
 lM b→
 lM e→
 lM f→
 lM o→
 a=(1:Int)∧bW o∧bM (g,h,i,f)→
 bif decide (a=(1:Int)) then
 bW o∧
 (bM (g,h,i,f)∧
 ar (dk j k m o)∧
 (dk j k m o).length≤(1000000:Nat))∧
 a=a∧
 b=b∧
 c=c∧
 d=d∧
 e=e∧
 (wA (dk j k m o) (g,h,i,f)).snd.snd.snd=
 (bn j k m o (g,h,i,f)).snd.snd.snd∧
 (wA (dk j k m o) (g,h,i,f)).fst=
 (bn j k m o (g,h,i,f)).fst∧
 (wA (dk j k m o) (g,h,i,f)).snd.fst=
 (bn j k m o (g,h,i,f)).snd.fst∧
 (wA (dk j k m o) (g,h,i,f)).snd.snd.fst=
 (bn j k m o (g,h,i,f)).snd.snd.fst
 else False
def O9:af:=aj P6 117 (ap aiz)
def P76:Prop:=
 ∀ (a:Int) (b:LD) (c d:Int) (e f:LD) (g h i:Int),
 lM b→
 lM e→
 lM f→
 True→
 True∧
 a=a∧
 b=b∧
 c=c∧
 mU b c d=mU b c d∧
 e=e∧
 f=(g,h,i,f).snd.snd.snd∧
 g=(g,h,i,f).fst∧
 h=(g,h,i,f).snd.fst∧i=(g,h,i,f).snd.snd.fst∧mU b c d=mU b c d
def UT:af:=aj O9 76 (ap arS)
theorem amT:afF:=by
 delta afF lM
 exact fun k it p e tg s a b c ok ot on d _ _ _ _ h=>⟨h,rfl,rfl,rfl,rfl,rfl,rfl,rfl,rfl,rfl,rfl⟩
theorem S3:(base.with QQ).Ok:=ac TC (ai am TC Tryz.func116 (by kernel_rfl) Tryz.call116 (by kernel_rfl) amT)
theorem aiO:ab3:=by
 delta ab3 lM
 exact fun k it p e tg s a b c w _ _ _ _=>⟨trivial,rfl,rfl,rfl,rfl,rfl,rfl,rfl,rfl,rfl,rfl⟩
theorem Uj:(base.with P6).Ok:=ac S3 (ai am S3 Tryz.func115 (by kernel_rfl) Tryz.call115 (by kernel_rfl) aiO)
theorem aeo (k t n:Int) (d:LD) (x:Sp):wA (dk k t n d) x=bn k t n d x:=by rw [wA,bn]
theorem aic:ag6:=by
 delta ag6 lM
 rintro k it p e tg s a b c ok ot on d _ _ _ _ ⟨hk,hd,hs⟩
 have h1:=Az ok ot on d
 have h2:=hd.2
 rw [aeo]
 exact aa (fun _=>⟨hd,⟨hs,Jm ok ot on (dK hd.1),by omega⟩,rfl,rfl,rfl,rfl,rfl,rfl,rfl,rfl,rfl⟩) fun e=>cL hk e
theorem T9:(base.with O9).Ok:=ac Uj (ai am Uj Tryz.func117 (by kernel_rfl) Tryz.call117 (by kernel_rfl) aic)
theorem arY:P76:=by
 delta P76 lM
 exact fun k it p e tg s a b c _ _ _ _=>⟨trivial,rfl,rfl,rfl,rfl,rfl,rfl,rfl,rfl,rfl,rfl⟩
theorem afv:(base.with UT).Ok:=ac T9 (ai am T9 Tryz.func76 (by kernel_rfl) Tryz.call76 (by kernel_rfl) arY)
def rT (e p:Int) (x:Sp) (r:Tr):Tr:=hid (if e≠0 then (e,[],p,x,e) else r)
def re1 (k:Int) (it tg:LD) (r:Tr):Res:= .ret (.tup [nS,i64]) [] (dT k it r.2.2.1 r.2.2.2.2 tg r.2.2.2.1++ [.i r.1])
def aru:Ct:= {ps:= [nS],bs:= [],pre:=fun | [.i k,.r it,.i p,.i _,.r _,.r s,.i a,.i b,.i c] =>k=1∧d9 it p (a,b,c,s) | _=>False,res:=fun
 | [.i k,.r it,.i p,.i e,.r tg,.r s,.i a,.i b,.i c] =>re1 k it tg (rT e p (a,b,c,s) (bF it p (a,b,c,s)))
 | _=>ag}
def ar9:Ct:= {ps:= [nS,i64,rb],bs:= [],pre:=fun | [.i k,.r it,.i p,.i _,.r _,.r s,.i a,.i b,.i c,.i _,.r d] =>k=1∧bW d∧d9 it p (a,b,c,s) | _=>False,res:=fun
 | [.i k,.r it,.i p,.i e,.r tg,.r s,.i a,.i b,.i c,.i t,.r d] =>re1 k it tg (rT e p (a,b,c,s) (bc it t d p (a,b,c,s)))
 | _=>ag}
def apQ:Ct:= {ps:= [nS,i64],bs:= [],pre:=fun | [.i k,.r it,.i p,.i _,.r _,.r s,.i a,.i b,.i c,.i n] =>k=1∧0≤n∧n≤1000∧d9 it p (a,b,c,s) | _=>False,res:=fun
 | [.i k,.r it,.i p,.i e,.r tg,.r s,.i a,.i b,.i c,.i n] => .ret (.tup [nS,.own 0,i64]) [ob] (dT k it (rT e p (a,b,c,s) (bd it n p (a,b,c,s))).2.2.1 (rT e p (a,b,c,s) (bd it n p (a,b,c,s))).2.2.2.2 tg (rT e p (a,b,c,s) (bd it n p (a,b,c,s))).2.2.2.1++ [.i (rT e p (a,b,c,s) (bd it n p (a,b,c,s))).1,.r (rT e p (a,b,c,s) (bd it n p (a,b,c,s))).2.1])
 | _=>ag}
abbrev eU (a b c:Int)(d:LD):Int×Int×Int×LD:=
 ((a,b,c,d).fst,(a,b,c,d).snd.fst,(a,b,c,d).snd.snd.fst,(a,b,c,d).snd.snd.snd)
abbrev GY (a b c:Int)(d:LD):LD:=
 (bn (3:Int) (0:Int) (1:Int) [] (eU a b c d)).snd.snd.snd
abbrev Hc (a b c:Int)(d:LD):Int:=
 (bn (3:Int) (0:Int) (1:Int) [] (eU a b c d)).snd.snd.fst
abbrev BQ (a b c:Int)(d:LD):Sp:=
 JM
 ((bn (3:Int) (0:Int) (1:Int) [] (eU a b c d)).fst,
 (bn (3:Int) (0:Int) (1:Int) [] (eU a b c d)).snd.fst,
 Hc a b c d,GY a b c d)
def P75:Prop:=
 ∀ (a:Int) (b:LD) (c d:Int) (e f:LD) (g h i:Int),
 lM b→
 lM e→
 lM f→
 a=(1:Int)∧d9 b c (g,h,i,f)→
 ((0:Int)≤c∧c≤(1000000:Int))∧
 bif decide ((cA b c d (3:Int) (0:Int) (1:Int)).snd≠(0:Int)) then
 a=a∧
 b=b∧
 (cA b c d (3:Int) (0:Int) (1:Int)).fst=
 (rT d c (g,h,i,f) (bF b c (g,h,i,f))).snd.snd.fst∧
 (cA b c d (3:Int) (0:Int) (1:Int)).snd=
 (rT d c (g,h,i,f) (bF b c (g,h,i,f))).snd.snd.snd.snd∧
 e=e∧
 (g,h,i,f).snd.snd.snd=
 (rT d c (g,h,i,f) (bF b c (g,h,i,f))).snd.snd.snd.fst.snd.snd.snd∧
 (g,h,i,f).fst=
 (rT d c (g,h,i,f) (bF b c (g,h,i,f))).snd.snd.snd.fst.fst∧
 (g,h,i,f).snd.fst=
 (rT d c (g,h,i,f) (bF b c (g,h,i,f))).snd.snd.snd.fst.snd.fst∧
 (g,h,i,f).snd.snd.fst=
 (rT d c (g,h,i,f)
 (bF b c (g,h,i,f))).snd.snd.snd.fst.snd.snd.fst∧
 (cA b c d (3:Int) (0:Int) (1:Int)).snd=
 (rT d c (g,h,i,f) (bF b c (g,h,i,f))).fst
 else
 (a=(1:Int)∧bW [] ∧bM (eU g h i f))∧
 bif decide (a=(1:Int)) then
 ((GY g h i f).length=(200:Nat)∧
 ar (GY g h i f)∧
 (0:Int)≤Hc g h i f∧Hc g h i f≤(2000000000:Int))∧
 a=a∧
 b=b∧
 (cA b c d (3:Int) (0:Int) (1:Int)).fst=
 (rT d c (g,h,i,f) (bF b c (g,h,i,f))).snd.snd.fst∧
 (cA b c d (3:Int) (0:Int) (1:Int)).snd=
 (rT d c (g,h,i,f) (bF b c (g,h,i,f))).snd.snd.snd.snd∧
 e=e∧
 (BQ g h i f).snd.snd.snd=
 (rT d c (g,h,i,f)
 (bF b c (g,h,i,f))).snd.snd.snd.fst.snd.snd.snd∧
 (BQ g h i f).fst=
 (rT d c (g,h,i,f) (bF b c (g,h,i,f))).snd.snd.snd.fst.fst∧
 (BQ g h i f).snd.fst=
 (rT d c (g,h,i,f)
 (bF b c (g,h,i,f))).snd.snd.snd.fst.snd.fst∧
 (BQ g h i f).snd.snd.fst=
 (rT d c (g,h,i,f)
 (bF b c (g,h,i,f))).snd.snd.snd.fst.snd.snd.fst∧
 (0:Int)=(rT d c (g,h,i,f) (bF b c (g,h,i,f))).fst
 else False
def VD:af:=aj UT 75 (ap aru)
abbrev yI (a b c d e f:Int)(g h i:LD):Int:=
 (rT a b (c,d,e,g) (bc h f i b (c,d,e,g))).snd.snd.snd.snd
abbrev zi (a b c d e f:Int)(g h i:LD):LD:=
 (rT a b (c,d,e,g) (bc h f i b (c,d,e,g))).snd.snd.snd.fst.snd.snd.snd
abbrev zM (a b c d e f:Int)(g h i:LD):Int:=
 (rT a b (c,d,e,g) (bc h f i b (c,d,e,g))).snd.snd.snd.fst.fst
abbrev za (a b c d e f:Int)(g h i:LD):Int:=
 (rT a b (c,d,e,g) (bc h f i b (c,d,e,g))).snd.snd.snd.fst.snd.fst
abbrev zw (a b c d e f:Int)(g h i:LD):Int:=
 (rT a b (c,d,e,g) (bc h f i b (c,d,e,g))).snd.snd.snd.fst.snd.snd.fst
abbrev yP (a b c d e f:Int)(g h i:LD):Int:=
 (rT a b (c,d,e,g) (bc h f i b (c,d,e,g))).fst
abbrev C6 (a b c d e f:Int)(g h i:LD):Prop:=
 (cA g a b (1:Int) c (bi c h)).fst=
 (rT b a (d,e,f,i) (bc g c h a (d,e,f,i))).snd.snd.fst
def P71:Prop:=
 ∀ (a:Int) (b:LD) (c d:Int) (e f:LD) (g h i j:Int) (k:LD),
 lM b→
 lM e→
 lM f→
 lM k→
 a=(1:Int)∧bW k∧d9 b c (g,h,i,f)→
 bif decide (d≠(0:Int)) then
 a=a∧
 b=b∧
 c=(rT d c (g,h,i,f) (bc b j k c (g,h,i,f))).snd.snd.fst∧
 d=yI d c g h i j f b k∧
 e=e∧
 f=zi d c g h i j f b k∧
 g=zM d c g h i j f b k∧
 h=za d c g h i j f b k∧
 i=zw d c g h i j f b k∧d=yP d c g h i j f b k
 else
 bW k∧
 bif decide (bl j k≠(0:Int)) then
 True∧
 a=a∧
 b=b∧
 c=(rT d c (g,h,i,f) (bc b j k c (g,h,i,f))).snd.snd.fst∧
 lz d (bl j k)=yI d c g h i j f b k∧
 e=e∧
 (g,h,i,f).snd.snd.snd=zi d c g h i j f b k∧
 (g,h,i,f).fst=zM d c g h i j f b k∧
 (g,h,i,f).snd.fst=za d c g h i j f b k∧
 (g,h,i,f).snd.snd.fst=zw d c g h i j f b k∧
 lz d (bl j k)=
 yP d c g h i j f b k
 else
 ((0:Int)≤c∧c≤(1000000:Int))∧
 bif decide ((cA b c d (1:Int) j (bi j k)).snd≠(0:Int)) then
 a=a∧
 b=b∧
 C6 c d j g h i b k f∧
 (cA b c d (1:Int) j (bi j k)).snd=
 yI d c g h i j f b k∧
 e=e∧
 (g,h,i,f).snd.snd.snd=zi d c g h i j f b k∧
 (g,h,i,f).fst=zM d c g h i j f b k∧
 (g,h,i,f).snd.fst=za d c g h i j f b k∧
 (g,h,i,f).snd.snd.fst=zw d c g h i j f b k∧
 (cA b c d (1:Int) j (bi j k)).snd=
 yP d c g h i j f b k
 else
 bW k∧
 bif decide (dg j k≠(0:Int)) then
 True∧
 a=a∧
 b=b∧
 C6 c d j g h i b k f∧
 lz
 (cA b c d (1:Int) j (bi j k)).snd
 (dg j k)=
 yI d c g h i j f b k∧
 e=e∧
 (eU g h i f).snd.snd.snd=zi d c g h i j f b k∧
 (eU g h i f).fst=zM d c g h i j f b k∧
 (eU g h i f).snd.fst=za d c g h i j f b k∧
 (eU g h i f).snd.snd.fst=zw d c g h i j f b k∧
 lz
 (cA b c d (1:Int) j (bi j k)).snd
 (dg j k)=
 yP d c g h i j f b k
 else
 (a=(1:Int)∧
 bW k∧bM (eU g h i f))∧
 a=a∧
 b=b∧
 C6 c d j g h i b k f∧
 (cA b c d (1:Int) j (bi j k)).snd=
 yI d c g h i j f b k∧
 e=e∧
 (bn (1:Int) j (bi j k) k
 (eU g h i f)).snd.snd.snd=
 zi d c g h i j f b k∧
 (bn (1:Int) j (bi j k) k
 (eU g h i f)).fst=
 zM d c g h i j f b k∧
 (bn (1:Int) j (bi j k) k
 (eU g h i f)).snd.fst=
 za d c g h i j f b k∧
 (bn (1:Int) j (bi j k) k
 (eU g h i f)).snd.snd.fst=
 zw d c g h i j f b k∧
 (0:Int)=yP d c g h i j f b k
def TG:af:=aj VD 71 (ap ar9)
abbrev rA (a b c d:Int)(e:LD):Int×Int×Int×LD:=
 ((bn (2:Int) (1:Int) a [] (eU b c d e)).fst,
 (bn (2:Int) (1:Int) a [] (eU b c d e)).snd.fst,
 (bn (2:Int) (1:Int) a [] (eU b c d e)).snd.snd.fst,
 (bn (2:Int) (1:Int) a [] (eU b c d e)).snd.snd.snd)
def P72:Prop:=
 ∀ (a:Int) (b:LD) (c d:Int) (e f:LD) (g h i j:Int),
 lM b→
 lM e→
 lM f→
 a=(1:Int)∧(0:Int)≤j∧j≤(1000:Int)∧d9 b c (g,h,i,f)→
 ((0:Int)≤c∧c≤(1000000:Int))∧
 bif decide ((cA b c d (2:Int) (1:Int) j).snd≠(0:Int)) then
 a=a∧
 b=b∧
 (cA b c d (2:Int) (1:Int) j).fst=
 (rT d c (g,h,i,f) (bd b j c (g,h,i,f))).snd.snd.fst∧
 (cA b c d (2:Int) (1:Int) j).snd=
 (rT d c (g,h,i,f) (bd b j c (g,h,i,f))).snd.snd.snd.snd∧
 e=e∧
 (g,h,i,f).snd.snd.snd=
 (rT d c (g,h,i,f) (bd b j c (g,h,i,f))).snd.snd.snd.fst.snd.snd.snd∧
 (g,h,i,f).fst=
 (rT d c (g,h,i,f) (bd b j c (g,h,i,f))).snd.snd.snd.fst.fst∧
 (g,h,i,f).snd.fst=
 (rT d c (g,h,i,f) (bd b j c (g,h,i,f))).snd.snd.snd.fst.snd.fst∧
 (g,h,i,f).snd.snd.fst=
 (rT d c (g,h,i,f)
 (bd b j c (g,h,i,f))).snd.snd.snd.fst.snd.snd.fst∧
 (cA b c d (2:Int) (1:Int) j).snd=
 (rT d c (g,h,i,f) (bd b j c (g,h,i,f))).fst∧
 [] =(rT d c (g,h,i,f) (bd b j c (g,h,i,f))).snd.fst
 else
 (a=(1:Int)∧bW [] ∧bM (eU g h i f))∧
 bif decide (a=(1:Int)) then
 (bM (rA j g h i f)∧j≤(1000000:Int))∧
 a=a∧
 b=b∧
 (cA b c d (2:Int) (1:Int) j).fst=
 (rT d c (g,h,i,f) (bd b j c (g,h,i,f))).snd.snd.fst∧
 (cA b c d (2:Int) (1:Int) j).snd=
 (rT d c (g,h,i,f) (bd b j c (g,h,i,f))).snd.snd.snd.snd∧
 e=e∧
 (mF (rA j g h i f) j.toNat).fst.snd.snd.snd=
 (rT d c (g,h,i,f)
 (bd b j c (g,h,i,f))).snd.snd.snd.fst.snd.snd.snd∧
 (mF (rA j g h i f) j.toNat).fst.fst=
 (rT d c (g,h,i,f) (bd b j c (g,h,i,f))).snd.snd.snd.fst.fst∧
 (mF (rA j g h i f) j.toNat).fst.snd.fst=
 (rT d c (g,h,i,f)
 (bd b j c (g,h,i,f))).snd.snd.snd.fst.snd.fst∧
 (mF (rA j g h i f) j.toNat).fst.snd.snd.fst=
 (rT d c (g,h,i,f)
 (bd b j c (g,h,i,f))).snd.snd.snd.fst.snd.snd.fst∧
 (0:Int)=(rT d c (g,h,i,f) (bd b j c (g,h,i,f))).fst∧
 (mF (rA j g h i f) j.toNat).snd=
 (rT d c (g,h,i,f) (bd b j c (g,h,i,f))).snd.fst
 else iR (j+(30:Int))∧((0:Int)≤j+(30:Int)∧(0:Int)<(31:Int)∧j+(30:Int)≤IntKind.i64.max)∧False
def TF:af:=aj TG 72 (ap apQ)
theorem tA {e p:Int} {x:Sp} {r:Tr} (h:e≠0):rT e p x r=(e,[],p,x,e):=by rw [rT,ak,if_pos h]
theorem oH {e p:Int} {x:Sp} {r:Tr} (h:¬ e≠0):rT e p x r=r:=by rw [rT,ak,if_neg h]
theorem Sf {it:LD} {p e k t n:Int} (h:e≠0):cA it p e k t n=(p,e):=if_pos h
theorem M9 {it:LD} {p e k t n:Int} (h:¬ e≠0) (g:ci it p k t n=false):cA it p e k t n=(p,10):=by rw [cA,if_neg h,if_pos g]
theorem Ns {it:LD} {p e k t n:Int} (h:¬ e≠0) (g:¬ ci it p k t n=false):cA it p e k t n=(p+1,0):=by rw [cA,if_neg h,if_neg g]
theorem Hb (w:Int):lz 0 w=w:=if_pos rfl
theorem apA:P75:=by
 delta P75 lM eU GY Hc BQ
 rintro k it p e tg s a b c _ _ _ ⟨hk,hp,hq⟩
 refine ⟨hp,?_⟩
 by_cases he:e≠0
 ·rw [Sf he,tA he]
  exact aa (fun _=>⟨rfl,rfl,rfl,rfl,rfl,rfl,rfl,rfl,rfl,rfl⟩) fun q=>cL he q
 ·by_cases hh:ci it p 3 0 1=false
  ·rw [M9 he hh,oH he,show bF it p (a,b,c,s)=(10,[],p,(a,b,c,s),10) from by rw [bF,ak,if_pos hh]]
   exact aa (fun _=>⟨rfl,rfl,rfl,rfl,rfl,rfl,rfl,rfl,rfl,rfl⟩) fun q=>cL yv q
  ·have ho:=ko 3 0 1 lr hq
   obtain ⟨_,_,_,_,o5,o6,o7,o8⟩:=ho
   rw [Ns he hh,oH he,OA,show bF it p (a,b,c,s)=(0,[],p+1,mq (bn 3 0 1 [] (a,b,c,s)),0) from by rw [bF,ak,if_neg hh]]
   exact aa (fun q=>dJ (fun h=>h rfl) q) fun _=>⟨⟨hk,lr,aF (by omega) hq⟩,aa (fun _=>⟨⟨o7,o8,o5,Int.le_trans o6 (by omega)⟩,rfl,rfl,rfl,rfl,rfl,rfl,rfl,rfl,rfl,rfl⟩) fun q=>cL hk q⟩
theorem aeF:(base.with VD).Ok:=ac afv (ai am afv Tryz.func75 (by kernel_rfl) Tryz.call75 (by kernel_rfl) apA)
theorem aql:P71:=by
 delta P71 lM eU yI zi zM za zw yP C6
 rintro k it p e tg s a b c t d _ _ _ _ ⟨hk,hd,hp,hq⟩
 by_cases he:e≠0
 ·rw [tA he]
  exact aa (fun _=>⟨rfl,rfl,rfl,rfl,rfl,rfl,rfl,rfl,rfl,rfl⟩) fun q=>cL he q
 refine aa (fun q=>dJ he q) fun _=>⟨hd,?_⟩
 rw [oH he]
 obtain rfl:e=0:=Decidable.not_not.mp he
 rw [Hb]
 refine aa (fun q=> ?_) fun q=>⟨hp,?_⟩
 ·have q:=av q
  rw [show bc it t d p (a,b,c,s)=(bl t d,[],p,(a,b,c,s),bl t d) from by rw [bc,ak,if_pos q]]
  exact ⟨trivial,rfl,rfl,rfl,rfl,rfl,rfl,rfl,rfl,rfl,rfl⟩
 have q:=au q
 by_cases hh:ci it p 1 t (bi t d)=false
 ·rw [M9 he hh,show bc it t d p (a,b,c,s)=(10,[],p,(a,b,c,s),10) from by rw [bc,ak,if_neg q,if_pos hh]]
  exact aa (fun _=>⟨rfl,rfl,rfl,rfl,rfl,rfl,rfl,rfl,rfl,rfl⟩) fun q=>cL yv q
 rw [Ns he hh]
 refine aa (fun q=>dJ (fun h=>h rfl) q) fun _=>⟨hd,aa (fun g=> ?_) fun g=> ?_⟩
 ·have g:=av g
  rw [show bc it t d p (a,b,c,s)=(dg t d,[],p+1,(a,b,c,s),dg t d) from by rw [bc,ak,if_neg q,if_neg hh,if_pos g]]
  exact ⟨trivial,rfl,rfl,rfl,Hb _,rfl,rfl,rfl,rfl,rfl,Hb _⟩
 ·have g:=au g
  rw [show bc it t d p (a,b,c,s)=(0,[],p+1,bn 1 t (bi t d) d (a,b,c,s),0) from by rw [bc,ak,if_neg q,if_neg hh,if_neg g]]
  exact ⟨⟨hk,hd,aF (by omega) hq⟩,rfl,rfl,rfl,rfl,rfl,rfl,rfl,rfl,rfl,rfl⟩
theorem aeR:(base.with TG).Ok:=ac aeF (ai am aeF Tryz.func71 (by kernel_rfl) Tryz.call71 (by kernel_rfl) aql)
theorem asc:P72:=by
 delta P72 lM iR eU rA
 rintro k it p e tg s a b c n _ _ _ ⟨hk,h0,h1,hp,hq⟩
 refine ⟨hp,?_⟩
 by_cases he:e≠0
 ·rw [Sf he,tA he]
  exact aa (fun _=>⟨rfl,rfl,rfl,rfl,rfl,rfl,rfl,rfl,rfl,rfl,rfl⟩) fun q=>cL he q
 ·by_cases hh:ci it p 2 1 n=false
  ·rw [M9 he hh,oH he,show bd it n p (a,b,c,s)=(10,[],p,(a,b,c,s),10) from by rw [bd,ak,if_pos hh]]
   exact aa (fun _=>⟨rfl,rfl,rfl,rfl,rfl,rfl,rfl,rfl,rfl,rfl,rfl⟩) fun q=>cL yv q
  ·have ho:=ko 2 1 n lr hq
   rw [Ns he hh,oH he,mF,ak,show bd it n p (a,b,c,s)=(0,c8 (bn 2 1 n [] (a,b,c,s)) n.toNat,p+1,aL (bn 2 1 n [] (a,b,c,s)) n.toNat,0) from by rw [bd,ak,if_neg hh]]
   exact aa (fun q=>dJ (fun h=>h rfl) q) fun _=>⟨⟨hk,lr,aF (by omega) hq⟩,aa (fun _=>⟨⟨aF (by omega) ho,by omega⟩,rfl,rfl,rfl,rfl,rfl,rfl,rfl,rfl,rfl,rfl,rfl⟩) fun q=>cL hk q⟩
theorem afn:(base.with TF).Ok:=ac aeR (ai am aeR Tryz.func72 (by kernel_rfl) Tryz.call72 (by kernel_rfl) asc)
theorem Qj (a b:Nat):∀ n,mn a b n=(a ^^^ b)%2 ^ n
 | 0=>by rw [mn,Nat.pow_zero,Nat.mod_one]
 | n+1=>by
  have hb:(a ^^^ b).testBit n=(a.testBit n !=b.testBit n):=Nat.testBit_xor ..
  rw [Nat.testBit_eq_decide_div_mod_eq,Nat.testBit_eq_decide_div_mod_eq,Nat.testBit_eq_decide_div_mod_eq] at hb
  rw [mn,Nat.mod_pow_succ,Qj a b n]
  have h1:(a ^^^ b) / 2 ^ n%2<2:=Nat.mod_lt _ (by decide)
  have h2:a / 2 ^ n%2<2:=Nat.mod_lt _ (by decide)
  have h3:b / 2 ^ n%2<2:=Nat.mod_lt _ (by decide)
  generalize (a ^^^ b) / 2 ^ n%2=x at *
  generalize a / 2 ^ n%2=y at *
  generalize b / 2 ^ n%2=z at *
  by_cases e:y=z
  ·subst e
   have hx:x=0:=by
    have:x≠1:=by intro h;subst h;simp at hb
    omega
   rw [if_neg (fun h=>h rfl),hx,Nat.mul_zero,Nat.add_zero]
  ·have hx:x=1:=by
    by_cases h0:x=1
    ·exact h0
    ·rw [decide_eq_false h0] at hb
     have hy:y=0∧z=1∨y=1∧z=0:=by omega
     rcases hy with ⟨rfl,rfl⟩ | ⟨rfl,rfl⟩ <;>simp at hb
   rw [if_pos e,hx,Nat.mul_one]
theorem yn (a b:Int) (z:Nat):(xo a b).toNat.testBit z=(decide (z<8)&&(a.toNat.testBit z !=b.toNat.testBit z)):=by
 unfold xo
 rw [ax,Qj,Nat.testBit_mod_two_pow,Nat.testBit_xor]
theorem EN {a b:Int} (ha:0≤a∧a<256) (hb:0≤b∧b<256) (h:∀ z,z<8→a.toNat.testBit z=b.toNat.testBit z):a=b:=by
 have e:a.toNat=b.toNat:=by
  apply Nat.eq_of_testBit_eq
  intro z
  rcases Nat.lt_or_ge z 8 with hz | hz
  ·exact h z hz
  ·have h1:(2:Nat) ^ 8≤2 ^ z:=Nat.pow_le_pow_right (by decide) hz
   rw [Nat.testBit_lt_two_pow (Nat.lt_of_lt_of_le (show a.toNat<2 ^ 8 by omega) h1),Nat.testBit_lt_two_pow (Nat.lt_of_lt_of_le (show b.toNat<2 ^ 8 by omega) h1)]
 omega
theorem Hz {w:Int} (h:0≤w) (k:Nat) {z:Nat} (hz:z<8):(wb w k).toNat.testBit z=bt w (8*k+z):=by
 obtain ⟨n,rfl⟩:=aB h
 unfold wb bt
 rw [JQ,← Int.natCast_ediv]
 have e:((n / 2 ^ (8*k):Nat):Int)%256=((n / 2 ^ (8*k)%2 ^ 8:Nat):Int):=by
  rw [show (2:Nat) ^ 8=256 from by decide,Int.natCast_emod];rfl
 rw [e,ax,ax,Nat.testBit_mod_two_pow,decide_eq_true hz,Bool.true_and,← Nat.shiftRight_eq_div_pow,Nat.testBit_shiftRight]
theorem afl {b:Int} (hb:0≤b∧b<256) {k:Nat} (hk:k<8) (m:Nat):bt (de .u64 (IntKind.u64.wrap b) ((8*k:Nat):Int)) m=(decide (8*k≤m)&&b.toNat.testBit (m-8*k)):=by
 obtain ⟨c,rfl⟩:=aB hb.1
 have hc:c<256:=by omega
 have hpow:2 ^ (8*k)*256≤2 ^ 64:=by
  rw [show (256:Nat)=2 ^ 8 from by decide,← Nat.pow_add]
  exact Nat.pow_le_pow_right (by decide) (by omega)
 have h3:c*2 ^ (8*k)≤255*2 ^ (8*k):=Nat.mul_le_mul_right _ (by omega)
 have h4:0<2 ^ (8*k):=Nat.pow_pos (by decide)
 rw [show (2:Nat) ^ 64=18446744073709551616 from by decide] at hpow
 rw [df ⟨by omega,by omega⟩,GI c (8*k) (by omega),Nat.mod_eq_of_lt (show c*2 ^ (8*k)<18446744073709551616 by omega)]
 unfold bt
 rw [ax,ax,← Nat.shiftLeft_eq,Nat.testBit_shiftLeft]
theorem XE (x s:Int):al (de .u64 x s):=by unfold de;exact kb _
theorem ajs {w b:Int} (hw:al w) (hb:0≤b∧b<256) {k j:Nat} (hk:k<8) (hj:j<8):wb (xr w (de .u64 (IntKind.u64.wrap b) ((8*k:Nat):Int))) j=if k=j then xo (wb w j) b else wb w j:=by
 have hx:=kM w (de .u64 (IntKind.u64.wrap b) ((8*k:Nat):Int))
 have hr:0≤(if k=j then xo (wb w j) b else wb w j)∧(if k=j then xo (wb w j) b else wb w j)<256:=by
  split
  ·exact yr _ _
  ·exact I4 _ _
 refine EN (I4 _ _) hr fun z hz=> ?_
 rw [Hz hx.1 _ hz,oN hw (XE _ _),afl hb hk]
 by_cases e:k=j
 ·subst e
  rw [if_pos rfl,yn,Hz hw.1 _ hz,decide_eq_true (show 8*k≤8*k+z by omega),decide_eq_true hz,show 8*k+z-8*k=z from by omega,Bool.true_and,Bool.true_and]
 ·rw [if_neg e,Hz hw.1 _ hz]
  have:(decide (8*k≤8*j+z)&&b.toNat.testBit (8*j+z-8*k))=false:=by
   by_cases h:8*k≤8*j+z
   ·have h8:8≤8*j+z-8*k:=by omega
    have h1:(2:Nat) ^ 8≤2 ^ (8*j+z-8*k):=Nat.pow_le_pow_right (by decide) h8
    rw [Nat.testBit_lt_two_pow (Nat.lt_of_lt_of_le (show b.toNat<2 ^ 8 by omega) h1),Bool.and_false]
   ·rw [decide_eq_false h,Bool.false_and]
  rw [this,Bool.bne_false]
theorem Mo {n:Nat} {l m:List Int} (hl:l.length=n) (hm:m.length=n) (h:∀ j,j<n→l.getD j 0=m.getD j 0):l=m:=by
 apply List.ext_getElem (by rw [hl,hm])
 intro i h1 h2
 have:=h i (by omega)
 rw [aw,aw,cJ h1,cJ h2] at this
 simpa using this
theorem E5 {s:List Int} (h:s.length=25) (hs:aq s) {p:Nat} (hp:p<200) {b:Int} (hb:0≤b∧b<256):c7 (fq s p b)=(c7 s).set p (xo ((c7 s).getD p 0) b):=by
 refine Mo (fH _) (by rw [dc,fH]) fun i hi=> ?_
 rw [om _ hi,dZ _ _ _ _ (by rw [fH];exact hi)]
 unfold fq
 rw [dZ _ _ _ _ (by omega),om _ hp,om _ hi]
 by_cases e:p / 8=i / 8
 ·rw [if_pos e,ajs (hs _) hb (Nat.mod_lt _ (by decide)) (Nat.mod_lt _ (by decide)),← e]
  by_cases e2:p%8=i%8
  ·have:p=i:=by omega
   subst this
   rw [if_pos rfl,if_pos rfl]
  ·rw [if_neg e2,if_neg (by intro h;exact e2 (by rw [h]))]
 ·rw [if_neg e,if_neg (by intro h;exact e (by rw [h]))]
theorem uj (o:Int→Int→Int) (S:List Int) (p:LD) (k:Nat) {i:Nat} (hi:i<S.length):∀ n,(mo o S p k n).getD i 0=if i<n then o (S.getD i 0) (rv p (k+i)) else S.getD i 0
 | 0=>by rw [if_neg (by omega)];rfl
 | n+1=>by
  rw [mo,dZ _ _ _ _ (by rw [m9];exact hi)]
  by_cases e:n=i
  ·subst e
   rw [if_pos rfl,if_pos (by omega),uj o S p k hi n,if_neg (by omega)]
  ·rw [if_neg e,uj o S p k hi n]
   by_cases e2:i<n
   ·rw [if_pos e2,if_pos (by omega)]
   ·rw [if_neg e2,if_neg (by omega)]
theorem ar5 {s:List Int} (h:s.length=25) (hs:aq s):i4 ((c7 s).map ae) 200=s:=by
 rw [Qc (by rw [bA,fH]) (Fs s),Ql h hs]
theorem CZ {s:List Int} (h:s.length=25) (hs:aq s):c7 (jP (i4 ((c7 s).map ae) 200))=c7 (fP s):=by
 rw [ar5 h hs,Ku h hs]
theorem QJ {l:LD} (hl:ar l):∀ n,n≤l.length→c7 (db iu l n).1=mo xo (fI (cu l) (n / 136)) (cu l) (136*(n / 136)) (n%136)∧(db iu l n).2=n%136
 | 0,_=>by
  refine ⟨?_,rfl⟩
  rw [show 0 / 136=0 from rfl,show 0%136=0 from rfl,mo,fI,db]
  refine Mo (fH _) (by simp) fun i hi=> ?_
  rw [om _ hi]
  have e1:(iu.1).getD (i / 8) 0=0:=by
   show (List.replicate 25 (0:Int)).getD (i / 8) 0=0
   rw [aw,List.getElem?_replicate]
   split <;>rfl
  have e2:(List.replicate 200 (0:Int)).getD i 0=0:=by
   rw [aw,List.getElem?_replicate]
   split <;>rfl
  rw [e1,e2]
  unfold wb
  rw [Int.zero_ediv];rfl
 | n+1,hn=>by
  obtain ⟨h1,h2⟩:=QJ hl n (by omega)
  obtain ⟨k1,k2,k3⟩:=G3 Kn l n
  have hb:=hl n
  have hp:rv (cu l) (136*(n / 136)+n%136)=rv l n:=by
   rw [show 136*(n / 136)+n%136=n from by omega,Bf,if_pos (by omega)]
  have hput:c7 (fq (db iu l n).1 (db iu l n).2 (rv l n))=mo xo (fI (cu l) (n / 136)) (cu l) (136*(n / 136)) (n%136+1):=by
   rw [E5 k1 k2 (by omega) hb,h1,h2,mo,hp]
  rw [db]
  unfold oP
  by_cases e:(db iu l n).2+1=136
  ·rw [if_pos e]
   have e1:(n+1) / 136=n / 136+1:=by omega
   have e2:(n+1)%136=0:=by omega
   rw [e1,e2,mo,fI]
   refine ⟨?_,rfl⟩
   rw [show n%136+1=136 from by omega] at hput
   rw [← hput,CZ (by rw [kp];exact k1) (pc k2 _ _)]
  ·rw [if_neg e]
   have e1:(n+1) / 136=n / 136:=by omega
   have e2:(n+1)%136=n%136+1:=by omega
   rw [e1,e2]
   exact ⟨hput,by show (db iu l n).2+1=_;omega⟩
theorem Xk {a:Int} (h:0≤a∧a<256):xo a 0=a:=by
 refine EN (yr _ _) h fun z hz=> ?_
 rw [yn,decide_eq_true hz,Bool.true_and,show (0:Int).toNat=0 from rfl,Nat.zero_testBit,Bool.bne_false]
theorem acR {a:Int} (h:0≤a∧a<256):xo (xo a 6) 128=xo a 134:=by
 refine EN (yr _ _) (yr _ _) fun z hz=> ?_
 rw [yn,yn,yn,decide_eq_true hz,Bool.true_and,Bool.true_and,Bool.true_and]
 have:∀ z:Fin 8,((134:Int).toNat.testBit z.val)=((6:Int).toNat.testBit z.val !=(128:Int).toNat.testBit z.val):=by decide
 rw [this ⟨z,hz⟩]
 cases a.toNat.testBit z <;>cases (6:Int).toNat.testBit z <;>cases (128:Int).toNat.testBit z <;>rfl
theorem Rb (m j:Nat):(nm m).getD j 0=if j=0 then (if m=0 then 134 else 6) else if j=m then 128 else 0:=by
 unfold nm
 by_cases hm:m=0
 ·subst hm
  rw [if_pos rfl,if_pos rfl]
  cases j with
  | zero=>rfl
  | succ j=>rfl
 ·rw [if_neg hm,if_neg hm]
  cases j with
  | zero=>rfl
  | succ j=>
   rw [if_neg (by omega),List.getD_cons_succ,aw]
   rcases Nat.lt_trichotomy j (m-1) with h | h | h
   ·rw [List.getElem?_append_left (by simpa using h),List.getElem?_replicate,if_pos h,if_neg (by omega)];rfl
   ·rw [List.getElem?_append_right (by simp [h]),if_pos (by omega)]
    simp [h]
   ·rw [List.getElem?_append_right (by simp;omega),if_neg (by omega)]
    have:([128] :List Int)[j-(List.replicate (m-1) (0:Int)).length]? =none:=by
     rw [fW]
     simp;omega
    rw [this];rfl
theorem aek {l:LD} (hl:ar l):fin (db iu l l.length)=(fI (cu l) ((cu l).length / 136)).take 32:=by
 obtain ⟨h1,h2⟩:=QJ hl l.length (Nat.le_refl _)
 obtain ⟨k1,k2,k3⟩:=G3 Kn l l.length
 have hlen:(cu l).length / 136=l.length / 136+1:=by rw [I2];unfold oE;omega
 obtain ⟨b1,b2⟩:=ED (cu l) (l.length / 136)
 rw [fin,ak,hlen,fI]
 have r6:(0:Int)≤6∧(6:Int)<256:=by decide
 have r128:(0:Int)≤128∧(128:Int)<256:=by decide
 have hput:c7 (fq (fq (db iu l l.length).1 (db iu l l.length).2 6) 135 128)=mo xo (fI (cu l) (l.length / 136)) (cu l) (136*(l.length / 136)) 136:=by
  rw [E5 (by rw [kp];exact k1) (pc k2 _ _) (by omega) r128,E5 k1 k2 (by omega) r6,h1,h2]
  refine Mo (n:=200) (by rw [dc,dc,m9,b1]) (by rw [m9,b1]) fun i hi=> ?_
  have hm:l.length%136<136:=Nat.mod_lt _ (by decide)
  rw [dZ _ _ _ _ (by rw [dc,m9,b1];exact hi),dZ _ _ _ _ (by rw [m9,b1];omega),dZ _ _ _ _ (by rw [m9,b1];exact hi),uj _ _ _ _ (by omega),uj _ _ _ _ (by omega),uj _ _ _ _ (by omega),uj _ _ _ _ (by omega)]
  have hB:=b2 i
  have hB5:=b2 135
  have hpm:oE l=135-l.length%136:=rfl
  have hpad:∀ j,l.length%136≤j→rv (cu l) (136*(l.length / 136)+j)=if j=l.length%136 then (if l.length%136=135 then 134 else 6) else if j=135 then 128 else 0:=fun j hj=>by
   rw [Bf,if_neg (by omega),Rb]
   by_cases e1:j=l.length%136
   ·rw [if_pos (by omega),if_pos e1]
    by_cases e2:l.length%136=135
    ·rw [if_pos (by omega),if_pos e2]
    ·rw [if_neg (by omega),if_neg e2]
   ·rw [if_neg (by omega),if_neg e1]
    by_cases e2:j=135
    ·rw [if_pos (by omega),if_pos e2]
    ·rw [if_neg (by omega),if_neg e2]
  generalize hS:fI (cu l) (l.length / 136)=S at *
  generalize l.length%136=r at *
  by_cases i5:135=i
  ·subst i5
   rw [if_pos rfl,if_pos (show (135:Nat)<136 by decide)]
   by_cases r5:r=135
   ·subst r5
    rw [if_pos rfl,if_neg (by omega),acR hB,hpad 135 (by omega),if_pos rfl,if_pos rfl]
   ·rw [if_neg r5,if_neg (by omega),hpad 135 (by omega),if_neg (by omega),if_pos rfl]
  ·rw [if_neg i5]
   by_cases ir:r=i
   ·subst ir
    rw [if_pos rfl,if_neg (by omega),if_pos hm,hpad r (by omega),if_pos rfl,if_neg (by omega)]
   ·rw [if_neg ir]
    by_cases il:i<r
    ·rw [if_pos il,if_pos (by omega)]
    ·rw [if_neg il]
     by_cases i6:i<136
     ·rw [if_pos i6,hpad i (by omega),if_neg (by omega),if_neg (by omega),Xk hB]
     ·rw [if_neg i6]
 rw [← hput,CZ (by rw [kp,kp];exact k1) (pc (pc k2 _ _) _ _)]
theorem Xq {l:LD} (hl:ar l):lu [[.sl l]] =nZ l:=by
 rw [lu,ak,nZ,ak,← aek hl]
 rfl
theorem Fk (h:Hs) (a b:LD):db h (a++b) (a++b).length=db (db h a a.length) b b.length:=by
 have gen1:∀ n,n≤a.length→db h (a++b) n=db h a n:=by
  intro n
  induction n with
  | zero=>intro _;rfl
  | succ n ih=>
   intro hn
   rw [db,db,ih (by omega)]
   congr 1
   unfold rv
   rw [aw (l:=a++b),List.getElem?_append_left (by omega),← aw]
 have gen2:∀ n,db h (a++b) (a.length+n)=db (db h a a.length) b n:=by
  intro n
  induction n with
  | zero=>exact gen1 _ (Nat.le_refl _)
  | succ n ih=>
   rw [show a.length+(n+1)=(a.length+n)+1 from by omega,db,db,ih]
   congr 1
   unfold rv
   rw [aw (l:=a++b),List.getElem?_append_right (by omega),← aw,show a.length+n-a.length=n from by omega]
 rw [cx]
 exact gen2 _
def aqB:Ct:= {ps:= [rb],bs:= [],pre:=fun | [.r l] =>bk l | _=>False,res:=fun
 | [.r l] => .ite (decide ((bJ (ab l)).2.2=0)) (.ret (.tup [I9,i64,i64]) [] [.r (bj l),.i 0,.i 0,.i (-1),.i 0]) (.ret (.tup [.agg [.skip,i64,i64],i64,i64]) [] [.i 0,.i 0,.i (bJ (ab l)).2.1,.i (bJ (ab l)).2.2])
 | _=>ag}
def sX (k:Int) (l:LD):LD:=hid ((jp k l).map ae)
def aqm:Ct:= {ps:= [i64,.rd eR],bs:= [],pre:=fun | [.i k,.r l] =>k=1∧ls l∧(bZ (az l)).2.2=0∧(bZ (az l)).1.length≤1900 | _=>False,res:=fun
 | [.i k,.r l] => .ret (.tup [rb,i64,i64]) [] [.r (sX k l),.i (-1),.i 0]
 | _=>ag}
def ajQ:List Dat→Ann
 | [.i k,.r l] => {cut:= [],loop:= []}
 | _=> {cut:= [],loop:= []}
def mK (p:LD):Sp:=hid (cw p)
abbrev Lq:List Pat:= [.skip,.skip,.skip,.skip,.skip,.skip,.skip,.skip,.skip,.skip,.skip,.skip,.skip,.skip,.skip]
def aqA:Ct:= {ps:= [.agg [.skip,.skip],i64,rb],bs:= [],pre:=fun | [.i k,.r p] =>k≠2∧bk p∧p.length≤1000 | _=>False,res:=fun
 | [.i k,.r p] => .ite (decide (k=1)) (.ite (decide ((bJ (ab p)).2.2=0))
   (.ret (.tup [nS,i64,i64]) [] (dT 1 (bj p) 0 0 (sX 1 (bj p)) (mK p)++ [.i (-1),.i 0]))
   (.ret (.tup [.agg Lq,i64,i64]) [] [.i (bJ (ab p)).2.1,.i (bJ (ab p)).2.2]))
   (.ret (.tup [.agg Lq,i64,i64]) [] [.i (-1),.i 15])
 | _=>ag}
abbrev jk (a:LD):Int:=
 (bJ (ab a)).snd.snd
abbrev sx (a:LD):Bool:=
 decide (jk a=(0:Int))
abbrev lT (a:LD):Int:=
 (bJ (ab a)).snd.fst
def P67:Prop:=
 ∀ (a:LD),
 lM a→
 bk a→
 bk a∧
 bif decide (jk a≠(0:Int)) then
 bif sx a then
 [] =bj a∧
 (0:Int)=(0:Int)∧(0:Int)=(0:Int)∧lT a=(-1:Int)∧jk a=(0:Int)
 else
 (0:Int)=(0:Int)∧
 (0:Int)=(0:Int)∧
 lT a=lT a∧
 jk a=jk a
 else
 bif sx a then
 dW (bJ (ab a)).fst=bj a∧
 (0:Int)=(0:Int)∧(0:Int)=(0:Int)∧(-1:Int)=(-1:Int)∧(0:Int)=(0:Int)
 else (0:Int)=(0:Int)∧(0:Int)=(0:Int)∧(-1:Int)=lT a∧(0:Int)=jk a
def UB:af:=aj TF 67 (ap aqB)
abbrev MU (a:Int)(b:LD):Prop:=
 abK =
 sX a b
abbrev G5 (a:Int)(b:LD):LD:=
 [[CD.int (97:Int)],[CD.int (118:Int)],[CD.int (111:Int)],[CD.int (117:Int)],[CD.int (99:Int)],[CD.int (104:Int)],
 [CD.int (47:Int)],[CD.int (116:Int)],[CD.int (114:Int)],[CD.int (97:Int)],[CD.int (110:Int)],[CD.int (115:Int)],
 [CD.int (99:Int)],[CD.int (114:Int)],[CD.int (105:Int)],[CD.int (112:Int)],[CD.int (116:Int)],[CD.int (47:Int)],
 [CD.int (49:Int)]] ++
 [[CD.int (IntKind.u8.wrap a)]] ++
 ah (bZ (az b)).fst
def P68:Prop:=
 ∀ (a:Int) (b:LD),
 lM b→
 a=(1:Int)∧
 ls b∧
 (bZ (az b)).snd.snd=(0:Int)∧
 (bZ (az b)).fst.length≤(1900:Nat)→
 ((0:Int)≤(32:Int)∧(32:Int)≤(32:Int)∧(↑(1:Nat):Int)*(32:Int)≤(140737488355328:Int)∧(32:Int)≤(9223372036854775807:Int))∧
 bif decide (a≠(1:Int))&&decide (a≠(2:Int)) then MU a b∧(-1:Int)=(-1:Int)∧(15:Int)=(0:Int)
 else
 ls b∧
 bif decide ((bZ (az b)).snd.snd≠(0:Int)) then
 MU a b∧
 (bZ (az b)).snd.fst=(-1:Int)∧
 (bZ (az b)).snd.snd=(0:Int)
 else
 ((20:Nat)≤(140737488355328:Nat)∧(20:Nat)≤(9223372036854775807:Nat))∧
 aR
 ((20:Nat)+(ah (bZ (az b)).fst).length) (1:Nat)∧
 ((G5 a b).length≤(2000:Nat)∧
 ar (G5 a b))∧
 List.map ae (nZ (G5 a b))=
 sX a b∧
 (-1:Int)=(-1:Int)∧(0:Int)=(0:Int)
def Wh:af:=aj UB 68 (ap aqm)
def P38:Prop:=
 ∀ (a:Int) (b:LD),
 lM b→
 a≠(2:Int)∧bk b∧b.length≤(1000:Nat)→
 bif decide (a≠(1:Int))&&decide (a≠(2:Int)) then
 bif decide (a=(1:Int)) then
 bif sx b then
 (0:Int)=(1:Int)∧
 [] =bj b∧
 (0:Int)=(0:Int)∧
 (0:Int)=(0:Int)∧
 [] =sX (1:Int) (bj b)∧
 [] =(mK b).snd.snd.snd∧
 (0:Int)=(mK b).fst∧
 (0:Int)=(mK b).snd.fst∧
 (0:Int)=(mK b).snd.snd.fst∧(-1:Int)=(-1:Int)∧(15:Int)=(0:Int)
 else (-1:Int)=lT b∧(15:Int)=jk b
 else (-1:Int)=(-1:Int)∧(15:Int)=(15:Int)
 else
 bk b∧
 bif sx b then
 (a=(1:Int)∧
 ls (bj b)∧
 (bZ (az (bj b))).snd.snd=(0:Int)∧
 (bZ (az (bj b))).fst.length≤(1900:Nat))∧
 bif decide (a=(1:Int)) then
 (sX a (bj b)).length=(32:Nat)∧
 bif decide (a=(1:Int)) then
 bif sx b then
 a=(1:Int)∧
 bj b=bj b∧
 (0:Int)=(0:Int)∧
 (0:Int)=(0:Int)∧
 sX a (bj b)=
 sX (1:Int) (bj b)∧
 Ao (sX a (bj b))=
 (mK b).snd.snd.snd∧
 (0:Int)=(mK b).fst∧
 (136:Int)=(mK b).snd.fst∧
 (0:Int)=(mK b).snd.snd.fst∧(-1:Int)=(-1:Int)∧(0:Int)=(0:Int)
 else (-1:Int)=lT b∧(0:Int)=jk b
 else (-1:Int)=(-1:Int)∧(0:Int)=(15:Int)
 else False
 else
 bif decide (jk b≠(0:Int)) then
 bif decide (a=(1:Int)) then
 bif sx b then
 (0:Int)=(1:Int)∧
 [] =bj b∧
 (0:Int)=(0:Int)∧
 (0:Int)=(0:Int)∧
 [] =sX (1:Int) (bj b)∧
 [] =(mK b).snd.snd.snd∧
 (0:Int)=(mK b).fst∧
 (0:Int)=(mK b).snd.fst∧
 (0:Int)=(mK b).snd.snd.fst∧
 lT b=(-1:Int)∧jk b=(0:Int)
 else
 lT b=lT b∧
 jk b=jk b
 else lT b=(-1:Int)∧jk b=(15:Int)
 else False
def V6:af:=aj Wh 38 (ap aqA)
theorem ap5:P67:=by
 delta P67 lM jk sx lT
 exact fun l _ h=>⟨h,aa (fun e=>aa (fun e'=>absurd (av e') (av e)) fun _=>⟨rfl,rfl,rfl,rfl⟩) fun e=>aa (fun _=>⟨rfl,rfl,rfl,rfl,rfl⟩) fun e'=>absurd (au e') (au e)⟩
theorem acQ:(base.with UB).Ok:=ac afn (ai am afn Tryz.func67 (by kernel_rfl) Tryz.call67 (by kernel_rfl) ap5)
theorem PJ (a b c:LD):lu [[.sl a],[.sl b],[.sl c]] =lu [[.sl (a++b++c)]] :=by
 rw [lu,ak,lu,ak]
 show fin (db (db (db iu a a.length) b b.length) c c.length)=fin (db iu (a++b++c) (a++b++c).length)
 rw [Fk,Fk]
theorem Ji {l m:LD} (hl:ar l) (hm:ar m):ar (l++m):=pq fun r hr=>(List.mem_append.mp hr).elim (rS hl r) (rS hm r)
theorem aeN:ar wo:=pq (by unfold Wi;decide)
theorem amG:ar [[CD.int (IntKind.u8.wrap 1)]] :=pq (by unfold Wi;decide)
theorem Ik (k:Int) (l:LD):sX k l=(jp k l).map ae:=ak _
theorem W0 (k:Int) (l:LD):(sX k l).length=32:=by rw [Ik,bA];exact Rp _ _
theorem apG:P68:=by
 delta P68 lM aR MU G5 abK
 rintro k l _ ⟨rfl,hp,hs,hl⟩
 have hr:(ah (bZ (az l)).1).length=(bZ (az l)).1.length:=by unfold ah;rw [bA]
 have hb:ar (wo++ [[CD.int (IntKind.u8.wrap 1)]] ++ah (bZ (az l)).1):=Ji (Ji aeN amG) (dK (eZ _))
 have ht:(nZ (wo++ [[CD.int (IntKind.u8.wrap 1)]] ++ah (bZ (az l)).1)).map ae=sX 1 l:=by
  rw [Ik,jp,if_pos hs,Ra,PJ,Xq hb]
 have hn:(wo++ [[CD.int (IntKind.u8.wrap 1)]] ++ah (bZ (az l)).1).length≤2000:=by
  rw [cx,hr]
  show 20+_≤2000
  omega
 refine ⟨⟨by decide,by decide,by decide,by decide⟩,aa (fun e=>by cases e) fun _=>⟨hp,aa (fun e=>dJ (fun h=>h hs) e) fun _=>⟨⟨by decide,by decide⟩,⟨?_,?_⟩,⟨hn,hb⟩,ht,rfl,rfl⟩⟩⟩
 ·rw [hr];omega
 ·rw [hr];omega
theorem afE:(base.with Wh).Ok:=ac acQ (ai ajQ acQ Tryz.func68 (by kernel_rfl) Tryz.call68 (by kernel_rfl) apG)
theorem QY (p:LD):mK p=(0,136,0,nk ((qV 1 p).map ae)):=ak _
theorem arE:P38:=by
 delta P38 lM jk sx lT
 rintro k l _ ⟨hk,hp,hl⟩
 refine aa (fun e=> ?_) fun e=>⟨hp,aa (fun h=> ?_) fun h=> ?_⟩
 ·simp only [cV,aK] at e
  exact aa (fun e'=>absurd (av e') e.1) fun _=>⟨rfl,rfl⟩
 ·have h':=av h
  obtain rfl:k=1:=by
   rw [decide_eq_true hk,Bool.and_true] at e
   exact Decidable.not_not.mp (au e)
  have hs:bZ (az (bj l))=(ab l,-1,0):=by unfold bj;rw [Rs];exact WZ h'
  have hi:(bj l).length≤1024:=by unfold bj;rw [wL];exact L5 _
  have hb:(ab l).length≤1900:=by unfold ab;rw [bA];omega
  have ht:Ao (sX 1 (bj l))=(mK l).2.2.2:=by rw [Ao,ak,QY,Ik];rfl
  rw [QY] at ht ⊢
  refine ⟨⟨rfl,by unfold ls;omega,by rw [hs],by rw [hs];exact hb⟩,aa (fun _=>⟨W0 _ _,aa (fun _=>aa (fun _=>⟨rfl,rfl,rfl,rfl,rfl,ht,rfl,rfl,rfl,rfl,rfl⟩) fun e'=>cN h e') fun e'=>cL rfl e'⟩) fun e'=>cL rfl e'⟩
 ·have h':=au h
  refine aa (fun _=>aa (fun _=>aa (fun e'=>cN e' h) fun _=>⟨rfl,rfl⟩) fun e'=> ?_) fun e'=>cL h' e'
  have e':=au e'
  rw [decide_eq_true hk,Bool.and_true] at e
  exact absurd (Decidable.not_not.mp (au e)) e'
theorem aaj:(base.with V6).Ok:=ac afE (ai am afE Tryz.func38 (by kernel_rfl) Tryz.call38 (by kernel_rfl) arE)
def iN (a:LD):Nat→List Int
 | 0=> []
 | i+1=>iN a i++ [rv a (2*i)+rv a (2*i+1)*4294967296]
def ajc:Ct:= {ps:= [aI,i64],bs:= [],pre:=fun | [.r a,.i n] =>cb a∧0≤n∧n≤1000 | _=>False,res:=fun | [.r a,.i n] => .ret (.own 0) [ow] [.r ((iN a n.toNat).map ae)] | _=>ag}
def aeA:List Dat→Ann
 | [.r a,.i n] => {cut:= [],loop:= [(3,[la 29 [(0,aI),(1,i64),(5,.own 0),(6,i64)] [ow] (fun | [.r a',.i n',.i i,.r o] =>a'=a∧n'=n∧0≤i∧i≤n∧o=(iN a i.toNat).map ae | _=>False) (fun | [_,.i n',.i i,_] =>(n'-i).toNat | _=>0)])]}
 | _=> {cut:= [],loop:= []}
def alC:Ct:= {ps:= [aI],bs:= [],pre:=fun | [.r l] =>l.length≤1000∧cE l | _=>False,res:=fun | [.r l] => .ret (.own 0) [ob] [.r ((b9 (rv l) l.length).map ae)] | _=>ag}
def aeH:List Dat→Ann
 | [.r l] =>⟨[],[(3,[la 31 [(0,aI),(3,.own 0),(4,i64)] [ob] (fun | [.r l',.i i,.r o] =>l'=l∧0≤i∧i≤l.length∧o=(b9 (rv l) i.toNat).map ae | _=>False) (fun | [.r l',.i i,_] =>(l'.length-i).toNat | _=>0)])],
  [(7,[la 31 [(0,aI),(3,.own 0),(4,i64),(5,u64),(6,i64)] [ob] ma js],fun | [.r l0,.i i0,.i x0,.i _,.r o0] => [la 31 [(0,aI),(3,.own 0),(4,i64),(5,u64),(6,i64)] [ob]
   (fun | [.r l',.i i,.i x,.i k,.r o] =>l'=l0∧i=i0∧0≤k∧k≤8∧x=x0 / 256 ^ k.toNat∧o=o0++(jO x0 k.toNat).map ae | _=>False) (fun | [_,_,_,.i k,_] =>(8-k).toNat | _=>0)] | _=> [])]⟩
 | _=> {cut:= [],loop:= []}
def arI:Ct:= {ps:= [aI],bs:= [],pre:=fun | [.r a] =>cb a | _=>False,res:=fun | [.r a] => .ret (.own 0) [ob] [.r ((b9 (gI (iN a 4)) 4).map ae)] | _=>ag}
def gG (b:LD):LD:=b.set 31 [.int (rv b 31%64)]
def akZ:Ct:= {ps:= [rb],bs:= [],pre:=fun | [.r b] =>bP b∧b.length=32 | _=>False,res:=fun | [.r b] => .ret aI [] [.r (be (bv (gG b)))] | _=>ag}
def pM (l:LD):LD:=((l.getD 0 []).getD 0 .d0).toSl
def amu:Ct:= {ps:= [.rd [.sl [.int .u8]],i64],bs:= [],pre:=fun | [.r l,.i at'] =>l.length=1∧at'=0∧bP (pM l)∧(pM l).length=32 | _=>False,res:=fun
 | [.r l,.i at'] => .ite (decide (bv (gG (pM l))<fx)) (.ret (.tup [aI,i64,i64]) [] [.r (be (bv (gG (pM l)))),.i 1,.i 0]) (.ret (.tup [.nils,i64,i64]) [] [.i 64,.i 11])
 | _=>ag}
def aeX:List Dat→Ann
 | [.r l,.i at'] => {cut:= [],loop:= [(2,[la 30 [(0,.rd [.sl [.int .u8]]),(1,i64),(7,i64)] [] (fun | [.r l',.i a,.i i] =>l'=l∧a=0∧0≤i∧i≤64∧(0<i→¬ bv (gG (pM l))<fx) | _=>False) (fun | [_,_,.i i] =>(64-i).toNat | _=>0)])]}
 | _=> {cut:= [],loop:= []}
def ym (r:List CD):List CD:= [.sl (be (vl (lp ((List.range 4).map fun c=>(r.getD c (CD.int 0)).toInt))).toNat)]
abbrev elD:List CSh:= [.sl [.int .u64]]
def jd (l:LD):LD:=hid (l.map ym)
def arW:Ct:= {ps:= [nS,i64],bs:= [],pre:=fun | [.i k,.r it,.i p,.i _,.r _,.r s,.i a,.i b,.i c,.i n] =>k=1∧0≤n∧n≤1000∧d9 it p (a,b,c,s) | _=>False,res:=fun
 | [.i k,.r it,.i p,.i e,.r tg,.r s,.i a,.i b,.i c,.i n] => .ret (.tup [nS,.rd elD,i64]) [] (dT k it (rT e p (a,b,c,s) (aE it n p (a,b,c,s))).2.2.1 (rT e p (a,b,c,s) (aE it n p (a,b,c,s))).2.2.2.2 tg (rT e p (a,b,c,s) (aE it n p (a,b,c,s))).2.2.2.1++ [.r (jd (rT e p (a,b,c,s) (aE it n p (a,b,c,s))).2.1),.i (rT e p (a,b,c,s) (aE it n p (a,b,c,s))).1])
 | _=>ag}
abbrev Pp:List Pat:= [i64,.rd eR,i64,i64,rb,rb,i64,i64,i64,.skip,.skip,.skip,.skip,.skip,.skip]
abbrev oD:BPat:= .own 162 elD
def IB (y0:Sp) (f:Bool) (j:Int) (y:Sp):Prop:=0≤j∧j≤64∧if f=true then (aC y0).2.2.1=0∧y=(aC y0).2.2.2 else y=pk y0 j.toNat∧aC y0=mZ (pk y0 j.toNat) (64-j.toNat) j.toNat
def ajS:List Dat→Ann
 | [.i k,.r it,.i p,.i e,.r tg,.r s,.i a,.i b,.i c,.i n] =>⟨[],[(12,[la 95 [(1,i64),(2,.ptr 0 0),(4,.ptr 1 0),(11,.own 2),(12,i64)] [.cells 109 Pp,.cells 109 Lq,oD] (fun
   | [.i n',.i i,.i k',.r it',.i p',.i e',.r tg',.r s',.i a',.i b',.i c',.r o] =>n'=n∧0≤i∧i≤n∧k'=1∧it'=it∧p'=p+1∧e'=0∧tg'=tg∧e=0∧ci it p 2 3 n=true∧∃ w t,o=jd w∧(w,t,0,(a',b',c',s'))=cS (bn 2 3 n [] (a,b,c,s)) i.toNat
   | _=>False) (fun | [.i n',.i i,_,_,_,_,_,_,_,_,_,_] =>(n'-i).toNat | _=>0)])],
   [(16,[la 95 [(1,i64),(2,.ptr 0 0),(4,.ptr 1 0),(11,.own 2),(12,i64),(13,.bool),(14,i64)] [.cells 109 Pp,.cells 109 Lq,oD] ma js],fun
    | [.i n0,.i i0,.b _,.i _,.i k0,.r it0,.i p0,.i e0,.r tg0,.r s0,.i a0,.i b0,.i c0,.r o0] => [la 95 [(1,i64),(2,.ptr 0 0),(4,.ptr 1 0),(11,.own 2),(12,i64),(13,.bool),(14,i64)] [.cells 109 Pp,.cells 109 Lq,oD] (fun
     | [.i n',.i i,.b f,.i j,.i k',.r it',.i p',.i e',.r tg',.r s',.i a',.i b',.i c',.r o] =>n'=n0∧i=i0∧k'=k0∧it'=it0∧p'=p0∧e'=e0∧tg'=tg0∧o=(if f=true then o0++ [ym (b8 (aC (a0,b0,c0,s0)).1)] else o0)∧IB (a0,b0,c0,s0) f j (a',b',c',s')
     | _=>False) (fun | [_,_,_,.i j,_,_,_,_,_,_,_,_,_,_] =>(64-j).toNat | _=>0)]
    | _=> [])]⟩
 | _=> {cut:= [],loop:= []}
def aaF:Prop:=
 ∀ (a:LD) (b:Int),
 lM a→
 cb a∧0≤b∧b≤1000→
 ((0:Int)≤0∧0≤b∧(↑(8:Nat):Int)*b≤140737488355328∧b≤9223372036854775807)∧
 ((a=a∧b=b∧(0:Int)≤0∧0≤b∧ [] =List.map ae (iN a 0))∧
 True)∧
 ∀ (c:LD) (d e:Int) (f:LD),
 lM c→
 lM f→
 c=a∧d=b∧0≤e∧e≤b∧f=List.map ae (iN a e.toNat)→
 bif decide (e<d) then
 iR ((2:Int)*e)∧
 (0:Int)≤2*e∧
 iR ((2:Int)*e)∧
 iR ((2:Int)*e+1)∧
 (0:Int)≤2*e+1∧
 aR (f.length+1) 8∧
 iR (e+1)∧
 (c=a∧
 d=b∧
 0≤e+1∧
 e+1≤b∧
 f++
 [[.int
 (IntKind.u64.wrap
 (rv c ((2:Int)*e).toNat+
 IntKind.u64.wrap
 (rv c ((2:Int)*e+1).toNat*4294967296)))]] =
 List.map ae (iN a (e+1).toNat))∧
 (d-(e+1)).toNat<(d-e).toNat
 else f=List.map ae (iN a b.toNat)
def PH:af:=aj V6 123 (ap ajc)
abbrev sR (a:Int)(b:LD):Int:=
 ((b.getD a.toNat []).getD 0 (.int 0)).toInt
def Ze:Prop:=
 ∀ (a:LD),
 lM a→
 a.length≤1000∧cE a→
 ((a=a∧
 (0:Int)≤0∧
 0≤(↑a.length:Int)∧
 [] =List.map ae (b9 (rv a) 0))∧
 True)∧
 ∀ (b:LD) (c:Int) (d:LD),
 lM b→
 lM d→
 b=a∧
 0≤c∧
 c≤(↑a.length:Int)∧
 d=List.map ae (b9 (rv a) c.toNat)→
 lM b→
 bif decide (c<(↑b.length:Int)) then
 bR c b∧
 c.toNat<b.length∧
 ((b=b∧
 c=c∧
 (0:Int)≤0∧
 (0:Int)≤8∧
 sR c b=sR c b / 256 ^ 0∧
 d=
 d++
 List.map ae
 (jO (sR c b) 0))∧
 True)∧
 ∀ (e:LD) (f g h:Int) (i:LD),
 lM e→
 lM i→
 e=b∧
 f=c∧
 0≤h∧
 h≤8∧
 g=sR c b / 256 ^ h.toNat∧
 i=
 d++
 List.map ae
 (jO (sR c b) h.toNat)→
 bif decide (h<(8:Int)) then
 (0≤g∧(0:Int)<(256:Int))∧
 aR (i.length+1) 1∧
 (0≤g∧(0:Int)<(256:Int)∧g≤IntKind.u64.max)∧
 iR (h+1)∧
 (e=b∧
 f=c∧
 0≤h+1∧
 h+1≤8∧
 g / 256=sR c b / 256 ^ (h+1).toNat∧
 i++ [[.int (IntKind.u8.wrap (g%(256:Int)))]] =
 d++
 List.map ae
 (jO (sR c b) (h+1).toNat))∧
 ((8:Int)-(h+1)).toNat<((8:Int)-h).toNat
 else
 iR (f+1)∧
 (e=a∧
 0≤f+1∧
 f+1≤(↑a.length:Int)∧
 i=
 List.map ae
 (b9 (rv a) (f+1).toNat))∧
 ((↑e.length:Int)-(f+1)).toNat<((↑b.length:Int)-c).toNat
 else d=List.map ae (b9 (rv a) a.length)
def QZ:af:=aj PH 122 (ap alC)
def P74:Prop:=
 ∀ (a:LD),
 lM a→
 cb a→
 (cb a∧(0:Int)≤4∧(4:Int)≤1000)∧
 (4≤1000∧
 cE (List.map ae (iN a 4)))∧
 List.map ae
 (b9
 (rv (List.map ae (iN a 4))) 4)=
 List.map ae
 (b9 (gI (iN a 4)) 4)
def S9:af:=aj QZ 74 (ap arI)
abbrev Gu (a:LD):LD:=
 ([] ++a).set 31
 ((([] ++a).getD 31 []).set 0 (.int (((([] ++a).getD 31 []).getD 0 (.int 0)).toInt%(64:Int))))
def ac7:Prop:=
 ∀ (a:LD),
 lM a→
 bP a∧a.length=32→
 aR (0+a.length) 1∧
 bR 31 ([] ++a)∧
 31<([] ++a).length∧
 (0≤((([] ++a).getD 31 []).getD 0 (.int 0)).toInt∧(0:Int)<(64:Int))∧
 bR 31 ([] ++a)∧
 31<([] ++a).length∧
 (bP (Gu a)∧(Gu a).length≤1000)∧
 be (bv (Gu a))=
 be (bv (gG a))
def PO:af:=aj S9 167 (ap akZ)
abbrev NI (a:LD):Prop:=
 ¬bv (gG (pM a)) <
 21888242871839275222246405745257275088548364400416034343698204186575808495617
abbrev zu (a b:Int)(c:LD):LD:=
 ((c.getD ((a+b)%↑c.length).toNat []).getD 0 (.int 0)).toSl
abbrev Wg:LD:=
 [[.int 4026531841],[.int 1138881939],[.int 2042196113],[.int 674490440],[.int 2172737629],
 [.int 3092268470],[.int 3778125865],[.int 811880050]]
abbrev Nc (a:LD):Bool:=
 decide
 (bv (gG (pM a)) <
 21888242871839275222246405745257275088548364400416034343698204186575808495617)
abbrev BJ (a:Int):Prop:=
 ((64:Int)-(a+1)).toNat<((64:Int)-a).toNat
def agS:Prop:=
 ∀ (a:LD) (b:Int),
 lM a→
 a.length=1∧
 b=0∧bP (pM a)∧(pM a).length=32→
 ((a=a∧b=0∧(0:Int)≤0∧(0:Int)≤64∧((0:Int)<(0:Int)→NI a))∧True)∧
 ∀ (c:LD) (d e:Int),
 lM c→
 c=a∧
 d=0∧
 0≤e∧
 e≤64∧
 ((0:Int)<e→
 ¬bv (gG (pM a)) <
 fx)→
 bif decide (e<(64:Int)) then
 iR (d+e)∧
 (lM c→
 (0≤d+e∧(0:Int)<↑c.length)∧
 bR ((d+e)%↑c.length) c∧
 ((d+e)%↑c.length).toNat<c.length∧
 (bP (zu d e c)∧
 (zu d e c).length=32)∧
 True∧
 (cb
 (be
 (bv (gG (zu d e c))))∧
 cb Wg)∧
 bif
 decide
 (kw
 (dv
 (be
 (bv (gG (zu d e c)))))
 21888242871839275222246405745257275088548364400416034343698204186575808495617 <
 (0:Int)) then
 iR (e+1)∧
 bif Nc a then
 be
 (bv (gG (zu d e c)))=
 be
 (bv (gG (pM a)))∧
 e+1=1∧(0:Int)=0
 else
 Miss 2 eS
 else
 iR (e+1)∧
 (c=a∧
 d=0∧
 0≤e+1∧e+1≤64∧((0:Int)<e+1→NI a))∧
 BJ e)
 else
 bif Nc a then
 [] =
 be
 (bv (gG (pM a)))∧
 (64:Int)=1∧(11:Int)=0
 else (64:Int)=64∧(11:Int)=11
def OS:af:=aj PO 121 (ap amu)
abbrev He (a b c d e f:Int)(g h:LD):Int:=
 (rT a b (c,d,e,g) (aE h f b (c,d,e,g))).snd.snd.snd.snd
abbrev GD (a b c d e f:Int)(g h:LD):LD:=
 (rT a b (c,d,e,g) (aE h f b (c,d,e,g))).snd.snd.snd.fst.snd.snd.snd
abbrev Gy (a b c d e f:Int)(g h:LD):Int:=
 (rT a b (c,d,e,g) (aE h f b (c,d,e,g))).snd.snd.snd.fst.fst
abbrev BN (a b c d e f:Int)(g h:LD):Int:=
 (rT a b (c,d,e,g) (aE h f b (c,d,e,g))).snd.snd.snd.fst.snd.fst
abbrev De (a b c d e f:Int)(g h:LD):Int:=
 (rT a b (c,d,e,g) (aE h f b (c,d,e,g))).snd.snd.snd.fst.snd.snd.fst
abbrev ux (a b c:Int)(d:LD):Int×Int×Int×LD:=
 ((a,b,c,d).fst,(a,b,c,d).snd.fst,(a,b,c,d).snd.snd.fst,(a,b,c,d).snd.snd.snd)
abbrev xT (a b c:Int)(d:LD):LD:=
 pM [[.sl (mF (a,b,c,d) 32).snd]]
abbrev JF (a b c:Int)(d:LD):Int×Int×Int×LD:=
 ((mF (a,b,c,d) 32).fst.fst,(mF (a,b,c,d) 32).fst.snd.fst,
 (mF (a,b,c,d) 32).fst.snd.snd.fst,(mF (a,b,c,d) 32).fst.snd.snd.snd)
def P73:Prop:=
 ∀ (a:Int) (b:LD) (c d:Int) (e f:LD) (g h i j:Int),
 lM b→
 lM e→
 lM f→
 a=1∧0≤j∧j≤1000∧d9 b c (g,h,i,f)→
 (0≤c∧c≤1000000)∧
 bif decide ((cA b c d 2 3 j).snd≠0) then
 a=a∧
 b=b∧
 (cA b c d 2 3 j).fst=
 (rT d c (g,h,i,f) (aE b j c (g,h,i,f))).snd.snd.fst∧
 (cA b c d 2 3 j).snd=He d c g h i j f b∧
 e=e∧
 (g,h,i,f).snd.snd.snd=GD d c g h i j f b∧
 (g,h,i,f).fst=Gy d c g h i j f b∧
 (g,h,i,f).snd.fst=BN d c g h i j f b∧
 (g,h,i,f).snd.snd.fst=De d c g h i j f b∧
 [] =
 jd
 (rT d c (g,h,i,f) (aE b j c (g,h,i,f))).snd.fst∧
 (cA b c d 2 3 j).snd=
 (rT d c (g,h,i,f) (aE b j c (g,h,i,f))).fst
 else
 (a=1∧bW [] ∧bM (ux g h i f))∧
 bif decide (a=2) then False
 else
 ((j=j∧
 (0:Int)≤0∧
 0≤j∧
 a=1∧
 b=b∧
 (cA b c d 2 3 j).fst=c+1∧
 (cA b c d 2 3 j).snd=0∧
 e=e∧
 d=0∧
 ci b c 2 3 j=true∧
 ∃ k m,
 [] =jd k∧
 (k,m,0,
 (bn 2 3 j [] (ux g h i f)).fst,
 (bn 2 3 j [] (ux g h i f)).snd.fst,
 (bn 2 3 j []
 (ux g h i f)).snd.snd.fst,
 (bn 2 3 j []
 (ux g h i f)).snd.snd.snd)=
 cS (bn 2 3 j [] (g,h,i,f)) 0)∧
 True)∧
 ∀ (k m o:Int) (p:LD) (q r:Int) (s t:LD) (u v w:Int) (x:LD),
 lM p→
 lM s→
 lM t→
 lM x→
 (k=j∧
 0≤m∧
 m≤j∧
 o=1∧
 p=b∧
 q=c+1∧
 r=0∧
 s=e∧
 d=0∧
 ci b c 2 3 j=true∧
 ∃ y z,
 x=jd y∧
 (y,z,0,u,v,w,t)=
 cS (bn 2 3 j [] (g,h,i,f))
 m.toNat)→
 bif decide (m<k) then
 ((k=k∧
 m=m∧
 o=o∧
 p=p∧
 q=q∧
 r=r∧
 s=s∧
 (x=
 if false=true then
 x++
 [ym
 (b8 (aC (u,v,w,t)).fst)]
 else x)∧
 IB (u,v,w,t) false 0 (u,v,w,t))∧
 True)∧
 ∀ (y z:Int) (A:Bool) (B D:Int) (F:LD) (G H:Int) (I J:LD) (K L M:Int)
 (N:LD),
 lM F→
 lM I→
 lM J→
 lM N→
 y=k∧
 z=m∧
 D=o∧
 F=p∧
 G=q∧
 H=r∧
 I=s∧
 (N=
 if A=true then
 x++
 [ym
 (b8 (aC (u,v,w,t)).fst)]
 else x)∧
 IB (u,v,w,t) A B (K,L,M,J)→
 bif decide (B<(64:Int))&&!A then
 (bM (K,L,M,J)∧(32:Int)≤1000000)∧
 (1=1∧
 (0:Int)=0∧
 bP (xT K L M J)∧
 (xT K L M J).length=32)∧
 bif
 decide
 (bv
 (gG (xT K L M J)) <
 21888242871839275222246405745257275088548364400416034343698204186575808495617) then
 aR (N.length+1) 24∧
 iR (B+1)∧
 (y=k∧
 z=m∧
 D=o∧
 F=p∧
 G=q∧
 H=r∧
 I=s∧
 (N++
 [[.sl
 (be
 (bv
 (gG
 (xT K L M J))))]] =
 if true=true then
 x++
 [ym
 (b8
 (aC (u,v,w,t)).fst)]
 else x)∧
 IB (u,v,w,t) true (B+1)
 (JF K L M J))∧
 BJ B
 else
 iR (B+1)∧
 (y=k∧
 z=m∧
 D=o∧
 F=p∧
 G=q∧
 H=r∧
 I=s∧
 (N=
 if A=true then
 x++
 [ym
 (b8
 (aC (u,v,w,t)).fst)]
 else x)∧
 IB (u,v,w,t) A (B+1)
 (JF K L M J))∧
 BJ B
 else
 bif !A then
 True∧
 D=a∧
 F=b∧
 G=
 (rT d c (g,h,i,f)
 (aE b j c (g,h,i,f))).snd.snd.fst∧
 lz H 11=He d c g h i j f b∧
 I=e∧
 (K,L,M,J).snd.snd.snd=GD d c g h i j f b∧
 (K,L,M,J).fst=Gy d c g h i j f b∧
 (K,L,M,J).snd.fst=BN d c g h i j f b∧
 (K,L,M,J).snd.snd.fst=De d c g h i j f b∧
 [] =
 jd
 (rT d c (g,h,i,f)
 (aE b j c (g,h,i,f))).snd.fst∧
 lz H 11=
 (rT d c (g,h,i,f)
 (aE b j c (g,h,i,f))).fst
 else
 iR (z+1)∧
 (y=j∧
 0≤z+1∧
 z+1≤j∧
 D=1∧
 F=b∧
 G=c+1∧
 H=0∧
 I=e∧
 d=0∧
 ci b c 2 3 j=true∧
 ∃ O R,
 N=jd O∧
 (O,R,0,K,L,M,J)=
 cS
 (bn 2 3 j [] (g,h,i,f))
 (z+1).toNat)∧
 (y-(z+1)).toNat<(k-m).toNat
 else
 o=a∧
 p=b∧
 q=(rT d c (g,h,i,f) (aE b j c (g,h,i,f))).snd.snd.fst∧
 r=He d c g h i j f b∧
 s=e∧
 t=GD d c g h i j f b∧
 u=Gy d c g h i j f b∧
 v=BN d c g h i j f b∧
 w=De d c g h i j f b∧
 x=
 jd
 (rT d c (g,h,i,f)
 (aE b j c (g,h,i,f))).snd.fst∧
 (0:Int)=
 (rT d c (g,h,i,f) (aE b j c (g,h,i,f))).fst
def WD:af:=aj OS 73 (ap arW)
theorem AH (a:LD):∀ i,(iN a i).length=i
 | 0=>rfl
 | i+1=>by rw [iN,cx,AH a i];rfl
theorem aha {a b:Int} (ha:0≤a∧a<4294967296) (hb:0≤b∧b<4294967296):IntKind.u64.wrap (a+IntKind.u64.wrap (b*4294967296))=a+b*4294967296:=by
 rw [qc,qc]
 omega
theorem alO:aaF:=by
 delta aaF lM iR aR
 rintro a n _ ⟨ha,h0,h1⟩
 refine ⟨⟨by omega,h0,by omega,by omega⟩,⟨⟨rfl,rfl,by omega,h0,rfl⟩,trivial⟩,?_⟩
 rintro l1 n1 i o _ _ ⟨rfl,rfl,g0,g1,ho⟩
 obtain ⟨i,rfl⟩:=aB g0
 rw [ax] at ho
 have hol:o.length=i:=by rw [ho,bA,AH]
 refine aa (fun h=> ?_) fun h=> ?_
 ·have h:=av h
  refine ⟨⟨by omega,by omega⟩,by omega,⟨by omega,by omega⟩,⟨by omega,by omega⟩,by omega,⟨by omega,by omega⟩,⟨by omega,by omega⟩,⟨rfl,rfl,by omega,by omega,?_⟩,by omega⟩
  rw [show (2*(i:Int)).toNat=2*i from by omega,show (2*(i:Int)+1).toNat=2*i+1 from by omega,show ((i:Int)+1).toNat=i+1 from by omega,aha (gO ha.1 _) (gO ha.1 _),iN,List.map_append,ho]
  rfl
 ·have h:=au h
  rw [show n1.toNat=i from by omega]
  exact ho
theorem Ws:(base.with PH).Ok:=ac aaj (ai aeA aaj Tryz.func123 (by kernel_rfl) Tryz.call123 (by kernel_rfl) alO)
theorem akp:Ze:=by
 delta Ze lM iR aR bR sR
 rintro l _ ⟨hl,hb⟩
 refine ⟨⟨⟨rfl,by omega,by omega,rfl⟩,trivial⟩,?_⟩
 rintro l1 i' o _ _ ⟨rfl,h0,h1,ho⟩ _
 obtain ⟨i,rfl⟩:=aB h0
 simp only [ax] at ho ⊢
 rw [dh]
 have hol:o.length=8*i:=by rw [ho,bA,iW]
 have hx:=hb i
 generalize hX:rv l1 i=X at *
 refine aa (fun h=> ?_) fun h=> ?_
 ·have h:=av h
  refine ⟨⟨by omega,h⟩,by omega,⟨⟨by trivial,by trivial,by omega,by omega,(Int.ediv_one _).symm,by rw [jO];simp⟩,trivial⟩,?_⟩
  rintro l2 i' x k' o2 _ _ ⟨rfl,rfl,h2,h3,rfl,ho2⟩
  obtain ⟨k,rfl⟩:=aB h2
  simp only [ax] at ho2 ⊢
  have ho2l:o2.length=8*i+k:=by rw [ho2,cx,bA,pL,hol]
  have hx0:0≤X / 256 ^ k:=Int.ediv_nonneg hx.1 (Int.pow_nonneg (by decide))
  have hx1:X / 256 ^ k≤X:=Int.ediv_le_self _ hx.1
  refine aa (fun h4=> ?_) fun h4=> ?_
  ·have h4:=av h4
   rw [bz]
   refine ⟨⟨hx0,by decide⟩,⟨by omega,by omega⟩,⟨hx0,by decide,?_⟩,⟨by omega,by omega⟩,⟨by trivial,by trivial,by omega,by omega,?_,?_⟩,by omega⟩
   ·show _≤(18446744073709551615:Int)
    have:=hx.2
    omega
   ·rw [EA]
   ·have e1:IntKind.u8.wrap (X / 256 ^ k%256)=X / 256 ^ k%256:=by rw [pY];omega
    rw [ho2,jO,List.map_append,← dO,e1];rfl
  ·have h4:=au h4
   have hk:k=8:=by omega
   subst hk
   refine ⟨⟨by omega,by omega⟩,⟨by trivial,by omega,by omega,?_⟩,by omega⟩
   rw [bz,b9,List.map_append,ho2,ho,hX]
 ·have h:=au h
  have hi:i=l1.length:=by omega
  subst hi
  exact ho
theorem V2:(base.with QZ).Ok:=ac Ws (ai aeH Ws Tryz.func122 (by kernel_rfl) Tryz.call122 (by kernel_rfl) akp)
theorem Jl {a:LD} (ha:fS a):∀ i,aq (iN a i)
 | 0=>fun j=>bh
 | i+1=>Ey fun x hx=>by
  rw [iN] at hx
  rcases List.mem_append.mp hx with hx | hx
  ·obtain ⟨j,hj,rfl⟩:=List.mem_iff_getElem.mp hx
   have:=Jl ha i j
   rwa [aw,cJ hj] at this
  ·rw [List.mem_singleton.mp hx]
   have h1:=gO ha (2*i)
   have h2:=gO ha (2*i+1)
   exact ⟨by omega,by omega⟩
theorem R7 {L:List Int} (h:aq L):cE (L.map ae):=fun i=>by rw [b7];exact h i
theorem aqt:P74:=by
 delta P74 lM
 exact fun a _ h=>⟨⟨h,by decide,by decide⟩,⟨by decide,R7 (Jl h.1 4)⟩,by rw [oU]⟩
theorem Z4:(base.with S9).Ok:=ac V2 (ai am V2 Tryz.func74 (by kernel_rfl) Tryz.call74 (by kernel_rfl) aqt)
theorem mC {l:LD} :bP l↔∀ r∈l,∃ n:Int,r= [.int n] ∧0≤n∧n<256:=by
 unfold bP ah ab
 constructor
 ·intro h r hr
  rw [h] at hr
  simp only [List.map_map,List.mem_map,Function.comp] at hr
  obtain ⟨x,_,rfl⟩:=hr
  exact ⟨_,rfl,by omega,by have:=(UInt8.ofNat (x.getD 0 .d0).toInt.toNat).toNat_lt;omega⟩
 ·intro h
  rw [List.map_map]
  refine (List.map_id l).symm.trans (List.map_congr_left fun r hr=> ?_)
  obtain ⟨n,rfl,h0,h1⟩:=h r hr
  show [CD.int n] = [CD.int ((UInt8.ofNat n.toNat).toNat:Int)]
  rw [UInt8.toNat_ofNat',Nat.mod_eq_of_lt (by omega),Int.toNat_of_nonneg h0]
theorem OP {l:LD} (h:bP l) {i:Nat} (hi:i<l.length):l.getD i [] = [.int (rv l i)] ∧0≤rv l i∧rv l i<256:=by
 have hg:=Hf hi
 obtain ⟨n,hn,h0,h1⟩:=mC.mp h _ (List.getElem_mem hi)
 unfold rv
 rw [hg,hn]
 exact ⟨rfl,h0,h1⟩
theorem EI (l:LD):(gG l).length=l.length:=dc ..
theorem MO {l:LD} (h:bP l):bP (gG l):=mC.mpr fun r hr=>by
 unfold gG at hr
 rcases List.mem_or_eq_of_mem_set hr with hr | rfl
 ·exact mC.mp h r hr
 ·exact ⟨_,rfl,by omega,by omega⟩
theorem ahD:ac7:=by
 delta ac7 lM aR bR Gu
 rintro l _ ⟨hb,hl⟩
 rw [List.nil_append]
 obtain ⟨h1,h2,h3⟩:=OP hb (i:=31) (by omega)
 have e:l.set 31 ((l.getD 31 []).set 0 (CD.int (((l.getD 31 []).getD 0 (CD.int 0)).toInt%64)))=gG l:=by
  rw [h1];rfl
 rw [e]
 exact ⟨⟨by omega,by omega⟩,⟨by omega,by omega⟩,by omega,⟨by rw [h1];exact h2,by decide⟩,⟨by omega,by omega⟩,by omega,⟨MO hb,by rw [EI];omega⟩,rfl⟩
theorem WP:(base.with PO).Ok:=ac Z4 (ai am Z4 Tryz.func167 (by kernel_rfl) Tryz.call167 (by kernel_rfl) ahD)
theorem R9 {b:LD} (hb:bP b) (hl:b.length≤1000):cb (be (bv b)):=Fb (dK hb) hl
theorem anf:agS:=by
 delta agS lM iR bR NI zu Wg Nc BJ
 rintro l n _ ⟨h1,rfl,hb,hl⟩
 refine ⟨⟨⟨rfl,rfl,by omega,by omega,fun h=>absurd h (by decide)⟩,trivial⟩,?_⟩
 rintro l1 n i _ ⟨rfl,rfl,g0,g1,hn⟩
 rw [h1]
 have e1:((0+i)%((1:Nat):Int)).toNat=0:=by omega
 rw [e1]
 have e2:((l1.getD 0 []).getD 0 (CD.int 0)).toSl=pM l1:=rfl
 rw [e2]
 have hm:=MO hb
 have hd:=R9 hm (by rw [EI];omega)
 refine aa (fun h=> ?_) fun h=> ?_
 ·have h:=av h
  refine ⟨⟨by omega,by omega⟩,fun _=>⟨⟨by omega,by omega⟩,⟨by omega,by omega⟩,by omega,⟨hb,hl⟩,trivial,⟨hd,IT⟩,aa (fun k=> ?_) fun k=> ?_⟩⟩
  ·have k:bv (gG (pM l1))<fx:=by
    have:=qW.1 (av k)
    rwa [cM] at this
   have hi:i=0:=by
    rcases Int.lt_or_le 0 i with h0 | h0
    ·exact absurd k (hn h0)
    ·omega
   subst hi
   exact ⟨⟨by decide,by decide⟩,aa (fun _=>⟨rfl,rfl,rfl⟩) fun e=>cL k e⟩
  ·have k:¬ bv (gG (pM l1))<fx:=fun k'=>au k (qW.2 (by rw [cM];exact k'))
   exact ⟨⟨by omega,by omega⟩,⟨rfl,rfl,by omega,by omega,fun _=>k⟩,by omega⟩
 ·have h:=au h
  exact aa (fun e=>dJ (hn (by omega)) e) fun _=>⟨rfl,rfl⟩
theorem T0:(base.with OS).Ok:=ac WP (ai aeX WP Tryz.func121 (by kernel_rfl) Tryz.call121 (by kernel_rfl) anf)
theorem Gs {m:Int} {y:Sp} (h:bT m y):∀ i,bP (c8 y i)
 | 0=>rfl
 | i+1=>mC.mpr fun r hr=>by
  rw [c8] at hr
  rcases List.mem_append.mp hr with hr | hr
  ·exact mC.mp (Gs h i) r hr
  ·have:=(Jw (lL h i)).1.2.2.2.2.2.2.2
   exact ⟨_,List.mem_singleton.mp hr,(this _).1,(this _).2⟩
theorem Yg {l:LD} (h:bP l):l=(l.map fun r=>(r.getD 0 .d0).toInt).map ae:=by
 rw [List.map_map]
 refine (List.map_id l).symm.trans (List.map_congr_left fun r hr=> ?_)
 obtain ⟨n,rfl,_,_⟩:=mC.mp h r hr
 rfl
theorem Xf {x:Int} (h:0≤x∧x<256):dN .u8 x 63=x%64:=by
 obtain ⟨n,rfl⟩:=aB h.1
 unfold dN
 rw [pY]
 have e1:(BitVec.ofInt 8 (n:Int) &&&BitVec.ofInt 8 63).toNat=n%64:=by
  rw [BitVec.toNat_and,BitVec.toNat_ofInt,BitVec.toNat_ofInt]
  have e2:((n:Int)%((2 ^ 8:Nat):Int)).toNat=n:=by omega
  have e3:((63:Int)%((2 ^ 8:Nat):Int)).toNat=2 ^ 6-1:=by decide
  rw [e2,e3,Nat.and_two_pow_sub_one_eq_mod]
 show ((BitVec.ofInt 8 (n:Int) &&&BitVec.ofInt 8 63).toNat:Int)%256=_
 rw [e1]
 omega
theorem ank {m:Int} {y:Sp} (h:bT m y):gG (c8 y 32)=(iq (lA y)).map ae:=by
 have hb:=Gs h 32
 have hl:=mj y 32
 obtain ⟨h1,h2,h3⟩:=OP hb (i:=31) (by omega)
 have e0:(lA y).map ae=c8 y 32:=by rw [lA,ak];exact (Yg hb).symm
 have e1:gI (lA y) 31=rv (c8 y 32) 31:=by rw [← e0,b7];rfl
 unfold gG iq
 rw [List.map_set,e0,e1,Xf ⟨h2,h3⟩]
 rfl
theorem PW {m:Int} {y:Sp} (h:bT m y):(lD y).length=4∧aq (lD y)∧vl (lD y)=(bv (gG (c8 y 32)):Int):=by
 have hM:=MO (Gs h 32)
 have hl:(gG (c8 y 32)).length=32:=by rw [EI,mj]
 have e:lD y=ba (gG (c8 y 32)) 32:=by rw [lD,jV,ank h]
 have h4:(ba (gG (c8 y 32)) 32).length=4:=by rw [fy,hl]
 rw [e]
 refine ⟨h4,?_,?_⟩
 ·have:=(xX (by omega) (dK hM)).2
  rw [hl] at this
  intro j
  have h5:=this j
  rwa [b7] at h5
 ·rw [Tg h4,← oU]
  have:=Gv (dK hM)
  rw [hl] at this
  exact this
theorem aiB {m:Int} {y:Sp} (h:bT m y):(cB (lD y) pW 4).2=0↔¬ bv (gG (c8 y 32))<fx:=by
 obtain ⟨h1,h2,h3⟩:=PW h
 have:=(Gt h1 h2).1
 rw [h3] at this
 have e:(21888242871839275222246405745257275088548364400416034343698204186575808495617:Int)=(fx:Nat):=rfl
 rw [e] at this
 rw [this]
 omega
theorem Uf {w:List Int} (h:w.length=4):((List.range 4).map fun c=>((b8 w).getD c (CD.int 0)).toInt)=w:=M3 h
theorem ad3 {m:Int} {y:Sp} (h:bT m y) (hb:bv (gG (c8 y 32))<fx):ym (b8 (dG (lD y)))= [.sl (be (bv (gG (c8 y 32))))] :=by
 obtain ⟨h1,h2,h3⟩:=PW h
 have e:(21888242871839275222246405745257275088548364400416034343698204186575808495617:Int)=(fx:Nat):=rfl
 unfold ym
 rw [Uf (EC _),Tb h1 h2 (by rw [h3,e];omega),h3,ax]
theorem y9:jd [] = [] :=ak _
theorem XR (l:LD) (r:List CD):jd (l++ [r])=jd l++ [ym r] :=by rw [jd,jd,ak,ak,List.map_append];rfl
theorem RB (y:Sp) (j:Nat):pk y (j+1)=aL (pk y j) 32:=rfl
theorem abh (y:Sp) (n:Nat):mF y n=(aL y n,c8 y n):=ak _
set_option maxHeartbeats 2000000 in
theorem ap7:P73:=by
 delta P73 lM iR aR BJ He GD Gy BN De ux xT JF
 rintro k it p e tg s a b c n _ _ _ ⟨hk,h0,h1,hp,hq⟩
 refine ⟨hp,?_⟩
 by_cases he:e≠0
 ·rw [Sf he,tA he]
  exact aa (fun _=>⟨rfl,rfl,rfl,rfl,rfl,rfl,rfl,rfl,rfl,y9.symm,rfl⟩) fun q=>cL he q
 by_cases hh:ci it p 2 3 n=false
 ·rw [M9 he hh,oH he,show aE it n p (a,b,c,s)=(10,[],p,(a,b,c,s),10) from by rw [aE,ak,if_pos hh]]
  exact aa (fun _=>⟨rfl,rfl,rfl,rfl,rfl,rfl,rfl,rfl,rfl,y9.symm,rfl⟩) fun q=>cL yv q
 have ho:=ko 2 3 n lr hq
 have e0:e=0:=Decidable.not_not.mp he
 have hh1:ci it p 2 3 n=true:=by cases h:ci it p 2 3 n <;>simp_all
 rw [Ns he hh,oH he]
 refine aa (fun q=>dJ (fun h=>h rfl) q) fun _=>⟨⟨hk,lr,aF (by omega) hq⟩,aa (fun q=>dJ (by rw [hk];decide) q) fun _=>⟨⟨⟨rfl,by omega,h0,hk,rfl,rfl,rfl,rfl,e0,hh1,[],0,y9.symm,rfl⟩,trivial⟩,?_⟩⟩
 rintro n' i k' it' p' e' tg' s' a' b' c' o _ _ _ _ ⟨rfl,g0,g1,rfl,rfl,rfl,rfl,rfl,_,_,w,t,rfl,hf⟩
 obtain ⟨i,rfl⟩:=aB g0
 rw [ax] at hf
 have hY:=xP ho i
 rw [← hf] at hY
 obtain ⟨hy,_,ht,hw⟩:=hY
 have hy:bT (700000000+1006+2048*i) (a',b',c',s'):=hy
 have hst:= @VA (bn 2 3 n' [] (a,b,c,s)) i (by rw [← hf])
 rw [← hf] at hst
 generalize hy0:(a',b',c',s')=y0 at *
 have hcs:aE it' n' p (a,b,c,s)=if (fG n' (a,b,c,s)).2.2.1≠0 then ((fG n' (a,b,c,s)).2.2.1,[],p+1,(fG n' (a,b,c,s)).2.2.2,(fG n' (a,b,c,s)).2.2.1) else (0,(fG n' (a,b,c,s)).1,p+1,(fG n' (a,b,c,s)).2.2.2,0):=by rw [aE,ak,if_neg hh]
 have hch:fG n' (a,b,c,s)=cS (bn 2 3 n' [] (a,b,c,s)) n'.toNat:=by rw [fG,pf]
 refine aa (fun h=> ?_) fun h=> ?_
 ·have h:=av h
  refine ⟨⟨⟨rfl,rfl,rfl,rfl,rfl,rfl,rfl,rfl,⟨by omega,by omega,?_⟩⟩,trivial⟩,?_⟩
  ·rw [if_neg (by decide)]
   exact ⟨rfl,by rw [aC,ak];rfl⟩
  rintro n2 i2 f j k2 it2 p2 e2 tg2 s2 a2 b2 c2 o2 _ _ _ _ ⟨rfl,rfl,rfl,rfl,rfl,rfl,rfl,ho2,q0,q1,q2⟩
  obtain ⟨j,rfl⟩:=aB q0
  rw [ax] at q2
  have hwl:(jd w).length=i:=by rw [jd,ak,bA];exact hw rfl
  refine aa (fun h2=> ?_) fun h2=>aa (fun h3=> ?_) fun h3=> ?_
  ·simp only [cV,Bool.not_eq_true',aK] at h2
   obtain ⟨h2,rfl⟩:=h2
   rw [if_neg (by decide)] at q2 ho2
   obtain ⟨q2,q3⟩:=q2
   have ci:=Jr hy j
   rw [← q2] at ci q3
   have hit':bM (a2,b2,c2,s2):=aF (by omega) ci
   have hnx:=RB y0 j
   rw [← q2] at hnx
   rw [abh]
   generalize (a2,b2,c2,s2)=y at *
   have hB:=Gs ci 32
   have hl:=mj y 32
   have hbo:=aiB ci
   have htd:=ad3 ci
   rw [show 64-j=(64-(j+1))+1 from by omega,mZ] at q3
   generalize c8 y 32=B at *
   generalize aL y 32=S at *
   have es:pM [[CD.sl (S,B).2]] =B:=rfl
   rw [es,ho2,hwl]
   refine ⟨⟨hit',by decide⟩,⟨rfl,rfl,hB,hl⟩,aa (fun v=> ?_) fun v=> ?_⟩
   ·have v:=av v
    rw [if_neg (fun z=>(hbo.1 z) v)] at q3
    refine ⟨⟨by omega,by omega⟩,⟨by omega,by omega⟩,⟨rfl,rfl,rfl,rfl,rfl,rfl,rfl,?_,by omega,by omega,?_⟩,by omega⟩
    ·rw [if_pos rfl,q3,htd v]
    ·rw [if_pos rfl,q3]
     exact ⟨rfl,rfl⟩
   ·have v:=au v
    rw [if_pos (hbo.2 v)] at q3
    refine ⟨⟨by omega,by omega⟩,⟨rfl,rfl,rfl,rfl,rfl,rfl,rfl,?_,by omega,by omega,?_⟩,by omega⟩
    ·rw [if_neg (by decide)]
    ·rw [if_neg (by decide),show ((j:Int)+1).toNat=j+1 from by omega,hnx]
     exact ⟨rfl,q3⟩
  ·obtain rfl:f=false:=by simpa using h3
   rw [if_neg (by decide)] at q2 ho2
   simp only [Bool.not_false,Bool.and_true] at h2
   have h2:=au h2
   obtain rfl:j=64:=by omega
   obtain ⟨q2,q3⟩:=q2
   have q3:aC y0=([0,0,0,0],64,11,pk y0 64):=q3
   rw [q3,if_pos (show (11:Int)≠0 by decide)] at hst
   have hn:cS (bn 2 3 n2 [] (a,b,c,s)) n2.toNat=cS (bn 2 3 n2 [] (a,b,c,s)) (i+1):=by
    rw [show n2.toNat=(i+1)+(n2.toNat-(i+1)) from by omega]
    exact ND (by rw [hst];exact show (11:Int)≠0 by decide) _
   rw [hn,hst] at hch
   rw [hch,if_pos (show (11:Int)≠0 by decide)] at hcs
   rw [hcs,q2,Hb]
   exact ⟨trivial,hk.symm,rfl,rfl,rfl,rfl,rfl,rfl,rfl,rfl,y9.symm,rfl⟩
  ·obtain rfl:f=true:=by simpa using h3
   rw [if_pos rfl] at q2 ho2
   obtain ⟨q2,q3⟩:=q2
   rw [if_neg (fun z=>z q2),← q3] at hst
   refine ⟨⟨by omega,by omega⟩,⟨rfl,by omega,by omega,rfl,rfl,rfl,rfl,rfl,e0,hh1,w++ [b8 (aC y0).1],t+(aC y0).2.1,?_,?_⟩,by omega⟩
   ·rw [ho2,← XR]
   ·rw [show ((i:Int)+1).toNat=i+1 from by omega,hst]
 ·have h:=au h
  rw [show n'.toNat=i from by omega,← hf] at hch
  rw [hch,if_neg (show ¬ (0:Int)≠0 by decide)] at hcs
  rw [hcs,← hy0]
  exact ⟨hk.symm,rfl,rfl,rfl,rfl,rfl,rfl,rfl,rfl,rfl,rfl⟩
theorem aae:(base.with WD).Ok:=ac T0 (ai ajS T0 Tryz.func73 (by kernel_rfl) Tryz.call73 (by kernel_rfl) ap7)
def rC (it:LD) (kd t n:Int) (d:LD) (p e:Int) (x:Sp):Tr:=hid (rT e p x (bu it kd t n d p x))
def yE (it:LD) (n p e:Int) (x:Sp):Tr:=hid (rT e p x (aE it n p x))
def aqI:Ct:= {ps:= [nS,.agg [i64,i64,i64,rb]],bs:= [],pre:=fun | [.i k,.r it,.i p,.i _,.r _,.r s,.i a,.i b,.i c,.i _,.i _,.i n,.r d] =>k=1∧bW d∧0≤n∧n≤1000∧d9 it p (a,b,c,s)∧p≤it.length | _=>False,res:=fun
 | [.i k,.r it,.i p,.i e,.r tg,.r s,.i a,.i b,.i c,.i kd,.i t,.i n,.r d] => .ret (.tup [nS,.agg [i64,rb]]) [] (dT k it (rC it kd t n d p e (a,b,c,s)).2.2.1 (rC it kd t n d p e (a,b,c,s)).2.2.2.2 tg (rC it kd t n d p e (a,b,c,s)).2.2.2.1++ [.i (rC it kd t n d p e (a,b,c,s)).1,.r (rC it kd t n d p e (a,b,c,s)).2.1])
 | _=>ag}
def ahu:List Dat→Ann
 | [.i k,.r it,.i p,.i e,.r tg,.r s,.i a,.i b,.i c,.i kd,.i t,.i n,.r d] => {cut:= [],loop:= [(14,[la 77 [(2,.ptr 0 0),(4,.ptr 1 0),(5,.ptr 2 0),(6,i64),(7,.own 3),(9,.rd elD),(11,i64)] [.cells 109 Pp,.cells 109 Lq,.cells 113 [.skip,.skip],ob] (fun
   | [.i w,.r l',.i i,.i k',.r it',.i p',.i e',.r tg',.r s',.i a',.i b',.i c',.r o] =>0≤i∧i≤l'.length∧k'=k∧it'=it∧tg'=tg∧kd=2∧∃ v,l'=jd v∧o=gK (v.take i.toNat)∧(w,v,p',(a',b',c',s'),e')=yE it n p e (a,b,c,s)
   | _=>False) (fun | [_,.r l',.i i,_,_,_,_,_,_,_,_,_,_] =>(l'.length-i).toNat | _=>0)])]}
 | _=> {cut:= [],loop:= []}
def agi:Ct:= {ps:= [.agg [i64,rb,.rd fE]],bs:= [],pre:=fun | [.i k,.r p,.r l] =>k≠2∧bk p∧p.length≤1000∧Al l | _=>False,res:=fun
 | [.i k,.r p,.r l] => .ite (decide (k=1)) (.ite (decide ((bJ (ab p)).2.2=0))
    (.ret (.tup [.own 0,i64,i64]) [.own 113 ru] [.i (-1),.i 0,.r (pH (bj p) l (cw p) l.length).1])
    (.ret (.tup [.nils,i64,i64]) [] [.i (bJ (ab p)).2.1,.i (bJ (ab p)).2.2]))
   (.ret (.tup [.nils,i64,i64]) [] [.i (-1),.i 15])
 | _=>ag}
def TW:List Dat→Ann
 | [.i k,.r p,.r l] => {cut:= [],loop:= [(9,[la 56 [(1,.ptr 0 0),(6,.ptr 1 0),(9,.own 2),(10,i64)] [.cells 32 [i64,rb,.rd fE],.cells 109 Pp,.own 113 ru] (fun
   | [.i i,.i k',.r p',.r l',.i k2,.r it,.i q,.i e,.r tg,.r s,.i a,.i b,.i c,.r o] =>0≤i∧i≤l.length∧l'=l∧k2=1∧it=bj p∧(o,q,(a,b,c,s),e)=pH (bj p) l (cw p) i.toNat∧k=1∧(bJ (ab p)).2.2=0
   | _=>False) (fun | [.i i,_,_,.r l',_,_,_,_,_,_,_,_,_,_] =>(l'.length-i).toNat | _=>0)])]}
 | _=> {cut:= [],loop:= []}
def arZ:Ct:= {ps:= [.rd ru,.rd ru],bs:= [],pre:=fun | [.r l,.r m] =>l=m | _=>False,res:=fun | [.r l,.r m] => .ret .bool [] [.b true] | _=>ag}
def amw:List Dat→Ann
 | [.r l,.r m] => {cut:= [],loop:= [(4,[la 43 [(0,.rd ru),(1,.rd ru),(12,i64),(13,i64)] [] (fun
   | [.r l',.r m',.i n,.i i] =>l'=l∧m'=l∧n=l.length∧0≤i∧i≤n
   | _=>False) (fun | [_,_,.i n,.i i] =>(n-i).toNat | _=>0)])]}
 | _=> {cut:= [],loop:= []}
def ct3:Ct:= {ps:= [rb],bs:= [],pre:=fun | [.r l] =>bP l | _=>False,res:=fun | [.r l] => .ret .bool [] [.b true] | _=>ag}
end
end Go.Proofs.YteiecapbaeajdaaGreatDoor
