/-
 Conditions of contracts, as the kernel reckons them (printed by a program of ours, checked by the kernel).
-/
import Derived.Test.YteiecapbaeajdaaGreatDoorJ10
import Derived.Test.YteiecapbaeajdaaGreatDoorJ7
import Derived.Test.YteiecapbaeajdaaGreatDoorProg
import Derived.Test.YteiecapbaeajdaaGreatDoorJ4
import Derived.WalkKit
import Derived.Recover
namespace Go.Proofs.YteiecapbaeajdaaGreatDoor
open Go Go.Avc Go.Proofs
set_option linter.unusedVariables false
set_option maxRecDepth 100000
set_option linter.unusedSimpArgs false
open Go Go.Avc
noncomputable section
abbrev JV:Prop:=
 Miss 2 eS
abbrev xD:Prop:=
 Miss 2 eS
abbrev yD:Prop:=
 Miss 2 eS
abbrev Hi:LD:=
 [[.int 31],[.int 31],[.int 31],[.int 3]]
abbrev yx:Prop:=
 Miss 2 eS
abbrev Kc:Prop:=
 Miss 2 eS
def Ui:Prop:=
 ∀ (a:Int),
 True→
 bif decide (a=1) then
 bif decide (a=1) then (1:Int)=1
 else
 bif decide (a=2) then (1:Int)=8∧ [] = [[CD.int 8]]
 else
 bif decide (a=3) then JV
 else bif decide (a=4) then JV else (1:Int)=0
 else
 bif decide (a=2) then
 bif decide (a=1) then xD
 else
 bif decide (a=2) then (8:Int)=8∧ [[CD.int 8]] = [[CD.int 8]]
 else
 bif decide (a=3) then xD
 else bif decide (a=4) then xD else xD
 else
 bif decide (a=3) then
 bif decide (a=1) then yD
 else
 bif decide (a=2) then yD
 else
 bif decide (a=3) then (32:Int)=32∧ [[CD.int 32]] = [[CD.int 32]]
 else bif decide (a=4) then yD else yD
 else
 bif decide (a=4) then
 bif decide (a=1) then yx
 else
 bif decide (a=2) then yx
 else
 bif decide (a=3) then yx
 else
 bif decide (a=4) then (96:Int)=96∧Hi=Hi
 else yx
 else
 bif decide (a=1) then (0:Int)=1
 else
 bif decide (a=2) then (0:Int)=8∧ [] = [[CD.int 8]]
 else
 bif decide (a=3) then Kc
 else bif decide (a=4) then Kc else (0:Int)=0
def Qp:af:=aj OE 138 (ap aeQ)
theorem ae8:Ui:=by
 delta Ui JV xD yD Hi yx Kc
 intro n _
 exact aa (fun h1=>nd h1 rfl) (fun h1=>aa (fun h2=>dq h1 (nd h2 ⟨rfl,rfl⟩)) (fun h2=>aa (fun h3=>dq h1 (dq h2 (nd h3 ⟨rfl,rfl⟩))) (fun h3=>aa (fun h4=>dq h1 (dq h2 (dq h3 (nd h4 ⟨rfl,rfl⟩)))) (fun h4=>dq h1 (dq h2 (dq h3 (dq h4 rfl)))))))
theorem TH:(base.with Qp).Ok:=ac VJ (ai am VJ Tryz.func138 (by kernel_rfl) Tryz.call138 (by kernel_rfl) ae8)
def YM:Prop:=
 ∀ (a:LD) (b:Int),
 lM a→
 b=31∧a.length≤1000→
 (b=31∧a.length≤1000)∧
 a=a∧
 b=b∧
 jB 1 a ((a.length+30) / 31)=
 jB 1 a ((a.length+30) / 31)
def QV:af:=aj Qp 140 (ap aiM)
def Z1:Prop:=
 ∀ (a:LD) (b:Int),lM a→1≤b→bif decide (b<(1:Int)) then False else a=a∧b=b
def O4:af:=aj QV 141 (ap alV)
abbrev iX (a:LD):Int:=
 ↑a.length
abbrev up (a:Int)(b:LD):Prop:=
 (1:Int)≤31∧
 ((31:Int)=31∧b.length≤1000)∧
 jB 1 b ((b.length+30) / 31)=dC a b
abbrev Dm (a:Int)(b:LD):Prop:=
 ∃ c,
 c≤nA a b.length∧
 b=List.drop (nE a c) b∧
 0=(↑(c%(fK a).length):Int)∧ [] =jB a b c
abbrev pN (a:Int)(b:LD):Int:=
 ((b.getD a.toNat []).getD 0 (.int 0)).toInt
abbrev Cp (a:Int)(b:LD):Prop:=
 ∀ (c d:LD) (e:Int) (f:LD),
 lM c→
 lM d→
 lM f→
 (d=List.map ae (fK a)∧
 ∃ g,
 g≤nA a b.length∧
 c=List.drop (nE a g) b∧
 e=(↑(g%(fK a).length):Int)∧f=jB a b g)→
 lM c→
 bif decide ((0:Int)<iX c) then
 bR e d∧
 e.toNat<d.length∧
 ((0:Int)≤0∧
 0≤pN e d∧pN e d≤iX c)∧
 aR (f.length+1) 24∧
 bR e d∧
 e.toNat<d.length∧
 (0≤pN e d∧
 pN e d≤iX c∧
 iX c≤iX c)∧
 iR (e+1)∧
 (lM d→
 (0≤e+1∧(0:Int)<iX d)∧
 (d=List.map ae (fK a)∧
 ∃ g,
 g≤nA a b.length∧
 List.drop (pN e d).toNat (List.take (iX c).toNat c)=
 List.drop (nE a g) b∧
 (e+1)%iX d=(↑(g%(fK a).length):Int)∧
 f++ [[.sl (List.drop 0 (List.take (pN e d).toNat c))]] =
 jB a b g)∧
 (List.drop (pN e d).toNat (List.take (iX c).toNat c)).length <
 c.length)
 else f=dC a b
abbrev JZ:LD:=
 [[.int 31],[.int 31],[.int 31],[.int 3]]
def P97:Prop:=
 ∀ (a:Int) (b:LD),
 lM b→
 b.length≤1000∧
 (jz a→iX b%aG a=0)→
 True∧
 bif decide (a=1) then up a b
 else
 bif decide (a=2) then
 ∀ (c:Bool),
 (c=true→ [[CD.int 8]] = [])→
 bif c then up a b
 else
 (([[CD.int 8]] =List.map ae (fK a)∧
 Dm a b)∧
 True)∧
 Cp a b
 else
 bif decide (a=3) then
 ∀ (c:Bool),
 (c=true→ [[CD.int 32]] = [])→
 bif c then up a b
 else
 (([[CD.int 32]] =List.map ae (fK a)∧
 Dm a b)∧
 True)∧
 Cp a b
 else
 bif decide (a=4) then
 ∀ (c:Bool),
 (c=true→JZ= [])→
 bif c then up a b
 else
 ((JZ=List.map ae (fK a)∧
 Dm a b)∧
 True)∧
 Cp a b
 else up a b
def Vm:af:=aj O4 97 (ap aqD)
abbrev Ht (a b c:Int):Int:=
 iE .u64 (iE .u64 (IntKind.u64.wrap a) (de .u64 (IntKind.u64.wrap b) 8))
 (de .u64 (IntKind.u64.wrap c) 16)
abbrev wZ (a b c:Int):List Int:=
 dG [Ht a b c,0,0,0]
abbrev rM (a:Int)(b:LD):LD:=
 ((b.getD a.toNat []).getD 0 (.int 0)).toSl
def P60:Prop:=
 ∀ (a b c:Int) (d:LD),
 lM d→
 bW d→
 bW d∧
 bif !fO a b c d then [] =Iv a b c d
 else
 0≤(8:Int)∧
 (0:Int)≤(16:Int)∧
 al (Ht a b c)∧
 (d.length≤1000∧
 (jz b→iX d%aG b=(0:Int)))∧
 (lM (dC b d)→
 ((dC b d=dC b d∧
 (↑(dC b d).length:Int)=(↑(dC b d).length:Int)∧
 (0:Int)≤(0:Int)∧
 0≤(↑(dC b d).length:Int)∧
 fO a b c d=true∧
 [[.int ((wZ a b c).getD 0 0),
 .int ((wZ a b c).getD 1 0),
 .int ((wZ a b c).getD 2 0),
 .int ((wZ a b c).getD 3 0)]] =
 b8
 (dG [LJ a b c,0,0,0])::
 List.take 0 (List.map ER (dC b d)))∧
 True)∧
 ∀ (e:LD) (f g:Int) (h:LD),
 lM e→
 lM h→
 e=dC b d∧
 f=(↑(dC b d).length:Int)∧
 0≤g∧
 g≤f∧
 fO a b c d=true∧
 h=
 b8
 (dG [LJ a b c,0,0,0])::
 List.take g.toNat (List.map ER (dC b d))→
 bif decide (g<f) then
 bR g e∧
 g.toNat<e.length∧
 (ar (rM g e)∧
 (rM g e).length≤400)∧
 aR (h.length+1) 32∧
 iR (g+1)∧
 (e=dC b d∧
 f=(↑(dC b d).length:Int)∧
 0≤g+1∧
 g+1≤f∧
 fO a b c d=true∧
 h++
 [[.int
 ((me (rM g e)).getD 0
 0),
 .int
 ((me (rM g e)).getD 1
 0),
 .int
 ((me (rM g e)).getD 2
 0),
 .int
 ((me (rM g e)).getD 3
 0)]] =
 b8
 (dG
 [LJ a b c,0,0,0])::
 List.take (g+1).toNat
 (List.map ER (dC b d)))∧
 (f-(g+1)).toNat<(f-g).toNat
 else h=Iv a b c d)
def SJ:af:=aj Vm 60 (ap arr)
theorem amj:YM:=by
 delta YM lM
 exact fun l n _ h=>⟨h,rfl,rfl,rfl⟩
theorem Tq:(base.with QV).Ok:=ac TH (ai am TH Tryz.func140 (by kernel_rfl) Tryz.call140 (by kernel_rfl) amj)
theorem am6:Z1:=by
 delta Z1 lM
 intro l n _ h
 exact aa (fun h1=>absurd (av h1) (by omega)) fun _=>⟨rfl,rfl⟩
theorem Uu:(base.with O4).Ok:=ac Tq (ai am Tq Tryz.func141 (by kernel_rfl) Tryz.call141 (by kernel_rfl) am6)
theorem XP {t:Int} (h:jz t) (j:Nat):nE t (j+1)=nE t j+xM t j∧1≤xM t j∧xM t j≤32:=by
 unfold nE xM
 rcases h with rfl | rfl | rfl
 ·simp;omega
 ·simp;omega
 ·simp only [show ¬ (4:Int)=2 from by decide,show ¬ (4:Int)=3 from by decide,if_false,if_true]
  split <;>omega
theorem alw {t:Int} (h:jz t) {n j:Nat} (hn:(n:Int)%aG t=0) (hj:j≤nA t n):(nE t j<n↔j<nA t n)∧(j<nA t n→nE t j+xM t j≤n)∧(j=nA t n→nE t j=n):=by
 unfold nE xM nA aG at *
 rcases h with rfl | rfl | rfl
 ·simp at hn hj ⊢;omega
 ·simp at hn hj ⊢;omega
 ·simp only [show ¬ (4:Int)=2 from by decide,show ¬ (4:Int)=3 from by decide,show ¬ (4:Int)=1 from by decide,if_false,if_true] at hn hj ⊢
  split <;>omega
theorem Yc {t:Int} (h:jz t) (j:Nat):(fK t).length≠0∧(fK t).length≤4∧rv ((fK t).map ae) (j%(fK t).length)=(xM t j:Int):=by
 unfold fK xM
 rcases h with rfl | rfl | rfl
 ·refine ⟨by decide,by decide,?_⟩
  rw [b7]
  simp [Nat.mod_one]
 ·refine ⟨by decide,by decide,?_⟩
  rw [b7]
  simp [Nat.mod_one]
 ·refine ⟨by decide,by decide,?_⟩
  rw [b7]
  show ([31,31,31,3] :List Int).getD (j%4) 0=_
  simp only [show ¬ (4:Int)=2 from by decide,show ¬ (4:Int)=3 from by decide,if_false,if_true]
  have:j%4<4:=Nat.mod_lt _ (by decide)
  generalize j%4=r at *
  match r,this with
  | 0,_=>rfl
  | 1,_=>rfl
  | 2,_=>rfl
  | 3,_=>rfl
theorem RO (t:Int) (l:LD) (j:Nat):jB t l (j+1)=jB t l j++ [[.sl (sL t l j)]] :=by
 unfold jB
 rw [List.range_succ,List.map_append];rfl
theorem D3 (t:Int) (l:LD) (j:Nat):(jB t l j).length=j:=by simp [jB]
theorem J9 {t:Int} (ht:jz t) {l l1 l2 l3:LD} {i:Int} (hl:l.length≤1000) (hm:(l.length:Int)%aG t=0) (h:l2=List.map ae (fK t)∧∃ j,j≤nA t l.length∧l1=List.drop (nE t j) l∧i=(↑(j%(fK t).length):Int)∧l3=jB t l j):
  bif decide ((0:Int)<(↑l1.length:Int)) then
   ((0:Int)≤i∧i<(↑l2.length:Int))∧
    i.toNat<l2.length∧
     ((0:Int)≤(0:Int)∧(0:Int)≤rv l2 i.toNat∧rv l2 i.toNat≤(↑l1.length:Int))∧
      ((l3.length+(1:Nat))*(24:Nat)≤(140737488355328:Nat)∧l3.length+(1:Nat)≤(9223372036854775807:Nat))∧
       ((0:Int)≤i∧i<(↑l2.length:Int))∧
        i.toNat<l2.length∧
         ((0:Int)≤rv l2 i.toNat∧rv l2 i.toNat≤(↑l1.length:Int)∧(↑l1.length:Int)≤(↑l1.length:Int))∧
          ((-9223372036854775808:Int)≤i+(1:Int)∧i+(1:Int)≤(9223372036854775807:Int))∧
           (l2.length≤(9223372036854775807:Nat)→
            ((0:Int)≤i+(1:Int)∧(0:Int)<(↑l2.length:Int))∧
             (l2=List.map ae (fK t)∧
               ∃ j,j≤nA t l.length∧List.drop (rv l2 i.toNat).toNat (List.take (↑l1.length:Int).toNat l1)=List.drop (nE t j) l∧
                  (i+(1:Int))%(↑l2.length:Int)=(↑(j%(fK t).length):Int)∧
                   l3++ [[CD.sl (List.drop (0:Nat) (List.take (rv l2 i.toNat).toNat l1))]] =jB t l j)∧
              (List.drop (rv l2 i.toNat).toNat (List.take (↑l1.length:Int).toNat l1)).length<l1.length)
  else l3=dC t l:=by
 obtain ⟨rfl,j,hj,rfl,rfl,rfl⟩:=h
 have ⟨z1,z2,z3⟩:=Yc ht j
 have ⟨p1,p2,p3⟩:=XP ht j
 have ⟨q1,q2,q3⟩:=alw ht hm hj
 have hlt:j%(fK t).length<(fK t).length:=Nat.mod_lt _ (by omega)
 have hl1:(List.drop (nE t j) l).length=l.length-nE t j:=cj
 have hl2:(List.map ae (fK t)).length=(fK t).length:=bA _
 rw [ax,z3,hl1,hl2,D3,ax,ax]
 have hJ:nA t l.length≤1000:=by
  unfold nA
  rcases ht with rfl | rfl | rfl <;>simp <;>omega
 refine aa (fun h=> ?_) (fun h=> ?_)
 ·have h:(0:Int)<((l.length-nE t j:Nat):Int):=av h
  have hjn:=q1.1 (by omega)
  have hin:=q2 hjn
  refine ⟨by omega,hlt,by omega,by omega,by omega,hlt,by omega,by omega,fun _=>⟨by omega,⟨rfl,j+1,hjn,?_,?_,?_⟩,?_⟩⟩
  ·rw [List.take_of_length_le (by omega),List.drop_drop,p1]
  ·rw [show ((j%(fK t).length:Nat):Int)+1=((j%(fK t).length+1:Nat):Int) from by omega,← Int.natCast_emod]
   congr 1
   rw [Nat.add_mod,Nat.mod_mod,← Nat.add_mod]
  ·rw [RO];rfl
  ·rw [List.take_of_length_le (by omega),cj,hl1];omega
 ·have h:¬ (0:Int)<((l.length-nE t j:Nat):Int):=au h
  have:j=nA t l.length:=by
   have:=mt q1.2 (by omega)
   omega
  rw [this];rfl
theorem JN {t:Int} (ht:¬ jz t) (l:LD):jB 1 l ((l.length+30) / 31)=dC t l:=by
 unfold jz at ht
 have h2:¬ t=2:=fun e=>ht (.inl e)
 have h3:¬ t=3:=fun e=>ht (.inr (.inl e))
 have h4:¬ t=4:=fun e=>ht (.inr (.inr e))
 unfold dC jB sL nE xM nA
 simp [h2,h3,h4]
theorem arD:P97:=by
 delta P97 lM iR aR bR iX up Dm pN Cp JZ
 rintro t l _ ⟨hl,hm⟩
 have mp:∀ j,j≤nA t l.length→True:=fun _ _=>trivial
 refine ⟨trivial,aa (fun h1=>⟨by decide,⟨rfl,hl⟩,JN (by have:=av h1;unfold jz;omega) l⟩) fun h1=> ?_⟩
 refine aa (fun h2 β hβ=> ?_) fun h2=>aa (fun h3 β hβ=> ?_) fun h3=>aa (fun h4 β hβ=> ?_) fun h4=> ?_
 ·have h2:=av h2
  subst h2
  refine aa (fun e=>by cases hβ e) fun _=>⟨⟨⟨rfl,0,Nat.zero_le _,rfl,rfl,rfl⟩,trivial⟩,fun l1 l2 i l3 _ _ _ h _=>J9 (.inl rfl) hl (hm (.inl rfl)) h⟩
 ·have h3:=av h3
  subst h3
  refine aa (fun e=>by cases hβ e) fun _=>⟨⟨⟨rfl,0,Nat.zero_le _,rfl,rfl,rfl⟩,trivial⟩,fun l1 l2 i l3 _ _ _ h _=>J9 (.inr (.inl rfl)) hl (hm (.inr (.inl rfl))) h⟩
 ·have h4:=av h4
  subst h4
  refine aa (fun e=>by cases hβ e) fun _=>⟨⟨⟨rfl,0,Nat.zero_le _,rfl,rfl,rfl⟩,trivial⟩,fun l1 l2 i l3 _ _ _ h _=>J9 (.inr (.inr rfl)) hl (hm (.inr (.inr rfl))) h⟩
 ·exact ⟨by decide,⟨rfl,hl⟩,JN (by have:=au h2;have:=au h3;have:=au h4;unfold jz;omega) l⟩
theorem aa3:(base.with Vm).Ok:=ac Uu (ai akO Uu Tryz.func97 (by kernel_rfl) Tryz.call97 (by kernel_rfl) arD)
theorem Q3 {k t n:Int} {l:LD} (h:fO k t n l=true):(1≤k∧k≤3)∧(0≤t∧t≤4)∧(1≤n∧n≤1048576)∧(k=1→(l.length:Int)=aG t*n∧bl t l=0∧dg t l=0)∧(k≠1→l= []):=by
 unfold fO at h
 rw [cV] at h
 have hc:=av h.1
 have h2:=h.2
 unfold cR at hc
 have hk:¬ (k<1∨3<k):=fun e=>by rw [if_pos e] at hc;cases hc
 rw [if_neg hk] at hc
 have ht:¬ ((k=1∧(t<1∨4<t))∨(k=2∧t≠1∧t≠3)∨(k=3∧t≠0)):=fun e=>by rw [if_pos e] at hc;cases hc
 rw [if_neg ht] at hc
 have hn:¬ (n<1∨1048576<n∨(k=3∧n≠1)):=fun e=>by rw [if_pos e] at hc;cases hc
 refine ⟨by omega,by omega,by omega,fun e=> ?_,fun e=> ?_⟩
 ·rw [e] at h2
  simp only [Bool.cond_false,Bool.cond_true,ne_eq,not_true_eq_false,decide_false,cond_false,cV,aK] at h2
  have:=AE h2.1
  rw [← h2.2.1]
  exact ⟨this.2.1,h2.1,h2.2.2⟩
 ·rw [decide_eq_true e] at h2
  have:=av h2
  exact List.length_eq_zero_iff.1 (by omega)
theorem Zo {k t n:Int} {l:LD} (h:fO k t n l=true) (hc:jz t):(l.length:Int)%aG t=0:=by
 have ⟨_,_,_,h1,h2⟩:=Q3 h
 by_cases e:k=1
 ·rw [(h1 e).1,Int.mul_emod_right]
 ·rw [h2 e];simp
theorem ana {t:Int} {l:LD} (h:bP l) (j:Nat):ar (sL t l j):=by
 unfold sL
 rw [List.take_drop]
 exact dK (zf h _ _)
theorem Xn (t:Int) (l:LD) (j:Nat):(sL t l j).length≤32:=by
 unfold sL xM
 rw [List.length_take]
 split
 ·omega
 ·split
  ·omega
  ·split
   ·split <;>omega
   ·omega
theorem Sc {t:Int} {l:LD} {j:Nat} (h:j<(dC t l).length):((dC t l).getD j [])= [.sl (sL t l j)] :=by
 unfold dC at h ⊢
 rw [D3] at h
 unfold jB
 rw [aw,eW,List.getElem?_range h]
 rfl
theorem agL (t:Int) (n:Nat):nA t n≤n+30:=by
 unfold nA
 split
 ·omega
 ·split
  ·omega
  ·split <;>omega
theorem ars:P60:=by
 delta P60 lM iR aR bR iX Ht wZ rM
 intro k t n l _ hp
 refine ⟨hp,aa (fun h=> ?_) fun h=> ?_⟩
 ·have h:fO k t n l=false:=by simpa using h
  unfold Iv
  rw [if_neg (by rw [h];decide)]
 have h:fO k t n l=true:=by simpa using h
 have hlen:(dC t l).length≤1030:=by unfold dC;rw [D3];have:=agL t l.length;have:=hp.2;omega
 refine ⟨by decide,by decide,Bz _ _,⟨hp.2,Zo h⟩,fun _=>⟨⟨⟨rfl,rfl,by decide,by omega,h,rfl⟩,trivial⟩,?_⟩⟩
 rintro l1 m i l2 _ _ ⟨rfl,rfl,h0,h1,hr,rfl⟩
 obtain ⟨j,rfl⟩:=aB h0
 have hl2:(b8 (dG [LJ k t n,0,0,0])::List.take (j:Int).toNat (List.map ER (dC t l))).length=j+1:=by
  rw [ax,List.length_cons,List.length_take,bA];omega
 refine aa (fun h=> ?_) fun h=> ?_
 ·have h:(j:Int)<(dC t l).length:=av h
  have hj:j<(dC t l).length:=by omega
  have hg:=Sc hj
  rw [hl2,ax,hg]
  refine ⟨by omega,hj,⟨ana hp.1 j,Nat.le_trans (Xn t l j) (by decide)⟩,by omega,by omega,⟨rfl,rfl,by omega,by omega,hr,?_⟩,by omega⟩
  rw [show ((j:Int)+1).toNat=j+1 from by omega,List.cons_append]
  congr 1
  rw [List.take_add_one,eW]
  congr 1
  rw [aw] at hg
  rw [cJ hj] at hg ⊢
  simp only [Option.getD_some] at hg
  rw [hg]
  rfl
 ·have h:¬ (j:Int)<(dC t l).length:=au h
  unfold Iv
  rw [if_pos hr,ax,List.take_of_length_le (by rw [bA];omega)]
theorem aaR:(base.with SJ).Ok:=ac aa3 (ai aip aa3 Tryz.func60 (by kernel_rfl) Tryz.call60 (by kernel_rfl) ars)
theorem Az (k t n:Int) (l:LD):(dk k t n l).length≤l.length+6:=by
 unfold dk
 split
 ·rw [cx];simp;omega
 ·simp
def bn (k t n:Int) (d:LD) (x:Sp):Sp:=hid (bH (dk k t n d) x (dk k t n d).length)
def cS (x:Sp):Nat→LD×Int×Int×Sp
 | 0=>([],0,0,x)
 | i+1=>if (cS x i).2.2.1≠0 then cS x i else if (aC (cS x i).2.2.2).2.2.1≠0 then ([],(cS x i).2.1+(aC (cS x i).2.2.2).2.1,(aC (cS x i).2.2.2).2.2.1,(aC (cS x i).2.2.2).2.2.2)
  else ((cS x i).1++ [b8 (aC (cS x i).2.2.2).1],(cS x i).2.1+(aC (cS x i).2.2.2).2.1,0,(aC (cS x i).2.2.2).2.2.2)
def eV (x:Sp) (n:Nat):LD×Int×Int×Sp:=hid (cS x n)
def mq (x:Sp):Sp:=(0,136,x.2.2.1+1,jv (dn x.2.2.2) 0 136 (List.replicate 136 [.int 0]))
def dS (x:Sp):List Dat:= [.i x.1,.i x.2.1,.i x.2.2.1,.r x.2.2.2]
def dA (tg:List Int) (it:LD) (p:Int) (x:Sp):List Dat:= .li tg:: .r it:: .i p::dS x
def dX (tg:List Int) (it:LD) (p:Int) (x:Sp) (w:Int):List Dat:=dA tg it p x++ [.i w]
def spQ (x:Sp):Prop:=bT 700000000 x
def agN:Ct:= {ps:= [JA,DM],bs:= [eL,ob],pre:=fun | [.i k,.i t,.i n,.r l,.i a,.i b,.i c,.r s] =>bW l∧bM (a,b,c,s) | _=>False,res:=fun
 | [.i k,.i t,.i n,.r l,.i a,.i b,.i c,.r s] => .ret (.tup []) [eL,ob] (dS (bn k t n l (a,b,c,s)))
 | _=>ag}
def YZ:Ct:= {ps:= [i64,EL],bs:= [eL,ob],pre:=fun | [.i n,.i a,.i b,.i c,.r s] =>0≤n∧n≤1000∧bT 800000000 (a,b,c,s) | _=>False,res:=fun
 | [.i n,.i a,.i b,.i c,.r s] => .ite (decide ((eV (a,b,c,s) n.toNat).2.2.1=0))
   (.ret (.tup [.own 2,i64,i64]) [eL,ob,oe] (.i (eV (a,b,c,s) n.toNat).2.1:: .i 0::dS (eV (a,b,c,s) n.toNat).2.2.2++ [.r (eV (a,b,c,s) n.toNat).1]))
   (.ret (.tup [.nils,i64,i64]) [eL,ob] (.i (eV (a,b,c,s) n.toNat).2.1:: .i (eV (a,b,c,s) n.toNat).2.2.1::dS (eV (a,b,c,s) n.toNat).2.2.2))
 | _=>ag}
def W2:List Dat→Ann
 | [.i n,.i a,.i b,.i c,.r s] => {cut:= [],loop:= [(4,[la 36 [(1,EL),(7,.own 2),(8,i64),(13,i64),(14,i64)] [eL,ob,oe] (fun
   | [.i t,.i m,.i i,.i a',.i b',.i c',.r s',.r o] =>m=n∧0≤i∧i≤n∧(o,t,0,(a',b',c',s'))=eV (a,b,c,s) i.toNat
   | _=>False) (fun | [_,.i m,.i i,_,_,_,_,_] =>(m-i).toNat | _=>0)])]}
 | _=> {cut:= [],loop:= []}
def adD:Ct:= {ps:= [JA,i64],bs:= [eL,ob],pre:=fun | [.i n,.i a,.i b,.i c,.r s] =>0≤n∧n≤1000∧bT 800000000 (a,b,c,s) | _=>False,res:=fun
 | [.i n,.i a,.i b,.i c,.r s] => .ite (decide ((eV (a,b,c,s) n.toNat).2.2.1=0))
   (.ret (.tup [.own 2,i64]) [eL,ob,oe] (.i 0::dS (eV (a,b,c,s) n.toNat).2.2.2++ [.r (eV (a,b,c,s) n.toNat).1]))
   (.ret (.tup [.nils,i64]) [eL,ob] (.i (eV (a,b,c,s) n.toNat).2.2.1::dS (eV (a,b,c,s) n.toNat).2.2.2))
 | _=>ag}
def ais:Ct:= {ps:= [JA,i64],bs:= [eL,ob],pre:=fun | [.i n,.i a,.i b,.i c,.r s] =>bM (a,b,c,s)∧n≤1000000 | _=>False,res:=fun
 | [.i n,.i a,.i b,.i c,.r s] => .ret (.own 2) [eL,ob,ob] (dS (aL (a,b,c,s) n.toNat)++ [.r (c8 (a,b,c,s) n.toNat)])
 | _=>ag}
def akX:Ct:= {ps:= [.ptr 0 0],bs:= [eL,ob],pre:=fun | [.i a,.i b,.i c,.r s] =>bM (a,b,c,s) | _=>False,res:=fun
 | [.i a,.i b,.i c,.r s] => .ret (.tup []) [eL,ob] (dS (mq (a,b,c,s)))
 | _=>ag}
abbrev Tr:=Int×LD×Int×Sp×Int
def bc (it:LD) (t:Int) (d:LD) (p:Int) (x:Sp):Tr:=hid <|
 if bl t d≠0 then (bl t d,[],p,x,bl t d) else if ci it p 1 t (bi t d)=false then (10,[],p,x,10) else if dg t d≠0 then (dg t d,[],p+1,x,dg t d) else (0,[],p+1,bn 1 t (bi t d) d x,0)
def bd (it:LD) (n p:Int) (x:Sp):Tr:=hid <|
 if ci it p 2 1 n=false then (10,[],p,x,10) else (0,c8 (bn 2 1 n [] x) n.toNat,p+1,aL (bn 2 1 n [] x) n.toNat,0)
def fG (n:Int) (x:Sp):LD×Int×Int×Sp:=eV (bn 2 3 n [] x) n.toNat
def aE (it:LD) (n p:Int) (x:Sp):Tr:=hid <|
 if ci it p 2 3 n=false then (10,[],p,x,10) else if (fG n x).2.2.1≠0 then ((fG n x).2.2.1,[],p+1,(fG n x).2.2.2,(fG n x).2.2.1) else (0,(fG n x).1,p+1,(fG n x).2.2.2,0)
def bF (it:LD) (p:Int) (x:Sp):Tr:=hid <|
 if ci it p 3 0 1=false then (10,[],p,x,10) else (0,[],p+1,mq (bn 3 0 1 [] x),0)
def n9 (it:LD) (p:Int) (x:Sp):Tr:=hid <| if p=it.length then (0,[],p,x,0) else (12,[],p,x,12)
def acr (tg:List Int) (it:LD) (r:Tr):Res:= .ite (decide (r.2.2.2.2=0)) (.ret i64 mI (.i r.1::dA tg it r.2.2.1 r.2.2.2.1)) (.ret i64 lO (.i r.1::dX tg it r.2.2.1 r.2.2.2.1 r.2.2.2.2))
def agP (o:BPat) (tg:List Int) (it:LD) (r:Tr):Res:= .ite (decide (r.2.2.2.2=0)) (.ret (.tup [.own 4,i64]) [O0,gA,Pw,ob,o] (.i r.1::dA tg it r.2.2.1 r.2.2.2.1++ [.r r.2.1])) (.ret (.tup [.nils,i64]) lO (.i r.1::dX tg it r.2.2.1 r.2.2.2.1 r.2.2.2.2))
def d9 (it:LD) (p:Int) (x:Sp):Prop:=br it p∧spQ x
def Zh:Ct:= {ps:= [.ptr 0 0,i64,rb],bs:=mI,pre:=fun | [.i t,.r d,.li _,.r it,.i p,.i a,.i b,.i c,.r s] =>bW d∧d9 it p (a,b,c,s) | _=>False,res:=fun
 | [.i t,.r d,.li tg,.r it,.i p,.i a,.i b,.i c,.r s] =>acr tg it (bc it t d p (a,b,c,s))
 | _=>ag}
def abG:Ct:= {ps:= [.ptr 0 0,i64,rb],bs:=lO,pre:=fun | [.i t,.r d,.li _,.r _,.i _,.i _,.i _,.i _,.r _,.i w] =>w≠0 | _=>False,res:=fun
 | [.i t,.r d,.li tg,.r it,.i p,.i a,.i b,.i c,.r s,.i w] => .ret i64 lO (.i w::dX tg it p (a,b,c,s) w)
 | _=>ag}
def af0:Ct:= {ps:= [.ptr 0 0,i64],bs:=mI,pre:=fun | [.i n,.li _,.r it,.i p,.i a,.i b,.i c,.r s] =>0≤n∧n≤1000∧d9 it p (a,b,c,s) | _=>False,res:=fun
 | [.i n,.li tg,.r it,.i p,.i a,.i b,.i c,.r s] =>agP ob tg it (bd it n p (a,b,c,s))
 | _=>ag}
def OT:Ct:= {ps:= [.ptr 0 0,i64],bs:=lO,pre:=fun | [.i n,.li _,.r it,.i p,.i _,.i _,.i _,.r _,.i w] =>br it p∧w≠0 | _=>False,res:=fun
 | [.i n,.li tg,.r it,.i p,.i a,.i b,.i c,.r s,.i w] => .ret (.tup [.nils,i64]) lO (.i w::dX tg it p (a,b,c,s) w)
 | _=>ag}
def afy:Ct:= {ps:= [.ptr 0 0,i64],bs:=mI,pre:=fun | [.i n,.li _,.r it,.i p,.i a,.i b,.i c,.r s] =>0≤n∧n≤1000∧d9 it p (a,b,c,s) | _=>False,res:=fun
 | [.i n,.li tg,.r it,.i p,.i a,.i b,.i c,.r s] =>agP oe tg it (aE it n p (a,b,c,s))
 | _=>ag}
def Yu:Ct:=OT
def Yt:Ct:= {ps:= [.ptr 0 0],bs:=mI,pre:=fun | [.li _,.r it,.i p,.i a,.i b,.i c,.r s] =>d9 it p (a,b,c,s) | _=>False,res:=fun
 | [.li tg,.r it,.i p,.i a,.i b,.i c,.r s] =>acr tg it (bF it p (a,b,c,s))
 | _=>ag}
def aaJ:Ct:= {ps:= [.ptr 0 0],bs:=lO,pre:=fun | [.li _,.r it,.i p,.i _,.i _,.i _,.r _,.i w] =>br it p∧w≠0 | _=>False,res:=fun
 | [.li tg,.r it,.i p,.i a,.i b,.i c,.r s,.i w] => .ret i64 lO (.i w::dX tg it p (a,b,c,s) w)
 | _=>ag}
def gK:LD→LD
 | [] => []
 | r::l=>(lw ((List.range 4).map fun c=>(r.getD c (CD.int 0)).toInt)).map ae++gK l
def bu (it:LD) (k t n:Int) (d:LD) (p:Int) (x:Sp):Tr:=hid <|
 if k=0 then bc it t d p x else if k=1 then bd it n p x else if k=2 then ((aE it n p x).1,gK (aE it n p x).2.1,(aE it n p x).2.2) else if k=3 then bF it p x else n9 it p x
def acX:Ct:= {ps:= [.agg [i64,i64,i64,rb],.ptr 0 0],bs:=mI,pre:=fun | [.i k,.i t,.i n,.r d,.li _,.r it,.i p,.i a,.i b,.i c,.r s] =>bW d∧0≤n∧n≤1000∧d9 it p (a,b,c,s) | _=>False,res:=fun
 | [.i k,.i t,.i n,.r d,.li tg,.r it,.i p,.i a,.i b,.i c,.r s] => .ite (decide ((bu it k t n d p (a,b,c,s)).2.2.2.2=0))
   (.ret (.agg [i64,rb]) mI (.i (bu it k t n d p (a,b,c,s)).1:: .r (bu it k t n d p (a,b,c,s)).2.1::dA tg it (bu it k t n d p (a,b,c,s)).2.2.1 (bu it k t n d p (a,b,c,s)).2.2.2.1))
   (.ret (.agg [i64,rb]) lO (.i (bu it k t n d p (a,b,c,s)).1:: .r (bu it k t n d p (a,b,c,s)).2.1::dX tg it (bu it k t n d p (a,b,c,s)).2.2.1 (bu it k t n d p (a,b,c,s)).2.2.2.1 (bu it k t n d p (a,b,c,s)).2.2.2.2))
 | _=>ag}
def XT:List Dat→Ann
 | [.i k,.i t,.i n,.r d,.li tg,.r it,.i p,.i a,.i b,.i c,.r s] => {cut:= [],loop:= [(11,[
   la 70 [(4,.ptr 4 0),(9,.ptr 5 0),(47,.rd PM),(48,i64),(49,i64)] (mI++ [.cells 86 [i64,.nils],.cells 86 [i64,.own 6],ob]) (fun
   | [.r l',.i m,.i i,.li tg',.r it',.i p',.i a',.i b',.i c',.r s',.i _,.i e,.r o] =>l'=(aE it n p (a,b,c,s)).2.1∧m=l'.length∧e=0∧tg'=tg∧it'=it∧(e,l',p',(a',b',c',s'),0)=aE it n p (a,b,c,s)∧k=2∧0≤i∧i≤m∧o=gK (l'.take i.toNat)
   | _=>False) (fun | [_,.i m,.i i,_,_,_,_,_,_,_,_,_,_] =>(m-i).toNat | _=>0),
   la 70 [(4,.ptr 5 0),(9,.ptr 6 0),(47,.nils),(48,i64),(49,i64)] (lO++ [.cells 86 [i64,.nils],.cells 86 [i64,.nils]]) (fun
   | [.i m,.i i,.li tg',.r it',.i p',.i a',.i b',.i c',.r s',.i w,.i _,.i e] =>m=0∧i=0∧e=w∧w≠0∧tg'=tg∧it'=it∧(e,[],p',(a',b',c',s'),w)=aE it n p (a,b,c,s)∧k=2
   | _=>False) js])]}
 | _=> {cut:= [],loop:= []}
def nL (l:LD):LD:=hid (l.take 0)
def aba:Ct:= {ps:= [.agg [i64,i64,i64,rb],.ptr 0 0],bs:=lO,pre:=fun | [.i k,.i t,.i n,.r d,.li _,.r it,.i p,.i _,.i _,.i _,.r _,.i w] =>br it p∧w≠0 | _=>False,res:=fun
 | [.i k,.i t,.i n,.r d,.li tg,.r it,.i p,.i a,.i b,.i c,.r s,.i w] => .ret (.agg [i64,rb]) lO (.i w:: .r (nL d)::dX tg it p (a,b,c,s) w)
 | _=>ag}
def Xg:List Dat→Ann
 | [.i k,.i t,.i n,.r d,.li tg,.r it,.i p,.i a,.i b,.i c,.r s,.i w] => {cut:= [],loop:= [(11,[
   la 70 [(4,.ptr 5 0),(9,.ptr 6 0),(47,.nils),(48,i64),(49,i64)] (lO++ [.cells 86 [i64,.nils],.cells 86 [i64,.nils]]) (fun
   | [.i m,.i i,.li tg',.r it',.i p',.i a',.i b',.i c',.r s',.i w',.i _,.i e] =>m=0∧i=0∧e=w∧w'=w∧tg'=tg∧it'=it∧p'=p∧a'=a∧b'=b∧c'=c∧s'=s
   | _=>False) js])]}
 | _=> {cut:= [],loop:= []}
def Uh:Prop:=
 ∀ (a b c:Int) (d:LD) (e f g:Int) (h:LD),
 lM d→
 bW d∧bM (e,f,g,h)→
 bW d∧
 (bM (e,f,g,h)∧
 ar (dk a b c d)∧
 (dk a b c d).length≤1000000)∧
 (bH (dk a b c d) (e,f,g,h) (dk a b c d).length).fst=
 (bn a b c d (e,f,g,h)).fst∧
 (bH (dk a b c d) (e,f,g,h)
 (dk a b c d).length).snd.fst=
 (bn a b c d (e,f,g,h)).snd.fst∧
 (bH (dk a b c d) (e,f,g,h)
 (dk a b c d).length).snd.snd.fst=
 (bn a b c d (e,f,g,h)).snd.snd.fst∧
 (bH (dk a b c d) (e,f,g,h)
 (dk a b c d).length).snd.snd.snd=
 (bn a b c d (e,f,g,h)).snd.snd.snd
def Pa:af:=aj SJ 274 (ap agN)
abbrev nG (a b c d:Int)(e:LD):Int:=
 (eV (a,b,c,e) d.toNat).snd.snd.fst
abbrev m8 (a b c d:Int)(e:LD):Int:=
 (eV (a,b,c,e) d.toNat).snd.snd.snd.fst
abbrev nn (a b c d:Int)(e:LD):Int:=
 (eV (a,b,c,e) d.toNat).snd.snd.snd.snd.fst
abbrev nN (a b c d:Int)(e:LD):Int:=
 (eV (a,b,c,e) d.toNat).snd.snd.snd.snd.snd.fst
abbrev nr (a b c d:Int)(e:LD):LD:=
 (eV (a,b,c,e) d.toNat).snd.snd.snd.snd.snd.snd
abbrev tj:List SV:=
 [.int .i64 0]
abbrev jl:SV:=
 .iface (253:TypeId) (.agg [])
abbrev zl (a:LD):Blk:=
 .own (5:TypeId) [.int .u8] a
abbrev Gz:List CSh:=
 [.int .u64,.int .u64,.int .u64,.int .u64]
def V3:Prop:=
 ∀ (a b c d:Int) (e:LD),
 0≤a∧a≤1000∧bT 800000000 (b,c,d,e)→
 ((max a 0=a∧(0:Int)≤0∧0≤a∧([],0,0,b,c,d,e)=eV (b,c,d,e) 0)∧
 True)∧
 ∀ (f g h i j k:Int) (m o:LD),
 lM o→
 g=a∧0≤h∧h≤a∧(o,f,0,i,j,k,m)=eV (b,c,d,e) h.toNat→
 bif decide (h<g) then
 Ah (i,j,k,m)∧
 iR (f+(aC (i,j,k,m)).snd.fst)∧
 bif decide ((aC (i,j,k,m)).snd.snd.fst≠0) then
 bif decide (nG b c d a e=0) then
 f+(aC (i,j,k,m)).snd.fst=(eV (b,c,d,e) a.toNat).snd.fst∧
 (aC (i,j,k,m)).snd.snd.fst=0∧
 (aC (i,j,k,m)).snd.snd.snd.fst=m8 b c d a e∧
 (aC (i,j,k,m)).snd.snd.snd.snd.fst=nn b c d a e∧
 (aC (i,j,k,m)).snd.snd.snd.snd.snd.fst=nN b c d a e∧
 (aC (i,j,k,m)).snd.snd.snd.snd.snd.snd=nr b c d a e∧
 [] =(eV (b,c,d,e) a.toNat).fst
 else
 f+(aC (i,j,k,m)).snd.fst=(eV (b,c,d,e) a.toNat).snd.fst∧
 (aC (i,j,k,m)).snd.snd.fst=nG b c d a e∧
 (aC (i,j,k,m)).snd.snd.snd.fst=m8 b c d a e∧
 (aC (i,j,k,m)).snd.snd.snd.snd.fst=nn b c d a e∧
 (aC (i,j,k,m)).snd.snd.snd.snd.snd.fst=nN b c d a e∧
 (aC (i,j,k,m)).snd.snd.snd.snd.snd.snd=nr b c d a e
 else
 aR (o.length+1) 32∧
 iR (h+1)∧
 (g=a∧
 0≤h+1∧
 h+1≤a∧
 (o++
 [[.int ((aC (i,j,k,m)).fst.getD 0 0),
 .int ((aC (i,j,k,m)).fst.getD 1 0),
 .int ((aC (i,j,k,m)).fst.getD 2 0),
 .int ((aC (i,j,k,m)).fst.getD 3 0)]],
 f+(aC (i,j,k,m)).snd.fst,0,
 (aC (i,j,k,m)).snd.snd.snd.fst,
 (aC (i,j,k,m)).snd.snd.snd.snd.fst,
 (aC (i,j,k,m)).snd.snd.snd.snd.snd.fst,
 (aC (i,j,k,m)).snd.snd.snd.snd.snd.snd)=
 eV (b,c,d,e) (h+1).toNat)∧
 (g-(h+1)).toNat<(g-h).toNat
 else
 bif decide (nG b c d a e=0) then
 f=(eV (b,c,d,e) a.toNat).snd.fst∧
 (0:Int)=0∧
 i=m8 b c d a e∧
 j=nn b c d a e∧
 k=nN b c d a e∧
 m=nr b c d a e∧o=(eV (b,c,d,e) a.toNat).fst
 else
 Miss 2 eS
def Pg:af:=aj Pa 276 (ap YZ)
def Te:Prop:=
 ∀ (a b c d:Int) (e:LD),
 0≤a∧a≤1000∧bT (800000000:Int) (b,c,d,e)→
 (0≤a∧a≤1000∧bT (800000000:Int) (b,c,d,e))∧
 bif decide (nG b c d a e=0) then
 bif decide (nG b c d a e=0) then
 (0:Int)=0∧
 m8 b c d a e=m8 b c d a e∧
 nn b c d a e=nn b c d a e∧
 nN b c d a e=nN b c d a e∧
 nr b c d a e=nr b c d a e∧
 (eV (b,c,d,e) a.toNat).fst=(eV (b,c,d,e) a.toNat).fst
 else
 Miss 2 eS
 else
 bif decide (nG b c d a e=0) then
 nG b c d a e=0∧
 m8 b c d a e=m8 b c d a e∧
 nn b c d a e=nn b c d a e∧
 nN b c d a e=nN b c d a e∧
 nr b c d a e=nr b c d a e∧
 [] =(eV (b,c,d,e) a.toNat).fst
 else
 nG b c d a e=nG b c d a e∧
 m8 b c d a e=m8 b c d a e∧
 nn b c d a e=nn b c d a e∧
 nN b c d a e=nN b c d a e∧
 nr b c d a e=nr b c d a e
def Pn:af:=aj Pg 273 (ap adD)
def ar3:Prop:=
 ∀ (a b c d:Int) (e:LD),
 bM (b,c,d,e)∧a≤1000000→
 (bM (b,c,d,e)∧a≤1000000)∧
 (aL (b,c,d,e) a.toNat).fst=(aL (b,c,d,e) a.toNat).fst∧
 (aL (b,c,d,e) a.toNat).snd.fst=(aL (b,c,d,e) a.toNat).snd.fst∧
 (aL (b,c,d,e) a.toNat).snd.snd.fst=(aL (b,c,d,e) a.toNat).snd.snd.fst∧
 (aL (b,c,d,e) a.toNat).snd.snd.snd=(aL (b,c,d,e) a.toNat).snd.snd.snd∧
 c8 (b,c,d,e) a.toNat=c8 (b,c,d,e) a.toNat
def Qi:af:=aj Pn 272 (ap ais)
def apv:Prop:=
 ∀ (a b c:Int) (d:LD),
 bM (a,b,c,d)→
 (d.length=200∧ar d∧0≤c∧c≤2000000000)∧
 True∧
 ((0:Int)≤0∧
 (0:Int)≤136∧
 136≤(↑(dn d).length:Int)∧(0:Int)<(↑(dn d).length:Int))∧
 True∧
 0=(mq (a,b,c,d)).fst∧
 136=(mq (a,b,c,d)).snd.fst∧
 c+1=(mq (a,b,c,d)).snd.snd.fst∧
 jv (dn d) 0 136
 (have y:=
 have y:=
 have y:=
 have y:=
 have y:= [[.int 0],[.int 0],[.int 0],[.int 0],[.int 0]];
 [.int 0] :: [.int 0] :: [.int 0] :: [.int 0] ::y;
 have y:= [.int 0] :: [.int 0] :: [.int 0] :: [.int 0] ::y;
 [.int 0] :: [.int 0] :: [.int 0] :: [.int 0] ::y;
 have y:=
 have y:=
 [.int 0] :: [.int 0] :: [.int 0] :: [.int 0] :: [.int 0] ::y;
 [.int 0] :: [.int 0] :: [.int 0] :: [.int 0] ::y;
 have y:= [.int 0] :: [.int 0] :: [.int 0] :: [.int 0] ::y;
 [.int 0] :: [.int 0] :: [.int 0] :: [.int 0] ::y;
 have y:=
 have y:=
 have y:=
 [.int 0] :: [.int 0] :: [.int 0] :: [.int 0] :: [.int 0] ::y;
 [.int 0] :: [.int 0] :: [.int 0] :: [.int 0] ::y;
 have y:= [.int 0] :: [.int 0] :: [.int 0] :: [.int 0] ::y;
 [.int 0] :: [.int 0] :: [.int 0] :: [.int 0] ::y;
 have y:=
 have y:=
 [.int 0] :: [.int 0] :: [.int 0] :: [.int 0] :: [.int 0] ::y;
 [.int 0] :: [.int 0] :: [.int 0] :: [.int 0] ::y;
 have y:= [.int 0] :: [.int 0] :: [.int 0] :: [.int 0] ::y;
 [.int 0] :: [.int 0] :: [.int 0] :: [.int 0] ::y;
 have y:=
 have y:=
 have y:=
 have y:=
 [.int 0] :: [.int 0] :: [.int 0] :: [.int 0] :: [.int 0] ::y;
 [.int 0] :: [.int 0] :: [.int 0] :: [.int 0] ::y;
 have y:= [.int 0] :: [.int 0] :: [.int 0] :: [.int 0] ::y;
 [.int 0] :: [.int 0] :: [.int 0] :: [.int 0] ::y;
 have y:=
 have y:=
 [.int 0] :: [.int 0] :: [.int 0] :: [.int 0] :: [.int 0] ::y;
 [.int 0] :: [.int 0] :: [.int 0] :: [.int 0] ::y;
 have y:= [.int 0] :: [.int 0] :: [.int 0] :: [.int 0] ::y;
 [.int 0] :: [.int 0] :: [.int 0] :: [.int 0] ::y;
 have y:=
 have y:=
 have y:=
 [.int 0] :: [.int 0] :: [.int 0] :: [.int 0] :: [.int 0] ::y;
 [.int 0] :: [.int 0] :: [.int 0] :: [.int 0] ::y;
 have y:= [.int 0] :: [.int 0] :: [.int 0] :: [.int 0] ::y;
 [.int 0] :: [.int 0] :: [.int 0] :: [.int 0] ::y;
 have y:=
 have y:=
 [.int 0] :: [.int 0] :: [.int 0] :: [.int 0] :: [.int 0] ::y;
 [.int 0] :: [.int 0] :: [.int 0] :: [.int 0] ::y;
 have y:= [.int 0] :: [.int 0] :: [.int 0] :: [.int 0] ::y;
 [.int 0] :: [.int 0] :: [.int 0] :: [.int 0] ::y)=
 (mq (a,b,c,d)).snd.snd.snd
def Ph:af:=aj Qi 270 (ap akX)
abbrev fD (a:List Int):Prop:=
 a.length=32
abbrev iO (a b c d e:Int)(f g h:LD):Int:=
 (bc f a g b (c,d,e,h)).snd.snd.snd.snd
abbrev kJ (a b c d e:Int)(f g h:LD):Int:=
 (bc f a g b (c,d,e,h)).snd.snd.snd.fst.fst
abbrev kB (a b c d e:Int)(f g h:LD):Int:=
 (bc f a g b (c,d,e,h)).snd.snd.snd.fst.snd.fst
abbrev j2 (a b c d e:Int)(f g h:LD):Int:=
 (bc f a g b (c,d,e,h)).snd.snd.snd.fst.snd.snd.fst
abbrev lB (a b c d e:Int)(f g h:LD):LD:=
 (bc f a g b (c,d,e,h)).snd.snd.snd.fst.snd.snd.snd
abbrev q8 (a:List Int):Blk:=
 .cells (128:TypeId)
 [.ptr 1 0,.arrI 32 .u8 a,.iface (133:TypeId) (.agg [.ptr 2 0])]
abbrev kG (a:LD):SV:=
 .rd [.int .i64,.int .i64,.int .i64,.str] a
abbrev Pk (a:Int)(b:LD):Blk:=
 .cells (185:TypeId) [kG b,.int .i64 a,.nilp]
abbrev xv (a b c:Int):Blk:=
 .cells (298:TypeId)
 [jl,.own 3,.int .i64 a,.int .i64 b,.int .i64 c]
abbrev DQ (a:Int)(b:LD):Blk:=
 .cells (185:TypeId) [kG b,.int .i64 a,.ptr 4 0]
abbrev BG (a:Int)(b:LD):Blk:=
 .cells (185:TypeId) [kG b,.int .i64 (a+1),.nilp]
abbrev aeg (a:Int)(b:LD):Blk:=
 .cells (151:Nat)
 [.int .i64 (1:Int),.int .i64 a,.int .i64 (bi a b),
 .rd [.int .u8] b]
abbrev DA (a:Int)(b:LD):Blk:=
 .cells (185:TypeId) [kG b,.int .i64 a,.ptr 5 0]
abbrev Ck:List Blk:=
 [.cells (204:TypeId) [.int .i64 10]]
def SK:Prop:=
 ∀ (a:Int) (b:LD) (c:List Int) (d:LD) (e f g h:Int) (i:LD),
 lM b→
 fD c→
 bW b∧d9 d e (f,g,h,i)→
 True∧
 b.length≤1000∧
 bif decide (bl a b≠0) then
 True∧
 bif decide (bl a b=0) then
 bif decide (iO a e f g h d b i=0) then
 0=(bc d a b e (f,g,h,i)).fst∧
 c=c∧
 d=d∧
 e=(bc d a b e (f,g,h,i)).snd.snd.fst∧
 f=kJ a e f g h d b i∧
 g=kB a e f g h d b i∧
 h=j2 a e f g h d b i∧i=lB a e f g h d b i
 else
 Miss 2 eS
 else
 bif decide (iO a e f g h d b i=0) then
 Miss 2 eS
 else
 bl a b=(bc d a b e (f,g,h,i)).fst∧
 c=c∧
 d=d∧
 e=(bc d a b e (f,g,h,i)).snd.snd.fst∧
 f=kJ a e f g h d b i∧
 g=kB a e f g h d b i∧
 h=j2 a e f g h d b i∧
 i=lB a e f g h d b i∧
 bl a b=iO a e f g h d b i
 else
 br d e∧
 bif ci d e 1 a (bi a b) then
 bW b∧
 bif decide (dg a b≠0) then
 True∧
 bif decide (dg a b=0) then
 bif decide (iO a e f g h d b i=0) then
 0=(bc d a b e (f,g,h,i)).fst∧
 c=c∧
 d=d∧
 e+1=(bc d a b e (f,g,h,i)).snd.snd.fst∧
 f=kJ a e f g h d b i∧
 g=kB a e f g h d b i∧
 h=j2 a e f g h d b i∧i=lB a e f g h d b i
 else
 Miss 2 eS
 else
 bif decide (iO a e f g h d b i=0) then
 Miss 2 eS
 else
 dg a b=(bc d a b e (f,g,h,i)).fst∧
 c=c∧
 d=d∧
 e+1=(bc d a b e (f,g,h,i)).snd.snd.fst∧
 f=kJ a e f g h d b i∧
 g=kB a e f g h d b i∧
 h=j2 a e f g h d b i∧
 i=lB a e f g h d b i∧
 dg a b=iO a e f g h d b i
 else
 (bW b∧bM (f,g,h,i))∧
 bif decide (iO a e f g h d b i=0) then
 0=(bc d a b e (f,g,h,i)).fst∧
 c=c∧
 d=d∧
 e+1=(bc d a b e (f,g,h,i)).snd.snd.fst∧
 (bn 1 a (bi a b) b (f,g,h,i)).fst=
 kJ a e f g h d b i∧
 (bn 1 a (bi a b) b (f,g,h,i)).snd.fst=
 kB a e f g h d b i∧
 (bn 1 a (bi a b) b (f,g,h,i)).snd.snd.fst=
 j2 a e f g h d b i∧
 (bn 1 a (bi a b) b (f,g,h,i)).snd.snd.snd=
 lB a e f g h d b i
 else
 Miss 2 eS
 else
 bif decide (iO a e f g h d b i=0) then
 Miss 2 eS
 else
 10=(bc d a b e (f,g,h,i)).fst∧
 c=c∧
 d=d∧
 e=(bc d a b e (f,g,h,i)).snd.snd.fst∧
 f=kJ a e f g h d b i∧
 g=kB a e f g h d b i∧
 h=j2 a e f g h d b i∧
 i=lB a e f g h d b i∧10=iO a e f g h d b i
abbrev ii (a b c:Int)(d:LD):Int:=
 (a,b,c,d).snd.snd.fst
abbrev ie (a b c:Int)(d:LD):LD:=
 (a,b,c,d).snd.snd.snd
abbrev kn (a b c d e:Int)(f g:LD)(h:List Int):Prop:=
 a=a∧
 h=h∧
 f=f∧
 b=b∧
 c=(c,d,e,g).fst∧d=(c,d,e,g).snd.fst∧e=ii c d e g∧g=ie c d e g∧a=a
def VQ:Prop:=
 ∀ (a:Int) (b:LD) (c:List Int) (d:LD) (e f g h:Int) (i:LD) (j:Int),
 lM b→
 fD c→
 j≠0→
 True∧
 bif decide (j≠0) then kn j e f g h d i c
 else
 b.length≤1000∧
 bif decide (bl a b≠0) then True∧kn j e f g h d i c
 else
 (br d e∧j≠0)∧
 bif decide (j≠0) then kn j e f g h d i c
 else
 bW b∧
 bif decide (dg a b≠0) then True∧kn j e f g h d i c
 else
 (bW b∧bM (f,g,h,i))∧
 0=j∧
 c=c∧
 d=d∧
 e=e∧
 (bn 1 a (bi a b) b (f,g,h,i)).fst=(f,g,h,i).fst∧
 (bn 1 a (bi a b) b (f,g,h,i)).snd.fst=
 (f,g,h,i).snd.fst∧
 (bn 1 a (bi a b) b (f,g,h,i)).snd.snd.fst=
 ii f g h i∧
 (bn 1 a (bi a b) b (f,g,h,i)).snd.snd.snd=
 ie f g h i∧
 j=j
def WQ:af:=aj Ph 51 (nF Zh (ap abG))
abbrev jA (a b c d:Int)(e:LD):Int×Int×Int×LD:=
 ((bn 2 1 a [] (b,c,d,e)).fst,(bn 2 1 a [] (b,c,d,e)).snd.fst,
 (bn 2 1 a [] (b,c,d,e)).snd.snd.fst,
 (bn 2 1 a [] (b,c,d,e)).snd.snd.snd)
abbrev qK (a b c d e:Int)(f g:LD):Int:=
 (bd f a b (c,d,e,g)).snd.snd.snd.snd
abbrev qT (a b c d e:Int)(f g:LD):Int:=
 (bd f a b (c,d,e,g)).snd.snd.snd.fst.fst
abbrev rf (a b c d e:Int)(f g:LD):Int:=
 (bd f a b (c,d,e,g)).snd.snd.snd.fst.snd.fst
abbrev qI (a b c d e:Int)(f g:LD):Int:=
 (bd f a b (c,d,e,g)).snd.snd.snd.fst.snd.snd.fst
abbrev tK (a b c d e:Int)(f g:LD):LD:=
 (bd f a b (c,d,e,g)).snd.snd.snd.fst.snd.snd.snd
abbrev Pq (a b c d:Int)(e:LD):Blk:=
 .cells (298:TypeId)
 [jl,.own 3,
 .int .i64 (aL (jA a b c d e) a.toNat).fst,
 .int .i64 (aL (jA a b c d e) a.toNat).snd.fst,
 .int .i64 (aL (jA a b c d e) a.toNat).snd.snd.fst]
abbrev Qv (a:Int):Blk:=
 .cells (151:Nat) [.int .i64 (2:Int),.int .i64 (1:Int),.int .i64 a,.nils]
def Ti:Prop:=
 ∀ (a:Int) (b:List Int) (c:LD) (d e f g:Int) (h:LD),
 fD b→
 0≤a∧a≤1000∧d9 c d (e,f,g,h)→
 br c d∧
 bif ci c d 2 1 a then
 (bW [] ∧bM (e,f,g,h))∧
 (bM (jA a e f g h)∧a≤1000000)∧
 bif decide (qK a d e f g c h=0) then
 0=(bd c a d (e,f,g,h)).fst∧
 b=b∧
 c=c∧
 d+1=(bd c a d (e,f,g,h)).snd.snd.fst∧
 (aL (jA a e f g h) a.toNat).fst=
 qT a d e f g c h∧
 (aL (jA a e f g h) a.toNat).snd.fst=
 rf a d e f g c h∧
 (aL (jA a e f g h) a.toNat).snd.snd.fst=
 qI a d e f g c h∧
 (aL (jA a e f g h) a.toNat).snd.snd.snd=
 tK a d e f g c h∧
 c8 (jA a e f g h) a.toNat=
 (bd c a d (e,f,g,h)).snd.fst
 else
 Miss 2 eS
 else
 bif decide (qK a d e f g c h=0) then
 Miss 2 eS
 else
 10=(bd c a d (e,f,g,h)).fst∧
 b=b∧
 c=c∧
 d=(bd c a d (e,f,g,h)).snd.snd.fst∧
 e=qT a d e f g c h∧
 f=rf a d e f g c h∧
 g=qI a d e f g c h∧
 h=tK a d e f g c h∧10=qK a d e f g c h
def Vy:Prop:=
 ∀ (a:Int) (b:List Int) (c:LD) (d e f g:Int) (h:LD) (i:Int),
 fD b→
 br c d∧i≠0→
 (br c d∧i≠0)∧
 bif decide (i≠0) then kn i d e f g c h b
 else
 (bW [] ∧bM (e,f,g,h))∧
 (bM (jA a e f g h)∧a≤1000000)∧
 Miss 2 eS
def Wr:af:=aj WQ 52 (nF af0 (ap OT))
abbrev lF (a b c d:Int)(e:LD):Int×Int×Int×LD:=
 ((bn 2 3 a [] (b,c,d,e)).fst,(bn 2 3 a [] (b,c,d,e)).snd.fst,
 (bn 2 3 a [] (b,c,d,e)).snd.snd.fst,
 (bn 2 3 a [] (b,c,d,e)).snd.snd.snd)
abbrev mQ (a b c d:Int)(e:LD):Int:=
 (eV (lF a b c d e) a.toNat).snd.snd.fst
abbrev jC (a b c d e:Int)(f g:LD):Int:=
 (aE f a b (c,d,e,g)).snd.snd.snd.snd
abbrev yc (a b c d:Int)(e:LD):Int:=
 (eV (lF a b c d e) a.toNat).snd.snd.snd.fst
abbrev DS (a b c d e:Int)(f g:LD):Prop:=
 yc a b c d f=(aE g a e (b,c,d,f)).snd.snd.snd.fst.fst
abbrev qQ (a b c d:Int)(e:LD):Int:=
 (eV (lF a b c d e) a.toNat).snd.snd.snd.snd.fst
abbrev rE (a b c d e:Int)(f g:LD):Int:=
 (aE f a b (c,d,e,g)).snd.snd.snd.fst.snd.fst
abbrev r9 (a b c d:Int)(e:LD):Int:=
 (eV (lF a b c d e) a.toNat).snd.snd.snd.snd.snd.fst
abbrev qH (a b c d e:Int)(f g:LD):Int:=
 (aE f a b (c,d,e,g)).snd.snd.snd.fst.snd.snd.fst
abbrev rX (a b c d:Int)(e:LD):LD:=
 (eV (lF a b c d e) a.toNat).snd.snd.snd.snd.snd.snd
abbrev qJ (a b c d e:Int)(f g:LD):LD:=
 (aE f a b (c,d,e,g)).snd.snd.snd.fst.snd.snd.snd
abbrev iy (a b c d e:Int)(f g:LD):LD:=
 (aE f a b (c,d,e,g)).snd.fst
abbrev QI (a b c d:Int)(e:LD):Blk:=
 .cells (298:TypeId)
 [jl,.own 3,.int .i64 (yc a b c d e),
 .int .i64 (qQ a b c d e),.int .i64 (r9 a b c d e)]
abbrev QH (a b c d:Int)(e:LD):Blk:=
 .own (5:TypeId) [.int .u8] (rX a b c d e)
abbrev OO (a:Int):Blk:=
 .cells (151:Nat) [.int .i64 (2:Int),.int .i64 (3:Int),.int .i64 a,.nils]
abbrev Jt (a b c d e:Int)(f g:LD)(h:List Int):Prop:=
 bif decide (jC a b c d e f g=0) then
 0=(aE f a b (c,d,e,g)).fst∧
 h=h∧
 f=f∧
 b+1=(aE f a b (c,d,e,g)).snd.snd.fst∧
 DS a c d e b g f∧
 qQ a c d e g=rE a b c d e f g∧
 r9 a c d e g=qH a b c d e f g∧
 rX a c d e g=qJ a b c d e f g∧
 [] =iy a b c d e f g
else
 Miss 2 eS
def V9:Prop:=
 ∀ (a:Int) (b:List Int) (c:LD) (d e f g:Int) (h:LD),
 fD b→
 0≤a∧a≤1000∧d9 c d (e,f,g,h)→
 br c d∧
 bif ci c d 2 3 a then
 (bW [] ∧bM (e,f,g,h))∧
 (0≤a∧a≤1000∧bT 800000000 (lF a e f g h))∧
 bif decide (mQ a e f g h=0) then
 bif decide (jC a d e f g c h=0) then
 0=(aE c a d (e,f,g,h)).fst∧
 b=b∧
 c=c∧
 d+1=(aE c a d (e,f,g,h)).snd.snd.fst∧
 DS a e f g d h c∧
 qQ a e f g h=rE a d e f g c h∧
 r9 a e f g h=qH a d e f g c h∧
 rX a e f g h=qJ a d e f g c h∧
 (eV (lF a e f g h) a.toNat).fst=
 iy a d e f g c h
 else
 Miss 2 eS
 else
 bif decide (mQ a e f g h≠0) then
 True∧
 bif decide (mQ a e f g h=0) then Jt a d e f g c h b
 else
 bif decide (jC a d e f g c h=0) then
 Miss 2 eS
 else
 mQ a e f g h=(aE c a d (e,f,g,h)).fst∧
 b=b∧
 c=c∧
 d+1=(aE c a d (e,f,g,h)).snd.snd.fst∧
 DS a e f g d h c∧
 qQ a e f g h=rE a d e f g c h∧
 r9 a e f g h=qH a d e f g c h∧
 rX a e f g h=qJ a d e f g c h∧
 mQ a e f g h=jC a d e f g c h
 else Jt a d e f g c h b
 else
 bif decide (jC a d e f g c h=0) then
 Miss 2 eS
 else
 10=(aE c a d (e,f,g,h)).fst∧
 b=b∧
 c=c∧
 d=(aE c a d (e,f,g,h)).snd.snd.fst∧
 e=(aE c a d (e,f,g,h)).snd.snd.snd.fst.fst∧
 f=rE a d e f g c h∧
 g=qH a d e f g c h∧
 h=qJ a d e f g c h∧10=jC a d e f g c h
abbrev Ix (a b c d e f:Int)(g h:LD)(i:List Int):Prop:=
 i=i∧
 g=g∧
 a=a∧
 yc b c d e h=(c,d,e,h).fst∧
 qQ b c d e h=(c,d,e,h).snd.fst∧
 r9 b c d e h=ii c d e h∧
 rX b c d e h=ie c d e h∧f=f
def TN:Prop:=
 ∀ (a:Int) (b:List Int) (c:LD) (d e f g:Int) (h:LD) (i:Int),
 fD b→
 br c d∧i≠0→
 (br c d∧i≠0)∧
 bif decide (i≠0) then kn i d e f g c h b
 else
 (bW [] ∧bM (e,f,g,h))∧
 (0≤a∧a≤1000∧bT 800000000 (lF a e f g h))∧
 bif decide (mQ a e f g h=0) then
 Miss 2 eS
 else
 bif decide (mQ a e f g h≠0) then True∧i=i∧Ix d a e f g i c h b
 else 0=i∧Ix d a e f g i c h b
def UV:af:=aj Wr 53 (nF afy (ap Yu))
abbrev jt (a b c:Int)(d:LD):Int×Int×Int×LD:=
 ((bn 3 0 1 [] (a,b,c,d)).fst,
 (bn 3 0 1 [] (a,b,c,d)).snd.fst,
 (bn 3 0 1 [] (a,b,c,d)).snd.snd.fst,
 (bn 3 0 1 [] (a,b,c,d)).snd.snd.snd)
abbrev rV (a b c d:Int)(e f:LD):Int:=
 (bF e a (b,c,d,f)).snd.snd.snd.snd
abbrev ry (a b c d:Int)(e f:LD):Int:=
 (bF e a (b,c,d,f)).snd.snd.snd.fst.fst
abbrev qS (a b c d:Int)(e f:LD):Int:=
 (bF e a (b,c,d,f)).snd.snd.snd.fst.snd.fst
abbrev q7 (a b c d:Int)(e f:LD):Int:=
 (bF e a (b,c,d,f)).snd.snd.snd.fst.snd.snd.fst
abbrev ue (a b c d:Int)(e f:LD):LD:=
 (bF e a (b,c,d,f)).snd.snd.snd.fst.snd.snd.snd
abbrev acm:Blk:=
 .cells (151:Nat) [.int .i64 (3:Int),.int .i64 (0:Int),.int .i64 (1:Int),.nils]
def Tj:Prop:=
 ∀ (a:List Int) (b:LD) (c d e f:Int) (g:LD),
 fD a→
 d9 b c (d,e,f,g)→
 br b c∧
 bif ci b c 3 0 1 then
 (bW [] ∧bM (d,e,f,g))∧
 bM (jt d e f g)∧
 bif decide (rV c d e f b g=0) then
 0=(bF b c (d,e,f,g)).fst∧
 a=a∧
 b=b∧
 c+1=(bF b c (d,e,f,g)).snd.snd.fst∧
 (mq (jt d e f g)).fst=
 ry c d e f b g∧
 (mq (jt d e f g)).snd.fst=
 qS c d e f b g∧
 (mq (jt d e f g)).snd.snd.fst=
 q7 c d e f b g∧
 (mq (jt d e f g)).snd.snd.snd=
 ue c d e f b g
 else
 Miss 2 eS
 else
 bif decide (rV c d e f b g=0) then
 Miss 2 eS
 else
 10=(bF b c (d,e,f,g)).fst∧
 a=a∧
 b=b∧
 c=(bF b c (d,e,f,g)).snd.snd.fst∧
 d=ry c d e f b g∧
 e=qS c d e f b g∧
 f=q7 c d e f b g∧
 g=ue c d e f b g∧10=rV c d e f b g
def VB:Prop:=
 ∀ (a:List Int) (b:LD) (c d e f:Int) (g:LD) (h:Int),
 fD a→
 br b c∧h≠0→
 (br b c∧h≠0)∧
 bif decide (h=0) then
 (bW [] ∧bM (d,e,f,g))∧
 bM (jt d e f g)∧
 h=h∧
 a=a∧
 b=b∧
 c=c∧
 (mq (jt d e f g)).fst=(d,e,f,g).fst∧
 (mq (jt d e f g)).snd.fst=(d,e,f,g).snd.fst∧
 (mq (jt d e f g)).snd.snd.fst=
 ii d e f g∧
 (mq (jt d e f g)).snd.snd.snd=
 ie d e f g∧
 h=h
 else kn h c d e f b g a
def Wx:af:=aj UV 54 (nF Yt (ap aaJ))
abbrev rO (a b c d e f g:Int)(h i j:LD):Int:=
 (bu h a b c i d (e,f,g,j)).snd.snd.snd.snd
abbrev kr (a b c d e f g:Int)(h i j:LD):Bool:=
 decide (rO a b c d e f g h i j=0)
abbrev nl (a b c d e f g:Int)(h i j:LD):Prop:=
 [] =(bu h a b c i d (e,f,g,j)).snd.fst
abbrev jZ (a b c d e f g:Int)(h i j:LD):Int:=
 (bu h a b c i d (e,f,g,j)).snd.snd.snd.fst.fst
abbrev kE (a b c d e f g:Int)(h i j:LD):Int:=
 (bu h a b c i d (e,f,g,j)).snd.snd.snd.fst.snd.fst
abbrev kg (a b c d e f g:Int)(h i j:LD):Int:=
 (bu h a b c i d (e,f,g,j)).snd.snd.snd.fst.snd.snd.fst
abbrev kt (a b c d e f g:Int)(h i j:LD):LD:=
 (bu h a b c i d (e,f,g,j)).snd.snd.snd.fst.snd.snd.snd
abbrev afX (a b c d e:Int)(f g h:LD):Blk:=
 .cells (298:TypeId)
 [jl,.own 3,.int .i64 (kJ a b c d e f g h),
 .int .i64 (kB a b c d e f g h),
 .int .i64 (j2 a b c d e f g h)]
abbrev aci (a b c:Int)(d:LD):Blk:=
 .cells (84:Nat) [.int .i64 a,.int .i64 b,.int .i64 c,.rd [.int .u8] d]
abbrev ad2 (a b c d e:Int)(f g:LD):Blk:=
 .cells (298:TypeId)
 [jl,.own 3,.int .i64 (qT a b c d e f g),
 .int .i64 (rf a b c d e f g),
 .int .i64 (qI a b c d e f g)]
abbrev Iz (a b c d e:Int)(f g:LD):Int×Int×Int×LD:=
 ((aE f a b (c,d,e,g)).snd.snd.snd.fst.fst,rE a b c d e f g,
 qH a b c d e f g,qJ a b c d e f g)
abbrev HE (a:Int)(b:LD):List Int:=
 [((b.getD a.toNat []).getD 0 (.int 0)).toInt,((b.getD a.toNat []).getD 1 (.int 0)).toInt,
 ((b.getD a.toNat []).getD 2 (.int 0)).toInt,((b.getD a.toNat []).getD 3 (.int 0)).toInt]
abbrev J3 (a b c d e f g:Int)(h i j:LD)(k:List Int):Prop:=
 (∀ (m:LD) (o p:Int) (q:List Int) (r:LD) (s t u v:Int) (w:LD) (n_13 x:Int) (y:LD),
 lM m→
 m=iy a b c d e h i∧
 o=↑m.length∧
 x=0∧
 q=k∧
 r=h∧
 (x,m,s,(t,u,v,w),(0:Int))=aE h a b (c,d,e,i)∧
 f=2∧0≤p∧p≤o∧y=gK (List.take p.toNat m)→
 bif decide (p<o) then
 bR p m∧
 p.toNat<m.length∧
 aq (HE p m)∧
 ((0:Int)≤0∧0≤(↑(32:Nat):Int)∧(↑(32:Nat):Int)≤(↑(32:Nat):Int)∧(0:Int)<(↑(32:Nat):Int))∧
 aR (y.length+32) 1∧
 iR (p+1)∧
 (m=iy a b c d e h i∧
 o=↑m.length∧
 x=0∧
 q=k∧
 r=h∧
 (x,m,s,(t,u,v,w),(0:Int))=aE h a b (c,d,e,i)∧
 f=2∧
 0≤p+1∧
 p+1≤o∧
 y++
 List.map (fun z=> [.int z])
 (List.take 32
 (List.drop 0 (lw (HE p m))))=
 gK (List.take (p+1).toNat m))∧
 (o-(p+1)).toNat<(o-p).toNat
 else
 bif kr f g a b c d e h j i then
 x=(bu h f g a j b (c,d,e,i)).fst∧
 y=(bu h f g a j b (c,d,e,i)).snd.fst∧
 q=k∧
 r=h∧
 s=(bu h f g a j b (c,d,e,i)).snd.snd.fst∧
 t=jZ f g a b c d e h j i∧
 u=kE f g a b c d e h j i∧
 v=kg f g a b c d e h j i∧w=kt f g a b c d e h j i
 else
 Miss 2 eS)∧
 ∀ (m o:Int) (p:List Int) (q:LD) (r s t u:Int) (v:LD) (w n_14 x:Int),
 m=0∧
 o=0∧x=w∧w≠0∧p=k∧q=h∧(x,[],r,(s,t,u,v),w)=aE h a b (c,d,e,i)∧f=2→
 bif decide (o<m) then False
 else
 bif kr f g a b c d e h j i then
 Miss 2 eS
 else
 x=(bu h f g a j b (c,d,e,i)).fst∧
 nl f g a b c d e h j i∧
 p=k∧
 q=h∧
 r=(bu h f g a j b (c,d,e,i)).snd.snd.fst∧
 s=jZ f g a b c d e h j i∧
 t=kE f g a b c d e h j i∧
 u=kg f g a b c d e h j i∧
 v=kt f g a b c d e h j i∧w=rO f g a b c d e h j i
abbrev ZV (a b c d:Int)(e f:LD):Blk:=
 .cells (298:TypeId)
 [jl,.own 3,.int .i64 (ry a b c d e f),
 .int .i64 (qS a b c d e f),.int .i64 (q7 a b c d e f)]
def ST:Prop:=
 ∀ (a b c:Int) (d:LD) (e:List Int) (f:LD) (g h i j:Int) (k:LD),
 lM d→
 fD e→
 bW d∧0≤c∧c≤1000∧d9 f g (h,i,j,k)→
 bif decide (a=0) then
 (bW d∧d9 f g (h,i,j,k))∧
 bif decide (iO b g h i j f d k=0) then
 bif kr a b c g h i j f d k then
 (bc f b d g (h,i,j,k)).fst=(bu f a b c d g (h,i,j,k)).fst∧
 nl a b c g h i j f d k∧
 e=e∧
 f=f∧
 (bc f b d g (h,i,j,k)).snd.snd.fst=
 (bu f a b c d g (h,i,j,k)).snd.snd.fst∧
 kJ b g h i j f d k=jZ a b c g h i j f d k∧
 kB b g h i j f d k=kE a b c g h i j f d k∧
 j2 b g h i j f d k=kg a b c g h i j f d k∧
 lB b g h i j f d k=kt a b c g h i j f d k
 else
 Miss 2 eS
 else
 bif kr a b c g h i j f d k then
 Miss 2 eS
 else
 (bc f b d g (h,i,j,k)).fst=(bu f a b c d g (h,i,j,k)).fst∧
 nl a b c g h i j f d k∧
 e=e∧
 f=f∧
 (bc f b d g (h,i,j,k)).snd.snd.fst=
 (bu f a b c d g (h,i,j,k)).snd.snd.fst∧
 kJ b g h i j f d k=jZ a b c g h i j f d k∧
 kB b g h i j f d k=kE a b c g h i j f d k∧
 j2 b g h i j f d k=kg a b c g h i j f d k∧
 lB b g h i j f d k=kt a b c g h i j f d k∧
 iO b g h i j f d k=rO a b c g h i j f d k
 else
 bif decide (a=1) then
 (0≤c∧c≤1000∧d9 f g (h,i,j,k))∧
 bif decide (qK c g h i j f k=0) then
 bif kr a b c g h i j f d k then
 (bd f c g (h,i,j,k)).fst=(bu f a b c d g (h,i,j,k)).fst∧
 (bd f c g (h,i,j,k)).snd.fst=(bu f a b c d g (h,i,j,k)).snd.fst∧
 e=e∧
 f=f∧
 (bd f c g (h,i,j,k)).snd.snd.fst=
 (bu f a b c d g (h,i,j,k)).snd.snd.fst∧
 qT c g h i j f k=jZ a b c g h i j f d k∧
 rf c g h i j f k=kE a b c g h i j f d k∧
 qI c g h i j f k=kg a b c g h i j f d k∧
 tK c g h i j f k=kt a b c g h i j f d k
 else
 Miss 2 eS
 else
 bif kr a b c g h i j f d k then
 Miss 2 eS
 else
 (bd f c g (h,i,j,k)).fst=(bu f a b c d g (h,i,j,k)).fst∧
 nl a b c g h i j f d k∧
 e=e∧
 f=f∧
 (bd f c g (h,i,j,k)).snd.snd.fst=
 (bu f a b c d g (h,i,j,k)).snd.snd.fst∧
 qT c g h i j f k=jZ a b c g h i j f d k∧
 rf c g h i j f k=kE a b c g h i j f d k∧
 qI c g h i j f k=kg a b c g h i j f d k∧
 tK c g h i j f k=kt a b c g h i j f d k∧
 qK c g h i j f k=rO a b c g h i j f d k
 else
 bif decide (a=2) then
 (0≤c∧c≤1000∧d9 f g (h,i,j,k))∧
 bif decide (jC c g h i j f k=0) then
 lM (iy c g h i j f k)→
 ((iy c g h i j f k=iy c g h i j f k∧
 (↑(iy c g h i j f k).length:Int)=(↑(iy c g h i j f k).length:Int)∧
 (aE f c g (h,i,j,k)).fst=0∧
 e=e∧
 f=f∧
 ((aE f c g (h,i,j,k)).fst,iy c g h i j f k,
 (aE f c g (h,i,j,k)).snd.snd.fst,Iz c g h i j f k,
 (0:Int))=
 aE f c g (h,i,j,k)∧
 a=2∧
 (0:Int)≤0∧
 0≤(↑(iy c g h i j f k).length:Int)∧
 [] =gK (List.take (0:Nat) (iy c g h i j f k)))∧
 True)∧
 J3 c g h i j a b f k d e
 else
 (((0:Int)=0∧
 (0:Int)=0∧
 (aE f c g (h,i,j,k)).fst=jC c g h i j f k∧
 jC c g h i j f k≠0∧
 e=e∧
 f=f∧
 ((aE f c g (h,i,j,k)).fst,[],(aE f c g (h,i,j,k)).snd.snd.fst,
 Iz c g h i j f k,jC c g h i j f k)=
 aE f c g (h,i,j,k)∧
 a=2)∧
 True)∧
 J3 c g h i j a b f k d e
 else
 bif decide (a=3) then
 d9 f g (h,i,j,k)∧
 bif decide (rV g h i j f k=0) then
 bif kr a b c g h i j f d k then
 (bF f g (h,i,j,k)).fst=(bu f a b c d g (h,i,j,k)).fst∧
 nl a b c g h i j f d k∧
 e=e∧
 f=f∧
 (bF f g (h,i,j,k)).snd.snd.fst=
 (bu f a b c d g (h,i,j,k)).snd.snd.fst∧
 ry g h i j f k=jZ a b c g h i j f d k∧
 qS g h i j f k=kE a b c g h i j f d k∧
 q7 g h i j f k=kg a b c g h i j f d k∧
 ue g h i j f k=kt a b c g h i j f d k
 else
 Miss 2 eS
 else
 bif kr a b c g h i j f d k then
 Miss 2 eS
 else
 (bF f g (h,i,j,k)).fst=(bu f a b c d g (h,i,j,k)).fst∧
 nl a b c g h i j f d k∧
 e=e∧
 f=f∧
 (bF f g (h,i,j,k)).snd.snd.fst=
 (bu f a b c d g (h,i,j,k)).snd.snd.fst∧
 ry g h i j f k=jZ a b c g h i j f d k∧
 qS g h i j f k=kE a b c g h i j f d k∧
 q7 g h i j f k=kg a b c g h i j f d k∧
 ue g h i j f k=kt a b c g h i j f d k∧
 rV g h i j f k=rO a b c g h i j f d k
 else
 True∧
 bif decide (g=↑f.length) then
 bif kr a b c g h i j f d k then
 0=(bu f a b c d g (h,i,j,k)).fst∧
 nl a b c g h i j f d k∧
 e=e∧
 f=f∧
 g=(bu f a b c d g (h,i,j,k)).snd.snd.fst∧
 h=jZ a b c g h i j f d k∧
 i=kE a b c g h i j f d k∧
 j=kg a b c g h i j f d k∧k=kt a b c g h i j f d k
 else
 Miss 2 eS
 else
 bif kr a b c g h i j f d k then
 Miss 2 eS
 else
 12=(bu f a b c d g (h,i,j,k)).fst∧
 nl a b c g h i j f d k∧
 e=e∧
 f=f∧
 g=(bu f a b c d g (h,i,j,k)).snd.snd.fst∧
 h=jZ a b c g h i j f d k∧
 i=kE a b c g h i j f d k∧
 j=kg a b c g h i j f d k∧
 k=kt a b c g h i j f d k∧
 12=rO a b c g h i j f d k
abbrev B7 (a b c d e:Int)(f g h:LD)(i:List Int):Prop:=
 a=a∧
 [] =nL f∧
 i=i∧
 g=g∧
 b=b∧
 (c,d,e,h).fst=(c,d,e,h).fst∧
 (c,d,e,h).snd.fst=(c,d,e,h).snd.fst∧
 ii c d e h=ii c d e h∧
 ie c d e h=ie c d e h∧a=a
def Vj:Prop:=
 ∀ (a n_1 n_2:Int) (b:LD) (c:List Int) (d:LD) (e f g h:Int) (i:LD) (j:Int),
 lM b→
 fD c→
 br d e∧j≠0→
 bif decide (a=0) then j≠0∧B7 j e f g h b d i c
 else
 bif decide (a=1) then (br d e∧j≠0)∧B7 j e f g h b d i c
 else
 bif decide (a=2) then
 (br d e∧j≠0)∧
 (((0:Int)=0∧
 (0:Int)=0∧
 j=j∧
 j=j∧
 c=c∧
 d=d∧
 e=e∧
 (f,g,h,i).fst=f∧
 (f,g,h,i).snd.fst=g∧ii f g h i=h∧ie f g h i=i)∧
 True)∧
 ∀ (k m:Int) (o:List Int) (p:LD) (q r s t:Int) (u:LD) (v n_14 w:Int),
 k=0∧m=0∧w=j∧v=j∧o=c∧p=d∧q=e∧r=f∧s=g∧t=h∧u=i→
 bif decide (m<k) then False
 else
 w=j∧
 [] =nL b∧
 o=c∧
 p=d∧
 q=e∧
 r=(f,g,h,i).fst∧
 s=(f,g,h,i).snd.fst∧
 t=ii f g h i∧u=ie f g h i∧v=j
 else
 bif decide (a=3) then (br d e∧j≠0)∧B7 j e f g h b d i c
 else
 True∧
 j=j∧
 [] =nL b∧
 c=c∧
 d=d∧
 e=e∧
 f=(f,g,h,i).fst∧
 g=(f,g,h,i).snd.fst∧h=ii f g h i∧i=ie f g h i∧j=j
def UA:af:=aj Wx 36 (nF acX (ap aba))
theorem Jm (k t n:Int) {l:LD} (h:ar l):ar (dk k t n l):=fun j=>by
 unfold dk
 split
 ·have b:∀ m:Int,0≤m%256∧m%256<256:=fun m=>by omega
  match j with
  | 0=>exact b k
  | 1=>exact b t
  | 2=>exact b n
  | 3=>exact b _
  | 4=>exact b _
  | 5=>exact b _
  | j+6=>exact h j
 ·exact ⟨Int.le_refl 0,show (0:Int)<256 by decide⟩
theorem yv:¬ (10:Int)=0:=by decide
theorem apz:¬ (12:Int)=0:=by decide
theorem lr:bW [] :=⟨rfl,Nat.zero_le _⟩
theorem ko {m:Int} (k t n:Int) {d:LD} (hd:bW d) {x:Sp} (h:bT m x):bT (m+1006) (bn k t n d x):=by
 rw [bn,ak]
 have h1:=Az k t n d
 have h2:=hd.2
 exact aF (by omega) (ya (Jm k t n (dK hd.1)) h _)
theorem afK:Uh:=by
 delta Uh lM
 rintro k t n l a b c s _ ⟨hb,hs⟩
 have h1:=Az k t n l
 have h2:=hb.2
 have hr:bn k t n l (a,b,c,s)=bH (dk k t n l) (a,b,c,s) (dk k t n l).length:=ak _
 rw [hr]
 exact ⟨hb,⟨hs,Jm k t n (dK hb.1),by omega⟩,rfl,rfl,rfl,rfl⟩
theorem Vs:(base.with Pa).Ok:=ac aaR (ai am aaR Tryz.func274 (by kernel_rfl) Tryz.call274 (by kernel_rfl) afK)
theorem Pz {m:Int} :∀ (f i:Nat) (x:Sp),bT m x→bT (m+32*f) (mZ x f i).2.2.2
 | 0,i,x,h=>aF (by omega) h
 | f+1,i,x,h=>by
  have h1:=lL h 32
  rw [mZ]
  split
  ·exact aF (by omega) (Pz f (i+1) _ h1)
  ·exact aF (by omega) h1
theorem aaE {m:Int} {x:Sp} (h:bT m x):bT (m+2048) (aC x).2.2.2:=by
 rw [aC,ak]
 exact Pz 64 0 x h
theorem pf (x:Sp) (n:Nat):eV x n=cS x n:=ak _
theorem VA {x:Sp} {i:Nat} (h:(cS x i).2.2.1=0):cS x (i+1)=if (aC (cS x i).2.2.2).2.2.1≠0 then ([],(cS x i).2.1+(aC (cS x i).2.2.2).2.1,(aC (cS x i).2.2.2).2.2.1,(aC (cS x i).2.2.2).2.2.2)
  else ((cS x i).1++ [b8 (aC (cS x i).2.2.2).1],(cS x i).2.1+(aC (cS x i).2.2.2).2.1,0,(aC (cS x i).2.2.2).2.2.2):=by
 rw [cS,if_neg (not_not_intro h)]
theorem ND {x:Sp} {i:Nat} (h:(cS x i).2.2.1≠0):∀ j,cS x (i+j)=cS x i
 | 0=>rfl
 | j+1=>by
  have ih:=ND h j
  rw [show i+(j+1)=(i+j)+1 from rfl,cS,if_pos (by rw [ih];exact h),ih]
theorem xP {m:Int} {x:Sp} (h:bT m x):∀ i:Nat,bT (m+2048*i) (cS x i).2.2.2∧0≤(cS x i).2.1∧(cS x i).2.1≤128*i∧((cS x i).2.2.1=0→(cS x i).1.length=i)
 | 0=>⟨aF (by omega) h,Int.le_refl _,by show (0:Int)≤_;omega,fun _=>rfl⟩
 | i+1=>by
  obtain ⟨h1,h2,h3,h4⟩:=xP h i
  have h5:=aaE h1
  have h6:=xk (cS x i).2.2.2
  rw [cS]
  split
  ·next e=>exact ⟨aF (by omega) h1,h2,by omega,fun e'=>absurd e' e⟩
  ·next e=>
   split
   ·next g=>exact ⟨aF (by omega) h5,by show 0≤_+_;omega,by show _+_≤_;omega,fun e'=>absurd e' g⟩
   ·exact ⟨aF (by omega) h5,by show 0≤_+_;omega,by show _+_≤_;omega,fun _=>by show (_++ [_]).length=_;rw [cx,h4 (Decidable.not_not.mp e)];rfl⟩
theorem ae0:V3:=by
 delta V3 lM iR aR nG m8 nn nN nr tj jl zl Gz
 rintro n a b c s ⟨h0,h1,hs⟩
 refine ⟨⟨⟨by omega,by omega,h0,(pf (a,b,c,s) 0).symm⟩,trivial⟩,?_⟩
 rintro t m i a' b' c' s' o _ ⟨rfl,g0,g1,he⟩
 obtain ⟨j,rfl⟩:=aB g0
 rw [ax,pf] at he
 obtain ⟨k1,k2,k3,k4⟩:=xP hs j
 have hst:= @VA (a,b,c,s) j
 rw [← he] at k1 k2 k3 k4 hst
 have k5:=xk (a',b',c',s')
 have hst:=hst rfl
 have k2:0≤t:=k2
 have k3:t≤128*(j:Int):=k3
 refine aa (fun h=> ?_) fun h=> ?_
 ·have h:=av h
  refine ⟨aF (by omega) k1,⟨by omega,by omega⟩,aa (fun e=> ?_) fun e=> ?_⟩
  ·have e:(aC (a',b',c',s')).2.2.1≠0:=av e
   rw [if_pos e] at hst
   have hn:cS (a,b,c,s) m.toNat=cS (a,b,c,s) (j+1):=by
    rw [show m.toNat=(j+1)+(m.toNat-(j+1)) from by omega]
    exact ND (by rw [hst];exact e) _
   rw [pf,hn,hst]
   exact aa (fun e'=>absurd (av e') e) fun _=>⟨rfl,rfl,rfl,rfl,rfl,rfl⟩
  ·have e:¬ (aC (a',b',c',s')).2.2.1≠0:=au e
   rw [if_neg e] at hst
   have k4:o.length=j:=k4 rfl
   rw [k4,show ((j:Int)+1).toNat=j+1 from by omega,pf,hst]
   exact ⟨⟨by omega,by omega⟩,⟨by omega,by omega⟩,⟨rfl,by omega,by omega,rfl⟩,by omega⟩
 ·have h:=au h
  rw [show m.toNat=j from by omega,pf,← he]
  exact aa (fun _=>⟨rfl,rfl,rfl,rfl,rfl,rfl,rfl⟩) fun e=>cL rfl e
theorem S4:(base.with Pg).Ok:=ac Vs (ai W2 Vs Tryz.func276 (by kernel_rfl) Tryz.call276 (by kernel_rfl) ae0)
theorem afo:Te:=by
 delta Te nG m8 nn nN nr tj jl Gz
 exact fun n a b c s h=>⟨h,aa (fun e=>aa (fun _=>⟨rfl,rfl,rfl,rfl,rfl,rfl⟩) fun e'=>cN e e') fun e=>aa (fun e'=>cN e' e) fun _=>⟨rfl,rfl,rfl,rfl,rfl⟩⟩
theorem SI:(base.with Pn).Ok:=ac S4 (ai am S4 Tryz.func273 (by kernel_rfl) Tryz.call273 (by kernel_rfl) afo)
theorem ajv:ar3:=fun n a b c s h=>⟨h,rfl,rfl,rfl,rfl,rfl⟩
theorem Wz:(base.with Qi).Ok:=ac SI (ai am SI Tryz.func272 (by kernel_rfl) Tryz.call272 (by kernel_rfl) ajv)
theorem aje:apv:=by
 rintro a b c s ⟨h1,h2,h3,h4,h5,h6,h7,h8⟩
 have:=gS s
 have h5:0≤c:=h5
 have h6:c≤1000000000:=h6
 exact ⟨⟨h7,h8,h5,by omega⟩,trivial,⟨by omega,by omega,by omega,by omega⟩,trivial,rfl,rfl,rfl,rfl⟩
theorem Nr:(base.with Ph).Ok:=ac Wz (ai am Wz Tryz.func270 (by kernel_rfl) Tryz.call270 (by kernel_rfl) aje)
theorem Z3:SK:=by
 delta SK lM tj jl zl fD iO kJ kB j2 lB q8 kG Pk xv DQ BG aeg DA Ck
 rintro t d tg it p a b c s _ _ ⟨hb,hp,hq⟩
 refine ⟨trivial,hb.2,aa (fun e=> ?_) fun e=> ?_⟩
 ·have e:=av e
  have hr:bc it t d p (a,b,c,s)=(bl t d,[],p,(a,b,c,s),bl t d):=by rw [bc,ak,if_pos e]
  rw [hr]
  exact ⟨trivial,aa (fun e'=>absurd (av e') e) fun _=>aa (fun e'=>absurd (av e') e) fun _=>⟨rfl,rfl,rfl,rfl,rfl,rfl,rfl,rfl,rfl⟩⟩
 ·have e:=au e
  refine ⟨hp,aa (fun g=> ?_) fun g=> ?_⟩
  ·have g':¬ ci it p 1 t (bi t d)=false:=by rw [g];decide
   refine ⟨hb,aa (fun k=> ?_) fun k=> ?_⟩
   ·have k:=av k
    have hr:bc it t d p (a,b,c,s)=(dg t d,[],p+1,(a,b,c,s),dg t d):=by rw [bc,ak,if_neg e,if_neg g',if_pos k]
    rw [hr]
    exact ⟨trivial,aa (fun e'=>absurd (av e') k) fun _=>aa (fun e'=>absurd (av e') k) fun _=>⟨rfl,rfl,rfl,rfl,rfl,rfl,rfl,rfl,rfl⟩⟩
   ·have k:=au k
    have hr:bc it t d p (a,b,c,s)=(0,[],p+1,bn 1 t (bi t d) d (a,b,c,s),0):=by rw [bc,ak,if_neg e,if_neg g',if_neg k]
    rw [hr]
    exact ⟨⟨hb,aF (by omega) hq⟩,aa (fun _=>⟨rfl,rfl,rfl,rfl,rfl,rfl,rfl,rfl⟩) fun e'=>cL rfl e'⟩
  ·have hr:bc it t d p (a,b,c,s)=(10,[],p,(a,b,c,s),10):=by rw [bc,ak,if_neg e,if_pos g]
   rw [hr]
   exact aa (fun e'=>dJ yv e') fun _=>⟨rfl,rfl,rfl,rfl,rfl,rfl,rfl,rfl,rfl⟩
theorem Zi:VQ:=by
 delta VQ lM fD ii ie kn
 exact fun t d tg it p a b c s w _ _ h=>⟨trivial,aa (fun _=>⟨rfl,rfl,rfl,rfl,rfl,rfl,rfl,rfl,rfl⟩) fun e=>cL h e⟩
theorem Sa:(base.with WQ).Ok:=ac Nr (ju (ai am Nr Tryz.func51 (by kernel_rfl) Tryz.call51 (by kernel_rfl) Z3) (ai am Nr Tryz.func51 (by kernel_rfl) Tryz.call51 (by kernel_rfl) Zi))
theorem afh:Ti:=by
 delta Ti tj jl zl fD q8 kG xv BG DA Ck jA qK qT rf qI tK Pq Qv
 rintro n tg it p a b c s _ ⟨h0,h1,hp,hq⟩
 refine ⟨hp,aa (fun g=> ?_) fun g=> ?_⟩
 ·have g':¬ ci it p 2 1 n=false:=by rw [g];decide
  have hr:bd it n p (a,b,c,s)=(0,c8 (bn 2 1 n [] (a,b,c,s)) n.toNat,p+1,aL (bn 2 1 n [] (a,b,c,s)) n.toNat,0):=by rw [bd,ak,if_neg g']
  rw [hr]
  exact ⟨⟨lr,aF (by omega) hq⟩,⟨aF (by omega) (ko 2 1 n lr hq),by omega⟩,aa (fun _=>⟨rfl,rfl,rfl,rfl,rfl,rfl,rfl,rfl,rfl⟩) fun e'=>cL rfl e'⟩
 ·have hr:bd it n p (a,b,c,s)=(10,[],p,(a,b,c,s),10):=by rw [bd,ak,if_pos g]
  rw [hr]
  exact aa (fun e'=>dJ yv e') fun _=>⟨rfl,rfl,rfl,rfl,rfl,rfl,rfl,rfl,rfl⟩
theorem abD:Vy:=by
 delta Vy tj jl fD q8 kG DQ ii ie kn jA Pq Qv
 exact fun n tg it p a b c s w _ h=>⟨h,aa (fun _=>⟨rfl,rfl,rfl,rfl,rfl,rfl,rfl,rfl,rfl⟩) fun e=>cL h.2 e⟩
theorem Rg:(base.with Wr).Ok:=ac Sa (ju (ai am Sa Tryz.func52 (by kernel_rfl) Tryz.call52 (by kernel_rfl) afh) (ai am Sa Tryz.func52 (by kernel_rfl) Tryz.call52 (by kernel_rfl) abD))
theorem Yo:V9:=by
 delta V9 tj jl zl Gz fD q8 kG xv BG DA Ck lF mQ jC yc DS qQ rE r9 qH rX qJ iy QI QH OO Jt
 rintro n tg it p a b c s _ ⟨h0,h1,hp,hq⟩
 refine ⟨hp,aa (fun g=> ?_) fun g=> ?_⟩
 ·have g':¬ ci it p 2 3 n=false:=by rw [g];decide
  refine ⟨⟨lr,aF (by omega) hq⟩,⟨h0,h1,aF (by omega) (ko 2 3 n lr hq)⟩,aa (fun e=> ?_) fun e=>aa (fun f=> ?_) fun f=> ?_⟩
  ·have e:(fG n (a,b,c,s)).2.2.1=0:=av e
   have hr:aE it n p (a,b,c,s)=(0,(fG n (a,b,c,s)).1,p+1,(fG n (a,b,c,s)).2.2.2,0):=by rw [aE,ak,if_neg g',if_neg (not_not_intro e)]
   rw [hr]
   exact aa (fun _=>⟨rfl,rfl,rfl,rfl,rfl,rfl,rfl,rfl,rfl⟩) fun e'=>cL rfl e'
  ·have e:¬ (fG n (a,b,c,s)).2.2.1=0:=au e
   have hr:aE it n p (a,b,c,s)=((fG n (a,b,c,s)).2.2.1,[],p+1,(fG n (a,b,c,s)).2.2.2,(fG n (a,b,c,s)).2.2.1):=by rw [aE,ak,if_neg g',if_pos e]
   rw [hr]
   exact ⟨trivial,aa (fun e'=>dJ e e') fun _=>aa (fun e'=>dJ e e') fun _=>⟨rfl,rfl,rfl,rfl,rfl,rfl,rfl,rfl,rfl⟩⟩
  ·exact absurd (au e) (au f)
 ·have hr:aE it n p (a,b,c,s)=(10,[],p,(a,b,c,s),10):=by rw [aE,ak,if_pos g]
  rw [hr]
  exact aa (fun e'=>dJ yv e') fun _=>⟨rfl,rfl,rfl,rfl,rfl,rfl,rfl,rfl,rfl⟩
theorem abc:TN:=by
 delta TN tj jl Gz fD q8 kG DQ ii ie kn lF mQ yc qQ r9 rX QI QH OO Ix
 exact fun n tg it p a b c s w _ h=>⟨h,aa (fun _=>⟨rfl,rfl,rfl,rfl,rfl,rfl,rfl,rfl,rfl⟩) fun e=>cL h.2 e⟩
theorem Q4:(base.with UV).Ok:=ac Rg (ju (ai am Rg Tryz.func53 (by kernel_rfl) Tryz.call53 (by kernel_rfl) Yo) (ai am Rg Tryz.func53 (by kernel_rfl) Tryz.call53 (by kernel_rfl) abc))
theorem Zc:Tj:=by
 delta Tj tj jl zl fD q8 kG xv BG DA Ck jt rV ry qS q7 ue acm
 rintro tg it p a b c s _ ⟨hp,hq⟩
 refine ⟨hp,aa (fun g=> ?_) fun g=> ?_⟩
 ·have g':¬ ci it p 3 0 1=false:=by rw [g];decide
  have hr:bF it p (a,b,c,s)=(0,[],p+1,mq (bn 3 0 1 [] (a,b,c,s)),0):=by rw [bF,ak,if_neg g']
  rw [hr]
  exact ⟨⟨lr,aF (by omega) hq⟩,aF (by omega) (ko 3 0 1 lr hq),aa (fun _=>⟨rfl,rfl,rfl,rfl,rfl,rfl,rfl,rfl⟩) fun e'=>cL rfl e'⟩
 ·have hr:bF it p (a,b,c,s)=(10,[],p,(a,b,c,s),10):=by rw [bF,ak,if_pos g]
  rw [hr]
  exact aa (fun e'=>dJ yv e') fun _=>⟨rfl,rfl,rfl,rfl,rfl,rfl,rfl,rfl,rfl⟩
theorem aer:VB:=by
 delta VB fD ii ie kn jt
 exact fun tg it p a b c s w _ h=>⟨h,aa (fun e=>dJ h.2 e) fun _=>⟨rfl,rfl,rfl,rfl,rfl,rfl,rfl,rfl,rfl⟩⟩
theorem SE:(base.with Wx).Ok:=ac Q4 (ju (ai am Q4 Tryz.func54 (by kernel_rfl) Tryz.call54 (by kernel_rfl) Zc) (ai am Q4 Tryz.func54 (by kernel_rfl) Tryz.call54 (by kernel_rfl) aer))
theorem O5 (it:LD) (t:Int) (d:LD) (p:Int) (x:Sp):(bc it t d p x).2.1= [] :=by
 rw [bc,ak]
 repeat' split
 all_goals rfl
theorem Qo (it:LD) (p:Int) (x:Sp):(bF it p x).2.1= [] :=by
 rw [bF,ak]
 split <;>rfl
theorem ac1 (it:LD) (n p:Int) (x:Sp) (h:(bd it n p x).2.2.2.2≠0):(bd it n p x).2.1= [] :=by
 rw [bd,ak] at h ⊢
 split
 ·rfl
 ·next e=>rw [if_neg e] at h;exact absurd rfl h
theorem AC (x:Sp):∀ i,∀ r∈(cS x i).1,∃ w:List Int,w.length=4∧aq w∧r=b8 w
 | 0,r,h=>absurd h (by simp [cS])
 | i+1,r,h=>by
  rw [cS] at h
  split at h
  ·exact AC x i r h
  ·split at h
   ·exact absurd h (by simp)
   ·rcases List.mem_append.mp h with h | h
    ·exact AC x i r h
    ·exact ⟨_,Lf _,Wc _,List.mem_singleton.mp h⟩
theorem QT {it:LD} {n p:Int} {x:Sp} (h0:0≤n) (hq:bT 700000000 x):
  ((aE it n p x).2.2.2.2=0→(aE it n p x).1=0)∧((aE it n p x).2.2.2.2≠0→(aE it n p x).1=(aE it n p x).2.2.2.2∧(aE it n p x).2.1= [])∧
  ((aE it n p x).2.1.length:Int)≤n∧∀ r∈(aE it n p x).2.1,∃ w:List Int,w.length=4∧aq w∧r=b8 w:=by
 have hl:=(xP (ko 2 3 n lr hq) n.toNat).2.2.2
 have hw:=AC (bn 2 3 n [] x) n.toNat
 rw [← pf] at hl hw
 rw [aE,ak]
 split
 ·exact ⟨fun e=>(by cases e),fun _=>⟨rfl,rfl⟩,h0,fun r h=>absurd h (by simp)⟩
 ·split
  ·next e=>exact ⟨fun e'=>absurd e' e,fun _=>⟨rfl,rfl⟩,h0,fun r h=>absurd h (by simp)⟩
  ·next e=>exact ⟨fun _=>rfl,fun e'=>absurd rfl e',by
    have:=hl (Decidable.not_not.mp e)
    show (((fG n x).1.length:Nat):Int)≤n
    rw [fG,this];omega,hw⟩
theorem AP:∀ l:LD,(gK l).length=32*l.length
 | [] =>rfl
 | r::l=>by rw [gK,cx,bA,Ei,AP l,List.length_cons];omega
theorem Br:∀ l m:LD,gK (l++m)=gK l++gK m
 | [],m=>rfl
 | r::l,m=>by rw [List.cons_append,gK,gK,Br l m,dO]
theorem adn:ST:=by
 delta ST lM iR aR bR jl zl fD iO kJ kB j2 lB q8 kG Pk xv DQ qK qT rf qI tK jC rE qH qJ iy rV ry qS q7 ue rO kr nl jZ kE kg kt afX aci ad2 Iz HE J3 ZV
 rintro k t n d tg it p a b c s _ _ ⟨hb,h0,h1,hp,hq⟩
 refine aa (fun e=> ?_) fun e=>aa (fun e1=> ?_) fun e1=>aa (fun e2=> ?_) fun e2=>aa (fun e3=> ?_) fun e3=> ?_
 ·have hr:bu it k t n d p (a,b,c,s)=bc it t d p (a,b,c,s):=by rw [bu,ak,if_pos (av e)]
  have hd:=(O5 it t d p (a,b,c,s)).symm
  rw [hr]
  exact ⟨⟨hb,hp,hq⟩,aa (fun e=>aa (fun _=>⟨rfl,hd,rfl,rfl,rfl,rfl,rfl,rfl,rfl⟩) fun e'=>cN e e') fun e=>aa (fun e'=>cN e' e) fun _=>⟨rfl,hd,rfl,rfl,rfl,rfl,rfl,rfl,rfl,rfl⟩⟩
 ·have hr:bu it k t n d p (a,b,c,s)=bd it n p (a,b,c,s):=by rw [bu,ak,if_neg (au e),if_pos (av e1)]
  have hd:=fun e=>(ac1 it n p (a,b,c,s) e).symm
  rw [hr]
  exact ⟨⟨h0,h1,hp,hq⟩,aa (fun e=>aa (fun _=>⟨rfl,rfl,rfl,rfl,rfl,rfl,rfl,rfl,rfl⟩) fun e'=>cN e e') fun e=>aa (fun e'=>cN e' e) fun _=>⟨rfl,hd (au e),rfl,rfl,rfl,rfl,rfl,rfl,rfl,rfl⟩⟩
 ·have e2:=av e2
  have hr:bu it k t n d p (a,b,c,s)=((aE it n p (a,b,c,s)).1,gK (aE it n p (a,b,c,s)).2.1,(aE it n p (a,b,c,s)).2.2):=by rw [bu,ak,if_neg (au e),if_neg (au e1),if_pos e2]
  obtain ⟨k1,k2,k3,k4⟩:=QT (it:=it) (p:=p) h0 hq
  rw [hr]
  generalize aE it n p (a,b,c,s)=R at *
  obtain ⟨r1,r2,r3,⟨r4,r5,r6,r7⟩,r8⟩:=R
  refine ⟨⟨h0,h1,hp,hq⟩,aa (fun e=> ?_) fun e=> ?_⟩
  ·obtain rfl:r8=0:=av e
   obtain rfl:r1=0:=k1 rfl
   refine fun _=>⟨⟨⟨rfl,rfl,rfl,rfl,rfl,rfl,e2,by omega,by omega,rfl⟩,trivial⟩,?_,?_⟩
   ·rintro l m i tg' it' p' a' b' c' s' _ z o _ ⟨hl,rfl,rfl,rfl,rfl,he,_,g0,g1,rfl⟩
    cases he
    obtain ⟨j,rfl⟩:=aB g0
    rw [ax]
    refine aa (fun h=> ?_) fun h=> ?_
    ·have h:(j:Int)<r2.length:=av h
     have hj:j<r2.length:=by omega
     have hg:r2.getD j [] =r2[j] :=by rw [aw,cJ hj];rfl
     obtain ⟨w,hw4,hww,hw⟩:=k4 r2[j] (List.getElem_mem hj)
     have ew: [((b8 w).getD 0 (CD.int 0)).toInt,((b8 w).getD 1 (CD.int 0)).toInt,((b8 w).getD 2 (CD.int 0)).toInt,((b8 w).getD 3 (CD.int 0)).toInt] =w:=M3 hw4
     have hlen:(gK (r2.take j)).length=32*j:=by rw [AP,List.length_take];omega
     have k3:(r2.length:Int)≤n:=k3
     rw [hg,hw,ew,hlen]
     refine ⟨⟨g0,h⟩,hj,hww,⟨by decide,by decide,by decide,by decide⟩,⟨by omega,by omega⟩,⟨by omega,by omega⟩,⟨rfl,rfl,rfl,rfl,rfl,rfl,e2,by omega,by omega,?_⟩,by omega⟩
     rw [show ((j:Int)+1).toNat=j+1 from by omega,List.drop_zero,show List.take 32 (lw w)=lw w from List.take_of_length_le (by rw [Ei];exact Nat.le_refl _),@List.take_add_one _ r2 j,Br,cJ hj,hw]
     congr 1
    ·have h:¬ (j:Int)<r2.length:=au h
     rw [List.take_of_length_le (by omega)]
     exact aa (fun _=>⟨rfl,rfl,rfl,rfl,rfl,rfl,rfl,rfl,rfl⟩) fun e'=>cL rfl e'
   ·rintro m i tg' it' p' a' b' c' s' w _ z ⟨rfl,rfl,rfl,hw,rfl,rfl,he,_⟩
    cases he
    exact absurd rfl hw
  ·have e9:r8≠0:=au e
   obtain ⟨hr1,hr2⟩:=k2 e9
   obtain rfl:r1=r8:=hr1
   obtain rfl:r2= [] :=hr2
   refine ⟨⟨⟨rfl,rfl,rfl,e9,rfl,rfl,rfl,e2⟩,trivial⟩,?_,?_⟩
   ·rintro l m i tg' it' p' a' b' c' s' _ z o _ ⟨hl,rfl,rfl,rfl,rfl,he,_,g0,g1,rfl⟩
    cases he
    exact absurd rfl e9
   ·rintro m i tg' it' p' a' b' c' s' w _ z ⟨rfl,rfl,rfl,hw,rfl,rfl,he,_⟩
    cases he
    exact aa (fun e'=>dJ (by decide) e') fun _=>aa (fun e'=>dJ e9 e') fun _=>⟨rfl,rfl,rfl,rfl,rfl,rfl,rfl,rfl,rfl,rfl⟩
 ·have hr:bu it k t n d p (a,b,c,s)=bF it p (a,b,c,s):=by rw [bu,ak,if_neg (au e),if_neg (au e1),if_neg (au e2),if_pos (av e3)]
  have hd:=(Qo it p (a,b,c,s)).symm
  rw [hr]
  exact ⟨⟨hp,hq⟩,aa (fun e=>aa (fun _=>⟨rfl,hd,rfl,rfl,rfl,rfl,rfl,rfl,rfl⟩) fun e'=>cN e e') fun e=>aa (fun e'=>cN e' e) fun _=>⟨rfl,hd,rfl,rfl,rfl,rfl,rfl,rfl,rfl,rfl⟩⟩
 ·have hr:bu it k t n d p (a,b,c,s)=n9 it p (a,b,c,s):=by rw [bu,ak,if_neg (au e),if_neg (au e1),if_neg (au e2),if_neg (au e3)]
  rw [hr]
  refine ⟨trivial,aa (fun e=> ?_) fun e=> ?_⟩
  ·rw [show n9 it p (a,b,c,s)=(0,[],p,(a,b,c,s),0) from by rw [n9,ak,if_pos (av e)]]
   exact aa (fun _=>⟨rfl,rfl,rfl,rfl,rfl,rfl,rfl,rfl,rfl⟩) fun e'=>cL rfl e'
  ·rw [show n9 it p (a,b,c,s)=(12,[],p,(a,b,c,s),12) from by rw [n9,ak,if_neg (au e)]]
   exact aa (fun e'=>dJ apz e') fun _=>⟨rfl,rfl,rfl,rfl,rfl,rfl,rfl,rfl,rfl,rfl⟩
theorem WG (l:LD):nL l= [] :=ak _
theorem acG:Vj:=by
 delta Vj lM fD ii ie B7
 rintro k t n d tg it p a b c s w _ _ ⟨hp,hw⟩
 rw [WG]
 refine aa (fun _=>⟨hw,rfl,rfl,rfl,rfl,rfl,rfl,rfl,rfl,rfl,rfl⟩) fun _=>aa (fun _=>⟨⟨hp,hw⟩,rfl,rfl,rfl,rfl,rfl,rfl,rfl,rfl,rfl,rfl⟩) fun _=>aa (fun _=>⟨⟨hp,hw⟩,⟨⟨rfl,rfl,rfl,rfl,rfl,rfl,rfl,rfl,rfl,rfl,rfl⟩,trivial⟩,?_⟩) fun _=>aa (fun _=>⟨⟨hp,hw⟩,rfl,rfl,rfl,rfl,rfl,rfl,rfl,rfl,rfl,rfl⟩) fun _=>⟨trivial,rfl,rfl,rfl,rfl,rfl,rfl,rfl,rfl,rfl,rfl⟩
 rintro m i tg' it' p' a' b' c' s' w' _ e ⟨rfl,rfl,rfl,rfl,rfl,rfl,rfl,rfl,rfl,rfl,rfl⟩
 exact aa (fun e=>dJ (by decide) e) fun _=>⟨rfl,rfl,rfl,rfl,rfl,rfl,rfl,rfl,rfl,rfl⟩
theorem abt:(base.with UA).Ok:=ac SE (ju (ai XT SE Tryz.func36 (by kernel_rfl) Tryz.call36 (by kernel_rfl) adn) (ai Xg SE Tryz.func36 (by kernel_rfl) Tryz.call36 (by kernel_rfl) acG))
def pG (it l:LD) (x:Sp):Nat→LD×Int×Sp×Int
 | 0=>([],0,x,0)
 | i+1=>if (pG it l x i).2.2.2=0 then ((pG it l x i).1++ [[.int (bu it (cC l i 0) (cC l i 1) (cC l i 2) (cD l i) (pG it l x i).2.1 (pG it l x i).2.2.1).1,.sl (bu it (cC l i 0) (cC l i 1) (cC l i 2) (cD l i) (pG it l x i).2.1 (pG it l x i).2.2.1).2.1]],(bu it (cC l i 0) (cC l i 1) (cC l i 2) (cD l i) (pG it l x i).2.1 (pG it l x i).2.2.1).2.2)
  else ((pG it l x i).1++ [[.int (pG it l x i).2.2.2,.sl []]],(pG it l x i).2)
def pH (it l:LD) (x:Sp) (i:Nat):LD×Int×Sp×Int:=hid (pG it l x i)
def Al (l:LD):Prop:=l.length≤200∧∀ i,i<l.length→bW (cD l i)∧0≤cC l i 2∧cC l i 2≤1000
def ang:Ct:= {ps:= [.agg [i64,rb,.own 0]],bs:= [.own 84 fE],pre:=fun | [.i k,.r p,.r l] =>k≠2∧bk p∧Al l | _=>False,res:=fun
 | [.i k,.r p,.r l] => .ite (decide (k=1)) (.ite (decide ((bJ (ab p)).2.2=0))
    (.ret (.tup [.own 1,i64,i64]) [.own 84 fE,.own 86 ru] [.i (-1),.i 0,.r l,.r (pH (bj p) l (cw p) l.length).1])
    (.ret (.tup [.nils,i64,i64]) [.own 84 fE] [.i (bJ (ab p)).2.1,.i (bJ (ab p)).2.2,.r l]))
   (.ret (.tup [.nils,i64,i64]) [.own 84 fE] [.i (-1),.i 15,.r l])
 | _=>ag}
def adI:List Dat→Ann
 | [.i k,.r p,.r l] => {cut:= [],loop:= [(6,[
   la 39 [(5,.ptr 1 0),(8,.own 5),(25,.own 0),(26,i64),(27,i64)] [.own 84 fE,.cells 128 [.ptr 2 0,.arrI 32 .u8,.iface 133 (.agg [.ptr 3 0])],gA,.cells 298 [xI,.own 4,i64,i64,i64],ob,.own 86 ru] (fun
   | [.i n,.i i,.r l',.li tg,.r it,.i p',.i a,.i b,.i c,.r s,.r o] =>n=l.length∧0≤i∧i≤n∧l'=l∧it=bj p∧(o,p',(a,b,c,s),0)=pH (bj p) l (cw p) i.toNat∧k=1∧(bJ (ab p)).2.2=0
   | _=>False) (fun | [.i n,.i i,_,_,_,_,_,_,_,_,_] =>(n-i).toNat | _=>0),
   la 39 [(5,.ptr 1 0),(8,.own 6),(25,.own 0),(26,i64),(27,i64)] [.own 84 fE,.cells 128 [.ptr 2 0,.arrI 32 .u8,.iface 133 (.agg [.ptr 3 0])],.cells 185 [.rd eR,i64,.ptr 5 0],.cells 298 [xI,.own 4,i64,i64,i64],ob,eB,.own 86 ru] (fun
   | [.i n,.i i,.r l',.li tg,.r it,.i p',.i a,.i b,.i c,.r s,.i w,.r o] =>n=l.length∧0≤i∧i≤n∧l'=l∧it=bj p∧(o,p',(a,b,c,s),w)=pH (bj p) l (cw p) i.toNat∧w≠0∧k=1∧(bJ (ab p)).2.2=0
   | _=>False) (fun | [.i n,.i i,_,_,_,_,_,_,_,_,_,_] =>(n-i).toNat | _=>0)])]}
 | _=> {cut:= [],loop:= []}
abbrev gy (a:LD):Int:=
 (bJ (ab a)).snd.snd
abbrev zq (a:LD):Int:=
 (bJ (ab a)).snd.fst
abbrev ajP:List SV:=
 [.int .i64 (-1:Int),.int .i64 0]
abbrev als (a:Int)(b:LD):List (Nat×SV):=
 [(15,.rd [.int .u8] b),(14,.ptr 1 1),(13,.int .i64 a),
 (12,.ptr 1 0),(4,.int .i64 0),(3,.int .i64 0),
 (2,.nils),(1,.ptr 1 0)]
abbrev ajl (a:LD):Blk:=
 .own (84:TypeId) [.int .i64,.int .i64,.int .i64,.sl [.int .u8]] a
abbrev GQ (a:Int)(b:LD):LD:=
 ((b.getD a.toNat []).getD 3 (.int 0)).toSl
abbrev GV (a:Int)(b:LD):Int:=
 ((b.getD a.toNat []).getD 2 (.int 0)).toInt
abbrev jL (a b c d e:Int)(f g h:LD):Tr:=
 bu f ((g.getD a.toNat []).getD 0 (.int 0)).toInt ((g.getD a.toNat []).getD 1 (.int 0)).toInt
 (GV a g) (GQ a g) b (c,d,e,h)
abbrev N3 (a b c d e:Int)(f g h:LD):Int×Int×Int×LD:=
 ((jL a b c d e f g h).snd.snd.snd.fst.fst,(jL a b c d e f g h).snd.snd.snd.fst.snd.fst,
 (jL a b c d e f g h).snd.snd.snd.fst.snd.snd.fst,(jL a b c d e f g h).snd.snd.snd.fst.snd.snd.snd)
abbrev aiR (a:List Int):Blk:=
 .cells (128:TypeId)
 [.ptr 2 0,.arrI 32 .u8 a,.iface (133:TypeId) (.agg [.ptr 3 0])]
abbrev ace (a b c:Int):Blk:=
 .cells (298:TypeId)
 [.iface (253:TypeId) (.agg []),.own 4,.int .i64 a,.int .i64 b,.int .i64 c]
abbrev Hv (a b c d:Int)(e f g h:LD)(i:List Int):Prop:=
 Miss 2 eS
abbrev Hx (a b c d e:Int)(f g h i:LD)(j:List Int):Prop:=
 Miss 2 eS
abbrev Dv (a:Int)(b c:LD):Prop:=
 (∀ (d e:Int) (f:LD) (g:List Int) (h:LD) (i j k m:Int) (o p:LD),
 lM f→
 g.length=32→
 lM p→
 d=↑b.length∧
 0≤e∧
 e≤d∧
 f=b∧
 h=bj c∧
 (p,i,(j,k,m,o),(0:Int))=
 pH (bj c) b (cw c) e.toNat∧
 a=1∧gy c=0→
 bif decide (e<d) then
 bR e f∧
 e.toNat<f.length∧
 (bW (GQ e f)∧
 0≤GV e f∧
 GV e f≤1000∧d9 h i (j,k,m,o))∧
 bif decide ((jL e i j k m h f o).snd.snd.snd.snd=0) then
 aR (p.length+1) 32∧
 iR (e+1)∧
 (d=↑b.length∧
 0≤e+1∧
 e+1≤d∧
 f=b∧
 h=bj c∧
 (p++
 [[.int (jL e i j k m h f o).fst,
 .sl (jL e i j k m h f o).snd.fst]],
 (jL e i j k m h f o).snd.snd.fst,N3 e i j k m h f o,
 (0:Int))=
 pH (bj c) b (cw c)
 (e+1).toNat∧
 a=1∧gy c=0)∧
 (d-(e+1)).toNat<(d-e).toNat
 else
 aR (p.length+1) 32∧
 iR (e+1)∧
 (d=↑b.length∧
 0≤e+1∧
 e+1≤d∧
 f=b∧
 h=bj c∧
 (p++
 [[.int (jL e i j k m h f o).fst,
 .sl (jL e i j k m h f o).snd.fst]],
 (jL e i j k m h f o).snd.snd.fst,N3 e i j k m h f o,
 (jL e i j k m h f o).snd.snd.snd.snd)=
 pH (bj c) b (cw c)
 (e+1).toNat∧
 (jL e i j k m h f o).snd.snd.snd.snd≠0∧
 a=1∧gy c=0)∧
 (d-(e+1)).toNat<(d-e).toNat
 else
 bif decide (a=1) then
 bif decide (gy c=0) then
 (-1:Int)=(-1:Int)∧
 (0:Int)=0∧
 f=b∧p=(pH (bj c) b (cw c) b.length).fst
 else Hv i j k m f h o p g
 else Hv i j k m f h o p g)∧
 ∀ (d e:Int) (f:LD) (g:List Int) (h:LD) (i j k m:Int) (o:LD) (p:Int) (q:LD),
 lM f→
 g.length=32→
 lM q→
 d=↑b.length∧
 0≤e∧
 e≤d∧
 f=b∧
 h=bj c∧
 (q,i,(j,k,m,o),p)=
 pH (bj c) b (cw c) e.toNat∧
 p≠0∧a=1∧gy c=0→
 bif decide (e<d) then
 bR e f∧
 e.toNat<f.length∧
 (br h i∧p≠0)∧
 aR (q.length+1) 32∧
 iR (e+1)∧
 (d=↑b.length∧
 0≤e+1∧
 e+1≤d∧
 f=b∧
 h=bj c∧
 (q++ [[.int p,.sl (nL (GQ e f))]],i,
 ((j,k,m,o).fst,(j,k,m,o).snd.fst,(j,k,m,o).snd.snd.fst,(j,k,m,o).snd.snd.snd),p)=
 pH (bj c) b (cw c)
 (e+1).toNat∧
 p≠0∧a=1∧gy c=0)∧
 (d-(e+1)).toNat<(d-e).toNat
 else
 bif decide (a=1) then
 bif decide (gy c=0) then
 (-1:Int)=(-1:Int)∧
 (0:Int)=0∧
 f=b∧q=(pH (bj c) b (cw c) b.length).fst
 else Hx i j k m p f h o q g
 else Hx i j k m p f h o q g
def Y2:Prop:=
 ∀ (a:Int) (b c:LD),
 lM b→
 lM c→
 a≠2∧bk b∧Al c→
 bk b∧
 bif decide (a≠1)&&decide (a≠2) then
 bif decide (a=1) then
 bif decide (gy b=0) then
 (-1:Int)=(-1:Int)∧
 (15:Int)=0∧
 c=c∧ [] =(pH (bj b) c (cw b) c.length).fst
 else (-1:Int)=zq b∧15=gy b∧c=c
 else (-1:Int)=(-1:Int)∧(15:Int)=15∧c=c
 else
 bif decide (gy b=0) then
 bif decide (a=2) then
 lM c→
 Miss 0 eS ∧
 Dv a c b
 else
 lM c→
 (((↑c.length:Int)=(↑c.length:Int)∧
 (0:Int)≤0∧
 0≤(↑c.length:Int)∧
 c=c∧
 bj b=bj b∧
 ([],0,
 ((0:Int),136,0,
 nk (List.map ae (qV a b))),
 (0:Int))=
 pH (bj b) c (cw b) (0:Nat)∧
 a=1∧gy b=0)∧
 True)∧
 Dv a c b
 else
 bif decide (gy b≠0) then
 bif decide (a=1) then
 bif decide (gy b=0) then
 zq b=(-1:Int)∧
 gy b=0∧
 c=c∧ [] =(pH (bj b) c (cw b) c.length).fst
 else
 zq b=zq b∧
 gy b=gy b∧c=c
 else zq b=(-1:Int)∧gy b=15∧c=c
 else
 lM c→
 Miss 0 eS ∧
 Dv a c b
def GP:af:=aj UA 13 (ap ang)
def Wi (r:List CD):Prop:=0≤(r.getD 0 .d0).toInt∧(r.getD 0 .d0).toInt<256
theorem Hf {l:LD} {i:Nat} (hi:i<l.length):l.getD i [] =l[i] :=by
 rw [aw,cJ hi];rfl
theorem rS {l:LD} (h:ar l):∀ r∈l,Wi r:=fun r hr=>by
 obtain ⟨i,hi,rfl⟩:=List.mem_iff_getElem.mp hr
 have:=h i
 rw [rv,Hf hi] at this
 exact this
theorem pq {l:LD} (h:∀ r∈l,Wi r):ar l:=fun i=>by
 by_cases hi:i<l.length
 ·rw [rv,Hf hi]
  exact h _ (List.getElem_mem hi)
 ·exact qs (by omega)
theorem Py {l m:LD} (lo n:Nat) (hl:ar l) (hm:ar m) (h:lo+n≤l.length):ar (jv l lo n m)∧(jv l lo n m).length=l.length:=by
 unfold jv
 refine ⟨pq fun r hr=> ?_,?_⟩
 ·rcases List.mem_append.mp hr with hr | hr
  ·exact rS hl r (List.mem_of_mem_take hr)
  ·rcases List.mem_append.mp hr with hr | hr
   ·exact rS hm r (List.mem_of_mem_take hr)
   ·exact rS hl r (List.mem_of_mem_drop hr)
 ·rw [cx,cx,List.length_take,List.length_take,cj];omega
theorem IC (n:Nat):ar (List.replicate n [.int 0]):=pq fun r hr=>by
 rw [(List.mem_replicate.mp hr).2]
 exact ⟨by decide,by decide⟩
theorem ad4 {m:Int} {x:Sp} (h:bT m x):bT (m+1) (mq x):=by
 obtain ⟨h1,h2,h3,h4,h5,h6,h7,h8⟩:=h
 have hp:=gS x.2.2.2
 have hq:=Py 0 136 (Nb x.2.2.2) (IC 136) (by omega)
 exact ⟨by show (0:Int)≤0;omega,by show (0:Int)≤136;omega,by show (0:Int)≤136;omega,by show (136:Int)≤136;omega,by show 0≤x.2.2.1+1;omega,by show x.2.2.1+1≤m+1;omega,by show (jv _ _ _ _).length=200;rw [hq.2,hp],hq.1⟩
theorem IA (p:LD):bT 0 (cw p):=by
 have hq:=Py (l:=List.replicate 200 [.int 0]) (m:=(qV 1 p).map ae) 136 64 (IC 200) (Qt 1 (bj p)) (by rw [List.length_replicate];omega)
 rw [List.length_replicate] at hq
 exact ⟨by show (0:Int)≤0;omega,by show (0:Int)≤136;omega,by show (0:Int)≤136;omega,by show (136:Int)≤136;omega,by show (0:Int)≤0;omega,by show (0:Int)≤0;omega,hq.2,hq.1⟩
theorem afV {it d:LD} {k t n p m:Int} {x:Sp} (hb:bW d) (h0:0≤n) (h1:n≤1000) (hx:bT m x):bT (m+3000000) (bu it k t n d p x).2.2.2.1∧p≤(bu it k t n d p x).2.2.1∧(bu it k t n d p x).2.2.1≤p+1:=by
 have q0:bT (m+3000000) x:=aF (by omega) hx
 have e0:p≤p∧p≤p+1:=by omega
 have e1:p≤p+1∧p+1≤p+1:=by omega
 rw [bu,ak]
 split
 ·rw [bc,ak]
  have q1:bT (m+3000000) (bn 1 t (bi t d) d x):=aF (by omega) (ko 1 t (bi t d) hb hx)
  split
  ·exact ⟨q0,e0⟩
  ·split
   ·exact ⟨q0,e0⟩
   ·split
    ·exact ⟨q0,e1⟩
    ·exact ⟨q1,e1⟩
 ·split
  ·rw [bd,ak]
   have q1:bT (m+3000000) (aL (bn 2 1 n [] x) n.toNat):=aF (by omega) (lL (ko 2 1 n lr hx) n.toNat)
   split
   ·exact ⟨q0,e0⟩
   ·exact ⟨q1,e1⟩
  ·split
   ·rw [aE,ak]
    have q1:bT (m+3000000) (fG n x).2.2.2:=by rw [fG,pf];exact aF (by omega) (xP (ko 2 3 n lr hx) n.toNat).1
    split
    ·exact ⟨q0,e0⟩
    ·split
     ·exact ⟨q1,e1⟩
     ·exact ⟨q1,e1⟩
   ·split
    ·rw [bF,ak]
     have q1:bT (m+3000000) (mq (bn 3 0 1 [] x)):=aF (by omega) (ad4 (ko 3 0 1 lr hx))
     split
     ·exact ⟨q0,e0⟩
     ·exact ⟨q1,e1⟩
    ·rw [n9,ak]
     split <;>exact ⟨q0,e0⟩
theorem lU (it l:LD) (x:Sp) (i:Nat):pH it l x i=pG it l x i:=ak _
theorem Hg {it l:LD} {x:Sp} (hl:Al l) (hx:bT 0 x):∀ i:Nat,i≤l.length→bT (3000000*i) (pG it l x i).2.2.1∧0≤(pG it l x i).2.1∧(pG it l x i).2.1≤i∧(pG it l x i).1.length=i
 | 0,_=>⟨aF (by omega) hx,Int.le_refl _,Int.le_refl _,rfl⟩
 | i+1,h=>by
  obtain ⟨h1,h2,h3,h4⟩:=Hg hl hx i (by omega)
  obtain ⟨k1,k2,k3⟩:=hl.2 i (by omega)
  have hs:=afV (it:=it) (k:=cC l i 0) (t:=cC l i 1) (p:=(pG it l x i).2.1) k1 k2 k3 h1
  rw [pG]
  split
  ·exact ⟨aF (by omega) hs.1,by show 0≤(bu _ _ _ _ _ _ _).2.2.1;omega,by show (bu _ _ _ _ _ _ _).2.2.1≤_;omega,by show (_++ [_]).length=_;rw [cx,h4];rfl⟩
  ·exact ⟨aF (by omega) h1,h2,by show (pG it l x i).2.1≤_;omega,by show (_++ [_]).length=_;rw [cx,h4];rfl⟩
theorem R1 {it l o:LD} {x y:Sp} {i:Nat} {p:Int} (he:(o,p,y,(0:Int))=pG it l x i):pG it l x (i+1)=(o++ [[.int (bu it (cC l i 0) (cC l i 1) (cC l i 2) (cD l i) p y).1,.sl (bu it (cC l i 0) (cC l i 1) (cC l i 2) (cD l i) p y).2.1]],(bu it (cC l i 0) (cC l i 1) (cC l i 2) (cD l i) p y).2.2):=by
 rw [pG,← he]
 exact if_pos rfl
theorem afc {it l o:LD} {x y:Sp} {i:Nat} {p w:Int} (he:(o,p,y,w)=pG it l x i) (hw:w≠0):pG it l x (i+1)=(o++ [[.int w,.sl []]],p,y,w):=by
 rw [pG,← he]
 exact if_neg hw
theorem alA:Y2:=by
 delta Y2 lM iR aR bR gy zq ajP als ajl GQ GV jL N3 aiR ace Hv Hx Dv
 rintro k p l _ _ ⟨hk,hp,hok⟩
 refine ⟨hp,aa (fun e=> ?_) fun e=> ?_⟩
 ·simp only [cV,aK] at e
  exact aa (fun e'=>absurd (av e') e.1) fun _=>⟨rfl,rfl,rfl⟩
 ·obtain rfl:k=1:=by
   rw [decide_eq_true hk,Bool.and_true] at e
   exact Decidable.not_not.mp (au e)
  refine aa (fun h=> ?_) fun h=> ?_
  ·have h:=av h
   refine aa (fun e'=>dJ (by decide) e') fun _ _=>⟨⟨⟨rfl,by omega,by omega,rfl,rfl,(lU (bj p) l (cw p) 0).symm,rfl,h⟩,trivial⟩,?_,?_⟩
   ·rintro n i l' tg it p' a b c s o _ _ _ ⟨rfl,g0,g1,rfl,rfl,he,_,_⟩
    obtain ⟨j,rfl⟩:=aB g0
    rw [ax,lU] at he
    rw [ax]
    have hg:=Hg (it:=bj p) hok (IA p) j (by omega)
    rw [← he] at hg
    obtain ⟨k1,k2,k3,k4⟩:=hg
    have k2:0≤p':=k2
    have k3:p'≤j:=k3
    have k4:o.length=j:=k4
    have hl:=hok.1
    refine aa (fun h'=> ?_) fun h'=> ?_
    ·have h':(j:Int)<l'.length:=av h'
     obtain ⟨m1,m2,m3⟩:=hok.2 j (by omega)
     refine ⟨⟨g0,h'⟩,by omega,⟨m1,m2,m3,⟨k2,by omega⟩,aF (by omega) k1⟩,aa (fun q=> ?_) fun q=> ?_⟩
     ·have q:=av q
      refine ⟨⟨by omega,by omega⟩,⟨by omega,by omega⟩,⟨rfl,by omega,by omega,rfl,rfl,?_,rfl,h⟩,by omega⟩
      rw [show ((j:Int)+1).toNat=j+1 from by omega,lU,R1 he]
      exact congrArg (fun w=>(_,_,_,w)) q.symm
     ·have q:=au q
      refine ⟨⟨by omega,by omega⟩,⟨by omega,by omega⟩,⟨rfl,by omega,by omega,rfl,rfl,?_,q,rfl,h⟩,by omega⟩
      rw [show ((j:Int)+1).toNat=j+1 from by omega,lU,R1 he]
      rfl
    ·have h':¬ (j:Int)<l'.length:=au h'
     rw [lU,show l'.length=j from by omega,← he]
     exact aa (fun _=>aa (fun _=>⟨rfl,rfl,rfl,rfl⟩) fun e=>cL h e) fun e=>cL rfl e
   ·rintro n i l' tg it p' a b c s w o _ _ _ ⟨rfl,g0,g1,rfl,rfl,he,hw,_,_⟩
    obtain ⟨j,rfl⟩:=aB g0
    rw [ax,lU] at he
    rw [ax]
    have hg:=Hg (it:=bj p) hok (IA p) j (by omega)
    rw [← he] at hg
    obtain ⟨k1,k2,k3,k4⟩:=hg
    have k2:0≤p':=k2
    have k3:p'≤j:=k3
    have k4:o.length=j:=k4
    have hl:=hok.1
    refine aa (fun h'=> ?_) fun h'=> ?_
    ·have h':(j:Int)<l'.length:=av h'
     refine ⟨⟨g0,h'⟩,by omega,⟨⟨k2,by omega⟩,hw⟩,⟨by omega,by omega⟩,⟨by omega,by omega⟩,⟨rfl,by omega,by omega,rfl,rfl,?_,hw,rfl,h⟩,by omega⟩
     rw [show ((j:Int)+1).toNat=j+1 from by omega,lU,afc he hw,WG]
    ·have h':¬ (j:Int)<l'.length:=au h'
     rw [lU,show l'.length=j from by omega,← he]
     exact aa (fun _=>aa (fun _=>⟨rfl,rfl,rfl,rfl⟩) fun e=>cL h e) fun e=>cL rfl e
  ·have h':=au h
   exact aa (fun _=>aa (fun _=>aa (fun e=>dJ h' e) fun _=>⟨rfl,rfl,rfl⟩) fun e=>cL rfl e) fun e=>cL h' e
theorem acz:(base.with GP).Ok:=ac abt (ai adI abt Tryz.func13 (by kernel_rfl) Tryz.call13 (by kernel_rfl) alA)
end
end Go.Proofs.YteiecapbaeajdaaGreatDoor
namespace Go.Avc
set_option linter.unusedVariables false
set_option linter.unusedSimpArgs false
structure PanT where
 fs:List FuncId
 ch:List PanicEntry
def sS (P:Program) (ch:List PanicEntry) (f:FuncId):Prop:=∀ (w:World) (r m cap:Nat) (T:TypeId) (ad:Option Addr) (n:Int),w.heap[r]? =some (.cells #[.slice ad m cap] T (0,0))→(m:Int)<n→
 (callFunc f #[.pointer (some ⟨r,0,none⟩),.int .i64 n]).run P w= .ok (.enter f #[.pointer (some ⟨r,0,none⟩),.int .i64 n]) w∧Calls P f #[.pointer (some ⟨r,0,none⟩),.int .i64 n] w fun e w'=>e= .panicked ch∧w'=w
def Rv (hp:List Blk) (fs:List FuncId):OR→Option Bool
 | .call f [.ptr b c,.int .i64 n] =>bif bL fs f&&Nat.beq c 0 then (match hp.getD b .none with | .cells _ [.rd _ l] =>some (decide ((l.length:Int)<n)) | _=>none) else none
 | _=>none
section
variable (C:Ctx)
def tD (fs:List FuncId) (all:Array Oper):List Oper→ES→(ES→Prop)→(ES→Prop)→Prop
 | [],s,K,_=>K s
 | o::rest,s,K,Kp=>(match o.guard with
  | none=>(match Rv s.hp fs (fQ C.P C.zero (s.ev C.glob) s.hp o.op) with
   | some b=>bif b then Kp s else iS C all [o] s (fun s=>tD fs all rest s K Kp)
   | none=>iS C all [o] s (fun s=>tD fs all rest s K Kp))
  | some _=>iS C all [o] s (fun s=>tD fs all rest s K Kp))
end
section
variable (C:Ctx) (n0:Nat) (ann:Ann) (g:PanT)
def nW:Code→ES→(Exit→ES→Prop)→Prop
 | .skip,s,Q=>Q .normal s
 | .label _,s,Q=>Q .normal s
 | .region _ ops draw,s,Q=>(match draw with | true=>Ny C ops s (fun s=>s.clr (Q .normal)) | false=>tD C g.fs ops ops.toList s (fun s=>s.clr (Q .normal)) (fun s=>s.clr (Q (.panic []))))
 | .seq x y,s,Q=>(match JC ann.cut (n8 y) with
  | none=>nW x s (lR (fun s=>nW y s Q) Q)
  | some l=>nW x s (lR (fun s=>go n0 s (fun A ds=>A.R ds∧True) l) Q)∧tv (fun A s ds=>A.R ds→nW y s Q) l)
 | .cond c x y,s,Q=>(match s.ev C.glob c with | .bool b=>bif b then nW x s Q else nW y s Q | _=>Miss 1 eS)
 | .block id c,s,Q=>nW c s (wq id Q)
 | .loop c,s,Q=>(match JC ann.loop (n8 c) with
  | some l=>go n0 s (fun A ds=>A.R ds∧True) l∧tv (fun A s ds=>A.R ds→nW c s (lR (fun s=>go n0 s (fun A' ds'=>A'.R ds'∧A'.m ds'<A.m ds) l) Q)) l
  | none=>(match HQ ann.nest (n8 c) with
   | some (l0,g)=>go n0 s (fun _ ds0=>go n0 s (fun A ds=>A.R ds∧True) (g ds0)∧tv (fun A s ds=>A.R ds→nW c s (lR (fun s=>go n0 s (fun A' ds'=>A'.R ds'∧A'.m ds'<A.m ds) (g ds0)) Q)) (g ds0)) l0
   | none=>Miss (n8 c) eS))
 | .exit id,s,Q=>Q (.exit id) s
 | .goto l,s,Q=>Q (.goto l) s
 | .ret,s,Q=>Q .ret s
 | _,_,_=>False
end
section
variable {C:Ctx} {E B:Ent} {n0:Nat}
theorem PP {hp:List Blk} {fs:List FuncId} {r:OR} (h:Rv hp fs r=some true):∃ f b n T e l,r= .call f [.ptr b 0,.int .i64 n] ∧f∈fs∧hp.getD b .none= .cells T [.rd e l] ∧(l.length:Int)<n:=by
 unfold Rv at h
 split at h
 ·rename_i f b c n
  cases hb:(bL fs f&&Nat.beq c 0) with
  | false=>rw [hb] at h;cases h
  | true=>
   rw [hb] at h
   simp only [cond_true] at h
   simp only [cV] at hb
   cases aD.1 hb.2
   split at h
   ·rename_i T e l hblk
    injection h with h
    exact ⟨f,b,n,T,e,l,rfl,vZ.1 hb.1,hblk,av h⟩
   ·cases h
 ·cases h
theorem DH (hC:C.Ok) {g:PanT} (hg:∀ f∈g.fs,sS C.P g.ch f) {ops:Array Oper} {K Kp:ES→Prop} {Q:Exit→Act→World→Prop} (hQ:∀ s a w,s.Ok→K s→dH C E B s.as a w→Q .normal a w)
  (hP:∀ s a w,s.Ok→Kp s→dH C E B s.as a w→Q (.panic g.ch) a w):
  ∀ (l:List Oper) (i:Nat),l=ops.toList.drop i→∀ s a w,s.Ok→dH C E B s.as a w→tD C g.fs ops l s K Kp→wpOps C.P ops Q (List.range' i l.length) a w
 | [],i,_,s,a,w,hs,hR,h=>hQ s a w hs h hR
 | o::l,i,hl,s,a,w,hs,hR,h=>by
  have ho:ops[i]? =some o:=by
   have:(ops.toList.drop i)[0]? =some o:=by rw [← hl];rfl
   simpa using this
  have hl':l=ops.toList.drop (i+1):=by
   have:(ops.toList.drop i).drop 1=l:=by rw [← hl];rfl
   rw [← this,List.drop_drop]
  have ih:=DH hC hg hQ hP l (i+1) hl'
  simp only [List.length_cons,List.range'_succ,wpOps,ho]
  have one:iS C ops [o] s (fun s=>tD C g.fs ops l s K Kp)→(if Region.wanted o (yielded ops a.tmps)=true then o.wp C.P a w (wpOps C.P ops Q (List.range' (i+1) l.length)) Q∨(o.asks C.P a w∧LetsOut Q) else wpOps C.P ops Q (List.range' (i+1) l.length) (a.put o.dst undef) w):=fun h=>by
   have hops:=n5 [o] s hs h
   have nx:∀ s' a1 w1,Next (fun s=>tD C g.fs ops l s K Kp) s'→dH C E B s' a1 w1→wpOps C.P ops Q (List.range' (i+1) l.length) a1 w1:=fun s' a1 w1 ⟨s2,k1,k2,k3⟩ r=>ih s2 a1 w1 k1 (by rw [k2];exact r) k3
   rcases qq (Q:=Q) hC hR (K:=fun s'=>qf C ops [] s' (Next fun s=>tD C g.fs ops l s K Kp)) (mW hops) with ⟨h1,h2⟩ | ⟨h1,s',h2,h3⟩
   ·rw [if_pos h1]
    exact .inl (Oper.wp_mono (fun a w ⟨s',k,r⟩=>nx s' a w k r) h2)
   ·rw [if_neg (by simp [h1])]
    exact nx s' _ w h2 h3
  unfold tD at h
  split at h
  ·rename_i hgd
   split at h
   ·rename_i b hpan
    cases b with
    | false=>exact one h
    | true=>
     obtain ⟨f,b,n,T,e,rows,hev,hf,hblk,hlt⟩:=PP hpan
     obtain ⟨Im,ι,hR',hF,hA⟩:=hR
     have hsem:bg C.P Im ι w ((execOp a.eval o).run C.P w) (fQ C.P C.zero (s.as.ev C.glob) s.as.hp o.op):=AD hC.zero hR'.mem.mr.imlt hR'.mem.hv fun x _=>qL (hp:=s.as.hp) hR'.tm hR'.mem.glob x
     have e1:fQ C.P C.zero (s.as.ev C.glob) s.as.hp o.op= .call f [.ptr b 0,.int .i64 n] :=by
      rw [← s.ev_eq hs C.glob];exact hev
     rw [e1] at hsem
     obtain ⟨vs,hvs,hrun⟩:=hsem
     obtain ⟨v1,vs1,rfl,⟨r,hb1,rfl⟩,v2,vs2,rfl,rfl,rfl⟩:=hvs
     have hbr:=hR'.mem.hv b _ hb1
     have hblk':s.as.hp.getD b .none= .cells T [.rd e rows] :=hblk
     rw [hblk'] at hbr
     obtain ⟨r',us,hr',hheap,hcell⟩:=hbr
     injection hr' with hr'
     injection hr' with hr'
     injection hr' with hr'
     subst hr'
     obtain ⟨v,rfl,hv⟩:=bx (s:= .rd e rows) rfl hcell
     obtain ⟨ad,cap,rfl,_⟩:=CRel.slice hv
     have hpo:=hg f hf w r rows.length cap T ad n hheap hlt
     rw [if_pos (by simp [Region.wanted,hgd])]
     refine .inl ?_
     show Oper.upon C.P o a _ _ ((execOp a.eval o).run C.P w)
     rw [hrun,hpo.1,Oper.upon_enter]
     refine Calls.mono hpo.2 fun e w' he=> ?_
     obtain ⟨rfl,rfl⟩:=he
     exact hP s a _ hs h ⟨Im,ι,hR',hF,hA⟩
   ·exact one h
  ·exact one h
theorem Gq (hC:C.Ok) {g:PanT} (hg:∀ f∈g.fs,sS C.P g.ch f) {id:Nat} {ops:Array Oper} {K Kp:ES→Prop} {Q:Exit→Act→World→Prop} (hQ:∀ s a w,s.Ok→K s→dH C E B s.as a w→Q .normal a w)
  (hP:∀ s a w,s.Ok→Kp s→dH C E B s.as a w→Q (.panic g.ch) a w) {s:ES} {a:Act} {w:World} (hs:s.Ok) (hR:dH C E B s.as a w) (h:tD C g.fs ops ops.toList s K Kp):(Code.region id ops false).wp C.P Q a w:=by
 refine wp_region ?_
 have:=DH hC hg hQ hP ops.toList 0 (by simp) s a w hs hR h
 rwa [List.range_eq_range',← Array.length_toList]
def _root_.Go.Exit.real (ch:List PanicEntry):Exit→Exit
 | .panic _=> .panic ch
 | e=>e
theorem ij (hC:C.Ok) {g:PanT} (hg:∀ f∈g.fs,sS C.P g.ch f) (ann:Ann) (hE:∀ b,n0≤b→E.ι b=none) (hB:∀ b,n0≤b→B.ι b=none) (hF:∀ b,B.F b→b<n0):∀ (c:Code) (s:ES) (Q':Exit→ES→Prop) (Q:Exit→Act→World→Prop) (a:Act) (w:World),s.Ok→dH C E B s.as a w→nW C n0 ann g c s Q'→
  (∀ e s a w,Q' e s→s.Ok→dH C E B s.as a w→Q (e.real g.ch) a w)→c.wp C.P Q a w
 | .skip,s,Q',Q,a,w,hs,hR,h,hQ=>wp_skip (hQ _ _ _ _ h hs hR)
 | .label _,s,Q',Q,a,w,hs,hR,h,hQ=>wp_label (hQ _ _ _ _ h hs hR)
 | .region id ops draw,s,Q',Q,a,w,hs,hR,h,hQ=>by
  cases draw with
  | true=>
   refine Dl hC hC.mixed (K:=Next fun s=>s.clr (Q' .normal)) (fun s a w k r=> ?_) hR (Fx hs h)
   obtain ⟨s',h1,h2,h3⟩:=k
   obtain ⟨s'',k1,k2,k3⟩:=rG h1 h3
   exact hQ _ _ _ _ k3 k1 (by rw [k2,h2];exact r)
  | false=>
   refine Gq hC hg (K:=fun s=>s.clr (Q' .normal)) (Kp:=fun s=>s.clr (Q' (.panic []))) (fun s a w hs k r=> ?_) (fun s a w hs k r=> ?_) hs hR h
   ·obtain ⟨s'',k1,k2,k3⟩:=rG hs k
    exact hQ _ _ _ _ k3 k1 (by rw [k2];exact r)
   ·obtain ⟨s'',k1,k2,k3⟩:=rG hs k
    exact hQ _ _ _ _ k3 k1 (by rw [k2];exact r)
 | .seq x y,s,Q',Q,a,w,hs,hR,h,hQ=>by
  simp only [nW] at h
  split at h
  ·refine wp_seq (ij hC hg ann hE hB hF x s _ _ a w hs hR h fun e s a w k hs r=> ?_)
   cases e with
   | normal=>exact ij hC hg ann hE hB hF y s Q' Q a w hs r k hQ
   | exit id=>exact hQ _ _ _ _ k hs r
   | goto l=>exact hQ _ _ _ _ k hs r
   | ret=>exact hQ _ _ _ _ k hs r
   | panic c=>exact hQ _ _ _ _ k hs r
   | outgrown=>exact hQ _ _ _ _ k hs r
  ·rename_i l hl
   refine wp_seq (ij hC hg ann hE hB hF x s _ _ a w hs hR h.1 fun e s' a w k hs' r=> ?_)
   cases e with
   | normal=>
    obtain ⟨A,hA,tm,hp,ds,k1,k2,k3,k4⟩:=io hC hE hB hF hs' r l k
    exact ij hC hg ann hE hB hF y ⟨A.n,[],tm,hp,[]⟩ Q' Q a w (sK k3) k1 (k4 (fun s ds=>A.R ds→nW C n0 ann g y s Q') (qU h.2 A hA) k2.1) hQ
   | exit id=>exact hQ _ _ _ _ k hs' r
   | goto l=>exact hQ _ _ _ _ k hs' r
   | ret=>exact hQ _ _ _ _ k hs' r
   | panic c=>exact hQ _ _ _ _ k hs' r
   | outgrown=>exact hQ _ _ _ _ k hs' r
 | .cond c x y,s,Q',Q,a,w,hs,hR,h,hQ=>by
  simp only [nW] at h
  split at h
  ·rename_i b hb
   obtain ⟨Im,ι,hR',hFr,hA⟩:=hR
   have hv:=qL (hp:=s.as.hp) hR'.tm hR'.mem.glob c
   have e1:AS.ev C.glob ⟨s.as.tm,s.as.hp⟩ c=s.as.ev C.glob c:=rfl
   rw [e1,← s.ev_eq hs C.glob,hb] at hv
   have hv':a.eval c= .bool b:=hv
   refine wp_cond_split hv' (fun ht=> ?_) (fun hf=> ?_)
   ·subst ht;exact ij hC hg ann hE hB hF x s Q' Q a w hs ⟨Im,ι,hR',hFr,hA⟩ h hQ
   ·subst hf;exact ij hC hg ann hE hB hF y s Q' Q a w hs ⟨Im,ι,hR',hFr,hA⟩ h hQ
  ·cases h
 | .block id c,s,Q',Q,a,w,hs,hR,h,hQ=>by
  refine wp_block (ij hC hg ann hE hB hF c s _ _ a w hs hR h fun e s a w k hs r=> ?_)
  cases e with
  | exit id'=>
   simp only [wq] at k
   simp only [Exit.inBlock,Exit.real]
   cases hid:Nat.beq id' id with
   | true=>rw [hid] at k;rw [if_pos (aD.1 hid)];exact hQ _ _ _ _ k hs r
   | false=>rw [hid] at k;rw [if_neg (eI.1 hid)];exact hQ _ _ _ _ k hs r
  | normal=>exact hQ _ _ _ _ k hs r
  | goto l=>exact hQ _ _ _ _ k hs r
  | ret=>exact hQ _ _ _ _ k hs r
  | panic c=>exact hQ _ _ _ _ k hs r
  | outgrown=>exact hQ _ _ _ _ k hs r
 | .loop c,s,Q',Q,a,w,hs,hR,h,hQ=>by
  simp only [nW] at h
  have key:∀ l:List LA,go n0 s (fun A ds=>A.R ds∧True) l→tv (fun A s ds=>A.R ds→nW C n0 ann g c s (lR (fun s=>go n0 s (fun A' ds'=>A'.R ds'∧A'.m ds'<A.m ds) l) Q')) l→Code.wp C.P (.loop c) Q a w:=fun l h0 hround=>by
   let J:Nat→Act→World→Prop:=fun n a w=>∃ A∈l,∃ (tm:List SV) (hp:List Blk) (ds:List Dat),dH C E B ⟨tm,hp⟩ a w∧A.R ds∧tm.length=A.n∧(∀ F,Ax A F→F ⟨A.n,[],tm,hp,[]⟩ ds)∧A.m ds=n
   obtain ⟨A0,hA0,tm,hp,ds,k1,k2,k3,k4⟩:=io hC hE hB hF hs hR l h0
   refine wp_loop (fun a w=>∃ n,J n a w) (fun a w=>uN fun n=>J n a w) ⟨_,A0,hA0,tm,hp,ds,k1,k2.1,k3,k4,rfl⟩ fun a w hI=> ?_
   obtain ⟨n,hn⟩:=hI
   obtain ⟨⟨A,hA,tm,hp,ds,k1,k2,k3,k4,k5⟩,hmin⟩:=nD (p:=fun n=>J n a w) hn
   refine ij hC hg ann hE hB hF c ⟨A.n,[],tm,hp,[]⟩ _ _ a w (sK k3) k1 (k4 (fun s ds=>A.R ds→nW C n0 ann g c s (lR (fun s=>go n0 s (fun A' ds'=>A'.R ds'∧A'.m ds'<A.m ds) l) Q')) (qU hround A hA) k2) fun e s a' w' k hs' r=> ?_
   cases e with
   | normal=>
    obtain ⟨A',hA',tm',hp',ds',g1,g2,g3,g4⟩:=io hC hE hB hF hs' r l k
    have hJ:J (A'.m ds') a' w':=⟨A',hA',tm',hp',ds',g1,g2.1,g3,g4,rfl⟩
    refine ⟨⟨_,hJ⟩,Nat.lt_of_le_of_lt ((nD (p:=fun n=>J n a' w') hJ).2 _ hJ) ?_⟩
    rw [← k5];exact g2.2
   | exit id=>exact hQ _ _ _ _ k hs' r
   | goto l=>exact hQ _ _ _ _ k hs' r
   | ret=>exact hQ _ _ _ _ k hs' r
   | panic c=>exact hQ _ _ _ _ k hs' r
   | outgrown=>exact hQ _ _ _ _ k hs' r
  split at h
  ·rename_i l hl
   exact key l h.1 h.2
  ·split at h
   ·rename_i l0 gn hgn
    obtain ⟨_,_,_,_,ds0,_,k2,_,_⟩:=io hC hE hB hF hs hR l0 h
    exact key (gn ds0) k2.1 k2.2
   ·cases h
 | .exit id,s,Q',Q,a,w,hs,hR,h,hQ=>wp_exit (hQ _ _ _ _ h hs hR)
 | .goto l,s,Q',Q,a,w,hs,hR,h,hQ=>wp_goto (hQ _ _ _ _ h hs hR)
 | .ret,s,Q',Q,a,w,hs,hR,h,hQ=>wp_ret (hQ _ _ _ _ h hs hR)
 | .rangeFunc ..,_,_,_,_,_,_,_,h,_=>h.elim
 | .scope _,_,_,_,_,_,_,_,h,_=>h.elim
def MB (P:Program) (f:FuncId) (nc nt:Nat) (ch:List PanicEntry) (ops:Array Oper):Prop:=∀ (vs:Array Value) (w:World),vs.size=nc→∃ (a:Act) (w1:World),w.grownBy w1 none∧a.defers= [] ∧a.tmps.size=nt∧(∀ t,t<nc→a.tmps.getD t undef=vs.getD t undef)∧
 ∀ R:World→Prop,wpOps P ops (fun e a' w'=>e= .normal∧a'.defers= [] ∧R w') (List.range' 0 ops.toList.length) a w1→CallsD P f vs (.panicking ch) w fun e u w'=>(∃ v,e= .returned v)∧settle u= .returning∧R w'
def WK (C:Ctx) (rs:List ResultVar) (K:SV→List Blk→Prop) (caps:List SV) (nt k:Nat) (ops:Array Oper):Exit→ES→Prop
 | .panic _,s=>iS C ops ops.toList ⟨nt,[],caps++List.replicate k .dead,s.hp,[]⟩ fun s2=>qR C.P rs K .ret ⟨s.n,s.ov,s.tm,s2.hp,[]⟩
 | e,s=>qR C.P rs K e s
def evH (C:Ctx) (n0 n1:Nat) (ann:Ann) (g:PanT) (x:Code) (o1 o2:Oper) (t:Tmp) (fc nc nt k:Nat) (ops:Array Oper) (z:Code) (rs:List ResultVar) (K:SV→List Blk→Prop) (s:ES):Prop:=
 kx C n0 ann x s fun e s=>match e with
  | .normal=>iS C #[o1,o2] [o1] s fun s=>s.clr fun s=>(match s.ev C.glob (.tmp t) with
   | .fn f caps=>bif (Nat.beq f fc&&Nat.beq caps.length nc)&&Nat.beq s.hp.length n1 then nW C n1 ann g z s (WK C rs K caps nt k ops) else Miss 5 eS
   | _=>Miss 5 eS)
  | _=>False
def Ct.VCH (C:Ctx) (ct:Ct) (rs:List ResultVar) (ntm km n1:Nat) (g:PanT) (x:Code) (o1 o2:Oper) (t:Tmp) (fc nc nt k:Nat) (ops:Array Oper) (z:Code) (ann:List Dat→Ann):Prop:=
 ct.VCG fun svs hp ds=>evH C ct.bs.length n1 (ann ds) g x o1 o2 t fc nc nt k ops z rs (fun sv hp'=>(ct.res ds).ok ct.bs.length sv hp') ⟨ntm,[],svs++List.replicate km SV.dead,hp,[]⟩
theorem KS (hC:C.Ok) {g:PanT} (hg:∀ f∈g.fs,sS C.P g.ch f) {f:FuncId} {fn:Func} {x z:Code} {i1:Nat} {o1 o2:Oper} {t:Tmp} {fc nc nt k5 n1:Nat} {ops:Array Oper} (hf:C.P.funcs[f]? =some fn) (hb:fn.body=some (.seq x (.seq (.region i1 #[o1,o2] false) z)))
  (ho2:o2.op= .defer ⟨.value (.tmp t),#[],#[]⟩) (hg2:o2.guard=none) (hd2:o2.dst=none) (hidle:JH C.P fc nc) (hheal:MB C.P fc nc nt g.ch ops) (hk5:nc+k5=nt) (ann:Ann) {svs:List SV} {hp:List Blk} {r:Res} {k:Nat} (hn:fn.ntmps-svs.length=k) (hn2:svs.length+k=fn.ntmps)
  {Im:Nat→Prop} {ι:Nat→Option Value} {w:World} (hE:∀ b,hp.length≤b→E.ι b=none)
  (h:evH C hp.length n1 ann g x o1 o2 t fc nc nt k5 ops z fn.results.toList (fun sv hp'=>r.ok hp.length sv hp') ⟨fn.ntmps,[],svs++List.replicate k SV.dead,hp,[]⟩) {vs:List Value} (hD:E.dfr= []) (hm:Mem C E hp Im ι w) (hF:oQ hp.length ι) (hv:VRels Im ι w svs vs):
  Calls C.P f vs.toArray w (cq C E Im ι w hp.length r):=by
 refine calls_of_wp_defers hf hb ?_
 have hlen:=gj hv
 refine wp_seq (eJ (E:=E) (B:=⟨w,Im,ι,fun b=>b<hp.length,[]⟩) (n0:=hp.length) hC ann hE hF (fun b hb=>hb) x _ _ _ _ _ (sK (by simp [hn2])) ⟨Im,ι,⟨hD.symm,?_,fun t=> ?_,hm⟩,hF,⟨Later.refl _ _ _,fun b hb=>⟨hb,rfl⟩⟩⟩ h fun e s a w' kk hs rr=> ?_)
 ·show _=(aN [] (svs++List.replicate k SV.dead)).length
  simp [hlen,hn,aN]
 ·show VRel Im ι w (aM (svs++List.replicate k SV.dead) t) _
  rw [lJ]
  split
  ·rename_i ht
   obtain ⟨v,h1,h2⟩:=nI hv t ht
   have:(vs.toArray++Array.replicate (fn.ntmps-vs.toArray.size) undef).getD t undef=v:=by
    rw [Array.getD_eq_getD_getElem?,Array.getElem?_append_left (by simp;omega)]
    simp [h1]
   rw [this]
   exact h2
  ·rw [kY]
   split <;>trivial
 ·cases e with
  | normal=>
   have hops:=n5 [o1] s hs kk
   refine wp_seq (wp_region ?_)
   show wpOps C.P #[o1,o2] _ [0,1] a w'
   have second:∀ s' a1 w1,Next (fun s=>s.clr fun s=>(match s.ev C.glob (.tmp t) with
     | .fn f caps=>bif (Nat.beq f fc&&Nat.beq caps.length nc)&&Nat.beq s.hp.length n1 then nW C n1 ann g z s (WK C fn.results.toList (fun sv hp'=>r.ok hp.length sv hp') caps nt k5 ops) else Miss 5 eS
     | _=>Miss 5 eS)) s'→dH C E ⟨w,Im,ι,fun b=>b<hp.length,[]⟩ s' a1 w1→wpOps C.P #[o1,o2] (Exit.then (z.wp C.P (bodyPostD C.P fn (cq C E Im ι w hp.length r))) (bodyPostD C.P fn (cq C E Im ι w hp.length r))) [1] a1 w1:=by
    intro s' a1 w1 hnx hR1
    obtain ⟨s2,hs2,e2,k2⟩:=hnx
    obtain ⟨s3,hs3,e3,k3⟩:=rG hs2 k2
    obtain ⟨Im1,ι1,hRel,hFr,hA⟩:=hR1
    have hv3:VRel Im1 ι1 w1 (s'.ev C.glob (.tmp t)) (a1.eval (.tmp t)):=qL hRel.tm hRel.mem.glob (.tmp t)
    have hev:s3.ev C.glob (.tmp t)=s'.ev C.glob (.tmp t):=by rw [s3.ev_eq hs3,e3,e2]
    split at k3
    ·rename_i gf caps hgf
     cases hb2:((Nat.beq gf fc&&Nat.beq caps.length nc)&&Nat.beq s3.hp.length n1) with
     | false=>rw [hb2] at k3;cases k3
     | true=>
      rw [hb2] at k3
      simp only [cond_true] at k3
      simp only [cV] at hb2
      cases aD.1 hb2.1.1
      have hcl:=aD.1 hb2.1.2
      have hn1:=aD.1 hb2.2
      rw [← hev,hgf] at hv3
      obtain ⟨us,hu,hus⟩:=hv3
      have hul:us.toArray.size=nc:=by rw [List.size_toArray,gj hus];exact hcl
      show (if Region.wanted o2 (yielded #[o1,o2] a1.tmps)=true then _ else _)
      rw [if_pos (by simp [Region.wanted,hg2])]
      refine .inl ?_
      have hrun:(execOp a1.eval o2).run C.P w1= .ok (.defer ⟨.fn (.func fc) us.toArray,#[]⟩) w1:=by
       unfold execOp
       rw [ho2]
       simp [resolve,hu,Deferred.ofValue]
      show Oper.upon C.P o2 a1 _ _ ((execOp a1.eval o2).run C.P w1)
      rw [hrun,Oper.upon_defer,hd2]
      subst e2
      show z.wp C.P _ {a1 with defers:=⟨.fn (.func fc) us.toArray,#[]⟩::a1.defers} w1
      have hl3:s2.as.hp.length=n1:=by rw [← e3];exact hn1
      have hle:hp.length≤n1:=by
       rcases Nat.eq_zero_or_pos hp.length with h0 | h0
       ·omega
       ·have:=(hA.keep (hp.length-1) (by show hp.length-1<hp.length;omega)).1
        omega
      rw [hl3] at hFr hA
      refine ij (E:= {E with dfr:= [⟨.fn (.func fc) us.toArray,#[]⟩]}) (B:=⟨w1,Im1,ι1,fun b=>b<n1,[]⟩) (n0:=n1) hC hg ann (fun b hb=>hE b (Nat.le_trans hle hb)) hFr (fun b hb=>hb) z s3 _ _ _ w1 hs3 ⟨Im1,ι1,⟨?_,?_,?_,?_⟩,by rw [e3,hl3];exact hFr,by rw [e3,hl3];exact ⟨Later.refl _ _ _,fun b hb=>⟨hb,rfl⟩⟩⟩ k3 fun e s4 a4 w4 kk4 hs4 rr4=> ?_
      ·show _::a1.defers=_
       rw [hRel.defers,hD]
      ·rw [e3];exact hRel.size
      ·rw [e3];exact hRel.tm
      ·rw [e3];exact hRel.mem.ent _
      ·obtain ⟨Im',ι',hR,hF',hA'⟩:=rr4
       have hkeep:∀ b,b<hp.length→ι' b=ι b:=fun b hb=>((hA'.keep b (Nat.lt_of_lt_of_le hb hle)).2).trans (hA.keep b hb).2
       have hlater:Later Im ι w Im' ι' w4:=hA.later.trans hA'.later
       have hcall:(callFunc fc (#[] ++us.toArray)).run C.P w4= .ok (.enter fc us.toArray) w4:=by
        rw [Array.empty_append];exact (hidle us.toArray w4 hul).1
       have key:(match pz C.P s4 fn.results.toList with | some sv=>bN sv fun sv=>Res.ok hp.length r sv s4.hp | none=>Miss 3 eS)→Leaves C.P fn a4.tmps (cq C E Im ι w hp.length r) a4.defers .returning w4:=fun kk=>by
        rw [te hs4] at kk
        split at kk
        ·rename_i sv hsv
         rw [aX] at kk
         obtain ⟨v,h1,h2⟩:=sH hR hsv
         have hres:cq C E Im ι w hp.length r (.returned v) w4:=mw hC hE hlater hF hkeep hR.mem.ent' h2 _ kk
         rw [hR.defers]
         refine leaves_cons (by simp) (f:=fc) (args:=us.toArray) hcall (CallsD.mono (hidle us.toArray w4 hul).2 fun e u' w' h=> ?_)
         obtain ⟨⟨v0,rfl⟩,rfl,rfl⟩:=h
         exact ⟨v,h1,hres⟩
        ·cases kk
       cases e with
       | normal=>exact key kk4
       | ret=>exact key kk4
       | exit id=>exact kk4.elim
       | goto l=>exact kk4.elim
       | outgrown=>exact kk4.elim
       | panic ch=>
        have hkk:iS C ops ops.toList ⟨nt,[],caps++List.replicate k5 .dead,s4.hp,[]⟩ fun s2=>qR C.P fn.results.toList (fun sv hp'=>r.ok hp.length sv hp') .ret ⟨s4.n,s4.ov,s4.tm,s2.hp,[]⟩:=kk4
        obtain ⟨a5,w5,hg5,hd5,hs5,ht5,hw5⟩:=hheal us.toArray w4 hul
        obtain ⟨hm5,hl5⟩:=Mem.step (C:=C) (row:=none) s4.as.hp.length hR.mem.ent' hg5 (fun k h=>by cases h) (fun _ h=>h) (fun _ h=> .inl h) (fun _ _ h=>h) (fun b hb=>⟨rfl,.inl rfl⟩) (fun v hv=>by rw [hF' _ (Nat.le_refl _)] at hv;cases hv)
        have hcaps:VRels Im' ι' w5 caps us:=VRels.mono (hA'.later.trans hl5) caps us hus
        have hok5:(⟨nt,[],caps++List.replicate k5 .dead,s4.hp,[]⟩:ES).Ok:=sK (by simp [hcl,hk5])
        have hR5:Rel C E (⟨nt,[],caps++List.replicate k5 .dead,s4.hp,[]⟩:ES).as Im' ι' a5 w5:=by
         refine ⟨hd5.trans hD.symm,?_,fun t=> ?_,hm5⟩
         ·show _=(aN [] (caps++List.replicate k5 SV.dead)).length
          simp [aN,hcl,hk5,hs5]
         ·show VRel Im' ι' w5 (aM (caps++List.replicate k5 SV.dead) t) _
          rw [lJ]
          split
          ·rename_i ht
           obtain ⟨v,h1,h2⟩:=nI hcaps t ht
           rw [ht5 t (by omega),Array.getD_eq_getD_getElem?]
           simpa [h1] using h2
          ·rw [kY]
           split <;>trivial
        let R5:World→Prop:=fun w'=>∃ (s2:AS) (a':Act),Next (fun s2:ES=>qR C.P fn.results.toList (fun sv hp'=>r.ok hp.length sv hp') .ret ⟨s4.n,s4.ov,s4.tm,s2.hp,[]⟩) s2∧dH C E ⟨w4,Im',ι',fun b=>b<s4.hp.length,[]⟩ s2 a' w'
        have hrun5:=tC (B:=⟨w4,Im',ι',fun b=>b<s4.hp.length,[]⟩) (Q:=fun e a' w'=>e= .normal∧a'.defers= [] ∧R5 w') hC (fun s2 a' w' k r=>⟨rfl,by obtain ⟨_,_,hr,_⟩:=r;exact hr.defers.trans hD,s2,a',k,r⟩) ops.toList 0 (by simp) _ a5 w5 ⟨Im',ι',hR5,hF',⟨hl5,fun b hb=>⟨hb,rfl⟩⟩⟩ (n5 ops.toList _ hok5 hkk)
        show Leaves C.P fn a4.tmps (cq C E Im ι w hp.length r) a4.defers (.panicking g.ch) w4
        rw [hR.defers]
        refine leaves_cons (by simp) (f:=fc) (args:=us.toArray) hcall (CallsD.mono (hw5 R5 hrun5) fun e u' w' h=> ?_)
        obtain ⟨⟨v0,rfl⟩,hset,s2,a',⟨s6,hs6,e6,k6⟩,⟨Im2,ι2,hR2,hF2,hA2⟩⟩:=h
        show Leaves C.P fn a4.tmps (cq C E Im ι w hp.length r) [] (settle u') w'
        rw [hset]
        subst e6
        have hs7:(⟨s4.n,s4.ov,s4.tm,s6.hp,[]⟩:ES).Ok:=⟨hs4.len,hs4.ov,(fun g hg=>by cases hg),fun g hg=>by cases hg⟩
        have kk:(match pz C.P ⟨s4.n,s4.ov,s4.tm,s6.hp,[]⟩ fn.results.toList with | some sv=>bN sv fun sv=>Res.ok hp.length r sv s6.hp | none=>Miss 3 eS):=k6
        rw [te hs7] at kk
        split at kk
        ·rename_i sv hsv
         rw [aX] at kk
         have hR7:Rel C {E with dfr:= [⟨.fn (.func fc) us.toArray,#[]⟩]} (⟨s4.n,s4.ov,s4.tm,s6.hp,[]⟩:ES).as Im2 ι2 a4 w':=⟨hR.defers,hR.size,fun t=>VRel.mono hA2.later _ _ (hR.tm t),hR2.mem.ent _⟩
         obtain ⟨v,h1,h2⟩:=sH hR7 hsv
         have hlen4:hp.length≤s4.hp.length:=by
          rcases Nat.eq_zero_or_pos hp.length with h0 | h0
          ·omega
          ·have:=(hA'.keep (hp.length-1) (by show hp.length-1<n1;omega)).1
           have h9:s4.as.hp.length=s4.hp.length:=rfl
           omega
         exact ⟨v,h1,mw hC hE (hlater.trans hA2.later) hF (fun b hb=>((hA2.keep b (Nat.lt_of_lt_of_le hb hlen4)).2).trans (hkeep b hb)) hR2.mem h2 _ kk⟩
        ·cases kk
    ·cases k3
   show (if Region.wanted o1 (yielded #[o1,o2] a.tmps)=true then _ else _)
   rcases qq (Q:=Exit.then (z.wp C.P (bodyPostD C.P fn (cq C E Im ι w hp.length r))) (bodyPostD C.P fn (cq C E Im ι w hp.length r))) hC rr (mW hops) with ⟨h1,h2⟩ | ⟨h1,s',h2,h3⟩
   ·rw [if_pos h1]
    exact .inl (Oper.wp_mono (fun a w ⟨s',k,r⟩=>second s' a w k r) h2)
   ·rw [if_neg (by simp [h1])]
    exact second s' _ w' h2 h3
  | exit id=>exact kk.elim
  | goto l=>exact kk.elim
  | ret=>exact kk.elim
  | panic ch=>exact kk.elim
  | outgrown=>exact kk.elim
theorem Sw (hC:C.Ok) {g:PanT} (hg:∀ f∈g.fs,sS C.P g.ch f) {f:FuncId} {fn:Func} {x z:Code} {i1:Nat} {o1 o2:Oper} {t:Tmp} {fc nc nt k5 n1:Nat} {ops:Array Oper} (hf:C.P.funcs[f]? =some fn) (hb:fn.body=some (.seq x (.seq (.region i1 #[o1,o2] false) z)))
  (ho2:o2.op= .defer ⟨.value (.tmp t),#[],#[]⟩) (hg2:o2.guard=none) (hd2:o2.dst=none) (hidle:JH C.P fc nc) (hheal:MB C.P fc nc nt g.ch ops) (hk5:nc+k5=nt) (ann:List Dat→Ann) {ct:Ct} {k:Nat} (hlenps:ct.ps.length+k=fn.ntmps) (hcall:∀ vs:Array Value,∀ w,vs.size=ct.ps.length→(callFunc f vs).run C.P w= .ok (.enter f vs) w)
  (hvc:ct.VCH C fn.results.toList fn.ntmps k n1 g x o1 o2 t fc nc nt k5 ops z ann):da C f (ap ct):=by
 refine u6 hC (fun svs hp ds=>evH C ct.bs.length n1 (ann ds) g x o1 o2 t fc nc nt k5 ops z fn.results.toList (fun sv hp'=>(ct.res ds).ok ct.bs.length sv hp') ⟨fn.ntmps,[],svs++List.replicate k SV.dead,hp,[]⟩) (fun svs hp ds E Im ι w vs h h1 h2 hD hE hm hF hv=> ?_) hcall hvc
 rw [← h2] at h
 exact KS hC hg hf hb ho2 hg2 hd2 hidle hheal hk5 (ann ds) (k:=k) (by omega) (by omega) hE h hD hm hF hv
end
end Go.Avc
namespace Go.Proofs.YteiecapbaeajdaaGreatDoor
open Go Go.Avc Go.Proofs
open Go.RowKit Go.Extern.Stop Go.Stop Go.Extern
set_option linter.unusedVariables false
set_option linter.unusedSimpArgs false
set_option maxRecDepth 100000
def rR:Value:= .iface 88 (.agg #[])
def Ow:List PanicEntry:= [{v:=rR,recovered:=false}]
def MA:PanT:=⟨[34,33],Ow⟩
theorem aiV:sS Tryz.prog Ow 34:=by
 intro w r m cap T ad n hh hlt
 have hc:w.cell? ⟨r,0,none⟩=some (.slice ad m cap):=by simp [World.cell?,hh]
 refine ⟨Tryz.call34 _ w,?_⟩
 go_enter Tryz.func34,Tryz.ntmps34
 go_wp2
 exact ⟨rfl,rfl,rfl⟩
theorem amk:sS Tryz.prog Ow 33:=by
 intro w r m cap T ad n hh hlt
 have hc:w.cell? ⟨r,0,none⟩=some (.slice ad m cap):=by simp [World.cell?,hh]
 refine ⟨Tryz.call33 _ w,?_⟩
 go_enter Tryz.func33,Tryz.ntmps33
 go_wp2
 exact ⟨rfl,rfl,rfl,rfl⟩
theorem adX:∀ f∈MA.fs,sS Tryz.prog MA.ch f:=fun f h=>by
 rcases List.mem_cons.1 h with rfl | h
 ·exact aiV
 ·rcases List.mem_cons.1 h with rfl | h
  ·exact amk
  ·cases h
def vY (n:Nat):Code→Array Oper
 | .region id ops _=>bif Nat.beq id n then ops else #[]
 | .seq x y=>vY n x++vY n y
 | .cond _ x y=>vY n x++vY n y
 | _=> #[]
theorem afu:MB Tryz.prog 32 2 17 Ow (vY 5 (uA Tryz.f32)):=by
 intro vs w hvs
 obtain ⟨p,q,rfl⟩:∃ p q,vs= #[p,q] :=by
  rcases vs with ⟨l⟩
  match l,hvs with
  | [p,q],_=>exact ⟨p,q,rfl⟩
 have hbin:∀ w:World,(binOp BinOp.neq 20 rR .nilIface).run Tryz.prog w= .ok (.bool true) w:=fun _=>by kernel_rfl
 have hta:∀ w:World,(Instr.typeAssert rR 20 88 true).run Tryz.prog w= .ok (.tuple #[.agg #[],.bool true]) w:=fun _=>by kernel_rfl
 have hnt:Tryz.f32.ntmps=17:=by kernel_rfl
 refine ⟨⟨#[p,q,rR,Value.pointer (some {block:=w.heap.size,off:=0}),Value.bool true,rR,rR,Value.bool true,Value.tuple #[Value.agg #[],Value.bool true],rR,Value.tuple #[Value.agg #[],Value.bool true],Value.agg #[],Value.bool true,Value.bool true,Value.bool false,undef,undef],[]⟩,
  w.alloc (Obj.cells #[] 88),World.grownBy_alloc _ _ _,rfl,rfl,?_,fun R hR=> ?_⟩
 ·intro t ht
  match t,ht with
  | 0,_=>rfl
  | 1,_=>rfl
 ·have hres:Tryz.f32.results= #[] :=by kernel_rfl
  refine callsD_of_wpS Tryz.func32 rfl fun c₀ cs hu=> ?_
  apply wpS_seq
  apply wpS_region
  simp [wpOpsS,go_sem,recoverD,hu,hnt,Ow,Exit.thenS]
  apply wpS_seq
  apply wpS_region
  simp [wpOpsS,go_sem,hbin,Exit.thenS]
  refine wpS_cond (t:=true) (by simp [Act.put,Array.replicate];rfl) ?_
  simp only [if_true]
  refine wpS_of_wp ?_
  simp only [Act.put,Array.replicate_succ,Array.replicate_zero,List.push_toArray,List.append_toArray,List.nil_append,List.cons_append,List.setIfInBounds_toArray,List.set_cons_zero,List.set_cons_succ,List.append_toArray]
  apply wp_seq
  generalize hQ:Exit.then _ _=Q0
  go_wp2
  subst hQ
  refine wp_mono (c:=Code.region 5 (vY 5 (uA Tryz.f32)) false) (wp_region hR) fun e a' w' he=> ?_
  obtain ⟨rfl,hd,hr⟩:=he
  cases c₀
  exact ⟨hd,_,rfl,.tuple #[],by simp [results,hres],⟨_,rfl⟩,rfl,hr⟩
end Go.Proofs.YteiecapbaeajdaaGreatDoor
namespace Go.Proofs.YteiecapbaeajdaaGreatDoor
open Go Go.Avc
set_option linter.unusedVariables false
open Go Go.Avc Go.Proofs
set_option maxRecDepth 100000
noncomputable section
def bX (l:LD) (i:Nat):Nat:=(rv l i+256*rv l (i+1)).toNat
def eK:Nat→LD→LD→Int×LD
 | 0,_,cs=>(0,cs)
 | f+1,r,cs=>
  if r.length=0 then (0,cs) else if cs.length=200 then (9,[]) else
  if rv r 0=0 then (if r.length<4+bX r 2 then (2,[]) else eK f (r.drop (4+bX r 2)) (cs++ [[.int 0,.int (rv r 1),.int 0,.sl ((r.drop 4).take (bX r 2))]]))
  else if rv r 0=1∨rv r 0=2 then (if r.length<3 then (2,[]) else eK f (r.drop 3) (cs++ [[.int (rv r 0),.int 0,.int (bX r 1),.sl []]]))
  else if rv r 0=3∨rv r 0=4 then eK f (r.drop 1) (cs++ [[.int (rv r 0),.int 0,.int 0,.sl []]])
  else (5,[])
def bf (l:LD):Int×Int×LD×LD:=hid (if l.length<3+bX l 1 then (2,0,[],[]) else
 if (eK l.length (l.drop (3+bX l 1)) []).1=0 then (0,rv l 0,(l.drop 3).take (bX l 1),(eK l.length (l.drop (3+bX l 1)) []).2) else ((eK l.length (l.drop (3+bX l 1)) []).1,0,[],[]))
def zY:Ct:= {ps:= [rb],bs:= [],pre:=fun | [.r l] =>bP l∧l.length≤100000 | _=>False,res:=fun
 | [.r l] => .ite (decide ((bf l).1=0)) (.ret (.tup [.agg [i64,rb,.own 0],i64]) [.own 84 fE] [.i (bf l).2.1,.r (bf l).2.2.1,.i 0,.r (bf l).2.2.2]) (.ret (.tup [.agg [i64,.nils,.nils],i64]) [] [.i 0,.i (bf l).1])
 | _=>ag}
def P5:List Dat→Ann
 | [.r l] => {cut:= [],loop:= [(5,[la 48 [(2,.ptr 0 0),(3,.ptr 1 0),(4,.ptr 2 0)] [.cells 26 [i64,rb,.own 3],.cells 27 [i64],.cells 90 [rb],.own 84 fE] (fun
  | [.i k,.r p,.i e,.r rest,.r cs] =>k=rv l 0∧p=(l.drop 3).take (bX l 1)∧e=0∧¬ l.length<3+bX l 1∧bP rest∧rest.length≤100000∧cs.length≤200∧∃ f,rest.length≤f∧eK f rest cs=eK l.length (l.drop (3+bX l 1)) []
  | _=>False) (fun | [_,_,_,.r rest,_] =>rest.length | _=>0)])]}
 | _=> {cut:= [],loop:= []}
def ac9 (sp:af):Prop:=zY.VCH (base.with sp) Tryz.f10.results.toList Tryz.f10.ntmps (Tryz.f10.ntmps-zY.ps.length) 2 MA UU NA NR 6 32 2 17 15 (vY 5 (uA Tryz.f32)) Ux P5
abbrev BE (a:LD):Bool:=
 decide ((bf a).fst=0)
abbrev qb (a:LD):Prop:=
 bif BE a then
 0=(bf a).snd.fst∧
 [] =(bf a).snd.snd.fst∧(2:Int)=0∧ [] =(bf a).snd.snd.snd
else (0:Int)=0∧2=(bf a).fst
abbrev Mn (a:LD):Prop:=
 (0:Int)≤1∧(1:Int)≤2∧1≤(↑a.length:Int)∧a.length≤1000000∧ar a
abbrev nH (a:LD):Nat:=
 (List.drop 1 a).length
abbrev MV (a:LD):Prop:=
 (0:Int)≤2∧
 (2:Int)≤2∧
 2≤(↑(nH a):Int)∧
 nH a≤1000000∧ar (List.drop 1 a)
abbrev jM (a:LD):LD:=
 List.drop 2 (List.drop 1 a)
abbrev nR (a:LD):Int:=
 ka (List.take 2 (List.drop 1 a)) 2
abbrev jT (a:LD):Int:=
 ka (List.take 1 a) 1
abbrev zm (a:LD):Prop:=
 ¬a.length<3+bX a 1
abbrev yO (a:LD):Int×LD:=
 eK a.length (List.drop (3+bX a 1) a) []
abbrev w7 (a b:LD):Prop:=
 a=List.take (bX b 1) (List.drop 3 b)
abbrev oY (a:LD):LD:=
 List.drop 2 (List.drop 1 (List.drop 1 a))
abbrev pJ (a:LD):Int:=
 ka (List.take 2 (List.drop 1 (List.drop 1 a))) 2
abbrev CS (a:LD):Nat:=
 (List.drop (pJ a).toNat (oY a)).length
abbrev Ie (a b:LD):LD:=
 a++
 [[.int (jT b),.int (ka (List.take 1 (List.drop 1 b)) 1),
 .int 0,.sl (List.take (pJ b).toNat (oY b))]]
abbrev Hy (a b:Int)(c d e f:LD):Prop:=
 bif decide ((↑(nH c):Int)<(2:Int)) then qb d
else
 MV c∧
 aR (e.length+1) 48∧
 (a=rv d 0∧
 w7 f d∧
 b=0∧
 zm d∧
 bP (jM c)∧
 (jM c).length≤100000∧
 (e++
 [[CD.int (jT c),CD.int 0,CD.int (nR c),
 CD.sl []]]).length≤
 200∧
 ∃ g,
 (jM c).length≤g∧
 eK g (jM c)
 (e++
 [[CD.int (jT c),CD.int 0,CD.int (nR c),
 CD.sl []]])=
 yO d)∧
 (jM c).length<c.length
abbrev IK (a b:Int)(c d e f:LD):Prop:=
 aR (c.length+1) 48∧
 (a=rv d 0∧
 w7 e d∧
 b=0∧
 zm d∧
 bP (List.drop 1 f)∧
 nH f≤100000∧
 (c++ [[CD.int (jT f),CD.int 0,CD.int 0,CD.sl []]]).length≤200∧
 ∃ g,
 nH f≤g∧
 eK g (List.drop 1 f)
 (c++ [[CD.int (jT f),CD.int 0,CD.int 0,CD.sl []]])=
 yO d)∧
 nH f<f.length
abbrev JX (a:LD):Prop:=
 bif BE a then
 0=(bf a).snd.fst∧
 [] =(bf a).snd.snd.fst∧(5:Int)=0∧ [] =(bf a).snd.snd.snd
else (0:Int)=0∧5=(bf a).fst
abbrev Il (a b:Int)(c d e f:LD):Prop:=
 bif decide (jT c=3) then
 bif decide (jT c=3) then IK a b d e f c else JX e
else
 bif decide (jT c=4) then IK a b d e f c else JX e
def R8:Prop:=
 ∀ (a:LD),
 lM a→
 bP a∧a.length≤100000→
 bif decide (↑a.length<(1:Int)) then qb a
 else
 Mn a∧
 bif decide ((↑(nH a):Int)<(2:Int)) then qb a
 else
 MV a∧
 bif decide ((↑(jM a).length:Int)<nR a) then
 qb a
 else
 (0≤nR a∧
 nR a≤(↑(jM a).length:Int)∧
 (jM a).length≤1000000)∧
 ((jT a=rv a 0∧
 List.take (nR a).toNat (jM a)=
 List.take (bX a 1) (List.drop 3 a)∧
 (0:Int)=(0:Int)∧
 zm a∧
 bP
 (List.drop (nR a).toNat (jM a))∧
 (List.drop (nR a).toNat (jM a)).length≤100000∧
 0≤200∧
 ∃ b,
 (List.drop (nR a).toNat (jM a)).length≤b∧
 eK b
 (List.drop (nR a).toNat (jM a)) [] =
 yO a)∧
 True)∧
 ∀ (b:Int) (c:LD) (d:Int) (e f:LD),
 lM c→
 lM e→
 (b=rv a 0∧
 w7 c a∧
 d=(0:Int)∧
 zm a∧
 bP e∧
 e.length≤100000∧
 f.length≤200∧∃ g,e.length≤g∧eK g e f=yO a)→
 lM e→
 bif decide ((0:Int)<↑e.length) then
 bif decide (↑e.length<(1:Int)) then qb a
 else
 Mn e∧
 (lM f→
 bif decide (↑f.length=(200:Int)) then
 bif BE a then
 0=(bf a).snd.fst∧
 [] =(bf a).snd.snd.fst∧
 (9:Int)=(0:Int)∧ [] =(bf a).snd.snd.snd
 else 0=(0:Int)∧9=(bf a).fst
 else
 bif decide (jT e=(0:Int)) then
 bif decide ((↑(nH e):Int)<(1:Int)) then qb a
 else
 ((0:Int)≤(1:Int)∧
 (1:Int)≤(2:Int)∧
 1≤(↑(nH e):Int)∧
 nH e≤1000000∧
 ar (List.drop 1 e))∧
 bif decide ((↑(List.drop 1 (List.drop 1 e)).length:Int)<(2:Int)) then
 qb a
 else
 ((0:Int)≤(2:Int)∧
 (2:Int)≤(2:Int)∧
 2≤(↑(List.drop 1 (List.drop 1 e)).length:Int)∧
 (List.drop 1 (List.drop 1 e)).length≤1000000∧
 ar (List.drop 1 (List.drop 1 e)))∧
 bif decide ((↑(oY e).length:Int)<pJ e) then
 qb a
 else
 (0≤pJ e∧
 pJ e≤(↑(oY e).length:Int)∧
 (oY e).length≤1000000)∧
 aR (f.length+1) 48∧
 (b=rv a 0∧
 w7 c a∧
 d=(0:Int)∧
 zm a∧
 bP
 (List.drop (pJ e).toNat
 (oY e))∧
 CS e≤100000∧
 (Ie f e).length≤200∧
 ∃ g,
 CS e≤g∧
 eK g
 (List.drop (pJ e).toNat
 (oY e))
 (Ie f e)=
 yO a)∧
 CS e<e.length
 else
 bif decide (jT e=(1:Int)) then
 bif decide (jT e=(1:Int)) then Hy b d e a f c
 else Il b d e f a c
 else
 bif decide (jT e=(2:Int)) then Hy b d e a f c
 else Il b d e f a c)
 else
 bif BE a then
 b=(bf a).snd.fst∧
 c=(bf a).snd.snd.fst∧
 (0:Int)=(0:Int)∧f=(bf a).snd.snd.snd
 else
 Miss 2 eS
theorem arl:ac9 GP=R8:=by kernel_rfl
def Vr:af:=aj GP 10 (ap zY)
end
end Go.Proofs.YteiecapbaeajdaaGreatDoor
