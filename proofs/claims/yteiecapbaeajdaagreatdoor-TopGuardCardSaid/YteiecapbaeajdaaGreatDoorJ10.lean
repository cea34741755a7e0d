/-
 Conditions of contracts, as the kernel reckons them (printed by a program of ours, checked by the kernel).
-/
import Derived.Test.YteiecapbaeajdaaGreatDoorJ9
import Derived.RangeFuncBox
import Derived.RangeFuncLeaves
import Derived.Shelf.Abstract
import Derived.WalkKit
import Derived.OwnWalkIn
import Derived.TacticsInMore
import Derived.LoopNIn
import Derived.LoopIn
import Derived.RegionIn
import Derived.Maps.AppendAt
import Derived.Test.YteiecapbaeajdaaGreatDoorProg
import Derived.Test.YteiecapbaeajdaaGreatDoorJ6
import Derived.Test.YteiecapbaeajdaaGreatDoorJ4
import Derived.Recover
import Derived.Test.YteiecapbaeajdaaGreatDoorJ7
import Derived.Conc.MuLone
import Derived.Laws.LoneSync
set_option linter.unusedSimpArgs false
open Int renaming emod_add_mul_ediv→asd,ediv_nonneg→ase,zero_ediv→asf,le_refl→asw
open List renaming drop→ar1,take→ar0,length_take→ajw,range→asg,size_toArray→ash,length_cons→adC,length_nil→asi,push_toArray→asn,append_toArray→aso,nil_append→asp,cons_append→ack,length_range→asr,range_succ→ass,take_of_length_le→agv,getElem?_take→aky,getElem?_drop→akB,map_append→ast,map→asv,replicate→ab0,mem_of_mem_take→asx,length_replicate→asy
open Nat renaming reduceAdd→asj,reduceSub→ask,zero_le→asq,le_refl→ar5
open Array renaming replicate_succ→asl,replicate_zero→asm,getElem?_eq_some_iff→asu,getElem?_modify→asb
namespace Go.Proofs.YteiecapbaeajdaaGreatDoor
open Go Go.Avc Go.Proofs
set_option linter.unusedVariables false
set_option maxRecDepth 100000
open Go Go.Avc
noncomputable section
def afN:Prop:=
 ∀ (a:LD),
 lM a→
 av a∧a.length≤1000→
 av a∧
 bif decide (a.length≠32) then 1=oE a
 else
 bif
 decide
 ((ck (gk a)
 [4891460686036598785,2896914383306846353,13281191951274694749,3486998266802970665] 4).snd=
 (0:Int)) then
 4=oE a
 else 0=oE a
def QB:ac:=ak Wb 176 (aq alF)
def ajF:Prop:=
 ∀ (a:LD),
 lM a→
 av a∧a.length≤1000→
 (av a∧a.length≤1000)∧iD a=iD a
def R9:ac:=ak QB 178 (aq aml)
abbrev PK:Prop:=
 Miss 2 eS
abbrev Ea:Prop:=
 Miss 2 eS
abbrev E3:Prop:=
 Miss 2 eS
abbrev PS:LD:=
 [[.int 31],[.int 31],[.int 31],[.int 3]]
abbrev E5:Prop:=
 Miss 2 eS
abbrev Oj:Prop:=
 Miss 2 eS
def VO:Prop:=
 ∀ (a:Int),
 True→
 bif decide (a=1) then
 bif decide (a=1) then (1:Int)=1
 else
 bif decide (a=2) then (1:Int)=8∧ [] = [[CD.int 8]]
 else
 bif decide (a=3) then PK
 else bif decide (a=4) then PK else (1:Int)=0
 else
 bif decide (a=2) then
 bif decide (a=1) then Ea
 else
 bif decide (a=2) then (8:Int)=8∧ [[CD.int 8]] = [[CD.int 8]]
 else
 bif decide (a=3) then Ea
 else bif decide (a=4) then Ea else Ea
 else
 bif decide (a=3) then
 bif decide (a=1) then E3
 else
 bif decide (a=2) then E3
 else
 bif decide (a=3) then (32:Int)=32∧ [[CD.int 32]] = [[CD.int 32]]
 else bif decide (a=4) then E3 else E3
 else
 bif decide (a=4) then
 bif decide (a=1) then E5
 else
 bif decide (a=2) then E5
 else
 bif decide (a=3) then E5
 else
 bif decide (a=4) then (96:Int)=96∧PS=PS
 else E5
 else
 bif decide (a=1) then (0:Int)=1
 else
 bif decide (a=2) then (0:Int)=8∧ [] = [[CD.int 8]]
 else
 bif decide (a=3) then Oj
 else bif decide (a=4) then Oj else (0:Int)=0
def Ro:ac:=ak R9 138 (aq ac6)
def arP:Prop:=
 ∀ (a:Int),
 True→
 True∧
 bif decide (a=1) then 1=aF a
 else
 bif decide (a=2) then 8=aF a
 else
 bif decide (a=3) then 32=aF a
 else bif decide (a=4) then 96=aF a else 0=aF a
def RJ:ac:=ak Ro 136 (aq aiH)
def agU:Prop:=
 ∀ (a:Int) (b:LD),
 lM b→
 b.length≤1000→
 True∧
 bif decide (aF a=0) then
 0=aX a b∧6=a9 a b
 else
 lM b→
 (0≤(↑b.length:Int)∧(0:Int)<aF a)∧
 bif decide ((↑b.length:Int)%aF a≠0) then
 0=aX a b∧3=a9 a b
 else
 lM b→
 (bw false (decide ((↑b.length:Int)=0))=true→lM b)→
 ((!decide ((↑b.length:Int)=0))=true→
 0≤(↑b.length:Int)∧(0:Int)<aF a∧(↑b.length:Int)≤IntKind.i64.max)∧
 bif decide ((↑b.length:Int)=0)||decide ((1048576:Int)<(↑b.length:Int) / aF a) then
 0=aX a b∧7=a9 a b
 else
 lM b→
 (0≤(↑b.length:Int)∧(0:Int)<aF a∧(↑b.length:Int)≤IntKind.i64.max)∧
 (↑b.length:Int) / aF a=aX a b∧
 0=a9 a b
def Y5:ac:=ak RJ 91 (aq amf)
theorem al8 {L:List Int} (h:L.length=4):vl L=ps (gI L) 4:=by
 obtain ⟨a,b,c,d,rfl⟩:=xI h
 show a+18446744073709551616*(b+18446744073709551616*(c+18446744073709551616*(d+18446744073709551616*0)))=0+18446744073709551616 ^ 0*a+18446744073709551616 ^ 1*b+18446744073709551616 ^ 2*c+18446744073709551616 ^ 3*d
 grind
theorem Sc {l:LD} (hb:av l) (hl:l.length=32):vl (gk l)=bv l:=by
 have h:=Pl hb
 have h4:(bg l l.length).length=4:=by rw [fK];omega
 have e4:(l.length+7) / 8=4:=by omega
 rw [tK,e4] at h
 have hw:gk l=bg l l.length:=by unfold gk;rw [hl]
 rw [hw,al8 h4]
 exact h
theorem aqz:afN:=by
 delta afN lM
 intro l _ h
 obtain ⟨hb,hl⟩:=h
 refine ⟨hb,aa (fun h=> ?_) (fun h=> ?_)⟩
 ·have h:=au h
  unfold oE
  rw [if_pos (by omega)]
 have h:=aw h
 have h:l.length=32:=by omega
 have k:=(HY (a:=gk l) (by unfold gk;rw [fK,h]) (Ah l _)).1
 rw [Sc hb h] at k
 unfold pW at k
 generalize ck (gk l) [4891460686036598785,2896914383306846353,13281191951274694749,3486998266802970665] 4=bo at *
 unfold oE vq
 rw [if_neg (by omega)]
 refine aa (fun h2=> ?_) (fun h2=> ?_)
 ·have h2:=k.1 (au h2)
  rw [if_pos (by omega)]
 ·have h2:¬ bo.2=0:=aw h2
  rw [if_neg (fun e=>h2 (k.2 (by omega)))]
theorem ZC:(base.with QB).Ok:=ab aio (ai am aio Tryz.func176 (by kernel_rfl) Tryz.call176 (by kernel_rfl) aqz)
theorem alY:ajF:=by
 delta ajF lM
 intro l _ h
 exact ⟨h,rfl⟩
theorem Za:(base.with R9).Ok:=ab ZC (ai am ZC Tryz.func178 (by kernel_rfl) Tryz.call178 (by kernel_rfl) alY)
theorem afH:VO:=by
 delta VO PK Ea E3 PS E5 Oj
 intro n _
 exact aa (fun h1=>jG h1 rfl) (fun h1=>aa (fun h2=>cf h1 (jG h2 ⟨rfl,rfl⟩)) (fun h2=>aa (fun h3=>cf h1 (cf h2 (jG h3 ⟨rfl,rfl⟩))) (fun h3=>aa (fun h4=>cf h1 (cf h2 (cf h3 (jG h4 ⟨rfl,rfl⟩)))) (fun h4=>cf h1 (cf h2 (cf h3 (cf h4 rfl)))))))
theorem Vx:(base.with Ro).Ok:=ab Za (ai am Za Tryz.func138 (by kernel_rfl) Tryz.call138 (by kernel_rfl) afH)
theorem aey:arP:=fun n h=>⟨trivial,afv n h⟩
theorem Wz:(base.with RJ).Ok:=ab Vx (ai am Vx Tryz.func136 (by kernel_rfl) Tryz.call136 (by kernel_rfl) aey)
theorem arJ:agU:=by
 delta agU lM
 intro t l _ hlen
 have hs:=yJ t
 refine ⟨trivial,aa (fun h=> ?_) (fun h=> ?_)⟩
 ·have h:=au h
  have k:a9 t l=6:=by unfold a9;rw [if_pos h]
  unfold aX
  rw [k]
  exact ⟨rfl,rfl⟩
 have h:=aw h
 intro _
 refine ⟨⟨by omega,by omega⟩,aa (fun h2=> ?_) (fun h2=> ?_)⟩
 ·have k:a9 t l=3:=by unfold a9;rw [if_neg h,if_pos (au h2)]
  unfold aX
  rw [k]
  exact ⟨rfl,rfl⟩
 have h2:=aw h2
 have hd:=asd (l.length:Int) (aF t)
 have hz:(l.length:Int) / aF t<1↔(l.length:Int)=0:=by
  have h0:0≤(l.length:Int) / aF t:=ase (by omega) (by omega)
  constructor
  ·intro e
   have e0:(l.length:Int) / aF t=0:=by omega
   rw [e0,Int.mul_zero] at hd
   omega
  ·intro e
   rw [e,asf];decide
 have hm:IntKind.i64.max=9223372036854775807:=by decide
 rw [hm]
 intro _ _
 refine ⟨fun _=>⟨by omega,by omega,by omega⟩,aa (fun h3=> ?_) (fun h3=> ?_)⟩
 ·have h3:(l.length:Int) / aF t<1∨1048576<(l.length:Int) / aF t:=by
   rw [Bool.or_eq_true] at h3
   exact h3.imp (fun e=>hz.2 (au e)) au
  have k:a9 t l=7:=by unfold a9;rw [if_neg h,if_neg h2,if_pos h3]
  unfold aX
  rw [k]
  exact ⟨rfl,rfl⟩
 ·have h3:¬ ((l.length:Int) / aF t<1∨1048576<(l.length:Int) / aF t):=by
   rw [Bool.or_eq_false_iff] at h3
   have k1:=aw h3.1
   have k2:=aw h3.2
   rw [hz]
   omega
  have k:a9 t l=0:=by unfold a9;rw [if_neg h,if_neg h2,if_neg h3]
  intro _
  refine ⟨⟨by omega,by omega,by omega⟩,?_⟩
  unfold aX
  rw [k,if_pos rfl]
  exact ⟨rfl,rfl⟩
theorem abv:(base.with Y5).Ok:=ab Wz (ai am Wz Tryz.func91 (by kernel_rfl) Tryz.call91 (by kernel_rfl) arJ)
def aoY:Ct:= {ps:= [i64,rb],bs:= [],pre:=fun | [.i t,.r l] =>bX l | _=>False,res:=fun | [.i t,.r l] => .ret i64 [] [.i (cG t l)] | _=>ag}
def x7 (t:Int) (l:LD) (u:Int) (l':LD) (i s:Int):Prop:=t=u∧l'=l∧a9 t l=0∧s=aF t∧0≤i∧i≤l.length∧i%aF t=0∧tQ t l (i / aF t).toNat=true
def O6:List (Nat×Pat):= [(1,rb),(7,.ptr 0 0),(8,i64)]
def ac3:List Dat→Ann
 | [.i t,.r l] => {cut:= [],loop:= [(6,[
   la 44 O6 [.cells 265 [i64,.nilf,.nils]] (fun | [.r l',.i i,.i s] =>t=1∧a9 t l=0∧i=0 | _=>False) (fun _=>0),
   la 44 O6 [.cells 265 [i64,.nilf,.own 1],oi] (fun | [.r l',.i i,.i s,.r _] =>t=2∧a9 t l=0∧i=0 | _=>False) (fun _=>0),
   la 44 O6 [.cells 265 [i64,.fn 176 [],.own 1],oi] (fun | [.r l',.i i,.i s,.r _] =>x7 t l 3 l' i s | _=>False) (fun | [.r l',.i i,_,_] =>(l'.length-i).toNat | _=>0),
   la 44 O6 [.cells 265 [i64,.fn 178 [],.own 1],oi] (fun | [.r l',.i i,.i s,.r _] =>x7 t l 4 l' i s | _=>False) (fun | [.r l',.i i,_,_] =>(l'.length-i).toNat | _=>0)])]}
 | _=> {cut:= [],loop:= []}
def aoi:Ct:= {ps:= [qS],bs:= [],pre:=fun | [.i k,.i t,.i c,.r l] =>bX l | _=>False,res:=fun | [.i k,.i t,.i c,.r l] => .ret .bool [] [.b (fA k t c l)] | _=>ag}
abbrev wJ (a b:Int)(c:LD):LD:=
 ar1 a.toNat (ar0 (a+b).toNat c)
abbrev A2 (a:Int)(b:LD):Prop:=
 (∀ (c:LD) (d n_2:Int),
 lM c→
 a=1∧a9 a b=0∧d=0→
 ((bw true !true)=true→lM c)→0=cG a b)∧
 (∀ (c:LD) (d n_2:Int) (l_2:LD),
 lM c→
 a=2∧a9 a b=0∧d=0→
 ((bw true !true)=true→lM c)→0=cG a b)∧
 (∀ (c:LD) (d e:Int) (l_2:LD),
 lM c→
 x7 a b 3 c d e→
 ((bw true !false)=true→lM c)→
 bif !false&&decide (d<↑c.length) then
 iR (d+e)∧
 (0≤d∧d≤d+e∧d+e≤↑c.length)∧
 (av (wJ d e c)∧
 (wJ d e c).length≤1000)∧
 bif decide (oE (wJ d e c)≠0) then
 4=cG a b
 else
 iR (d+e)∧
 x7 a b 3 c (d+e) e∧(↑c.length-(d+e)).toNat<(↑c.length-d).toNat
 else 0=cG a b)∧
 ∀ (c:LD) (d e:Int) (l_2:LD),
 lM c→
 x7 a b 4 c d e→
 ((bw true !false)=true→lM c)→
 bif !false&&decide (d<↑c.length) then
 iR (d+e)∧
 (0≤d∧d≤d+e∧d+e≤↑c.length)∧
 (av (wJ d e c)∧
 (wJ d e c).length≤1000)∧
 bif decide (iD (wJ d e c)≠0) then
 4=cG a b
 else
 iR (d+e)∧
 x7 a b 4 c (d+e) e∧(↑c.length-(d+e)).toNat<(↑c.length-d).toNat
 else 0=cG a b
def af7:Prop:=
 ∀ (a:Int) (b:LD),
 lM b→
 bX b→
 b.length≤1000∧
 bif decide (a9 a b≠0) then a9 a b=cG a b
 else
 True∧
 bif decide (a=1) then
 ((a=1∧a9 a b=0∧(0:Int)=0)∧True)∧A2 a b
 else
 bif decide (a=2) then
 ((a=2∧a9 a b=0∧(0:Int)=0)∧True)∧A2 a b
 else
 bif decide (a=3) then
 (x7 a b 3 b 0 32∧True)∧A2 a b
 else
 bif decide (a=4) then
 (x7 a b 4 b 0 96∧True)∧A2 a b
 else ((a=1∧a9 a b=0∧(0:Int)=0)∧True)∧A2 a b
def V9:ac:=ak Y5 93 (aq aoY)
def agf:Prop:=
 ∀ (a b c:Int) (d:LD),
 lM d→
 bX d→
 True∧
 bif decide (cV a b c [] ≠(0:Int)) then false=fA a b c d
 else
 bif decide (a≠1) then lM d→decide ((↑d.length:Int)=0)=fA a b c d
 else
 d.length≤1000∧
 (decide (aX b d=c)=true→bX d)∧
 (decide (aX b d=c)&&decide (cG b d=0))=
 fA a b c d
def Xf:ac:=ak V9 95 (aq aoi)
theorem KE {t:Int} {l:LD} (h3:t≠3) (h4:t≠4):∀ n,tQ t l n=true
 | 0=>rfl
 | n+1=>by
  rw [tQ,KE h3 h4 n]
  unfold BC
  rw [if_neg h3,if_neg h4];rfl
theorem lS {t:Int} {l:LD} (h3:t≠3) (h4:t≠4) (hk:a9 t l=0):0=cG t l:=by
 unfold cG
 rw [if_neg (fun e=>e hk),KE h3 h4];rfl
theorem B9 {t:Int} {l:LD} (hk:a9 t l=0):aF t≠0∧(l.length:Int)=aF t*aX t l∧0≤aX t l:=by
 have qu:aF t≠0:=fun e=>by unfold a9 at hk;rw [if_pos e] at hk;cases hk
 have hm:(l.length:Int)%aF t=0:=by
  apply Classical.byContradiction
  intro e
  unfold a9 at hk
  rw [if_neg qu,if_pos e] at hk;cases hk
 have hn:aX t l=(l.length:Int) / aF t:=by unfold aX;rw [if_pos hk]
 have hs:=yJ t
 refine ⟨qu,?_,by rw [hn];exact ase (by omega) (by omega)⟩
 rw [hn]
 have:=asd (l.length:Int) (aF t)
 omega
theorem Q3 {t u i s:Int} {l l':LD} (hl:bX l) (kd:LD→Int) (hkd:∀ b,kd b=0↔BC u b=true) (h:x7 t l u l' i s):
  bif !false&&decide (i<(l'.length:Int)) then
   (-9223372036854775808≤i+s∧i+s≤9223372036854775807)∧(0≤i∧i≤i+s∧i+s≤(l'.length:Int))∧
   (av (ar1 i.toNat (ar0 (i+s).toNat l'))∧(ar1 i.toNat (ar0 (i+s).toNat l')).length≤1000)∧
   bif decide (kd (ar1 i.toNat (ar0 (i+s).toNat l'))≠0) then 4=cG t l
   else (-9223372036854775808≤i+s∧i+s≤9223372036854775807)∧x7 t l u l' (i+s) s∧((l'.length:Int)-(i+s)).toNat<((l'.length:Int)-i).toNat
  else 0=cG t l:=by
 obtain ⟨e1,e2,hk,e3,i0,i1,im,hv⟩:=h
 rw [e2]
 have ⟨qu,hlen,hn0⟩:=B9 hk
 have hs:=yJ t
 have hll:=hl.2
 have hd:=asd i (aF t)
 rw [im] at hd
 obtain ⟨j,hj⟩:∃ j:Nat,i / aF t=j:=⟨(i / aF t).toNat,by have:=ase i0 (show 0≤aF t by omega);omega⟩
 rw [hj] at hd hv
 rw [aA] at hv
 have hij:i=aF t*j:=by omega
 refine aa (fun hc=> ?_) (fun hc=> ?_)
 ·have hc:i<(l.length:Int):=au hc
  have hjn:(j:Int)<aX t l:=by
   rw [hij,hlen] at hc
   exact Int.lt_of_mul_lt_mul_left hc (by omega)
  have hle:i+s≤l.length:=by
   rw [e3,hij,hlen]
   have:=Int.mul_le_mul_of_nonneg_left (show (j:Int)+1≤aX t l by omega) (show 0≤aF t by omega)
   rw [Int.mul_add,Int.mul_one] at this
   exact this
  have n1:i.toNat=j*(aF t).toNat:=by rw [hij,Int.mul_comm,Int.toNat_mul (by omega) (by omega),aA]
  have n2:(i+s).toNat=(j+1)*(aF t).toNat:=by
   rw [e3,hij,show aF t*(j:Int)+aF t=((j:Int)+1)*aF t from by grind,Int.toNat_mul (by omega) (by omega)]
   congr 1
  have ev:ar1 i.toNat (ar0 (i+s).toNat l)=qn t l j:=by rw [n1,n2];rfl
  rw [ev]
  have hB:jf (qn t l j):=FS hl.1 _ _
  have hL:(qn t l j).length≤1000:=by
   unfold qn
   rw [eH,ajw]
   omega
  refine ⟨by omega,⟨by omega,by omega,hle⟩,⟨mK hB,hL⟩,aa (fun k=> ?_) (fun k=> ?_)⟩
  ·have k:=au k
   refine Qq hk (i:=j) (by omega) ?_
   cases hf:BC t (qn t l j) with
   | false=>rfl
   | true=>rw [e1] at hf;exact absurd ((hkd _).2 (by rw [e1];exact hf)) k
  ·have k:kd (qn t l j)=0:=by simpa using aw k
   have k:=(hkd _).1 k
   refine ⟨by omega,⟨e1,rfl,hk,e3,by omega,hle,?_,?_⟩,by omega⟩
   ·rw [e3,Int.add_emod_right];exact im
   ·have:(i+s) / aF t=((j+1:Nat):Int):=by
     rw [e3,hij,show aF t*(j:Int)+aF t=aF t*((j+1:Nat):Int) from by simp [Int.mul_add]]
     exact Int.mul_ediv_cancel_left _ qu
    rw [this,aA,tQ,hv,e1]
    rw [e1] at k
    rw [k];rfl
 ·have hc:¬ i<(l.length:Int):=aw hc
  have:i=l.length:=by omega
  have hjn:(j:Int)=aX t l:=by
   rw [this,hlen] at hij
   exact (Int.eq_of_mul_eq_mul_left qu hij).symm
  unfold cG
  rw [if_neg (fun e=>e hk),← hjn,aA,hv];rfl
theorem amB:af7:=by
 delta af7 lM iR wJ A2
 intro t l _ hl
 have A3:=fun l1 n1 n2 (h:x7 t l 3 l1 n1 n2)=>Q3 (u:=3) hl oE (fun b=>FY b) h
 have A4:=fun l1 n1 n2 (h:x7 t l 4 l1 n1 n2)=>Q3 (u:=4) hl iD (fun b=>GH b) h
 have B1:t=1∧a9 t l=0∧(0:Int)=0→0=cG t l:=fun h=>lS (by omega) (by omega) h.2.1
 refine ⟨hl.2,aa (fun h=> ?_) (fun h=> ?_)⟩
 ·have h:=au h
  unfold cG
  rw [if_pos h]
 have hk:a9 t l=0:=by simpa using aw h
 refine ⟨trivial,?_⟩
 refine aa (fun h1=> ?_) (fun h1=>aa (fun h2=> ?_) (fun h2=>aa (fun h3=> ?_) (fun h3=>aa (fun h4=> ?_) (fun h4=> ?_))))
 ·refine ⟨⟨⟨au h1,hk,rfl⟩,trivial⟩,fun _ _ _ _ h _=>lS (by omega) (by omega) h.2.1,fun _ _ _ _ _ h _=>lS (by omega) (by omega) h.2.1,fun l1 n1 n2 _ _ h _=>A3 l1 n1 n2 h,fun l1 n1 n2 _ _ h _=>A4 l1 n1 n2 h⟩
 ·refine ⟨⟨⟨au h2,hk,rfl⟩,trivial⟩,fun _ _ _ _ h _=>lS (by omega) (by omega) h.2.1,fun _ _ _ _ _ h _=>lS (by omega) (by omega) h.2.1,fun l1 n1 n2 _ _ h _=>A3 l1 n1 n2 h,fun l1 n1 n2 _ _ h _=>A4 l1 n1 n2 h⟩
 ·have h3:=au h3
  refine ⟨⟨⟨h3,rfl,hk,by rw [h3];rfl,by omega,by omega,by rw [Int.zero_emod],by rw [asf];rfl⟩,trivial⟩,fun _ _ _ _ h _=>lS (by omega) (by omega) h.2.1,fun _ _ _ _ _ h _=>lS (by omega) (by omega) h.2.1,fun l1 n1 n2 _ _ h _=>A3 l1 n1 n2 h,fun l1 n1 n2 _ _ h _=>A4 l1 n1 n2 h⟩
 ·have h4:=au h4
  refine ⟨⟨⟨h4,rfl,hk,by rw [h4];rfl,by omega,by omega,by rw [Int.zero_emod],by rw [asf];rfl⟩,trivial⟩,fun _ _ _ _ h _=>lS (by omega) (by omega) h.2.1,fun _ _ _ _ _ h _=>lS (by omega) (by omega) h.2.1,fun l1 n1 n2 _ _ h _=>A3 l1 n1 n2 h,fun l1 n1 n2 _ _ h _=>A4 l1 n1 n2 h⟩
 ·exfalso
  have qu:=(B9 hk).1
  refine qu ?_
  unfold aF
  rw [if_neg (aw h1),if_neg (aw h2),if_neg (aw h3),if_neg (aw h4)]
theorem aeH:(base.with V9).Ok:=ab abv (ai ac3 abv Tryz.func93 (by kernel_rfl) Tryz.call93 (by kernel_rfl) amB)
theorem aqm:agf:=by
 delta agf lM
 intro k t c l _ hl
 refine ⟨trivial,aa (fun h=> ?_) (fun h=>aa (fun h2=>fun _=> ?_) (fun h2=>⟨hl.2,fun _=>hl,?_⟩))⟩
 ·unfold fA
  rw [decide_eq_false (au h)];rfl
 ·unfold fA
  have h:cV k t c [] =0:=by simpa using aw h
  rw [decide_eq_true h,h2];rfl
 ·unfold fA
  have h:cV k t c [] =0:=by simpa using aw h
  rw [decide_eq_true h,h2]
  by_cases hk:a9 t l=0
  ·rw [decide_eq_true hk];rfl
  ·have:cG t l≠0:=by unfold cG;rw [if_pos hk];exact hk
   rw [decide_eq_false hk,decide_eq_false this]
   simp
theorem aee:(base.with Xf).Ok:=ab aeH (ai am aeH Tryz.func95 (by kernel_rfl) Tryz.call95 (by kernel_rfl) aqm)
def hU (k t n:Int) (l:LD):LD:=if fA k t n l=true then [k%256,t%256,n%256,n / 256%256,n / 65536%256,n / 16777216%256].map ae++l else []
def am3:Ct:= {ps:= [qS],bs:= [],pre:=fun | [.i k,.i t,.i n,.r l] =>bX l | _=>False,res:=fun | [.i k,.i t,.i n,.r l] => .ret (.own 0) [ob] [.r (hU k t n l)] | _=>ag}
def ab5:Prop:=
 ∀ (a b c:Int) (d:LD),
 lM d→
 bX d→
 bX d∧
 bif !fA a b c d then [] =hU a b c d
 else
 (0:Int)≤8∧
 (0:Int)≤16∧
 (0:Int)≤24∧
 aR (6+d.length) 1∧
 [[.int (IntKind.u8.wrap a)],[.int (IntKind.u8.wrap b)],[.int (IntKind.u8.wrap c)],
 [.int (IntKind.u8.wrap (aL .i64 c 8))],
 [.int (IntKind.u8.wrap (aL .i64 c 16))],
 [.int (IntKind.u8.wrap (aL .i64 c 24))]] ++
 d=
 hU a b c d
def WR:ac:=ak Xf 58 (aq am3)
theorem anl:ab5:=by
 delta ab5 lM aR
 rintro k t n l hl hp
 have hn:=hp.2
 unfold hU
 refine ⟨hp,aa (fun h=> ?_) fun h=>⟨by omega,by omega,by omega,⟨by omega,by omega⟩,?_⟩⟩
 ·have h:fA k t n l=false:=by simpa using h
  rw [if_neg (by rw [h];decide)]
 ·have h:fA k t n l=true:=by simpa using h
  rw [if_pos h,tH,tH,tH,tH,tH,tH,show aL .i64 n 8=n / 256 from Ax n 8 (by omega),show aL .i64 n 16=n / 65536 from Ax n 16 (by omega),show aL .i64 n 24=n / 16777216 from Ax n 24 (by omega)]
  rfl
theorem aiC:(base.with WR).Ok:=ab aee (ai am aee Tryz.func58 (by kernel_rfl) Tryz.call58 (by kernel_rfl) anl)
def TU:Ct:= {ps:= [u64],bs:= [],pre:=fun | [.i n] =>ap n | _=>False,res:=fun | [.i n] => .ret w4 [] [.li (de [n,0,0,0])] | _=>ag}
def P96:Prop:=
 ∀ (n:Int),
 ap n→
 af ([0,0,0,0].set 0 n)∧
 de ([0,0,0,0].set 0 n)=
 de [n,0,0,0]
def Pq:ac:=ak WR 96 (aq TU)
theorem atX:P96:=by
 unfold P96
 intro n hn
 refine ⟨fun j=> ?_,rfl⟩
 show ap (([n,0,0,0] :List Int).getD j 0)
 match j with
 | 0=>exact hn
 | 1=>exact bl
 | 2=>exact bl
 | 3=>exact bl
 | j+4=>exact bl
theorem afm:(base.with Pq).Ok:=ab aiC (ai am aiC Tryz.func96 (by kernel_rfl) Tryz.call96 (by kernel_rfl) atX)
end
end Go.Proofs.YteiecapbaeajdaaGreatDoor
namespace Go.Proofs.YteiecapbaeajdaaGreatDoor
open Go Go.Proofs
open Go.RowKit Go.Shelf
set_option linter.unusedVariables false
attribute [local go_sem] Oper.semAt_some
def qQ (ad:Addr) (len k:Nat):Value:= .slice (some (ad.add (k*31))) (min 31 (len-k*31)) (min 31 (len-k*31))
set_option maxRecDepth 100000 in
set_option maxHeartbeats 2000000 in
theorem Rv (F:Fence) (n:Nat) (h7:F.fn 183) (hro:F.round=none) (hn:1≤n) (ad:Addr) (l Bs Bn n₀ len cap K:Nat) (hreach:len≤100000) (hcap:len≤cap) (hK:K=(len+30) / 31) (J Jx:List Nat→World→Prop) (W:World) (hJ:AbidesFrom W.heap.size J)
  (hY:∀ pre x W,J pre W→pre.length<K→YieldAt F (n-1) Tryz.prog l #[qQ ad len x] W fun e W'=>
   (e= .returned (.bool true)∧J (pre++ [x]) W'∧Below n₀ W W')∨(e= .returned (.bool false)∧Jx (pre++ [x]) W'))
  (h1:Bs<n₀) (h2:Bn<n₀) (hBs:W.cell? ⟨Bs,0,none⟩=some (.slice (some ad) len cap)) (hBn:W.cell? ⟨Bn,0,none⟩=some (.int .i64 31)) (h0:J [] W):
  CallsIn F n Tryz.prog 183 #[.func (.yield l) #[] #[],.pointer (some ⟨Bs,0,none⟩),.pointer (some ⟨Bn,0,none⟩)] W fun e W'=>(∃ v,e= .returned v)∧
   ((∃ ys,ys=asg K∧J ys W')∨(∃ pre,(∃ k,k≤K∧pre=asg k)∧Jx pre W')):=by
 refine callsIn_of_wp Tryz.func183 rfl h7 ?_ hro
 simp only [Tryz.ntmps183,ash,adC,asi,asj,ask,asl,asm,asn,aso,asp,ack]
 gi_wp2
 gi_loopw [4] (fun i wr=>∃ k:Nat,k≤K∧i= .int .i64 (k*31:Nat)∧J (asg k) wr∧Below n₀ W wr)
  (fun i _=>len+31-(intOf i).toNat)
 case atStart=>exact ⟨0,asq _,rfl,h0,Below.refl _ _⟩
 case round=>
  obtain ⟨k,hk,rfl,hJs,hnx⟩:=hrel
  have hBs':wr.cell? ⟨Bs,0,none⟩=some (.slice (some ad) len cap):=(hnx.cell (p:=⟨Bs,0,none⟩) h1).trans hBs
  have hBn':wr.cell? ⟨Bn,0,none⟩=some (.int .i64 31):=(hnx.cell (p:=⟨Bn,0,none⟩) h2).trans hBn
  by_cases hlt:k*31<len
  ·obtain ⟨fn,tmps,assign,body,hy,hR⟩:=hY _ k wr hJs (by rw [asr];omega)
   unfold qQ at hy
   obtain ⟨m,hm⟩:∃ m,min 31 (len-k*31)=m:=⟨_,rfl⟩
   have hm1:k*31+m≤len:=by omega
   have hm2:1≤m:=by omega
   have hm3:k*31<len→m=31∨k*31+m=len:=by omega
   gi_wp2
   have hne:¬ cap=k*31:=by omega
   have hmin:(if ((len-k*31:Nat):Int)<31 then ((len-k*31:Nat):Int) else 31)=(m:Int):=by split <;>omega
   have hcm:((k:Int)*31+m).toNat=k*31+m:=by omega
   refine wpIn_mono (Q:=fun e a w=>e= .normal∧w=wr.drew∧a= {tmps:= #[Value.func (Fn.yield l) #[] #[],Value.pointer (some {block:=Bs,off:=0}),Value.pointer (some {block:=Bn,off:=0}),undef,Value.int IntKind.i64 ((k:Int)*31),Value.int IntKind.i64 (m:Int),Value.int IntKind.i64 ((k:Int)*31),
     Value.slice (some ad) len cap,Value.int IntKind.i64 (len:Int),Value.bool true,u10,u11,u12,Value.int IntKind.i64 31,Value.slice (some ad) len cap,Value.int IntKind.i64 ((k:Int)*31),
     Value.slice (some (ad.add (k*31))) (len-k*31) (cap-k*31),Value.int IntKind.i64 ((len-k*31:Nat):Int),Value.int IntKind.i64 (m:Int),u19,u20,u21,u22,u23,u24,u25,u26,u27,u28,u29,u30],defers:= []}) ?h1 ?h2
   case h1=>
    gi_region
    all_goals (try (exfalso;omega))
    all_goals exact ⟨rfl,rfl,rfl⟩
   case h2=>
    rintro e a w ⟨rfl,rfl,rfl⟩
    have hJd:J (asg k) wr.drew:=hJ _ wr wr.drew none hJs ⟨rfl,rfl,rfl,ar5 _,fun _ _ _=>rfl⟩ (fun r e=>by cases e)
    have hnd:Below n₀ W wr.drew:=⟨hnx.os,hnx.tape,hnx.output,hnx.size,hnx.block⟩
    have hBs':wr.drew.cell? ⟨Bs,0,none⟩=some (.slice (some ad) len cap):=hBs'
    have hBn':wr.drew.cell? ⟨Bn,0,none⟩=some (.int .i64 31):=hBn'
    generalize wr.drew=wd at *
    obtain ⟨fn,tmps,assign,body,hy,hR⟩:=hY _ k wd hJd (by rw [asr];omega)
    unfold qQ at hy
    rw [hm] at hy
    gi_wp2
    refine hR.mono ?_
    rintro e W3 (⟨rfl,hJ3,hk3⟩ | ⟨rfl,hJx3⟩)
    ·have hBn3:W3.cell? ⟨Bn,0,none⟩=some (.int .i64 31):=(hk3.cell (p:=⟨Bn,0,none⟩) h2).trans hBn'
     gi_wp2
     go_roundw
     case rel=>exact ⟨k+1,by omega,by congr 1;omega,by rw [ass];exact hJ3,hnd.trans hk3⟩
     case measure=>simp [intOf];omega
    ·gi_wp2
     refine bodyPost_ret (results_none rfl _ _ _) rfl ?_
     exact ⟨⟨_,rfl⟩,.inr ⟨_,⟨k+1,by omega,List.range_succ.symm⟩,hJx3⟩⟩
  ·obtain rfl:k=K:=by omega
   gi_wp2
   go_end0
   exact ⟨⟨_,rfl⟩,.inl ⟨_,rfl,hJs⟩⟩
set_option maxRecDepth 100000 in
set_option maxHeartbeats 1000000 in
theorem HM (F:Fence) (n:Nat) (h7:F.fn 183) (hro:F.round=none) (l Bs Bn cap:Nat) (ad:Option Addr) (J:List Nat→World→Prop) (W:World) (hBs:W.cell? ⟨Bs,0,none⟩=some (.slice ad 0 cap)) (h0:J [] W):
  CallsIn F n Tryz.prog 183 #[.func (.yield l) #[] #[],.pointer (some ⟨Bs,0,none⟩),.pointer (some ⟨Bn,0,none⟩)] W fun e W'=>(∃ v,e= .returned v)∧J [] W':=by
 refine callsIn_of_wp Tryz.func183 rfl h7 ?_ hro
 simp only [Tryz.ntmps183,ash,adC,asi,asj,ask,asl,asm,asn,aso,asp,ack]
 gi_wp2
 gi_loopw [4] (fun i wr=>i= .int .i64 0∧J [] wr∧wr.cell? ⟨Bs,0,none⟩=some (.slice ad 0 cap)) (fun _ _=>0)
 case atStart=>exact ⟨rfl,h0,hBs⟩
 case round=>
  obtain ⟨rfl,hJs,hBs⟩:=hrel
  gi_wp2
  go_end0
  exact ⟨⟨_,rfl⟩,hJs⟩
theorem Mc (F:Fence) (n:Nat) (h7:F.fn 183) (hro:F.round=none) (hn:1≤n) (Bs Bn n₀:Nat) (ao:Option Addr) (ad:Addr) (len cap K:Nat) (w:World) (had:len≠0→ao=some ad) (hreach:len≤100000) (hcap:len≤cap) (hK:K=(len+30) / 31)
  (h1:Bs<n₀) (h2:Bn<n₀) (hn₀:n₀≤w.heap.size) (hBs:w.cell? ⟨Bs,0,none⟩=some (.slice ao len cap)) (hBn:w.cell? ⟨Bn,0,none⟩=some (.int .i64 31)):
  SeqStopsK F n Tryz.prog 183 #[.pointer (some ⟨Bs,0,none⟩),.pointer (some ⟨Bn,0,none⟩)] (fun k:Nat=> #[qQ ad len k]) (Below n₀) (fun ys=>ys=asg K) (fun pre=>∃ k,k≤K∧pre=asg k) K w:=fun l J Jx W hW hJ _ hY h0=>by
 have c1:=(hW.cell (p:=⟨Bs,0,none⟩) (by show Bs<_;omega)).trans hBs
 have c2:=(hW.cell (p:=⟨Bn,0,none⟩) (by show Bn<_;omega)).trans hBn
 by_cases hl:len=0
 ·subst hl
  have:K=0:=by omega
  subst this
  exact (HM F n h7 hro l Bs Bn cap ao J W c1 h0).mono fun e W' ⟨he,hj⟩=>⟨he,.inl ⟨_,rfl,hj⟩⟩
 ·rw [had hl] at c1
  exact Rv F n h7 hro hn ad l Bs Bn n₀ len cap K hreach hcap hK J Jx W hJ hY h1 h2 c1 c2 h0
theorem aho:(Tryz.prog.info? 22).map (fun i=>(i.zero,i.size,i.bytes))=some (some (.slice none 0 0),1,24):=by kernel_rfl
set_option maxRecDepth 100000 in
set_option maxHeartbeats 2000000 in
theorem KP (F:Fence) (n:Nat) (h3:F.fn 182) (h5:F.fn 183) (hro:F.round=none) (hn:3≤n) (Bs Bn:Nat) (ao:Option Addr) (ad:Addr) (len cap K:Nat) (w:World) (had:len≠0→ao=some ad) (hreach:len≤100000) (hcap:len≤cap) (hK:K=(len+30) / 31)
  (hb1:Bs<w.heap.size) (hb2:Bn<w.heap.size) (hBs:w.cell? ⟨Bs,0,none⟩=some (.slice ao len cap)) (hBn:w.cell? ⟨Bn,0,none⟩=some (.int .i64 31)):
  CallsIn F n Tryz.prog 182 #[.slice none 0 0,.func (.func 183) #[] #[.pointer (some ⟨Bs,0,none⟩),.pointer (some ⟨Bn,0,none⟩)]] w fun e W'=>∃ v,e= .returned v∧W'.ownsRow w.heap.size 22 1 v K ((asg K).map (qQ ad len))∧Below w.heap.size w W':=by
 have h1:1≤n:=by omega
 obtain ⟨i0,hi,hz0,hz1,hz2⟩:=info_parts aho
 refine callsIn_of_wp_marks Tryz.func182 rfl h3 ?_ hro
 simp only [Tryz.ntmps182,ash,adC,asi,asj,ask,asl,asm,asn,aso,asp,ack]
 gi_wp2
 have bO:=Boxed.new w 208 (.slice none 0 0)
 have hB0:Below w.heap.size w (w.alloc (.cells #[.slice none 0 0] 208)):=(Below.refl _ w).alloc (ar5 _) _
 refine wpIn_rangeFunc_ownG hro h1 (gf:=183) (lb:= #[.pointer (some ⟨Bs,0,none⟩),.pointer (some ⟨Bn,0,none⟩)]) rfl h5 (enters_of Tryz.func183 (by kernel_rfl) rfl)
  (Mc F (n-1) h5 hro (by omega) Bs Bn w.heap.size ao ad len cap K _ had hreach hcap hK hb1 hb2 (by simp) ((hB0.cell (p:=⟨Bs,0,none⟩) hb1).trans hBs) ((hB0.cell (p:=⟨Bn,0,none⟩) hb2).trans hBn)) belowK_t (belowK_b (by simp)) (Below.refl _ _) (fun _=>rfl)
  (fun pre W=>(∃ v,Boxed W w.heap.size 208 v∧W.ownsRow w.heap.size 22 1 v pre.length (pre.map (qQ ad len))∧True)∧Below w.heap.size w W)
  (fun _ _ _=>False)
  (OwnFrom.and (Own.from (holdsRow_own w.heap.size w.heap.size 208 22 1 (fun pre:List Nat=>pre.length) (fun pre=>pre.map (qQ ad len)) (fun pre v=>True)) _) (ownFrom_below (ar5 _) (by simp)))
  (fun _ _ _ _ _ hs _ _=>hs)
  ⟨⟨_,bO,World.ownsRow_nil _ _ _ _,trivial⟩,hB0⟩
  (fun x=> {tmps:= #[.slice none 0 0,.func (.func 183) #[] #[.pointer (some ⟨Bs,0,none⟩),.pointer (some ⟨Bn,0,none⟩)],.pointer (some ⟨w.heap.size,0,none⟩),undef,.slice none 0 0,qQ ad len x,.func (.func 183) #[] #[.pointer (some ⟨Bs,0,none⟩),.pointer (some ⟨Bn,0,none⟩)],qQ ad len x,undef,undef,undef,undef,undef],defers:= []}) ?assign ?body ?done ?stop
 case assign=>
  intro l x W K hK
  gi_wp2
  exact hK
 case body=>
  rintro l pre x W ⟨⟨v,hv,hrow,_⟩,hB⟩ hlt
  have hc:=hv.cell
  have hml:1000000≤maxLen:=by decide
  obtain ⟨A,c,hA⟩:∃ A c,qQ ad len x= .slice (some A) c c:=⟨_,_,rfl⟩
  rw [hA]
  gi_wp2_with (gi_at_builtin;refine wpListIn_append_own _ rfl _ _ 208 rfl w.heap.size 22 i0 (.slice none 0 0) 1 24 Tryz.underlying208 hi hz0 hz1 hz2 rfl (by decide) _ _ _ rfl (hrow.alloc _) ⟨W.heap.size,0,none⟩ 1 1 [.slice (some A) c c] rfl rfl (cell_one_new _ _ _) (by simp [Value.oneCell']) (by omega) (by omega) (by have:=hB.size;simp;omega) ?_;intro v' w1 hown' hgrow _;obtain ⟨g',cap',rfl⟩:=ownsRow_succ hown';obtain ⟨hv1,hv2,hr2,hk2,hb2⟩:=hv.appended (by decide) hrow hB.size (ar5 _) hown' hgrow;have hc1:=hv1.cell;have hf1:=hv1.frozen)
  exact ⟨hk2.from _,hb2,⟨_,hv2,by simpa [hA] using hr2,trivial⟩,hB.trans hb2⟩
 case done=>
  rintro D ys W hD rfl ⟨⟨v,hv,hrow,_⟩,hB⟩ hK
  have hc:=hv.cell
  gi_wp2
  refine ⟨by simp,.inl ⟨_,_,rfl,run_takeDeferred hK,?_⟩⟩
  rw [asr] at hrow
  exact ⟨_,results_tmp rfl _ _ _,v,rfl,ownsRow_putObj hrow _ hK rfl,hB.trans (belowK_b (w:=w) (ar5 _) W D _ _ (by simp at hD;omega) hK rfl rfl)⟩
 case stop=>
  rintro D c pre W _ _ h _
  exact h.elim
end Go.Proofs.YteiecapbaeajdaaGreatDoor
namespace Go.Proofs.YteiecapbaeajdaaGreatDoor
open Go Go.Avc
set_option linter.unusedVariables false
open Go Go.Avc Go.Proofs
set_option maxRecDepth 100000
noncomputable section
abbrev IX:List CSh:= [.sl [.int .u8]]
abbrev Xx:BPat:= .own 22 IX
abbrev JM:List CSh:= [.int .i64,.int .i64,.int .i64,.sl [.int .u8]]
def ny (t:Int) (k:Nat):Nat:=if t=2 then 8*k else if t=3 then 32*k else if t=4 then 96*(k / 4)+31*(k%4) else k*31
def yv (t:Int) (k:Nat):Nat:=if t=2 then 8 else if t=3 then 32 else if t=4 then (if k%4=3 then 3 else 31) else 31
def nT (t:Int) (n:Nat):Nat:=if t=2 then n / 8 else if t=3 then n / 32 else if t=4 then n / 96*4 else (n+30) / 31
def t8 (t:Int) (l:LD) (k:Nat):LD:=(l.drop (ny t k)).take (yv t k)
def jT (t:Int) (l:LD) (n:Nat):LD:=(asg n).map fun k=> [.sl (t8 t l k)]
def dq (t:Int) (l:LD):LD:=jT t l (nT t l.length)
def fW (t:Int):List Int:=if t=2 then [8] else if t=3 then [32] else if t=4 then [31,31,31,3] else []
def jR (t:Int):Prop:=t=2∨t=3∨t=4
def Le (k t n:Int):Int:=iq .u64 (iq .u64 (IntKind.u64.wrap k) (eG .u64 (IntKind.u64.wrap t) 8)) (eG .u64 (IntKind.u64.wrap n) 16)
def Gu (r:List CD):List CD:=cF (jp (r.getD 0 (CD.int 0)).toSl)
def dn (k t n:Int) (l:LD):LD:=if fA k t n l=true then cF (de [Le k t n,0,0,0])::(dq t l).map Gu else []
def opB (l:LD) (i:Nat):LD:=(((l.getD i []).getD 3 (CD.int 0)).toSl)
def opC (l:LD) (i c:Nat):Int:=((l.getD i []).getD c (CD.int 0)).toInt
def Iu:Ct:= {ps:= [.nils,.fn 183 [.ptr 0 0,.ptr 1 0]],bs:= [.cells 22 [rb],.cells 3 [i64]],pre:=fun | [.r l,.i n] =>n=31∧l.length≤1000 | _=>False,res:=fun
 | [.r l,.i n] => .ret (.own 2) [.cells 22 [rb],.cells 3 [i64],Xx] [.r l,.i n,.r (jT 1 l ((l.length+30) / 31))]
 | _=>ag}
theorem aas {w:World} {Im:Nat→Prop} {l:LD} {ad:Addr} {cap:Nat} {xs:List Value} (hl:l.length≤cap) (hc:cap≤maxLen) (hIm:Im ad.block) (hf:FlatRel Im w [.int .u8] l xs) (hx:∀ j x,xs[j]? =some x→w.cell? (ad.add j)=some x) (k:Nat) (hk:k*31<l.length):
  CRel Im w (.sl [.int .u8]) (.sl (t8 1 l k)) (qQ ad l.length k):=by
 have h1:t8 1 l k=(l.drop (k*31)).take 31:=rfl
 have hxl:xs.length=l.length:=by have:=hf.length;simpa using this
 have hlen:(t8 1 l k).length=min 31 (l.length-k*31):=by rw [h1,ajw,eH]
 have h2:=(hf.split (k*31) (by omega)).2
 have h3:=(h2.split (min 31 (l.length-k*31)) (by rw [eH];omega)).1
 simp only [adC,asi,Nat.zero_add,Nat.mul_one] at h3
 have e1:(l.drop (k*31)).take (min 31 (l.length-k*31))=t8 1 l k:=by
  rw [h1]
  by_cases h:31≤l.length-k*31
  ·rw [Nat.min_eq_left h]
  ·rw [Nat.min_eq_right (by omega),agv (by rw [eH];omega),agv (by rw [eH];omega)]
 rw [e1] at h3
 unfold qQ
 rw [← hlen]
 refine .sl _ _ _ _ _ (ar5 _) (by omega) (by unfold Addr.add;split <;>exact hIm) h3 fun j x hj=> ?_
 rw [aky] at hj
 split at hj
 ·rw [akB] at hj
  rw [Addr.add_add]
  exact hx _ _ hj
 ·cases hj
theorem Jy {w:World} {Im:Nat→Prop} {l:LD} {ad:Addr} (h:∀ k,k*31<l.length→CRel Im w (.sl [.int .u8]) (.sl (t8 1 l k)) (qQ ad l.length k)):∀ n,n*31<l.length+31→FlatRel Im w IX (jT 1 l n) ((asg n).map (qQ ad l.length))
 | 0,_=> .nil _
 | n+1,hn=>by
  have ih:=Jy h n (by omega)
  unfold jT at ih ⊢
  rw [ass,ast,ast]
  exact ih.append (.cons _ _ _ _ _ (.cons _ _ _ _ _ _ (h n (by omega)) .nil) (.nil _))
theorem abu {C:Ctx} (hP:C.P=Tryz.prog) {E:Ent} {Im:Nat→Prop} {ι:Nat→Option Value} {w:World} {vs:List Value} {l:LD} (hl:l.length≤1000) (hE:E.dfr= [])
  (hm:Mem C E [.cells 22 [.rd [.int .u8] l],.cells 3 [.int .i64 31]] Im ι w) (hF:q9 2 ι) (hv:VRels Im ι w [.nils,.fn 183 [.ptr 0 0,.ptr 1 0]] vs):
  Calls Tryz.prog 182 vs.toArray w (fU C E Im ι w 2 (Iu.res [.r l,.i 31])):=by
 obtain ⟨v0,vs1,rfl,e0,v1,vs2,rfl,⟨us,e1,u0,us1,rfl,⟨r0,hr0,eu0⟩,u1,us2,rfl,⟨r1,hr1,eu1⟩,rfl⟩,rfl⟩:=hv
 cases e0;cases e1;cases eu0;cases eu1
 obtain ⟨q0,vz,eq0,hq0,c0⟩:=hm.hv 0 _ hr0
 cases eq0
 obtain ⟨sv,vz',rfl,hsv,_,hz⟩:=c0
 cases (show vz'= [] from hz)
 obtain ⟨q1,vz,eq1,hq1,c1⟩:=hm.hv 1 _ hr1
 cases eq1
 obtain ⟨nv,vz',rfl,hnv,_,hz⟩:=c1
 cases (show vz'= [] from hz)
 cases (show nv= .int .i64 31 from hnv)
 have hb0:r0<w.heap.size:=(asu.1 hq0).1
 have hb1:r1<w.heap.size:=(asu.1 hq1).1
 have hc1:w.cell? ⟨r1,0,none⟩=some (.int .i64 31):=by simp [World.cell?,hq1]
 have key:∀ (ao:Option Addr) (ad:Addr) (cap:Nat),sv= .slice ao l.length cap→(l.length≠0→ao=some ad)→l.length≤cap→
   (∀ k,k*31<l.length→CRel Im w (.sl [.int .u8]) (.sl (t8 1 l k)) (qQ ad l.length k))→
   Calls Tryz.prog 182 [Value.slice none 0 0,.func (.func 183) #[] #[.pointer (some ⟨r0,0,none⟩),.pointer (some ⟨r1,0,none⟩)]].toArray w (fU C E Im ι w 2 (Iu.res [.r l,.i 31])):=by
  intro ao ad cap hsv' had hcap hp
  subst hsv'
  have hc0:w.cell? ⟨r0,0,none⟩=some (.slice ao l.length cap):=by simp [World.cell?,hq0]
  have hcall:=callsIn_wide.1 (KP Fence.wide 3 trivial trivial rfl (by omega) r0 r1 ao ad l.length cap ((l.length+30) / 31) w had (by omega) hcap rfl hb0 hb1 hc0 hc1)
  refine Calls.mono hcall ?_
  rintro e w' ⟨v,rfl,ho,hb⟩
  have hg:w.grownBy w' none:=⟨hb.os,hb.tape,hb.output,hb.size,fun k hk _=>hb.block k hk⟩
  have hO:OwnV w' 22 1 v ((l.length+30) / 31) ((asg ((l.length+30) / 31)).map (qQ ad l.length)):=by
   refine ⟨ho.1,?_⟩
   rcases ho.2 with ⟨rfl,h0⟩ | ⟨g,cap',cur,rfl,hbg,hgc,h1,h2,h3,h4⟩
   ·exact .inl ⟨_,rfl,h0⟩
   ·by_cases hc':cap'=0
    ·subst hc'
     have:(l.length+30) / 31=0:=by omega
     rw [this]
     exact .inl ⟨_,rfl,rfl⟩
    ·exact .inr ⟨g,cap',cur,rfl,hgc,h1,by omega,h2,h3,h4⟩
  have hk:∀ k,aB v=some k→w.heap.size≤k:=by
   intro k hk
   rcases ho.2 with ⟨rfl,h0⟩ | ⟨g,cap',cur,rfl,hbg,_⟩
   ·cases hk
   ·simp only [aB] at hk
    split at hk
    ·cases hk
    ·cases hk;exact hbg
  have hsl:∃ a n c,v= .slice a n c:=by
   rcases ho.2 with ⟨rfl,_⟩ | ⟨g,cap',cur,rfl,_⟩ <;>exact ⟨_,_,_,rfl⟩
  have hfl:=Jy hp ((l.length+30) / 31) (by omega)
  have hn2:ι 2=none:=hF 2 (ar5 _)
  have hll:(jT 1 l ((l.length+30) / 31)).length=(l.length+30) / 31:=by simp [jT]
  have hmm:=Gm (hp':= [.cells 22 [.rd [.int .u8] l],.cells 3 [.int .i64 31],.own 22 IX (jT 1 l ((l.length+30) / 31))]) (c:=2) (T:=22) (e:=IX) hm hn2 (fun b hb=>by
   match b,hb with
   | 0,_=>rfl
   | 1,_=>rfl
   | b+3,_=>rfl) rfl hg (by rw [hll];exact hO) hfl hk
  refine ⟨v,Im,ιset ι 2 v,_,_,rfl,rfl,rfl,⟨ιset_same ι 2 v,hsl⟩,hmm.1,rfl,fun b hb=> ?_,hmm.2,(show 2≤3 by decide),fun b hb=>ιset_other ι 2 v (by omega)⟩
  have hb:3≤b:=hb
  rw [ιset_other ι 2 v (by omega)]
  exact hF b (by omega)
 cases hsv with
 | sl0 e a cap hcap=>exact key a ⟨0,0,none⟩ cap rfl (fun h=>absurd rfl h) (asq _) fun k hk=>absurd hk (Nat.not_lt_zero _)
 | sl e l ad cap xs h1 h2 h3 h4 h5=>exact key (some ad) ad cap rfl (fun _=>rfl) h1 fun k hk=>aas h1 h2 h3 h4 h5 k hk
theorem al7:b9 (base.with Pq) 182 (aq Iu):=by
 refine ws afm (fun svs hp ds=>∃ l,svs= [.nils,.fn 183 [.ptr 0 0,.ptr 1 0]] ∧hp= [.cells 22 [.rd [.int .u8] l],.cells 3 [.int .i64 31]] ∧ds= [.r l,.i 31] ∧l.length≤1000) ?_ (fun vs w _=>Tryz.call182 vs w) ?_
 ·rintro svs hp ds E Im ι w vs ⟨l,rfl,rfl,rfl,hl⟩ _ _ hD hE hm hF hv
  exact abu rfl hl hD hm hF hv
 ·rintro l n _ ⟨rfl,hl⟩
  exact ⟨l,rfl,rfl,rfl,hl⟩
def QA:ac:=ak Pq 182 (aq Iu)
theorem VA:(base.with QA).Ok:=ab afm al7
def aqi:Ct:= {ps:= [.fn 183 [.ptr 0 0,.ptr 1 0]],bs:= [.cells 22 [rb],.cells 3 [i64]],pre:=fun | [.r l,.i n] =>n=31∧l.length≤1000 | _=>False,res:=fun
 | [.r l,.i n] => .ret (.own 2) [.cells 22 [rb],.cells 3 [i64],Xx] [.r l,.i n,.r (jT 1 l ((l.length+30) / 31))]
 | _=>ag}
def ama:Ct:= {ps:= [rb,i64],bs:= [],pre:=fun | [.r l,.i n] =>1≤n | _=>False,res:=fun
 | [.r l,.i n] => .ret (.fn 183 [.ptr 0 0,.ptr 1 0]) [.cells 22 [rb],.cells 3 [i64]] [.r l,.i n]
 | _=>ag}
abbrev ri:Pat:= .rd [.int .i64]
def ahM:Ct:= {ps:= [i64],bs:= [],pre:=fun _=>True,res:=fun
 | [.i t] => .ite (decide (t=1)) (.ret (.agg [i64,.nilf,.nils]) [] [.i 1]) (.ite (decide (t=2)) (.ret (.agg [i64,.nilf,ri]) [] [.i 8,.r [[.int 8]]])
  (.ite (decide (t=3)) (.ret (.agg [i64,.fn 176 [],ri]) [] [.i 32,.r [[.int 32]]]) (.ite (decide (t=4)) (.ret (.agg [i64,.fn 178 [],ri]) [] [.i 96,.r [[.int 31],[.int 31],[.int 31],[.int 3]]]) (.ret (.agg [i64,.nilf,.nils]) [] [.i 0]))))
 | _=>ag}
def ao6:List Dat→Prop
 | [.i t,.r l] =>l.length≤1000∧(jR t→(l.length:Int)%aF t=0)
 | _=>False
def auB:Ct:= {ps:= [i64,rb],bs:= [],pre:=ao6,res:=fun | [.i t,.r l] => .ret (.own 0) [Xx] [.r (dq t l)] | _=>ag}
def aoE:List Dat→Ann
 | [.i t,.r l] => {cut:= [],loop:= [(6,[la 40 [(1,rb),(5,ri),(6,.own 0),(7,i64)] [Xx] (fun
   | [.r rest,.r cs,.i i,.r out] =>cs=(fW t).map ae∧∃ j:Nat,j≤nT t l.length∧rest=l.drop (ny t j)∧i=((j%(fW t).length:Nat):Int)∧out=jT t l j
   | _=>False) (fun | [.r rest,_,_,_] =>rest.length | _=>0)])]}
 | _=> {cut:= [],loop:= []}
def au4:Ct:= {ps:= [qS],bs:= [],pre:=fun | [.i k,.i t,.i n,.r l] =>bX l | _=>False,res:=fun | [.i k,.i t,.i n,.r l] => .ret (.own 0) [oe] [.r (dn k t n l)] | _=>ag}
def ao0:List Dat→Ann
 | [.i k,.i t,.i n,.r l] => {cut:= [],loop:= [(5,[la 41 [(3,.own 0),(28,.rd IX),(29,i64),(30,i64)] [oe] (fun
   | [.r p,.i m,.i i,.r out] =>p=dq t l∧m=(dq t l).length∧0≤i∧i≤m∧fA k t n l=true∧out=cF (de [Le k t n,0,0,0])::((dq t l).map Gu).take i.toNat
   | _=>False) (fun | [_,.i m,.i i,_] =>(m-i).toNat | _=>0)])]}
 | _=> {cut:= [],loop:= []}
abbrev Kd:Prop:=
 Miss 2 eS
abbrev yw:Prop:=
 Miss 2 eS
abbrev yA:Prop:=
 Miss 2 eS
abbrev IE:LD:=
 [[.int 31],[.int 31],[.int 31],[.int 3]]
abbrev yV:Prop:=
 Miss 2 eS
abbrev IP:Prop:=
 Miss 2 eS
def Zu:Prop:=
 ∀ (a:Int),
 True→
 bif decide (a=1) then
 bif decide (a=1) then (1:Int)=1
 else
 bif decide (a=2) then (1:Int)=8∧ [] = [[CD.int 8]]
 else
 bif decide (a=3) then Kd
 else bif decide (a=4) then Kd else (1:Int)=0
 else
 bif decide (a=2) then
 bif decide (a=1) then yw
 else
 bif decide (a=2) then (8:Int)=8∧ [[CD.int 8]] = [[CD.int 8]]
 else
 bif decide (a=3) then yw
 else bif decide (a=4) then yw else yw
 else
 bif decide (a=3) then
 bif decide (a=1) then yA
 else
 bif decide (a=2) then yA
 else
 bif decide (a=3) then (32:Int)=32∧ [[CD.int 32]] = [[CD.int 32]]
 else bif decide (a=4) then yA else yA
 else
 bif decide (a=4) then
 bif decide (a=1) then yV
 else
 bif decide (a=2) then yV
 else
 bif decide (a=3) then yV
 else
 bif decide (a=4) then (96:Int)=96∧IE=IE
 else yV
 else
 bif decide (a=1) then (0:Int)=1
 else
 bif decide (a=2) then (0:Int)=8∧ [] = [[CD.int 8]]
 else
 bif decide (a=3) then IP
 else bif decide (a=4) then IP else (0:Int)=0
def QD:ac:=ak QA 138 (aq ahM)
theorem ajJ:Zu:=by
 delta Zu Kd yw yA IE yV IP
 intro n _
 exact aa (fun h1=>jG h1 rfl) (fun h1=>aa (fun h2=>cf h1 (jG h2 ⟨rfl,rfl⟩)) (fun h2=>aa (fun h3=>cf h1 (cf h2 (jG h3 ⟨rfl,rfl⟩))) (fun h3=>aa (fun h4=>cf h1 (cf h2 (cf h3 (jG h4 ⟨rfl,rfl⟩)))) (fun h4=>cf h1 (cf h2 (cf h3 (cf h4 rfl)))))))
theorem Xp:(base.with QD).Ok:=ab VA (ai am VA Tryz.func138 (by kernel_rfl) Tryz.call138 (by kernel_rfl) ajJ)
def ad1:Prop:=
 ∀ (a:LD) (b:Int),
 lM a→
 b=31∧a.length≤1000→
 (b=31∧a.length≤1000)∧
 a=a∧
 b=b∧
 jT 1 a ((a.length+30) / 31)=
 jT 1 a ((a.length+30) / 31)
def Q1:ac:=ak QD 140 (aq aqi)
def acE:Prop:=
 ∀ (a:LD) (b:Int),lM a→1≤b→bif decide (b<(1:Int)) then False else a=a∧b=b
def Sj:ac:=ak Q1 141 (aq ama)
abbrev jb (a:LD):Int:=
 ↑a.length
abbrev uZ (a:Int)(b:LD):Prop:=
 (1:Int)≤31∧
 ((31:Int)=31∧b.length≤1000)∧
 jT 1 b ((b.length+30) / 31)=dq a b
abbrev C5 (a:Int)(b:LD):Prop:=
 ∃ c,
 c≤nT a b.length∧
 b=ar1 (ny a c) b∧
 0=(↑(c%(fW a).length):Int)∧ [] =jT a b c
abbrev qC (a:Int)(b:LD):Int:=
 ((b.getD a.toNat []).getD 0 (.int 0)).toInt
abbrev CZ (a:Int)(b:LD):Prop:=
 ∀ (c d:LD) (e:Int) (f:LD),
 lM c→
 lM d→
 lM f→
 (d=asv ae (fW a)∧
 ∃ g,
 g≤nT a b.length∧
 c=ar1 (ny a g) b∧
 e=(↑(g%(fW a).length):Int)∧f=jT a b g)→
 lM c→
 bif decide ((0:Int)<jb c) then
 bR e d∧
 e.toNat<d.length∧
 ((0:Int)≤0∧
 0≤qC e d∧qC e d≤jb c)∧
 aR (f.length+1) 24∧
 bR e d∧
 e.toNat<d.length∧
 (0≤qC e d∧
 qC e d≤jb c∧
 jb c≤jb c)∧
 iR (e+1)∧
 (lM d→
 (0≤e+1∧(0:Int)<jb d)∧
 (d=asv ae (fW a)∧
 ∃ g,
 g≤nT a b.length∧
 ar1 (qC e d).toNat (ar0 (jb c).toNat c)=
 ar1 (ny a g) b∧
 (e+1)%jb d=(↑(g%(fW a).length):Int)∧
 f++ [[.sl (ar1 0 (ar0 (qC e d).toNat c))]] =
 jT a b g)∧
 (ar1 (qC e d).toNat (ar0 (jb c).toNat c)).length <
 c.length)
 else f=dq a b
abbrev JB:LD:=
 [[.int 31],[.int 31],[.int 31],[.int 3]]
def P97:Prop:=
 ∀ (a:Int) (b:LD),
 lM b→
 b.length≤1000∧
 (jR a→jb b%aF a=0)→
 True∧
 bif decide (a=1) then uZ a b
 else
 bif decide (a=2) then
 ∀ (c:Bool),
 (c=true→ [[CD.int 8]] = [])→
 bif c then uZ a b
 else
 (([[CD.int 8]] =asv ae (fW a)∧
 C5 a b)∧
 True)∧
 CZ a b
 else
 bif decide (a=3) then
 ∀ (c:Bool),
 (c=true→ [[CD.int 32]] = [])→
 bif c then uZ a b
 else
 (([[CD.int 32]] =asv ae (fW a)∧
 C5 a b)∧
 True)∧
 CZ a b
 else
 bif decide (a=4) then
 ∀ (c:Bool),
 (c=true→JB= [])→
 bif c then uZ a b
 else
 ((JB=asv ae (fW a)∧
 C5 a b)∧
 True)∧
 CZ a b
 else uZ a b
def YZ:ac:=ak Sj 97 (aq auB)
abbrev KG (a b c:Int):Int:=
 iq .u64 (iq .u64 (IntKind.u64.wrap a) (eG .u64 (IntKind.u64.wrap b) 8))
 (eG .u64 (IntKind.u64.wrap c) 16)
abbrev zz (a b c:Int):List Int:=
 de [KG a b c,0,0,0]
abbrev sP (a:Int)(b:LD):LD:=
 ((b.getD a.toNat []).getD 0 (.int 0)).toSl
def P60:Prop:=
 ∀ (a b c:Int) (d:LD),
 lM d→
 bX d→
 bX d∧
 bif !fA a b c d then [] =dn a b c d
 else
 0≤(8:Int)∧
 (0:Int)≤(16:Int)∧
 ap (KG a b c)∧
 (d.length≤1000∧
 (jR b→jb d%aF b=(0:Int)))∧
 (lM (dq b d)→
 ((dq b d=dq b d∧
 (↑(dq b d).length:Int)=(↑(dq b d).length:Int)∧
 (0:Int)≤(0:Int)∧
 0≤(↑(dq b d).length:Int)∧
 fA a b c d=true∧
 [[.int ((zz a b c).getD 0 0),
 .int ((zz a b c).getD 1 0),
 .int ((zz a b c).getD 2 0),
 .int ((zz a b c).getD 3 0)]] =
 cF
 (de [Le a b c,0,0,0])::
 ar0 0 (asv Gu (dq b d)))∧
 True)∧
 ∀ (e:LD) (f g:Int) (h:LD),
 lM e→
 lM h→
 e=dq b d∧
 f=(↑(dq b d).length:Int)∧
 0≤g∧
 g≤f∧
 fA a b c d=true∧
 h=
 cF
 (de [Le a b c,0,0,0])::
 ar0 g.toNat (asv Gu (dq b d))→
 bif decide (g<f) then
 bR g e∧
 g.toNat<e.length∧
 (av (sP g e)∧
 (sP g e).length≤400)∧
 aR (h.length+1) 32∧
 iR (g+1)∧
 (e=dq b d∧
 f=(↑(dq b d).length:Int)∧
 0≤g+1∧
 g+1≤f∧
 fA a b c d=true∧
 h++
 [[.int
 ((jp (sP g e)).getD 0
 0),
 .int
 ((jp (sP g e)).getD 1
 0),
 .int
 ((jp (sP g e)).getD 2
 0),
 .int
 ((jp (sP g e)).getD 3
 0)]] =
 cF
 (de
 [Le a b c,0,0,0])::
 ar0 (g+1).toNat
 (asv Gu (dq b d)))∧
 (f-(g+1)).toNat<(f-g).toNat
 else h=dn a b c d)
def XO:ac:=ak YZ 60 (aq au4)
theorem arO:ad1:=by
 delta ad1 lM
 exact fun l n _ h=>⟨h,rfl,rfl,rfl⟩
theorem Wp:(base.with Q1).Ok:=ab Xp (ai am Xp Tryz.func140 (by kernel_rfl) Tryz.call140 (by kernel_rfl) arO)
theorem anp:acE:=by
 delta acE lM
 intro l n _ h
 exact aa (fun h1=>absurd (au h1) (by omega)) fun _=>⟨rfl,rfl⟩
theorem Y2:(base.with Sj).Ok:=ab Wp (ai am Wp Tryz.func141 (by kernel_rfl) Tryz.call141 (by kernel_rfl) anp)
theorem Z1 {t:Int} (h:jR t) (j:Nat):ny t (j+1)=ny t j+yv t j∧1≤yv t j∧yv t j≤32:=by
 unfold ny yv
 rcases h with rfl | rfl | rfl
 ·simp;omega
 ·simp;omega
 ·simp only [show ¬ (4:Int)=2 from by decide,show ¬ (4:Int)=3 from by decide,if_false,if_true]
  split <;>omega
theorem anU {t:Int} (h:jR t) {n j:Nat} (hn:(n:Int)%aF t=0) (hj:j≤nT t n):(ny t j<n↔j<nT t n)∧(j<nT t n→ny t j+yv t j≤n)∧(j=nT t n→ny t j=n):=by
 unfold ny yv nT aF at *
 rcases h with rfl | rfl | rfl
 ·simp at hn hj ⊢;omega
 ·simp at hn hj ⊢;omega
 ·simp only [show ¬ (4:Int)=2 from by decide,show ¬ (4:Int)=3 from by decide,show ¬ (4:Int)=1 from by decide,if_false,if_true] at hn hj ⊢
  split <;>omega
theorem aat {t:Int} (h:jR t) (j:Nat):(fW t).length≠0∧(fW t).length≤4∧rv ((fW t).map ae) (j%(fW t).length)=(yv t j:Int):=by
 unfold fW yv
 rcases h with rfl | rfl | rfl
 ·refine ⟨by decide,by decide,?_⟩
  rw [da]
  simp [Nat.mod_one]
 ·refine ⟨by decide,by decide,?_⟩
  rw [da]
  simp [Nat.mod_one]
 ·refine ⟨by decide,by decide,?_⟩
  rw [da]
  show ([31,31,31,3] :List Int).getD (j%4) 0=_
  simp only [show ¬ (4:Int)=2 from by decide,show ¬ (4:Int)=3 from by decide,if_false,if_true]
  have:j%4<4:=Nat.mod_lt _ (by decide)
  generalize j%4=r at *
  match r,this with
  | 0,_=>rfl
  | 1,_=>rfl
  | 2,_=>rfl
  | 3,_=>rfl
theorem U6 (t:Int) (l:LD) (j:Nat):jT t l (j+1)=jT t l j++ [[.sl (t8 t l j)]] :=by
 unfold jT
 rw [ass,ast];rfl
theorem Bk (t:Int) (l:LD) (j:Nat):(jT t l j).length=j:=by simp [jT]
theorem LQ {t:Int} (ht:jR t) {l l1 l2 l3:LD} {i:Int} (hl:l.length≤1000) (hm:(l.length:Int)%aF t=0) (h:l2=asv ae (fW t)∧∃ j,j≤nT t l.length∧l1=ar1 (ny t j) l∧i=(↑(j%(fW t).length):Int)∧l3=jT t l j):
  bif decide ((0:Int)<(↑l1.length:Int)) then
   ((0:Int)≤i∧i<(↑l2.length:Int))∧
    i.toNat<l2.length∧
     ((0:Int)≤(0:Int)∧(0:Int)≤rv l2 i.toNat∧rv l2 i.toNat≤(↑l1.length:Int))∧
      ((l3.length+(1:Nat))*(24:Nat)≤(140737488355328:Nat)∧l3.length+(1:Nat)≤(9223372036854775807:Nat))∧
       ((0:Int)≤i∧i<(↑l2.length:Int))∧
        i.toNat<l2.length∧
         ((0:Int)≤rv l2 i.toNat∧rv l2 i.toNat≤(↑l1.length:Int)∧(↑l1.length:Int)≤(↑l1.length:Int))∧
          ((-9223372036854775808:Int)≤i+(1:Int)∧i+(1:Int)≤(9223372036854775807:Int))∧
           (l2.length≤(9223372036854775807:Nat)→
            ((0:Int)≤i+(1:Int)∧(0:Int)<(↑l2.length:Int))∧
             (l2=asv ae (fW t)∧
               ∃ j,j≤nT t l.length∧ar1 (rv l2 i.toNat).toNat (ar0 (↑l1.length:Int).toNat l1)=ar1 (ny t j) l∧
                  (i+(1:Int))%(↑l2.length:Int)=(↑(j%(fW t).length):Int)∧
                   l3++ [[CD.sl (ar1 (0:Nat) (ar0 (rv l2 i.toNat).toNat l1))]] =jT t l j)∧
              (ar1 (rv l2 i.toNat).toNat (ar0 (↑l1.length:Int).toNat l1)).length<l1.length)
  else l3=dq t l:=by
 obtain ⟨rfl,j,hj,rfl,rfl,rfl⟩:=h
 have ⟨z1,z2,z3⟩:=aat ht j
 have ⟨p1,p2,p3⟩:=Z1 ht j
 have ⟨q1,q2,q3⟩:=anU ht hm hj
 have hlt:j%(fW t).length<(fW t).length:=Nat.mod_lt _ (by omega)
 have hl1:(ar1 (ny t j) l).length=l.length-ny t j:=eH
 have hl2:(asv ae (fW t)).length=(fW t).length:=bp _
 rw [aA,z3,hl1,hl2,Bk,aA,aA]
 have hJ:nT t l.length≤1000:=by
  unfold nT
  rcases ht with rfl | rfl | rfl <;>simp <;>omega
 refine aa (fun h=> ?_) (fun h=> ?_)
 ·have h:(0:Int)<((l.length-ny t j:Nat):Int):=au h
  have hjn:=q1.1 (by omega)
  have hin:=q2 hjn
  refine ⟨by omega,hlt,by omega,by omega,by omega,hlt,by omega,by omega,fun _=>⟨by omega,⟨rfl,j+1,hjn,?_,?_,?_⟩,?_⟩⟩
  ·rw [agv (by omega),List.drop_drop,p1]
  ·rw [show ((j%(fW t).length:Nat):Int)+1=((j%(fW t).length+1:Nat):Int) from by omega,← Int.natCast_emod]
   congr 1
   rw [Nat.add_mod,Nat.mod_mod,← Nat.add_mod]
  ·rw [U6];rfl
  ·rw [agv (by omega),eH,hl1];omega
 ·have h:¬ (0:Int)<((l.length-ny t j:Nat):Int):=aw h
  have:j=nT t l.length:=by
   have:=mt q1.2 (by omega)
   omega
  rw [this];rfl
theorem I9 {t:Int} (ht:¬ jR t) (l:LD):jT 1 l ((l.length+30) / 31)=dq t l:=by
 unfold jR at ht
 have h2:¬ t=2:=fun e=>ht (.inl e)
 have h3:¬ t=3:=fun e=>ht (.inr (.inl e))
 have h4:¬ t=4:=fun e=>ht (.inr (.inr e))
 unfold dq jT t8 ny yv nT
 simp [h2,h3,h4]
theorem atS:P97:=by
 delta P97 lM iR aR bR jb uZ C5 qC CZ JB
 rintro t l _ ⟨hl,hm⟩
 have mp:∀ j,j≤nT t l.length→True:=fun _ _=>trivial
 refine ⟨trivial,aa (fun h1=>⟨by decide,⟨rfl,hl⟩,I9 (by have:=au h1;unfold jR;omega) l⟩) fun h1=> ?_⟩
 refine aa (fun h2 β hβ=> ?_) fun h2=>aa (fun h3 β hβ=> ?_) fun h3=>aa (fun h4 β hβ=> ?_) fun h4=> ?_
 ·have h2:=au h2
  subst h2
  refine aa (fun e=>by cases hβ e) fun _=>⟨⟨⟨rfl,0,asq _,rfl,rfl,rfl⟩,trivial⟩,fun l1 l2 i l3 _ _ _ h _=>LQ (.inl rfl) hl (hm (.inl rfl)) h⟩
 ·have h3:=au h3
  subst h3
  refine aa (fun e=>by cases hβ e) fun _=>⟨⟨⟨rfl,0,asq _,rfl,rfl,rfl⟩,trivial⟩,fun l1 l2 i l3 _ _ _ h _=>LQ (.inr (.inl rfl)) hl (hm (.inr (.inl rfl))) h⟩
 ·have h4:=au h4
  subst h4
  refine aa (fun e=>by cases hβ e) fun _=>⟨⟨⟨rfl,0,asq _,rfl,rfl,rfl⟩,trivial⟩,fun l1 l2 i l3 _ _ _ h _=>LQ (.inr (.inr rfl)) hl (hm (.inr (.inr rfl))) h⟩
 ·exact ⟨by decide,⟨rfl,hl⟩,I9 (by have:=aw h2;have:=aw h3;have:=aw h4;unfold jR;omega) l⟩
theorem akF:(base.with YZ).Ok:=ab Y2 (ai aoE Y2 Tryz.func97 (by kernel_rfl) Tryz.call97 (by kernel_rfl) atS)
theorem B6 {k t n:Int} {l:LD} (h:fA k t n l=true):(1≤k∧k≤3)∧(0≤t∧t≤4)∧(1≤n∧n≤1048576)∧(k=1→(l.length:Int)=aF t*n∧a9 t l=0∧cG t l=0)∧(k≠1→l= []):=by
 unfold fA at h
 rw [cZ] at h
 have hc:=au h.1
 have h2:=h.2
 unfold cV at hc
 have hk:¬ (k<1∨3<k):=fun e=>by rw [if_pos e] at hc;cases hc
 rw [if_neg hk] at hc
 have ht:¬ ((k=1∧(t<1∨4<t))∨(k=2∧t≠1∧t≠3)∨(k=3∧t≠0)):=fun e=>by rw [if_pos e] at hc;cases hc
 rw [if_neg ht] at hc
 have hn:¬ (n<1∨1048576<n∨(k=3∧n≠1)):=fun e=>by rw [if_pos e] at hc;cases hc
 refine ⟨by omega,by omega,by omega,fun e=> ?_,fun e=> ?_⟩
 ·rw [e] at h2
  simp only [Bool.cond_false,Bool.cond_true,ne_eq,not_true_eq_false,decide_false,cond_false,cZ,aQ] at h2
  have:=B9 h2.1
  rw [← h2.2.1]
  exact ⟨this.2.1,h2.1,h2.2.2⟩
 ·rw [decide_eq_true e] at h2
  have:=au h2
  exact List.length_eq_zero_iff.1 (by omega)
theorem aeC {k t n:Int} {l:LD} (h:fA k t n l=true) (hc:jR t):(l.length:Int)%aF t=0:=by
 have ⟨_,_,_,h1,h2⟩:=B6 h
 by_cases e:k=1
 ·rw [(h1 e).1,Int.mul_emod_right]
 ·rw [h2 e];simp
theorem aoW {t:Int} {l:LD} (h:jf l) (j:Nat):av (t8 t l j):=by
 unfold t8
 rw [List.take_drop]
 exact mK (FS h _ _)
theorem ZQ (t:Int) (l:LD) (j:Nat):(t8 t l j).length≤32:=by
 unfold t8 yv
 rw [ajw]
 split
 ·omega
 ·split
  ·omega
  ·split
   ·split <;>omega
   ·omega
theorem U4 {t:Int} {l:LD} {j:Nat} (h:j<(dq t l).length):((dq t l).getD j [])= [.sl (t8 t l j)] :=by
 unfold dq at h ⊢
 rw [Bk] at h
 unfold jT
 rw [ay,eW,List.getElem?_range h]
 rfl
theorem RC (t:Int) (n:Nat):nT t n≤n+30:=by
 unfold nT
 split
 ·omega
 ·split
  ·omega
  ·split <;>omega
theorem avX:P60:=by
 delta P60 lM iR aR bR jb KG zz sP
 intro k t n l _ hp
 refine ⟨hp,aa (fun h=> ?_) fun h=> ?_⟩
 ·have h:fA k t n l=false:=by simpa using h
  unfold dn
  rw [if_neg (by rw [h];decide)]
 have h:fA k t n l=true:=by simpa using h
 have hlen:(dq t l).length≤1030:=by unfold dq;rw [Bk];have:=RC t l.length;have:=hp.2;omega
 refine ⟨by decide,by decide,zE _ _,⟨hp.2,aeC h⟩,fun _=>⟨⟨⟨rfl,rfl,by decide,by omega,h,rfl⟩,trivial⟩,?_⟩⟩
 rintro l1 m i l2 _ _ ⟨rfl,rfl,h0,h1,hr,rfl⟩
 obtain ⟨j,rfl⟩:=bx h0
 have hl2:(cF (de [Le k t n,0,0,0])::ar0 (j:Int).toNat (asv Gu (dq t l))).length=j+1:=by
  rw [aA,adC,ajw,bp];omega
 refine aa (fun h=> ?_) fun h=> ?_
 ·have h:(j:Int)<(dq t l).length:=au h
  have hj:j<(dq t l).length:=by omega
  have hg:=U4 hj
  rw [hl2,aA,hg]
  refine ⟨by omega,hj,⟨aoW hp.1 j,Nat.le_trans (ZQ t l j) (by decide)⟩,by omega,by omega,⟨rfl,rfl,by omega,by omega,hr,?_⟩,by omega⟩
  rw [show ((j:Int)+1).toNat=j+1 from by omega,ack]
  congr 1
  rw [List.take_add_one,eW]
  congr 1
  rw [ay] at hg
  rw [cH hj] at hg ⊢
  simp only [Option.getD_some] at hg
  rw [hg]
  rfl
 ·have h:¬ (j:Int)<(dq t l).length:=aw h
  unfold dn
  rw [if_pos hr,aA,agv (by rw [bp];omega)]
theorem af3:(base.with XO).Ok:=ab akF (ai ao0 akF Tryz.func60 (by kernel_rfl) Tryz.call60 (by kernel_rfl) avX)
theorem IJ (k t n:Int) (l:LD):(hU k t n l).length≤l.length+6:=by
 unfold hU
 split
 ·rw [ce];simp;omega
 ·simp
theorem Lk (k t n:Int) (l:LD):(dn k t n l).length≤l.length+31:=by
 unfold dn
 split
 ·rw [adC,bp]
  unfold dq
  rw [Bk]
  have:=RC t l.length
  omega
 ·simp
def d9 (k t n:Int) (d:LD) (x:Sp):Sp:=hid (b7 (hU k t n d) x (hU k t n d).length)
def dE (x:Sp):Nat→LD×Int×Int×Sp
 | 0=>([],0,0,x)
 | i+1=>if (dE x i).2.2.1≠0 then dE x i else if (aC (dE x i).2.2.2).2.2.1≠0 then ([],(dE x i).2.1+(aC (dE x i).2.2.2).2.1,(aC (dE x i).2.2.2).2.2.1,(aC (dE x i).2.2.2).2.2.2)
  else ((dE x i).1++ [cF (aC (dE x i).2.2.2).1],(dE x i).2.1+(aC (dE x i).2.2.2).2.1,0,(aC (dE x i).2.2.2).2.2.2)
def fi (x:Sp) (n:Nat):LD×Int×Int×Sp:=hid (dE x n)
def nL (x:Sp):Sp:=(0,136,x.2.2.1+1,gj (fD x.2.2.2) 0 136 (ab0 136 [.int 0]))
def dS (x:Sp):List Dat:= [.i x.1,.i x.2.1,.i x.2.2.1,.r x.2.2.2]
def dA (tg:List Int) (it:LD) (p:Int) (x:Sp):List Dat:= .li tg:: .r it:: .i p::dS x
def dX (tg:List Int) (it:LD) (p:Int) (x:Sp) (w:Int):List Dat:=dA tg it p x++ [.i w]
def spQ (x:Sp):Prop:=cg 700000000 x
def acr:Ct:= {ps:= [KT,qS],bs:= [eV,ob],pre:=fun | [.i k,.i t,.i n,.r l,.i a,.i b,.i c,.r s] =>bX l∧db (a,b,c,s) | _=>False,res:=fun
 | [.i k,.i t,.i n,.r l,.i a,.i b,.i c,.r s] => .ret (.tup []) [eV,ob] (dS (d9 k t n l (a,b,c,s)))
 | _=>ag}
def ala:Ct:= {ps:= [i64,Fj],bs:= [eV,ob],pre:=fun | [.i n,.i a,.i b,.i c,.r s] =>0≤n∧n≤1000∧cg 800000000 (a,b,c,s) | _=>False,res:=fun
 | [.i n,.i a,.i b,.i c,.r s] => .ite (decide ((fi (a,b,c,s) n.toNat).2.2.1=0))
   (.ret (.tup [.own 2,i64,i64]) [eV,ob,oe] (.i (fi (a,b,c,s) n.toNat).2.1:: .i 0::dS (fi (a,b,c,s) n.toNat).2.2.2++ [.r (fi (a,b,c,s) n.toNat).1]))
   (.ret (.tup [.nils,i64,i64]) [eV,ob] (.i (fi (a,b,c,s) n.toNat).2.1:: .i (fi (a,b,c,s) n.toNat).2.2.1::dS (fi (a,b,c,s) n.toNat).2.2.2))
 | _=>ag}
def aa7:List Dat→Ann
 | [.i n,.i a,.i b,.i c,.r s] => {cut:= [],loop:= [(4,[la 36 [(1,Fj),(7,.own 2),(8,i64),(13,i64),(14,i64)] [eV,ob,oe] (fun
   | [.i t,.i m,.i i,.i a',.i b',.i c',.r s',.r o] =>m=n∧0≤i∧i≤n∧(o,t,0,(a',b',c',s'))=fi (a,b,c,s) i.toNat
   | _=>False) (fun | [_,.i m,.i i,_,_,_,_,_] =>(m-i).toNat | _=>0)])]}
 | _=> {cut:= [],loop:= []}
def agE:Ct:= {ps:= [KT,i64],bs:= [eV,ob],pre:=fun | [.i n,.i a,.i b,.i c,.r s] =>0≤n∧n≤1000∧cg 800000000 (a,b,c,s) | _=>False,res:=fun
 | [.i n,.i a,.i b,.i c,.r s] => .ite (decide ((fi (a,b,c,s) n.toNat).2.2.1=0))
   (.ret (.tup [.own 2,i64]) [eV,ob,oe] (.i 0::dS (fi (a,b,c,s) n.toNat).2.2.2++ [.r (fi (a,b,c,s) n.toNat).1]))
   (.ret (.tup [.nils,i64]) [eV,ob] (.i (fi (a,b,c,s) n.toNat).2.2.1::dS (fi (a,b,c,s) n.toNat).2.2.2))
 | _=>ag}
def ap9:Ct:= {ps:= [KT,i64],bs:= [eV,ob],pre:=fun | [.i n,.i a,.i b,.i c,.r s] =>db (a,b,c,s)∧n≤1000000 | _=>False,res:=fun
 | [.i n,.i a,.i b,.i c,.r s] => .ret (.own 2) [eV,ob,ob] (dS (aU (a,b,c,s) n.toNat)++ [.r (kr (a,b,c,s) n.toNat)])
 | _=>ag}
def aqQ:Ct:= {ps:= [.ptr 0 0],bs:= [eV,ob],pre:=fun | [.i a,.i b,.i c,.r s] =>db (a,b,c,s) | _=>False,res:=fun
 | [.i a,.i b,.i c,.r s] => .ret (.tup []) [eV,ob] (dS (nL (a,b,c,s)))
 | _=>ag}
abbrev Tr:=Int×LD×Int×Sp×Int
def bP (it:LD) (t:Int) (d:LD) (p:Int) (x:Sp):Tr:=hid <|
 if a9 t d≠0 then (a9 t d,[],p,x,a9 t d) else if cm it p 1 t (aX t d)=false then (10,[],p,x,10) else if cG t d≠0 then (cG t d,[],p+1,x,cG t d) else (0,[],p+1,d9 1 t (aX t d) d x,0)
def cP (it:LD) (n p:Int) (x:Sp):Tr:=hid <|
 if cm it p 2 1 n=false then (10,[],p,x,10) else (0,kr (d9 2 1 n [] x) n.toNat,p+1,aU (d9 2 1 n [] x) n.toNat,0)
def mS (n:Int) (x:Sp):LD×Int×Int×Sp:=fi (d9 2 3 n [] x) n.toNat
def bQ (it:LD) (n p:Int) (x:Sp):Tr:=hid <|
 if cm it p 2 3 n=false then (10,[],p,x,10) else if (mS n x).2.2.1≠0 then ((mS n x).2.2.1,[],p+1,(mS n x).2.2.2,(mS n x).2.2.1) else (0,(mS n x).1,p+1,(mS n x).2.2.2,0)
def cW (it:LD) (p:Int) (x:Sp):Tr:=hid <|
 if cm it p 3 0 1=false then (10,[],p,x,10) else (0,[],p+1,nL (d9 3 0 1 [] x),0)
def afL (it:LD) (p:Int) (x:Sp):Tr:=hid <| if p=it.length then (0,[],p,x,0) else (12,[],p,x,12)
def aci (tg:List Int) (it:LD) (r:Tr):Res:= .ite (decide (r.2.2.2.2=0)) (.ret i64 me (.i r.1::dA tg it r.2.2.1 r.2.2.2.1)) (.ret i64 np (.i r.1::dX tg it r.2.2.1 r.2.2.2.1 r.2.2.2.2))
def afp (o:BPat) (tg:List Int) (it:LD) (r:Tr):Res:= .ite (decide (r.2.2.2.2=0)) (.ret (.tup [.own 4,i64]) [SZ,gA,Rm,ob,o] (.i r.1::dA tg it r.2.2.1 r.2.2.2.1++ [.r r.2.1])) (.ret (.tup [.nils,i64]) np (.i r.1::dX tg it r.2.2.1 r.2.2.2.1 r.2.2.2.2))
def mN (it:LD) (p:Int) (x:Sp):Prop:=az it p∧spQ x
def afO:Ct:= {ps:= [.ptr 0 0,i64,rb],bs:=me,pre:=fun | [.i t,.r d,.li _,.r it,.i p,.i a,.i b,.i c,.r s] =>bX d∧mN it p (a,b,c,s) | _=>False,res:=fun
 | [.i t,.r d,.li tg,.r it,.i p,.i a,.i b,.i c,.r s] =>aci tg it (bP it t d p (a,b,c,s))
 | _=>ag}
def afE:Ct:= {ps:= [.ptr 0 0,i64,rb],bs:=np,pre:=fun | [.i t,.r d,.li _,.r _,.i _,.i _,.i _,.i _,.r _,.i w] =>w≠0 | _=>False,res:=fun
 | [.i t,.r d,.li tg,.r it,.i p,.i a,.i b,.i c,.r s,.i w] => .ret i64 np (.i w::dX tg it p (a,b,c,s) w)
 | _=>ag}
def aeR:Ct:= {ps:= [.ptr 0 0,i64],bs:=me,pre:=fun | [.i n,.li _,.r it,.i p,.i a,.i b,.i c,.r s] =>0≤n∧n≤1000∧mN it p (a,b,c,s) | _=>False,res:=fun
 | [.i n,.li tg,.r it,.i p,.i a,.i b,.i c,.r s] =>afp ob tg it (cP it n p (a,b,c,s))
 | _=>ag}
def Sb:Ct:= {ps:= [.ptr 0 0,i64],bs:=np,pre:=fun | [.i n,.li _,.r it,.i p,.i _,.i _,.i _,.r _,.i w] =>az it p∧w≠0 | _=>False,res:=fun
 | [.i n,.li tg,.r it,.i p,.i a,.i b,.i c,.r s,.i w] => .ret (.tup [.nils,i64]) np (.i w::dX tg it p (a,b,c,s) w)
 | _=>ag}
def acP:Ct:= {ps:= [.ptr 0 0,i64],bs:=me,pre:=fun | [.i n,.li _,.r it,.i p,.i a,.i b,.i c,.r s] =>0≤n∧n≤1000∧mN it p (a,b,c,s) | _=>False,res:=fun
 | [.i n,.li tg,.r it,.i p,.i a,.i b,.i c,.r s] =>afp oe tg it (bQ it n p (a,b,c,s))
 | _=>ag}
def aiP:Ct:=Sb
def ajC:Ct:= {ps:= [.ptr 0 0],bs:=me,pre:=fun | [.li _,.r it,.i p,.i a,.i b,.i c,.r s] =>mN it p (a,b,c,s) | _=>False,res:=fun
 | [.li tg,.r it,.i p,.i a,.i b,.i c,.r s] =>aci tg it (cW it p (a,b,c,s))
 | _=>ag}
def aiZ:Ct:= {ps:= [.ptr 0 0],bs:=np,pre:=fun | [.li _,.r it,.i p,.i _,.i _,.i _,.r _,.i w] =>az it p∧w≠0 | _=>False,res:=fun
 | [.li tg,.r it,.i p,.i a,.i b,.i c,.r s,.i w] => .ret i64 np (.i w::dX tg it p (a,b,c,s) w)
 | _=>ag}
def II:LD→LD
 | [] => []
 | r::l=>(kV ((asg 4).map fun c=>(r.getD c (CD.int 0)).toInt)).map ae++II l
def c5 (it:LD) (k t n:Int) (d:LD) (p:Int) (x:Sp):Tr:=hid <|
 if k=0 then bP it t d p x else if k=1 then cP it n p x else if k=2 then ((bQ it n p x).1,II (bQ it n p x).2.1,(bQ it n p x).2.2) else if k=3 then cW it p x else afL it p x
def X5:Prop:=
 ∀ (a b c:Int) (d:LD) (e f g:Int) (h:LD),
 lM d→
 bX d∧db (e,f,g,h)→
 bX d∧
 (db (e,f,g,h)∧
 av (hU a b c d)∧
 (hU a b c d).length≤1000000)∧
 (b7 (hU a b c d) (e,f,g,h) (hU a b c d).length).fst=
 (d9 a b c d (e,f,g,h)).fst∧
 (b7 (hU a b c d) (e,f,g,h)
 (hU a b c d).length).snd.fst=
 (d9 a b c d (e,f,g,h)).snd.fst∧
 (b7 (hU a b c d) (e,f,g,h)
 (hU a b c d).length).snd.snd.fst=
 (d9 a b c d (e,f,g,h)).snd.snd.fst∧
 (b7 (hU a b c d) (e,f,g,h)
 (hU a b c d).length).snd.snd.snd=
 (d9 a b c d (e,f,g,h)).snd.snd.snd
def Ra:ac:=ak XO 274 (aq acr)
abbrev nA (a b c d:Int)(e:LD):Int:=
 (fi (a,b,c,e) d.toNat).snd.snd.fst
abbrev oz (a b c d:Int)(e:LD):Int:=
 (fi (a,b,c,e) d.toNat).snd.snd.snd.fst
abbrev nE (a b c d:Int)(e:LD):Int:=
 (fi (a,b,c,e) d.toNat).snd.snd.snd.snd.fst
abbrev nG (a b c d:Int)(e:LD):Int:=
 (fi (a,b,c,e) d.toNat).snd.snd.snd.snd.snd.fst
abbrev oA (a b c d:Int)(e:LD):LD:=
 (fi (a,b,c,e) d.toNat).snd.snd.snd.snd.snd.snd
abbrev tN:List SV:=
 [.int .i64 0]
abbrev ol:SV:=
 .iface (253:TypeId) (.agg [])
abbrev Da (a:LD):Blk:=
 .own (5:TypeId) [.int .u8] a
abbrev Io:List CSh:=
 [.int .u64,.int .u64,.int .u64,.int .u64]
def Yw:Prop:=
 ∀ (a b c d:Int) (e:LD),
 0≤a∧a≤1000∧cg 800000000 (b,c,d,e)→
 ((max a 0=a∧(0:Int)≤0∧0≤a∧([],0,0,b,c,d,e)=fi (b,c,d,e) 0)∧
 True)∧
 ∀ (f g h i j k:Int) (m o:LD),
 lM o→
 g=a∧0≤h∧h≤a∧(o,f,0,i,j,k,m)=fi (b,c,d,e) h.toNat→
 bif decide (h<g) then
 BR (i,j,k,m)∧
 iR (f+(aC (i,j,k,m)).snd.fst)∧
 bif decide ((aC (i,j,k,m)).snd.snd.fst≠0) then
 bif decide (nA b c d a e=0) then
 f+(aC (i,j,k,m)).snd.fst=(fi (b,c,d,e) a.toNat).snd.fst∧
 (aC (i,j,k,m)).snd.snd.fst=0∧
 (aC (i,j,k,m)).snd.snd.snd.fst=oz b c d a e∧
 (aC (i,j,k,m)).snd.snd.snd.snd.fst=nE b c d a e∧
 (aC (i,j,k,m)).snd.snd.snd.snd.snd.fst=nG b c d a e∧
 (aC (i,j,k,m)).snd.snd.snd.snd.snd.snd=oA b c d a e∧
 [] =(fi (b,c,d,e) a.toNat).fst
 else
 f+(aC (i,j,k,m)).snd.fst=(fi (b,c,d,e) a.toNat).snd.fst∧
 (aC (i,j,k,m)).snd.snd.fst=nA b c d a e∧
 (aC (i,j,k,m)).snd.snd.snd.fst=oz b c d a e∧
 (aC (i,j,k,m)).snd.snd.snd.snd.fst=nE b c d a e∧
 (aC (i,j,k,m)).snd.snd.snd.snd.snd.fst=nG b c d a e∧
 (aC (i,j,k,m)).snd.snd.snd.snd.snd.snd=oA b c d a e
 else
 aR (o.length+1) 32∧
 iR (h+1)∧
 (g=a∧
 0≤h+1∧
 h+1≤a∧
 (o++
 [[.int ((aC (i,j,k,m)).fst.getD 0 0),
 .int ((aC (i,j,k,m)).fst.getD 1 0),
 .int ((aC (i,j,k,m)).fst.getD 2 0),
 .int ((aC (i,j,k,m)).fst.getD 3 0)]],
 f+(aC (i,j,k,m)).snd.fst,0,
 (aC (i,j,k,m)).snd.snd.snd.fst,
 (aC (i,j,k,m)).snd.snd.snd.snd.fst,
 (aC (i,j,k,m)).snd.snd.snd.snd.snd.fst,
 (aC (i,j,k,m)).snd.snd.snd.snd.snd.snd)=
 fi (b,c,d,e) (h+1).toNat)∧
 (g-(h+1)).toNat<(g-h).toNat
 else
 bif decide (nA b c d a e=0) then
 f=(fi (b,c,d,e) a.toNat).snd.fst∧
 (0:Int)=0∧
 i=oz b c d a e∧
 j=nE b c d a e∧
 k=nG b c d a e∧
 m=oA b c d a e∧o=(fi (b,c,d,e) a.toNat).fst
 else
 Miss 2 eS
def SN:ac:=ak Ra 276 (aq ala)
def ZI:Prop:=
 ∀ (a b c d:Int) (e:LD),
 0≤a∧a≤1000∧cg (800000000:Int) (b,c,d,e)→
 (0≤a∧a≤1000∧cg (800000000:Int) (b,c,d,e))∧
 bif decide (nA b c d a e=0) then
 bif decide (nA b c d a e=0) then
 (0:Int)=0∧
 oz b c d a e=oz b c d a e∧
 nE b c d a e=nE b c d a e∧
 nG b c d a e=nG b c d a e∧
 oA b c d a e=oA b c d a e∧
 (fi (b,c,d,e) a.toNat).fst=(fi (b,c,d,e) a.toNat).fst
 else
 Miss 2 eS
 else
 bif decide (nA b c d a e=0) then
 nA b c d a e=0∧
 oz b c d a e=oz b c d a e∧
 nE b c d a e=nE b c d a e∧
 nG b c d a e=nG b c d a e∧
 oA b c d a e=oA b c d a e∧
 [] =(fi (b,c,d,e) a.toNat).fst
 else
 nA b c d a e=nA b c d a e∧
 oz b c d a e=oz b c d a e∧
 nE b c d a e=nE b c d a e∧
 nG b c d a e=nG b c d a e∧
 oA b c d a e=oA b c d a e
def SH:ac:=ak SN 273 (aq agE)
def avA:Prop:=
 ∀ (a b c d:Int) (e:LD),
 db (b,c,d,e)∧a≤1000000→
 (db (b,c,d,e)∧a≤1000000)∧
 (aU (b,c,d,e) a.toNat).fst=(aU (b,c,d,e) a.toNat).fst∧
 (aU (b,c,d,e) a.toNat).snd.fst=(aU (b,c,d,e) a.toNat).snd.fst∧
 (aU (b,c,d,e) a.toNat).snd.snd.fst=(aU (b,c,d,e) a.toNat).snd.snd.fst∧
 (aU (b,c,d,e) a.toNat).snd.snd.snd=(aU (b,c,d,e) a.toNat).snd.snd.snd∧
 kr (b,c,d,e) a.toNat=kr (b,c,d,e) a.toNat
def Q6:ac:=ak SH 272 (aq ap9)
def avc:Prop:=
 ∀ (a b c:Int) (d:LD),
 db (a,b,c,d)→
 (d.length=200∧av d∧0≤c∧c≤2000000000)∧
 True∧
 ((0:Int)≤0∧
 (0:Int)≤136∧
 136≤(↑(fD d).length:Int)∧(0:Int)<(↑(fD d).length:Int))∧
 True∧
 0=(nL (a,b,c,d)).fst∧
 136=(nL (a,b,c,d)).snd.fst∧
 c+1=(nL (a,b,c,d)).snd.snd.fst∧
 gj (fD d) 0 136
 (have y:=
 have y:=
 have y:=
 have y:=
 have y:= [[.int 0],[.int 0],[.int 0],[.int 0],[.int 0]];
 [.int 0] :: [.int 0] :: [.int 0] :: [.int 0] ::y;
 have y:= [.int 0] :: [.int 0] :: [.int 0] :: [.int 0] ::y;
 [.int 0] :: [.int 0] :: [.int 0] :: [.int 0] ::y;
 have y:=
 have y:=
 [.int 0] :: [.int 0] :: [.int 0] :: [.int 0] :: [.int 0] ::y;
 [.int 0] :: [.int 0] :: [.int 0] :: [.int 0] ::y;
 have y:= [.int 0] :: [.int 0] :: [.int 0] :: [.int 0] ::y;
 [.int 0] :: [.int 0] :: [.int 0] :: [.int 0] ::y;
 have y:=
 have y:=
 have y:=
 [.int 0] :: [.int 0] :: [.int 0] :: [.int 0] :: [.int 0] ::y;
 [.int 0] :: [.int 0] :: [.int 0] :: [.int 0] ::y;
 have y:= [.int 0] :: [.int 0] :: [.int 0] :: [.int 0] ::y;
 [.int 0] :: [.int 0] :: [.int 0] :: [.int 0] ::y;
 have y:=
 have y:=
 [.int 0] :: [.int 0] :: [.int 0] :: [.int 0] :: [.int 0] ::y;
 [.int 0] :: [.int 0] :: [.int 0] :: [.int 0] ::y;
 have y:= [.int 0] :: [.int 0] :: [.int 0] :: [.int 0] ::y;
 [.int 0] :: [.int 0] :: [.int 0] :: [.int 0] ::y;
 have y:=
 have y:=
 have y:=
 have y:=
 [.int 0] :: [.int 0] :: [.int 0] :: [.int 0] :: [.int 0] ::y;
 [.int 0] :: [.int 0] :: [.int 0] :: [.int 0] ::y;
 have y:= [.int 0] :: [.int 0] :: [.int 0] :: [.int 0] ::y;
 [.int 0] :: [.int 0] :: [.int 0] :: [.int 0] ::y;
 have y:=
 have y:=
 [.int 0] :: [.int 0] :: [.int 0] :: [.int 0] :: [.int 0] ::y;
 [.int 0] :: [.int 0] :: [.int 0] :: [.int 0] ::y;
 have y:= [.int 0] :: [.int 0] :: [.int 0] :: [.int 0] ::y;
 [.int 0] :: [.int 0] :: [.int 0] :: [.int 0] ::y;
 have y:=
 have y:=
 have y:=
 [.int 0] :: [.int 0] :: [.int 0] :: [.int 0] :: [.int 0] ::y;
 [.int 0] :: [.int 0] :: [.int 0] :: [.int 0] ::y;
 have y:= [.int 0] :: [.int 0] :: [.int 0] :: [.int 0] ::y;
 [.int 0] :: [.int 0] :: [.int 0] :: [.int 0] ::y;
 have y:=
 have y:=
 [.int 0] :: [.int 0] :: [.int 0] :: [.int 0] :: [.int 0] ::y;
 [.int 0] :: [.int 0] :: [.int 0] :: [.int 0] ::y;
 have y:= [.int 0] :: [.int 0] :: [.int 0] :: [.int 0] ::y;
 [.int 0] :: [.int 0] :: [.int 0] :: [.int 0] ::y)=
 (nL (a,b,c,d)).snd.snd.snd
def QH:ac:=ak Q6 270 (aq aqQ)
abbrev i5 (a:List Int):Prop:=
 a.length=32
abbrev ma (a b c d e:Int)(f g h:LD):Int:=
 (bP f a g b (c,d,e,h)).snd.snd.snd.snd
abbrev sk (a b c d e:Int)(f g h:LD):Int:=
 (bP f a g b (c,d,e,h)).snd.snd.snd.fst.fst
abbrev sL (a b c d e:Int)(f g h:LD):Int:=
 (bP f a g b (c,d,e,h)).snd.snd.snd.fst.snd.fst
abbrev tc (a b c d e:Int)(f g h:LD):Int:=
 (bP f a g b (c,d,e,h)).snd.snd.snd.fst.snd.snd.fst
abbrev sZ (a b c d e:Int)(f g h:LD):LD:=
 (bP f a g b (c,d,e,h)).snd.snd.snd.fst.snd.snd.snd
abbrev uP (a:List Int):Blk:=
 .cells (128:TypeId)
 [.ptr 1 0,.arrI 32 .u8 a,.iface (133:TypeId) (.agg [.ptr 2 0])]
abbrev l9 (a:LD):SV:=
 .rd [.int .i64,.int .i64,.int .i64,.str] a
abbrev aj2 (a:Int)(b:LD):Blk:=
 .cells (185:TypeId) [l9 b,.int .i64 a,.nilp]
abbrev DD (a b c:Int):Blk:=
 .cells (298:TypeId)
 [ol,.own 3,.int .i64 a,.int .i64 b,.int .i64 c]
abbrev Iz (a:Int)(b:LD):Blk:=
 .cells (185:TypeId) [l9 b,.int .i64 a,.ptr 4 0]
abbrev DS (a:Int)(b:LD):Blk:=
 .cells (185:TypeId) [l9 b,.int .i64 (a+1),.nilp]
abbrev ac5 (a:Int)(b:LD):Blk:=
 .cells (151:Nat)
 [.int .i64 (1:Int),.int .i64 a,.int .i64 (aX a b),
 .rd [.int .u8] b]
abbrev DR (a:Int)(b:LD):Blk:=
 .cells (185:TypeId) [l9 b,.int .i64 a,.ptr 5 0]
abbrev Er:List Blk:=
 [.cells (204:TypeId) [.int .i64 10]]
def Wo:Prop:=
 ∀ (a:Int) (b:LD) (c:List Int) (d:LD) (e f g h:Int) (i:LD),
 lM b→
 i5 c→
 bX b∧mN d e (f,g,h,i)→
 True∧
 b.length≤1000∧
 bif decide (a9 a b≠0) then
 True∧
 bif decide (a9 a b=0) then
 bif decide (ma a e f g h d b i=0) then
 0=(bP d a b e (f,g,h,i)).fst∧
 c=c∧
 d=d∧
 e=(bP d a b e (f,g,h,i)).snd.snd.fst∧
 f=sk a e f g h d b i∧
 g=sL a e f g h d b i∧
 h=tc a e f g h d b i∧i=sZ a e f g h d b i
 else
 Miss 2 eS
 else
 bif decide (ma a e f g h d b i=0) then
 Miss 2 eS
 else
 a9 a b=(bP d a b e (f,g,h,i)).fst∧
 c=c∧
 d=d∧
 e=(bP d a b e (f,g,h,i)).snd.snd.fst∧
 f=sk a e f g h d b i∧
 g=sL a e f g h d b i∧
 h=tc a e f g h d b i∧
 i=sZ a e f g h d b i∧
 a9 a b=ma a e f g h d b i
 else
 az d e∧
 bif cm d e 1 a (aX a b) then
 bX b∧
 bif decide (cG a b≠0) then
 True∧
 bif decide (cG a b=0) then
 bif decide (ma a e f g h d b i=0) then
 0=(bP d a b e (f,g,h,i)).fst∧
 c=c∧
 d=d∧
 e+1=(bP d a b e (f,g,h,i)).snd.snd.fst∧
 f=sk a e f g h d b i∧
 g=sL a e f g h d b i∧
 h=tc a e f g h d b i∧i=sZ a e f g h d b i
 else
 Miss 2 eS
 else
 bif decide (ma a e f g h d b i=0) then
 Miss 2 eS
 else
 cG a b=(bP d a b e (f,g,h,i)).fst∧
 c=c∧
 d=d∧
 e+1=(bP d a b e (f,g,h,i)).snd.snd.fst∧
 f=sk a e f g h d b i∧
 g=sL a e f g h d b i∧
 h=tc a e f g h d b i∧
 i=sZ a e f g h d b i∧
 cG a b=ma a e f g h d b i
 else
 (bX b∧db (f,g,h,i))∧
 bif decide (ma a e f g h d b i=0) then
 0=(bP d a b e (f,g,h,i)).fst∧
 c=c∧
 d=d∧
 e+1=(bP d a b e (f,g,h,i)).snd.snd.fst∧
 (d9 1 a (aX a b) b (f,g,h,i)).fst=
 sk a e f g h d b i∧
 (d9 1 a (aX a b) b (f,g,h,i)).snd.fst=
 sL a e f g h d b i∧
 (d9 1 a (aX a b) b (f,g,h,i)).snd.snd.fst=
 tc a e f g h d b i∧
 (d9 1 a (aX a b) b (f,g,h,i)).snd.snd.snd=
 sZ a e f g h d b i
 else
 Miss 2 eS
 else
 bif decide (ma a e f g h d b i=0) then
 Miss 2 eS
 else
 10=(bP d a b e (f,g,h,i)).fst∧
 c=c∧
 d=d∧
 e=(bP d a b e (f,g,h,i)).snd.snd.fst∧
 f=sk a e f g h d b i∧
 g=sL a e f g h d b i∧
 h=tc a e f g h d b i∧
 i=sZ a e f g h d b i∧10=ma a e f g h d b i
abbrev qH (a b c:Int)(d:LD):Int:=
 (a,b,c,d).snd.snd.fst
abbrev qk (a b c:Int)(d:LD):LD:=
 (a,b,c,d).snd.snd.snd
abbrev kJ (a b c d e:Int)(f g:LD)(h:List Int):Prop:=
 a=a∧
 h=h∧
 f=f∧
 b=b∧
 c=(c,d,e,g).fst∧d=(c,d,e,g).snd.fst∧e=qH c d e g∧g=qk c d e g∧a=a
def Y3:Prop:=
 ∀ (a:Int) (b:LD) (c:List Int) (d:LD) (e f g h:Int) (i:LD) (j:Int),
 lM b→
 i5 c→
 j≠0→
 True∧
 bif decide (j≠0) then kJ j e f g h d i c
 else
 b.length≤1000∧
 bif decide (a9 a b≠0) then True∧kJ j e f g h d i c
 else
 (az d e∧j≠0)∧
 bif decide (j≠0) then kJ j e f g h d i c
 else
 bX b∧
 bif decide (cG a b≠0) then True∧kJ j e f g h d i c
 else
 (bX b∧db (f,g,h,i))∧
 0=j∧
 c=c∧
 d=d∧
 e=e∧
 (d9 1 a (aX a b) b (f,g,h,i)).fst=(f,g,h,i).fst∧
 (d9 1 a (aX a b) b (f,g,h,i)).snd.fst=
 (f,g,h,i).snd.fst∧
 (d9 1 a (aX a b) b (f,g,h,i)).snd.snd.fst=
 qH f g h i∧
 (d9 1 a (aX a b) b (f,g,h,i)).snd.snd.snd=
 qk f g h i∧
 j=j
def W5:ac:=ak QH 51 (eF afO (aq afE))
abbrev jM (a b c d:Int)(e:LD):Int×Int×Int×LD:=
 ((d9 2 1 a [] (b,c,d,e)).fst,(d9 2 1 a [] (b,c,d,e)).snd.fst,
 (d9 2 1 a [] (b,c,d,e)).snd.snd.fst,
 (d9 2 1 a [] (b,c,d,e)).snd.snd.snd)
abbrev C9 (a b c d e:Int)(f g:LD):Int:=
 (cP f a b (c,d,e,g)).snd.snd.snd.snd
abbrev Lf (a b c d e:Int)(f g:LD):Int:=
 (cP f a b (c,d,e,g)).snd.snd.snd.fst.fst
abbrev IG (a b c d e:Int)(f g:LD):Int:=
 (cP f a b (c,d,e,g)).snd.snd.snd.fst.snd.fst
abbrev LG (a b c d e:Int)(f g:LD):Int:=
 (cP f a b (c,d,e,g)).snd.snd.snd.fst.snd.snd.fst
abbrev LU (a b c d e:Int)(f g:LD):LD:=
 (cP f a b (c,d,e,g)).snd.snd.snd.fst.snd.snd.snd
abbrev Rr (a b c d:Int)(e:LD):Blk:=
 .cells (298:TypeId)
 [ol,.own 3,
 .int .i64 (aU (jM a b c d e) a.toNat).fst,
 .int .i64 (aU (jM a b c d e) a.toNat).snd.fst,
 .int .i64 (aU (jM a b c d e) a.toNat).snd.snd.fst]
abbrev Tt (a:Int):Blk:=
 .cells (151:Nat) [.int .i64 (2:Int),.int .i64 (1:Int),.int .i64 a,.nils]
def We:Prop:=
 ∀ (a:Int) (b:List Int) (c:LD) (d e f g:Int) (h:LD),
 i5 b→
 0≤a∧a≤1000∧mN c d (e,f,g,h)→
 az c d∧
 bif cm c d 2 1 a then
 (bX [] ∧db (e,f,g,h))∧
 (db (jM a e f g h)∧a≤1000000)∧
 bif decide (C9 a d e f g c h=0) then
 0=(cP c a d (e,f,g,h)).fst∧
 b=b∧
 c=c∧
 d+1=(cP c a d (e,f,g,h)).snd.snd.fst∧
 (aU (jM a e f g h) a.toNat).fst=
 Lf a d e f g c h∧
 (aU (jM a e f g h) a.toNat).snd.fst=
 IG a d e f g c h∧
 (aU (jM a e f g h) a.toNat).snd.snd.fst=
 LG a d e f g c h∧
 (aU (jM a e f g h) a.toNat).snd.snd.snd=
 LU a d e f g c h∧
 kr (jM a e f g h) a.toNat=
 (cP c a d (e,f,g,h)).snd.fst
 else
 Miss 2 eS
 else
 bif decide (C9 a d e f g c h=0) then
 Miss 2 eS
 else
 10=(cP c a d (e,f,g,h)).fst∧
 b=b∧
 c=c∧
 d=(cP c a d (e,f,g,h)).snd.snd.fst∧
 e=Lf a d e f g c h∧
 f=IG a d e f g c h∧
 g=LG a d e f g c h∧
 h=LU a d e f g c h∧10=C9 a d e f g c h
def Xl:Prop:=
 ∀ (a:Int) (b:List Int) (c:LD) (d e f g:Int) (h:LD) (i:Int),
 i5 b→
 az c d∧i≠0→
 (az c d∧i≠0)∧
 bif decide (i≠0) then kJ i d e f g c h b
 else
 (bX [] ∧db (e,f,g,h))∧
 (db (jM a e f g h)∧a≤1000000)∧
 Miss 2 eS
def Vz:ac:=ak W5 52 (eF aeR (aq Sb))
abbrev mg (a b c d:Int)(e:LD):Int×Int×Int×LD:=
 ((d9 2 3 a [] (b,c,d,e)).fst,(d9 2 3 a [] (b,c,d,e)).snd.fst,
 (d9 2 3 a [] (b,c,d,e)).snd.snd.fst,
 (d9 2 3 a [] (b,c,d,e)).snd.snd.snd)
abbrev n5 (a b c d:Int)(e:LD):Int:=
 (fi (mg a b c d e) a.toNat).snd.snd.fst
abbrev sn (a b c d e:Int)(f g:LD):Int:=
 (bQ f a b (c,d,e,g)).snd.snd.snd.snd
abbrev yz (a b c d:Int)(e:LD):Int:=
 (fi (mg a b c d e) a.toNat).snd.snd.snd.fst
abbrev Ff (a b c d e:Int)(f g:LD):Prop:=
 yz a b c d f=(bQ g a e (b,c,d,f)).snd.snd.snd.fst.fst
abbrev rQ (a b c d:Int)(e:LD):Int:=
 (fi (mg a b c d e) a.toNat).snd.snd.snd.snd.fst
abbrev Am (a b c d e:Int)(f g:LD):Int:=
 (bQ f a b (c,d,e,g)).snd.snd.snd.fst.snd.fst
abbrev tf (a b c d:Int)(e:LD):Int:=
 (fi (mg a b c d e) a.toNat).snd.snd.snd.snd.snd.fst
abbrev zo (a b c d e:Int)(f g:LD):Int:=
 (bQ f a b (c,d,e,g)).snd.snd.snd.fst.snd.snd.fst
abbrev sE (a b c d:Int)(e:LD):LD:=
 (fi (mg a b c d e) a.toNat).snd.snd.snd.snd.snd.snd
abbrev zS (a b c d e:Int)(f g:LD):LD:=
 (bQ f a b (c,d,e,g)).snd.snd.snd.fst.snd.snd.snd
abbrev IA (a b c d e:Int)(f g:LD):LD:=
 (bQ f a b (c,d,e,g)).snd.fst
abbrev Sx (a b c d:Int)(e:LD):Blk:=
 .cells (298:TypeId)
 [ol,.own 3,.int .i64 (yz a b c d e),
 .int .i64 (rQ a b c d e),.int .i64 (tf a b c d e)]
abbrev Qu (a b c d:Int)(e:LD):Blk:=
 .own (5:TypeId) [.int .u8] (sE a b c d e)
abbrev S7 (a:Int):Blk:=
 .cells (151:Nat) [.int .i64 (2:Int),.int .i64 (3:Int),.int .i64 a,.nils]
abbrev LV (a b c d e:Int)(f g:LD)(h:List Int):Prop:=
 bif decide (sn a b c d e f g=0) then
 0=(bQ f a b (c,d,e,g)).fst∧
 h=h∧
 f=f∧
 b+1=(bQ f a b (c,d,e,g)).snd.snd.fst∧
 Ff a c d e b g f∧
 rQ a c d e g=Am a b c d e f g∧
 tf a c d e g=zo a b c d e f g∧
 sE a c d e g=zS a b c d e f g∧
 [] =IA a b c d e f g
else
 Miss 2 eS
def YA:Prop:=
 ∀ (a:Int) (b:List Int) (c:LD) (d e f g:Int) (h:LD),
 i5 b→
 0≤a∧a≤1000∧mN c d (e,f,g,h)→
 az c d∧
 bif cm c d 2 3 a then
 (bX [] ∧db (e,f,g,h))∧
 (0≤a∧a≤1000∧cg 800000000 (mg a e f g h))∧
 bif decide (n5 a e f g h=0) then
 bif decide (sn a d e f g c h=0) then
 0=(bQ c a d (e,f,g,h)).fst∧
 b=b∧
 c=c∧
 d+1=(bQ c a d (e,f,g,h)).snd.snd.fst∧
 Ff a e f g d h c∧
 rQ a e f g h=Am a d e f g c h∧
 tf a e f g h=zo a d e f g c h∧
 sE a e f g h=zS a d e f g c h∧
 (fi (mg a e f g h) a.toNat).fst=
 IA a d e f g c h
 else
 Miss 2 eS
 else
 bif decide (n5 a e f g h≠0) then
 True∧
 bif decide (n5 a e f g h=0) then LV a d e f g c h b
 else
 bif decide (sn a d e f g c h=0) then
 Miss 2 eS
 else
 n5 a e f g h=(bQ c a d (e,f,g,h)).fst∧
 b=b∧
 c=c∧
 d+1=(bQ c a d (e,f,g,h)).snd.snd.fst∧
 Ff a e f g d h c∧
 rQ a e f g h=Am a d e f g c h∧
 tf a e f g h=zo a d e f g c h∧
 sE a e f g h=zS a d e f g c h∧
 n5 a e f g h=sn a d e f g c h
 else LV a d e f g c h b
 else
 bif decide (sn a d e f g c h=0) then
 Miss 2 eS
 else
 10=(bQ c a d (e,f,g,h)).fst∧
 b=b∧
 c=c∧
 d=(bQ c a d (e,f,g,h)).snd.snd.fst∧
 e=(bQ c a d (e,f,g,h)).snd.snd.snd.fst.fst∧
 f=Am a d e f g c h∧
 g=zo a d e f g c h∧
 h=zS a d e f g c h∧10=sn a d e f g c h
abbrev JL (a b c d e f:Int)(g h:LD)(i:List Int):Prop:=
 i=i∧
 g=g∧
 a=a∧
 yz b c d e h=(c,d,e,h).fst∧
 rQ b c d e h=(c,d,e,h).snd.fst∧
 tf b c d e h=qH c d e h∧
 sE b c d e h=qk c d e h∧f=f
def Vp:Prop:=
 ∀ (a:Int) (b:List Int) (c:LD) (d e f g:Int) (h:LD) (i:Int),
 i5 b→
 az c d∧i≠0→
 (az c d∧i≠0)∧
 bif decide (i≠0) then kJ i d e f g c h b
 else
 (bX [] ∧db (e,f,g,h))∧
 (0≤a∧a≤1000∧cg 800000000 (mg a e f g h))∧
 bif decide (n5 a e f g h=0) then
 Miss 2 eS
 else
 bif decide (n5 a e f g h≠0) then True∧i=i∧JL d a e f g i c h b
 else 0=i∧JL d a e f g i c h b
def Wu:ac:=ak Vz 53 (eF acP (aq aiP))
abbrev jP (a b c:Int)(d:LD):Int×Int×Int×LD:=
 ((d9 3 0 1 [] (a,b,c,d)).fst,
 (d9 3 0 1 [] (a,b,c,d)).snd.fst,
 (d9 3 0 1 [] (a,b,c,d)).snd.snd.fst,
 (d9 3 0 1 [] (a,b,c,d)).snd.snd.snd)
abbrev Ev (a b c d:Int)(e f:LD):Int:=
 (cW e a (b,c,d,f)).snd.snd.snd.snd
abbrev IT (a b c d:Int)(e f:LD):Int:=
 (cW e a (b,c,d,f)).snd.snd.snd.fst.fst
abbrev LP (a b c d:Int)(e f:LD):Int:=
 (cW e a (b,c,d,f)).snd.snd.snd.fst.snd.fst
abbrev KY (a b c d:Int)(e f:LD):Int:=
 (cW e a (b,c,d,f)).snd.snd.snd.fst.snd.snd.fst
abbrev Jg (a b c d:Int)(e f:LD):LD:=
 (cW e a (b,c,d,f)).snd.snd.snd.fst.snd.snd.snd
abbrev ak0:Blk:=
 .cells (151:Nat) [.int .i64 (3:Int),.int .i64 (0:Int),.int .i64 (1:Int),.nils]
def X0:Prop:=
 ∀ (a:List Int) (b:LD) (c d e f:Int) (g:LD),
 i5 a→
 mN b c (d,e,f,g)→
 az b c∧
 bif cm b c 3 0 1 then
 (bX [] ∧db (d,e,f,g))∧
 db (jP d e f g)∧
 bif decide (Ev c d e f b g=0) then
 0=(cW b c (d,e,f,g)).fst∧
 a=a∧
 b=b∧
 c+1=(cW b c (d,e,f,g)).snd.snd.fst∧
 (nL (jP d e f g)).fst=
 IT c d e f b g∧
 (nL (jP d e f g)).snd.fst=
 LP c d e f b g∧
 (nL (jP d e f g)).snd.snd.fst=
 KY c d e f b g∧
 (nL (jP d e f g)).snd.snd.snd=
 Jg c d e f b g
 else
 Miss 2 eS
 else
 bif decide (Ev c d e f b g=0) then
 Miss 2 eS
 else
 10=(cW b c (d,e,f,g)).fst∧
 a=a∧
 b=b∧
 c=(cW b c (d,e,f,g)).snd.snd.fst∧
 d=IT c d e f b g∧
 e=LP c d e f b g∧
 f=KY c d e f b g∧
 g=Jg c d e f b g∧10=Ev c d e f b g
def Wa:Prop:=
 ∀ (a:List Int) (b:LD) (c d e f:Int) (g:LD) (h:Int),
 i5 a→
 az b c∧h≠0→
 (az b c∧h≠0)∧
 bif decide (h=0) then
 (bX [] ∧db (d,e,f,g))∧
 db (jP d e f g)∧
 h=h∧
 a=a∧
 b=b∧
 c=c∧
 (nL (jP d e f g)).fst=(d,e,f,g).fst∧
 (nL (jP d e f g)).snd.fst=(d,e,f,g).snd.fst∧
 (nL (jP d e f g)).snd.snd.fst=
 qH d e f g∧
 (nL (jP d e f g)).snd.snd.snd=
 qk d e f g∧
 h=h
 else kJ h c d e f b g a
def Vn:ac:=ak Wu 54 (eF ajC (aq aiZ))
theorem QR (k t n:Int) {l:LD} (h:av l):av (hU k t n l):=fun j=>by
 unfold hU
 split
 ·have b:∀ m:Int,0≤m%256∧m%256<256:=fun m=>by omega
  match j with
  | 0=>exact b k
  | 1=>exact b t
  | 2=>exact b n
  | 3=>exact b _
  | 4=>exact b _
  | 5=>exact b _
  | j+6=>exact h j
 ·exact ⟨asw 0,show (0:Int)<256 by decide⟩
theorem yx:¬ (10:Int)=0:=by decide
theorem ko:bX [] :=⟨rfl,asq _⟩
theorem sH {m:Int} (k t n:Int) {d:LD} (hd:bX d) {x:Sp} (h:cg m x):cg (m+1006) (d9 k t n d x):=by
 rw [d9,al]
 have h1:=IJ k t n d
 have h2:=hd.2
 exact aY (by omega) (DY (QR k t n (mK hd.1)) h _)
theorem adV:X5:=by
 delta X5 lM
 rintro k t n l a b c s _ ⟨hb,hs⟩
 have h1:=IJ k t n l
 have h2:=hb.2
 have hr:d9 k t n l (a,b,c,s)=b7 (hU k t n l) (a,b,c,s) (hU k t n l).length:=al _
 rw [hr]
 exact ⟨hb,⟨hs,QR k t n (mK hb.1),by omega⟩,rfl,rfl,rfl,rfl⟩
theorem Wx:(base.with Ra).Ok:=ab af3 (ai am af3 Tryz.func274 (by kernel_rfl) Tryz.call274 (by kernel_rfl) adV)
theorem Tj {m:Int} :∀ (f i:Nat) (x:Sp),cg m x→cg (m+32*f) (nn x f i).2.2.2
 | 0,i,x,h=>aY (by omega) h
 | f+1,i,x,h=>by
  have h1:=qm h 32
  rw [nn]
  split
  ·exact aY (by omega) (Tj f (i+1) _ h1)
  ·exact aY (by omega) h1
theorem aco {m:Int} {x:Sp} (h:cg m x):cg (m+2048) (aC x).2.2.2:=by
 rw [aC,al]
 exact Tj 64 0 x h
theorem rV (x:Sp) (n:Nat):fi x n=dE x n:=al _
theorem aoD {x:Sp} {i:Nat} (h:(dE x i).2.2.1=0):dE x (i+1)=if (aC (dE x i).2.2.2).2.2.1≠0 then ([],(dE x i).2.1+(aC (dE x i).2.2.2).2.1,(aC (dE x i).2.2.2).2.2.1,(aC (dE x i).2.2.2).2.2.2)
  else ((dE x i).1++ [cF (aC (dE x i).2.2.2).1],(dE x i).2.1+(aC (dE x i).2.2.2).2.1,0,(aC (dE x i).2.2.2).2.2.2):=by
 rw [dE,if_neg (not_not_intro h)]
theorem XZ {x:Sp} {i:Nat} (h:(dE x i).2.2.1≠0):∀ j,dE x (i+j)=dE x i
 | 0=>rfl
 | j+1=>by
  have ih:=XZ h j
  rw [show i+(j+1)=(i+j)+1 from rfl,dE,if_pos (by rw [ih];exact h),ih]
theorem JF {m:Int} {x:Sp} (h:cg m x):∀ i:Nat,cg (m+2048*i) (dE x i).2.2.2∧0≤(dE x i).2.1∧(dE x i).2.1≤128*i∧((dE x i).2.2.1=0→(dE x i).1.length=i)
 | 0=>⟨aY (by omega) h,asw _,by show (0:Int)≤_;omega,fun _=>rfl⟩
 | i+1=>by
  obtain ⟨h1,h2,h3,h4⟩:=JF h i
  have h5:=aco h1
  have h6:=y4 (dE x i).2.2.2
  rw [dE]
  split
  ·next e=>exact ⟨aY (by omega) h1,h2,by omega,fun e'=>absurd e' e⟩
  ·next e=>
   split
   ·next g=>exact ⟨aY (by omega) h5,by show 0≤_+_;omega,by show _+_≤_;omega,fun e'=>absurd e' g⟩
   ·exact ⟨aY (by omega) h5,by show 0≤_+_;omega,by show _+_≤_;omega,fun _=>by show (_++ [_]).length=_;rw [ce,h4 (Decidable.not_not.mp e)];rfl⟩
theorem akx:Yw:=by
 delta Yw lM iR aR nA oz nE nG oA tN ol Da Io
 rintro n a b c s ⟨h0,h1,hs⟩
 refine ⟨⟨⟨by omega,by omega,h0,(rV (a,b,c,s) 0).symm⟩,trivial⟩,?_⟩
 rintro t m i a' b' c' s' o _ ⟨rfl,g0,g1,he⟩
 obtain ⟨j,rfl⟩:=bx g0
 rw [aA,rV] at he
 obtain ⟨k1,k2,k3,k4⟩:=JF hs j
 have hst:= @aoD (a,b,c,s) j
 rw [← he] at k1 k2 k3 k4 hst
 have k5:=y4 (a',b',c',s')
 have hst:=hst rfl
 have k2:0≤t:=k2
 have k3:t≤128*(j:Int):=k3
 refine aa (fun h=> ?_) fun h=> ?_
 ·have h:=au h
  refine ⟨aY (by omega) k1,⟨by omega,by omega⟩,aa (fun e=> ?_) fun e=> ?_⟩
  ·have e:(aC (a',b',c',s')).2.2.1≠0:=au e
   rw [if_pos e] at hst
   have hn:dE (a,b,c,s) m.toNat=dE (a,b,c,s) (j+1):=by
    rw [show m.toNat=(j+1)+(m.toNat-(j+1)) from by omega]
    exact XZ (by rw [hst];exact e) _
   rw [rV,hn,hst]
   exact aa (fun e'=>absurd (au e') e) fun _=>⟨rfl,rfl,rfl,rfl,rfl,rfl⟩
  ·have e:¬ (aC (a',b',c',s')).2.2.1≠0:=aw e
   rw [if_neg e] at hst
   have k4:o.length=j:=k4 rfl
   rw [k4,show ((j:Int)+1).toNat=j+1 from by omega,rV,hst]
   exact ⟨⟨by omega,by omega⟩,⟨by omega,by omega⟩,⟨rfl,by omega,by omega,rfl⟩,by omega⟩
 ·have h:=aw h
  rw [show m.toNat=j from by omega,rV,← he]
  exact aa (fun _=>⟨rfl,rfl,rfl,rfl,rfl,rfl,rfl⟩) fun e=>jn rfl e
theorem Wd:(base.with SN).Ok:=ab Wx (ai aa7 Wx Tryz.func276 (by kernel_rfl) Tryz.call276 (by kernel_rfl) akx)
theorem ajM:ZI:=by
 delta ZI nA oz nE nG oA tN ol Io
 exact fun n a b c s h=>⟨h,aa (fun e=>aa (fun _=>⟨rfl,rfl,rfl,rfl,rfl,rfl⟩) fun e'=>eD e e') fun e=>aa (fun e'=>eD e' e) fun _=>⟨rfl,rfl,rfl,rfl,rfl⟩⟩
theorem WO:(base.with SH).Ok:=ab Wd (ai am Wd Tryz.func273 (by kernel_rfl) Tryz.call273 (by kernel_rfl) ajM)
theorem alk:avA:=fun n a b c s h=>⟨h,rfl,rfl,rfl,rfl,rfl⟩
theorem YB:(base.with Q6).Ok:=ab WO (ai am WO Tryz.func272 (by kernel_rfl) Tryz.call272 (by kernel_rfl) alk)
theorem al3:avc:=by
 rintro a b c s ⟨h1,h2,h3,h4,h5,h6,h7,h8⟩
 have:=j4 s
 have h5:0≤c:=h5
 have h6:c≤1000000000:=h6
 exact ⟨⟨h7,h8,h5,by omega⟩,trivial,⟨by omega,by omega,by omega,by omega⟩,trivial,rfl,rfl,rfl,rfl⟩
theorem Qp:(base.with QH).Ok:=ab YB (ai am YB Tryz.func270 (by kernel_rfl) Tryz.call270 (by kernel_rfl) al3)
theorem afl:Wo:=by
 delta Wo lM tN ol Da i5 ma sk sL tc sZ uP l9 aj2 DD Iz DS ac5 DR Er
 rintro t d tg it p a b c s _ _ ⟨hb,hp,hq⟩
 refine ⟨trivial,hb.2,aa (fun e=> ?_) fun e=> ?_⟩
 ·have e:=au e
  have hr:bP it t d p (a,b,c,s)=(a9 t d,[],p,(a,b,c,s),a9 t d):=by rw [bP,al,if_pos e]
  rw [hr]
  exact ⟨trivial,aa (fun e'=>absurd (au e') e) fun _=>aa (fun e'=>absurd (au e') e) fun _=>⟨rfl,rfl,rfl,rfl,rfl,rfl,rfl,rfl,rfl⟩⟩
 ·have e:=aw e
  refine ⟨hp,aa (fun g=> ?_) fun g=> ?_⟩
  ·have g':¬ cm it p 1 t (aX t d)=false:=by rw [g];decide
   refine ⟨hb,aa (fun k=> ?_) fun k=> ?_⟩
   ·have k:=au k
    have hr:bP it t d p (a,b,c,s)=(cG t d,[],p+1,(a,b,c,s),cG t d):=by rw [bP,al,if_neg e,if_neg g',if_pos k]
    rw [hr]
    exact ⟨trivial,aa (fun e'=>absurd (au e') k) fun _=>aa (fun e'=>absurd (au e') k) fun _=>⟨rfl,rfl,rfl,rfl,rfl,rfl,rfl,rfl,rfl⟩⟩
   ·have k:=aw k
    have hr:bP it t d p (a,b,c,s)=(0,[],p+1,d9 1 t (aX t d) d (a,b,c,s),0):=by rw [bP,al,if_neg e,if_neg g',if_neg k]
    rw [hr]
    exact ⟨⟨hb,aY (by omega) hq⟩,aa (fun _=>⟨rfl,rfl,rfl,rfl,rfl,rfl,rfl,rfl⟩) fun e'=>jn rfl e'⟩
  ·have hr:bP it t d p (a,b,c,s)=(10,[],p,(a,b,c,s),10):=by rw [bP,al,if_neg e,if_pos g]
   rw [hr]
   exact aa (fun e'=>iM yx e') fun _=>⟨rfl,rfl,rfl,rfl,rfl,rfl,rfl,rfl,rfl⟩
theorem afh:Y3:=by
 delta Y3 lM i5 qH qk kJ
 exact fun t d tg it p a b c s w _ _ h=>⟨trivial,aa (fun _=>⟨rfl,rfl,rfl,rfl,rfl,rfl,rfl,rfl,rfl⟩) fun e=>jn h e⟩
theorem UU:(base.with W5).Ok:=ab Qp (ci (ai am Qp Tryz.func51 (by kernel_rfl) Tryz.call51 (by kernel_rfl) afl) (ai am Qp Tryz.func51 (by kernel_rfl) Tryz.call51 (by kernel_rfl) afh))
theorem agD:We:=by
 delta We tN ol Da i5 uP l9 DD DS DR Er jM C9 Lf IG LG LU Rr Tt
 rintro n tg it p a b c s _ ⟨h0,h1,hp,hq⟩
 refine ⟨hp,aa (fun g=> ?_) fun g=> ?_⟩
 ·have g':¬ cm it p 2 1 n=false:=by rw [g];decide
  have hr:cP it n p (a,b,c,s)=(0,kr (d9 2 1 n [] (a,b,c,s)) n.toNat,p+1,aU (d9 2 1 n [] (a,b,c,s)) n.toNat,0):=by rw [cP,al,if_neg g']
  rw [hr]
  exact ⟨⟨ko,aY (by omega) hq⟩,⟨aY (by omega) (sH 2 1 n ko hq),by omega⟩,aa (fun _=>⟨rfl,rfl,rfl,rfl,rfl,rfl,rfl,rfl,rfl⟩) fun e'=>jn rfl e'⟩
 ·have hr:cP it n p (a,b,c,s)=(10,[],p,(a,b,c,s),10):=by rw [cP,al,if_pos g]
  rw [hr]
  exact aa (fun e'=>iM yx e') fun _=>⟨rfl,rfl,rfl,rfl,rfl,rfl,rfl,rfl,rfl⟩
theorem adR:Xl:=by
 delta Xl tN ol i5 uP l9 Iz qH qk kJ jM Rr Tt
 exact fun n tg it p a b c s w _ h=>⟨h,aa (fun _=>⟨rfl,rfl,rfl,rfl,rfl,rfl,rfl,rfl,rfl⟩) fun e=>jn h.2 e⟩
theorem TJ:(base.with Vz).Ok:=ab UU (ci (ai am UU Tryz.func52 (by kernel_rfl) Tryz.call52 (by kernel_rfl) agD) (ai am UU Tryz.func52 (by kernel_rfl) Tryz.call52 (by kernel_rfl) adR))
theorem ajL:YA:=by
 delta YA tN ol Da Io i5 uP l9 DD DS DR Er mg n5 sn yz Ff rQ Am tf zo sE zS IA Sx Qu S7 LV
 rintro n tg it p a b c s _ ⟨h0,h1,hp,hq⟩
 refine ⟨hp,aa (fun g=> ?_) fun g=> ?_⟩
 ·have g':¬ cm it p 2 3 n=false:=by rw [g];decide
  refine ⟨⟨ko,aY (by omega) hq⟩,⟨h0,h1,aY (by omega) (sH 2 3 n ko hq)⟩,aa (fun e=> ?_) fun e=>aa (fun f=> ?_) fun f=> ?_⟩
  ·have e:(mS n (a,b,c,s)).2.2.1=0:=au e
   have hr:bQ it n p (a,b,c,s)=(0,(mS n (a,b,c,s)).1,p+1,(mS n (a,b,c,s)).2.2.2,0):=by rw [bQ,al,if_neg g',if_neg (not_not_intro e)]
   rw [hr]
   exact aa (fun _=>⟨rfl,rfl,rfl,rfl,rfl,rfl,rfl,rfl,rfl⟩) fun e'=>jn rfl e'
  ·have e:¬ (mS n (a,b,c,s)).2.2.1=0:=aw e
   have hr:bQ it n p (a,b,c,s)=((mS n (a,b,c,s)).2.2.1,[],p+1,(mS n (a,b,c,s)).2.2.2,(mS n (a,b,c,s)).2.2.1):=by rw [bQ,al,if_neg g',if_pos e]
   rw [hr]
   exact ⟨trivial,aa (fun e'=>iM e e') fun _=>aa (fun e'=>iM e e') fun _=>⟨rfl,rfl,rfl,rfl,rfl,rfl,rfl,rfl,rfl⟩⟩
  ·exact absurd (aw e) (aw f)
 ·have hr:bQ it n p (a,b,c,s)=(10,[],p,(a,b,c,s),10):=by rw [bQ,al,if_pos g]
  rw [hr]
  exact aa (fun e'=>iM yx e') fun _=>⟨rfl,rfl,rfl,rfl,rfl,rfl,rfl,rfl,rfl⟩
theorem aja:Vp:=by
 delta Vp tN ol Io i5 uP l9 Iz qH qk kJ mg n5 yz rQ tf sE Sx Qu S7 JL
 exact fun n tg it p a b c s w _ h=>⟨h,aa (fun _=>⟨rfl,rfl,rfl,rfl,rfl,rfl,rfl,rfl,rfl⟩) fun e=>jn h.2 e⟩
theorem T0:(base.with Wu).Ok:=ab TJ (ci (ai am TJ Tryz.func53 (by kernel_rfl) Tryz.call53 (by kernel_rfl) ajL) (ai am TJ Tryz.func53 (by kernel_rfl) Tryz.call53 (by kernel_rfl) aja))
theorem acm:X0:=by
 delta X0 tN ol Da i5 uP l9 DD DS DR Er jP Ev IT LP KY Jg ak0
 rintro tg it p a b c s _ ⟨hp,hq⟩
 refine ⟨hp,aa (fun g=> ?_) fun g=> ?_⟩
 ·have g':¬ cm it p 3 0 1=false:=by rw [g];decide
  have hr:cW it p (a,b,c,s)=(0,[],p+1,nL (d9 3 0 1 [] (a,b,c,s)),0):=by rw [cW,al,if_neg g']
  rw [hr]
  exact ⟨⟨ko,aY (by omega) hq⟩,aY (by omega) (sH 3 0 1 ko hq),aa (fun _=>⟨rfl,rfl,rfl,rfl,rfl,rfl,rfl,rfl⟩) fun e'=>jn rfl e'⟩
 ·have hr:cW it p (a,b,c,s)=(10,[],p,(a,b,c,s),10):=by rw [cW,al,if_pos g]
  rw [hr]
  exact aa (fun e'=>iM yx e') fun _=>⟨rfl,rfl,rfl,rfl,rfl,rfl,rfl,rfl,rfl⟩
theorem aiK:Wa:=by
 delta Wa i5 qH qk kJ jP
 exact fun tg it p a b c s w _ h=>⟨h,aa (fun e=>iM h.2 e) fun _=>⟨rfl,rfl,rfl,rfl,rfl,rfl,rfl,rfl,rfl⟩⟩
theorem akA:(base.with Vn).Ok:=ab T0 (ci (ai am T0 Tryz.func54 (by kernel_rfl) Tryz.call54 (by kernel_rfl) acm) (ai am T0 Tryz.func54 (by kernel_rfl) Tryz.call54 (by kernel_rfl) aiK))
def byR (r:List CD):Prop:=0≤(r.getD 0 .d0).toInt∧(r.getD 0 .d0).toInt<256
theorem Vt {l:LD} {i:Nat} (hi:i<l.length):l.getD i [] =l[i] :=by
 rw [ay,cH hi];rfl
theorem BY {l:LD} (h:av l):∀ r∈l,byR r:=fun r hr=>by
 obtain ⟨i,hi,rfl⟩:=List.mem_iff_getElem.mp hr
 have:=h i
 rw [rv,Vt hi] at this
 exact this
theorem Hx {l:LD} (h:∀ r∈l,byR r):av l:=fun i=>by
 by_cases hi:i<l.length
 ·rw [rv,Vt hi]
  exact h _ (List.getElem_mem hi)
 ·exact rI (by omega)
theorem Tb {l m:LD} (lo n:Nat) (hl:av l) (hm:av m) (h:lo+n≤l.length):av (gj l lo n m)∧(gj l lo n m).length=l.length:=by
 unfold gj
 refine ⟨Hx fun r hr=> ?_,?_⟩
 ·rcases List.mem_append.mp hr with hr | hr
  ·exact BY hl r (asx hr)
  ·rcases List.mem_append.mp hr with hr | hr
   ·exact BY hm r (asx hr)
   ·exact BY hl r (List.mem_of_mem_drop hr)
 ·rw [ce,ce,ajw,ajw,eH];omega
theorem JX (n:Nat):av (ab0 n [.int 0]):=Hx fun r hr=>by
 rw [(List.mem_replicate.mp hr).2]
 exact ⟨by decide,by decide⟩
theorem agk {m:Int} {x:Sp} (h:cg m x):cg (m+1) (nL x):=by
 obtain ⟨h1,h2,h3,h4,h5,h6,h7,h8⟩:=h
 have hp:=j4 x.2.2.2
 have hq:=Tb 0 136 (OZ x.2.2.2) (JX 136) (by omega)
 exact ⟨by show (0:Int)≤0;omega,by show (0:Int)≤136;omega,by show (0:Int)≤136;omega,by show (136:Int)≤136;omega,by show 0≤x.2.2.1+1;omega,by show x.2.2.1+1≤m+1;omega,by show (gj _ _ _ _).length=200;rw [hq.2,hp],hq.1⟩
theorem ak6 (p:LD):cg 0 (iu p):=by
 have hq:=Tb (l:=ab0 200 [.int 0]) (m:=(sF 1 p).map ae) 136 64 (JX 200) (Se 1 (oF p)) (by rw [asy];omega)
 rw [asy] at hq
 exact ⟨by show (0:Int)≤0;omega,by show (0:Int)≤136;omega,by show (0:Int)≤136;omega,by show (136:Int)≤136;omega,by show (0:Int)≤0;omega,by show (0:Int)≤0;omega,hq.2,hq.1⟩
theorem akG {it d:LD} {k t n p m:Int} {x:Sp} (hb:bX d) (h0:0≤n) (h1:n≤1000) (hx:cg m x):cg (m+3000000) (c5 it k t n d p x).2.2.2.1∧p≤(c5 it k t n d p x).2.2.1∧(c5 it k t n d p x).2.2.1≤p+1:=by
 have q0:cg (m+3000000) x:=aY (by omega) hx
 have e0:p≤p∧p≤p+1:=by omega
 have e1:p≤p+1∧p+1≤p+1:=by omega
 rw [c5,al]
 split
 ·rw [bP,al]
  have q1:cg (m+3000000) (d9 1 t (aX t d) d x):=aY (by omega) (sH 1 t (aX t d) hb hx)
  split
  ·exact ⟨q0,e0⟩
  ·split
   ·exact ⟨q0,e0⟩
   ·split
    ·exact ⟨q0,e1⟩
    ·exact ⟨q1,e1⟩
 ·split
  ·rw [cP,al]
   have q1:cg (m+3000000) (aU (d9 2 1 n [] x) n.toNat):=aY (by omega) (qm (sH 2 1 n ko hx) n.toNat)
   split
   ·exact ⟨q0,e0⟩
   ·exact ⟨q1,e1⟩
  ·split
   ·rw [bQ,al]
    have q1:cg (m+3000000) (mS n x).2.2.2:=by rw [mS,rV];exact aY (by omega) (JF (sH 2 3 n ko hx) n.toNat).1
    split
    ·exact ⟨q0,e0⟩
    ·split
     ·exact ⟨q1,e1⟩
     ·exact ⟨q1,e1⟩
   ·split
    ·rw [cW,al]
     have q1:cg (m+3000000) (nL (d9 3 0 1 [] x)):=aY (by omega) (agk (sH 3 0 1 ko hx))
     split
     ·exact ⟨q0,e0⟩
     ·exact ⟨q1,e1⟩
    ·rw [afL,al]
     split <;>exact ⟨q0,e0⟩
end
end Go.Proofs.YteiecapbaeajdaaGreatDoor
namespace Go.Avc
set_option linter.unusedVariables false
structure PanT where
 fs:List FuncId
 ch:List PanicEntry
section
variable (C:Ctx)
end
section
variable (C:Ctx) (n0:Nat) (ann:Ann) (g:PanT)
end
section
variable {C:Ctx} {E B:Ent} {n0:Nat}
end
end Go.Avc
namespace Go.Proofs.YteiecapbaeajdaaGreatDoor
open Go Go.Avc Go.Proofs
open Go.RowKit Go.Extern.Stop Go.Stop Go.Extern
set_option linter.unusedVariables false
set_option maxRecDepth 100000
end Go.Proofs.YteiecapbaeajdaaGreatDoor
namespace Go.Proofs.YteiecapbaeajdaaGreatDoor
open Go Go.Avc
set_option linter.unusedVariables false
open Go Go.Avc Go.Proofs
set_option maxRecDepth 100000
set_option maxRecDepth 10000
noncomputable section
abbrev spP:Pat:= .agg [rb,i64,i64,i64]
abbrev zeB:BPat:= .cells 105 [.nils,i64,i64,i64]
def dR (x:Sp):List Dat:= [.r x.2.2.2,.i x.1,.i x.2.1,.i x.2.2.1]
def uX (x:Sp):Sp:=hid (x.1,x.2.1,x.2.2.1+1,fD x.2.2.2)
def anG:Ct:= {ps:= [spP],bs:= [],pre:=fun | [.r s,.i a,.i b,.i c] =>s.length=200∧av s∧0≤c∧c≤2000000000 | _=>False,res:=fun
 | [.r s,.i a,.i b,.i c] => .ret (.agg [.own 0,i64,i64,i64]) [ob] (dS (uX (a,b,c,s)))
 | _=>ag}
def NG (x:Sp):Sp:=hid (nL x)
def aog:Ct:= {ps:= [spP],bs:= [],pre:=fun | [.r s,.i a,.i b,.i c] =>s.length=200∧av s∧0≤c∧c≤2000000000 | _=>False,res:=fun
 | [.r s,.i a,.i b,.i c] => .ret spP [] (dR (NG (a,b,c,s)))
 | _=>ag}
def anr (a b c:Int) (s:LD):LA:=la 14 [(1,.ptr 0 0),(2,.ptr 1 0)] [.cells 105 [rb,i64,i64,i64],zeB] (fun
  | [.r s',.i a',.i b',.i c',.i _,.i _,.i _] =>(a',b',c',s')=uX (a,b,c,s)
  | _=>False) jS
def abR:List Dat→Ann
 | [.r s,.i a,.i b,.i c] => {cut:= [(2,[anr a b c s])],loop:= []}
 | _=> {cut:= [],loop:= []}
def av1:Prop:=
 ∀ (l:LD) (n n_1 n_2:Int),
 l.length≤9223372036854775807→
 l.length=200∧av l∧0≤n_2∧n_2≤2000000000→
 (l.length≤200∧av l)∧
 af (mv l l.length)∧
 af (p6 (mv l l.length))∧
 ((-9223372036854775808:Int)≤n_2+1∧n_2+1≤9223372036854775807)∧
 n=(uX (n,n_1,n_2,l)).fst∧
 n_1=(uX (n,n_1,n_2,l)).snd.fst∧
 n_2+1=(uX (n,n_1,n_2,l)).snd.snd.fst∧
 asv ae
 (iO (p6 (mv l l.length)))=
 (uX (n,n_1,n_2,l)).snd.snd.snd
def Rj:ac:=ak Vn 165 (aq anG)
def acv:Prop:=
 ∀ (l:LD) (n n_1 n_2:Int),
 l.length≤9223372036854775807→
 l.length=200∧av l∧0≤n_2∧n_2≤2000000000→
 ((l.length=200∧av l∧0≤n_2∧n_2≤2000000000)∧
 ((uX (n,n_1,n_2,l)).fst,(uX (n,n_1,n_2,l)).snd.fst,
 (uX (n,n_1,n_2,l)).snd.snd.fst,(uX (n,n_1,n_2,l)).snd.snd.snd)=
 uX (n,n_1,n_2,l)∧
 True)∧
 ∀ (l_1:LD) (n_3 n_4 n_5 n_6 n_7 n_8:Int),
 l_1.length≤9223372036854775807→
 (n_3,n_4,n_5,l_1)=uX (n,n_1,n_2,l)→
 ((0:Int)≤136∧(136:Int)≤136∧(↑(1:Nat):Int)*136≤140737488355328∧(136:Int)≤9223372036854775807)∧
 ((0:Int)≤136∧136≤(↑l_1.length:Int)∧(↑l_1.length:Int)≤(↑l_1.length:Int))∧
 (((136:Nat)+(ar1 136 (ar0 (↑l_1.length:Int).toNat l_1)).length)*1≤140737488355328∧
 (136:Nat)+(ar1 136 (ar0 (↑l_1.length:Int).toNat l_1)).length≤9223372036854775807)∧
 VK ++
 ar1 136 (ar0 (↑l_1.length:Int).toNat l_1)=
 (NG (n,n_1,n_2,l)).snd.snd.snd∧
 0=(NG (n,n_1,n_2,l)).fst∧
 136=(NG (n,n_1,n_2,l)).snd.fst∧
 n_5=(NG (n,n_1,n_2,l)).snd.snd.fst
def Tz:ac:=ak Rj 124 (aq aog)
theorem Sh (x:Sp):uX x=(x.1,x.2.1,x.2.2.1+1,fD x.2.2.2):=al _
theorem apX {l:LD} (hl:l.length=200) (hb:av l):(iO (p6 (mv l l.length))).map ae=fD l:=by
 rw [hl,aes hl hb,Us (xz l) (af5 hb),fD,ahB hl hb]
theorem aoS:av1:=by
 rintro l a b c _ ⟨hl,hb,h0,h1⟩
 rw [Sh,apX hl hb]
 exact ⟨⟨by omega,hb⟩,aiW _ _,ZS _,⟨by omega,by omega⟩,rfl,rfl,rfl,rfl⟩
theorem Zd:(base.with Rj).Ok:=ab akA (ai am akA Tryz.func165 (by kernel_rfl) Tryz.call165 (by kernel_rfl) aoS)
theorem aiB (x:Sp):NG x=nL x:=al _
theorem anb:acv:=by
 delta acv VK
 rintro s a b c _ ⟨hl,hb,h0,h1⟩
 refine ⟨⟨⟨hl,hb,h0,h1⟩,rfl,trivial⟩,?_⟩
 rintro s' a' b' c' _ _ _ _ he
 rw [Sh] at he
 cases he
 have hp:(fD s).length=200:=j4 s
 rw [aA,List.take_length,eH,hp,aiB]
 exact ⟨⟨by decide,by decide,by decide,by decide⟩,⟨by decide,by decide,by decide⟩,⟨by decide,by decide⟩,rfl,rfl,rfl,rfl⟩
theorem Yf:(base.with Tz).Ok:=ab Zd (ai abR Zd Tryz.func124 (by kernel_rfl) Tryz.call124 (by kernel_rfl) anb)
abbrev CV:Pat:= .agg [.arrI 12 .u64]
abbrev wM9:Pat:= .agg [.arrI 36 .u64]
abbrev QL:BPat:= .cells 313 [.arrI 12 .u64]
abbrev qM9:BPat:= .cells 316 [.arrI 36 .u64]
def mb (a b:List Int):List Int:=iK (eY a b 4).1
def RX (e:List Int):List Int:=du (du (du e e) (du e e)) e
def kR (l:LD) (i:Nat):List Int:= [((l.getD i []).getD 0 (CD.int 0)).toInt,((l.getD i []).getD 1 (CD.int 0)).toInt,((l.getD i []).getD 2 (CD.int 0)).toInt,((l.getD i []).getD 3 (CD.int 0)).toInt]
def Jr (l:LD):Prop:=∀ i,af (kR l i)
def zi (l:LD):Nat→List Int
 | 0=> [0,0,0,0]
 | i+1=>mb (zi l i) (kR l i)
def vE (v:List Int) (i:Nat):List Int:=(v.drop (4*i)).take 4
def zx (v w:List Int):List Int:=mb (mb (mb [0,0,0,0] (du (vE v 0) (vE w 0))) (du (vE v 1) (vE w 1))) (du (vE v 2) (vE w 2))
def LM (m v:List Int):List Int:=zx ((m.drop 0).take 12) v++(zx ((m.drop 12).take 12) v++zx ((m.drop 24).take 12) v)
def auv (p:LD) (i:Nat):Bool:=decide (dp .u64 (aL .u64 (rv p (i / 64)) ((i%64:Nat):Int)) 1=1)
def y5 (n:Int):List Int:=hid (de [n,0,0,0])
def Qa:Ct:= {ps:= [u64],bs:= [],pre:=fun | [.i n] =>ap n | _=>False,res:=fun | [.i n] => .ret w4 [] [.li (y5 n)] | _=>ag}
theorem Vb:Qa=TU:=by
 unfold Qa TU
 simp only [y5,al] <;>rfl
def Zm:ac:=ak Tz 96 (aq Qa)
theorem adF:(base.with Zm).Ok:=ab Yf (by rw [Vb];exact Yf.spec 96)
def qF (e:List Int) (p:LD) (B:Nat):Nat→List Int
 | 0=>y5 1
 | k+1=>if auv p (B-1-k)=true then du (du (qF e p B k) (qF e p B k)) e else du (qF e p B k) (qF e p B k)
def R5 (e:List Int) (p:LD):List Int:=qF e p (bk p p.length).toNat (bk p p.length).toNat
def p2R:LD:= [4891460686036598783,2896914383306846353,13281191951274694749,3486998266802970665].map ae
def wo (e:List Int):List Int:=hid (R5 e p2R)
def Mu (k:Nat):List Int:=y5 ((k / 3+k%3+3:Nat):Int)
def M2:Nat→List Int
 | 0=> []
 | k+1=>M2 k++wo (Mu k)
def k9 (k:Nat):List Int:=hid (M2 k++ab0 (36-4*k) 0)
def amG:Ct:= {ps:= [w4,w4],bs:= [],pre:=fun | [.li a,.li b] =>af a∧af b | _=>False,res:=fun | [.li a,.li b] => .ret w4 [] [.li (du a b)] | _=>ag}
def ali:Ct:= {ps:= [w4],bs:= [],pre:=fun | [.li a] =>af a | _=>False,res:=fun | [.li a] => .ret w4 [] [.li (du a a)] | _=>ag}
def anA:Ct:= {ps:= [w4,w4],bs:= [],pre:=fun | [.li a,.li b] =>af a∧af b | _=>False,res:=fun | [.li a,.li b] => .ret w4 [] [.li (mb a b)] | _=>ag}
def aoc:Ct:= {ps:= [w4],bs:= [],pre:=fun | [.li a] =>af a | _=>False,res:=fun | [.li a] => .ret w4 [] [.li (RX a)] | _=>ag}
def aqc:Ct:= {ps:= [.rd GQ],bs:= [],pre:=fun | [.r l] =>Jr l | _=>False,res:=fun | [.r l] => .ret w4 [] [.li (zi l l.length)] | _=>ag}
def adl:List Dat→Ann
 | [.r l] => {cut:= [],loop:= [(3,[la 17 [(2,.ptr 0 0),(3,.ptr 1 0),(6,.rd GQ),(7,i64),(8,i64)] [qe,qe] (fun
   | [.r l',.i n,.i i,.li _,.li s] =>l'=l∧n=l.length∧0≤i∧i≤n∧s=zi l i.toNat
   | _=>False) (fun | [_,.i n,.i i,_,_] =>(n-i).toNat | _=>0)])]}
 | _=> {cut:= [],loop:= []}
def apS:Ct:= {ps:= [CV,CV],bs:= [],pre:=fun | [.li a,.li b] =>af a∧af b | _=>False,res:=fun | [.li a,.li b] => .ret w4 [] [.li (zx a b)] | _=>ag}
def alP:Ct:= {ps:= [wM9,CV],bs:= [],pre:=fun | [.li a,.li b] =>af a∧af b | _=>False,res:=fun | [.li a,.li b] => .ret CV [] [.li (LM a b)] | _=>ag}
def amT:Ct:= {ps:= [w4,aK],bs:= [],pre:=fun | [.li e,.r p] =>af e∧aI p | _=>False,res:=fun | [.li e,.r p] => .ret w4 [] [.li (R5 e p)] | _=>ag}
def abx:List Dat→Ann
 | [.li e,.r p] => {cut:= [],loop:= [(3,[la 31 [(1,aK),(2,.ptr 0 0),(4,.ptr 1 0),(5,.ptr 2 0),(6,i64)] [qe,qe,qe] (fun
   | [.r p',.i i,.li e',.li _,.li o] =>p'=p∧e'=e∧-1≤i∧i<bk p p.length∧o=qF e p (bk p p.length).toNat ((bk p p.length)-1-i).toNat
   | _=>False) (fun | [_,.i i,_,_,_] =>(i+1).toNat | _=>0)])]}
 | _=> {cut:= [],loop:= []}
def aoO:Ct:= {ps:= [w4],bs:= [],pre:=fun | [.li e] =>af e | _=>False,res:=fun | [.li e] => .ret w4 [] [.li (wo e)] | _=>ag}
def ap3:Ct:= {ps:= [i64,i64],bs:= [],pre:=fun | [.i i,.i j] =>0≤i∧i<3∧0≤j∧j<3 | _=>False,res:=fun | [.i i,.i j] => .ret w4 [] [.li (wo (Mu (3*i.toNat+j.toNat)))] | _=>ag}
def arH:Ct:= {ps:= [.fn 314 []],bs:= [],pre:=fun _=>True,res:=fun _=> .ret wM9 [] [.li (k9 9)]}
def agT:List Dat→Ann:=fun _=>⟨[],[(2,[la 22 [(0,.fn 314 []),(2,.ptr 0 0),(5,i64)] [qM9] (fun
   | [.i i,.li m] =>0≤i∧i≤3∧m=k9 (3*i.toNat)
   | _=>False) (fun | [.i i,_] =>(3-i).toNat | _=>0)])],
  [(5,[la 22 [(0,.fn 314 []),(2,.ptr 0 0),(3,i64),(5,i64),(8,i64)] [qM9] kf jS],fun
   | [.i r0,.i i0,.i _,.li m0] => [la 22 [(0,.fn 314 []),(2,.ptr 0 0),(3,i64),(5,i64),(8,i64)] [qM9] (fun
    | [.i r,.i i,.i j,.li m] =>r=r0∧i=i0∧0≤j∧j≤3∧m=k9 (3*r0.toNat+j.toNat)
    | _=>False) (fun | [_,_,.i j,_] =>(3-j).toNat | _=>0)]
   | _=> [])]⟩
def al6:Ct:= {ps:= [],bs:= [],pre:=fun _=>True,res:=fun _=> .ret wM9 [] [.li (k9 9)]}
abbrev ee (a:List Int):Prop:=
 a.length=4
def akL:Prop:=
 ∀ (a b:List Int),
 ee a→
 ee b→
 af a∧af b→
 (af a∧af b)∧
 du a b=du a b
def RE:ac:=ak Zm 309 (aq amG)
def ag9:Prop:=
 ∀ (a:List Int),
 ee a→
 af a→
 (af a∧af a)∧
 du a a=du a a
def TD:ac:=ak RE 308 (aq ali)
def ai2:Prop:=
 ∀ (a b:List Int),
 ee a→
 ee b→
 af a∧af b→
 (af a∧af b)∧
 af (eY a b 4).fst∧
 iK (eY a b 4).fst=mb a b
def St:ac:=ak TD 301 (aq anA)
def ag2:Prop:=
 ∀ (a:List Int),
 ee a→
 af a→
 af a∧
 af (du a a)∧
 (af
 (du (du a a) (du a a))∧
 af a)∧
 du
 (du (du a a) (du a a)) a=
 RX a
def QY:ac:=ak St 302 (aq aoc)
abbrev KV (a:Int)(b:LD):List Int:=
 [((b.getD a.toNat []).getD 0 (.int 0)).toInt,((b.getD a.toNat []).getD 1 (.int 0)).toInt,
 ((b.getD a.toNat []).getD 2 (.int 0)).toInt,((b.getD a.toNat []).getD 3 (.int 0)).toInt]
def adg:Prop:=
 ∀ (a:LD),
 lM a→
 Jr a→
 lM a→
 ((a=a∧
 (↑a.length:Int)=(↑a.length:Int)∧
 (0:Int)≤0∧0≤(↑a.length:Int)∧ [0,0,0,0] =zi a 0)∧
 True)∧
 ∀ (b:LD) (c d:Int) (e f:List Int),
 lM b→
 ee e→
 ee f→
 b=a∧c=(↑a.length:Int)∧0≤d∧d≤c∧f=zi a d.toNat→
 bif decide (d<c) then
 bR d b∧
 d.toNat<b.length∧
 (af f∧af (KV d b))∧
 iR (d+1)∧
 (b=a∧
 c=(↑a.length:Int)∧
 0≤d+1∧
 d+1≤c∧
 mb f (KV d b)=
 zi a (d+1).toNat)∧
 (c-(d+1)).toNat<(c-d).toNat
 else f=zi a a.length
def Sn:ac:=ak QY 319 (aq aqc)
abbrev yH (a b:List Int):List Int:=
 du (ar0 4 (ar1 0 a)) (ar0 4 (ar1 0 b))
abbrev y8 (a b:List Int):List Int:=
 du (ar0 4 (ar1 4 a)) (ar0 4 (ar1 4 b))
abbrev zw (a b:List Int):List Int:=
 du (ar0 4 (ar1 8 a)) (ar0 4 (ar1 8 b))
abbrev Lt (a b:List Int):LD:=
 [[.int ((yH a b).getD 0 0),
 .int ((yH a b).getD 1 0),
 .int ((yH a b).getD 2 0),
 .int ((yH a b).getD 3 0)],
 [.int ((y8 a b).getD 0 0),
 .int ((y8 a b).getD 1 0),
 .int ((y8 a b).getD 2 0),
 .int ((y8 a b).getD 3 0)],
 [.int ((zw a b).getD 0 0),
 .int ((zw a b).getD 1 0),
 .int ((zw a b).getD 2 0),
 .int ((zw a b).getD 3 0)]]
def aje:Prop:=
 ∀ (a b:List Int),
 a.length=12→
 b.length=12→
 af a∧af b→
 ((0:Int)≤0∧(0:Int)<(↑(3:Nat):Int))∧
 (4:Nat)≤12∧
 ((0:Int)≤0∧(0:Int)<(↑(3:Nat):Int))∧
 (4:Nat)≤12∧
 (af (ar0 4 (ar1 0 a))∧
 af (ar0 4 (ar1 0 b)))∧
 ((0:Int)≤1∧(1:Int)<(↑(3:Nat):Int))∧
 (8:Nat)≤12∧
 ((0:Int)≤1∧(1:Int)<(↑(3:Nat):Int))∧
 (8:Nat)≤12∧
 (af (ar0 4 (ar1 4 a))∧
 af (ar0 4 (ar1 4 b)))∧
 ((0:Int)≤2∧(2:Int)<(↑(3:Nat):Int))∧
 (12:Nat)≤12∧
 ((0:Int)≤2∧(2:Int)<(↑(3:Nat):Int))∧
 (12:Nat)≤12∧
 (af (ar0 4 (ar1 8 a))∧
 af (ar0 4 (ar1 8 b)))∧
 Jr (Lt a b)∧
 zi (Lt a b) 3=
 zx a b
def Ri:ac:=ak Sn 310 (aq apS)
abbrev JI (a b:List Int):List Int:=
 [] ++
 (zx (ar0 12 (ar1 0 a)) b++
 [0,0,0,0,0,0,0,0])
abbrev Jf (a b:List Int):List Int:=
 ar0 4 (JI a b)++
 (zx (ar0 12 (ar1 12 a)) b++ar1 8 (JI a b))
def afJ:Prop:=
 ∀ (a b:List Int),
 a.length=36→
 b.length=12→
 af a∧af b→
 ((0:Int)≤0∧(0:Int)<(↑(3:Nat):Int))∧
 (12:Nat)≤36∧
 (af (ar0 12 (ar1 0 a))∧af b)∧
 ((0:Int)≤1∧(1:Int)<(↑(3:Nat):Int))∧
 (24:Nat)≤36∧
 (af (ar0 12 (ar1 12 a))∧af b)∧
 ((0:Int)≤2∧(2:Int)<(↑(3:Nat):Int))∧
 (36:Nat)≤36∧
 (af (ar0 12 (ar1 24 a))∧af b)∧
 ar0 8 (Jf a b)++
 (zx (ar0 12 (ar1 24 a)) b++
 ar1 12 (Jf a b))=
 LM a b
def QC:ac:=ak Ri 303 (aq alP)
abbrev oc (a:LD):Int:=
 bk a a.length-(1:Int)
def acu:Prop:=
 ∀ (a:List Int) (b:LD),
 ee a→
 lM b→
 af a∧aI b→
 ap 1∧
 aI b∧
 iR (oc b)∧
 ((b=b∧
 a=a∧
 (-1:Int)≤oc b∧
 oc b<bk b b.length∧
 y5 1=
 qF a b (bk b b.length).toNat
 (oc b-oc b).toNat)∧
 True)∧
 ∀ (c:LD) (d:Int) (e f g:List Int),
 lM c→
 ee e→
 ee f→
 ee g→
 c=b∧
 e=a∧
 (-1:Int)≤d∧
 d<bk b b.length∧
 g=
 qF a b (bk b b.length).toNat
 (oc b-d).toNat→
 bif decide (0≤d) then
 af g∧
 (0≤d∧(0:Int)<(64:Int)∧d≤IntKind.i64.max)∧
 bR (d / 64) c∧
 (d / 64).toNat<c.length∧
 (0≤d∧(0:Int)<(64:Int))∧
 0≤d%(64:Int)∧
 bif
 decide
 (dp .u64
 (aL .u64 ((c.getD (d / 64).toNat []).getD 0 (.int 0)).toInt
 (d%(64:Int)))
 1=
 (1:Int)) then
 (af (du g g)∧af e)∧
 iR (d-(1:Int))∧
 (c=b∧
 e=a∧
 (-1:Int)≤d-(1:Int)∧
 d-(1:Int)<bk b b.length∧
 du (du g g) e=
 qF a b (bk b b.length).toNat
 (oc b-(d-(1:Int))).toNat)∧
 (d-(1:Int)+1).toNat<(d+1).toNat
 else
 iR (d-(1:Int))∧
 (c=b∧
 e=a∧
 (-1:Int)≤d-(1:Int)∧
 d-(1:Int)<bk b b.length∧
 du g g=
 qF a b (bk b b.length).toNat
 (oc b-(d-(1:Int))).toNat)∧
 (d-(1:Int)+1).toNat<(d+1).toNat
 else g=R5 a b
def RQ:ac:=ak QC 324 (aq amT)
abbrev IK:LD:=
 [[.int
 (IntKind.u64.wrap
 ([4891460686036598785,2896914383306846353,13281191951274694749,3486998266802970665].getD 0 0-(2:Int)))],
 [.int 2896914383306846353],[.int 13281191951274694749],[.int 3486998266802970665]]
def akj:Prop:=
 ∀ (a:List Int),
 ee a→
 af a→
 True∧
 ((0:Int)≤0∧(0:Int)<(↑(4:Nat):Int))∧
 (0:Nat)<(4:Nat)∧
 ((0:Int)≤0∧(0:Int)<(↑(4:Nat):Int))∧
 (0:Nat)<(4:Nat)∧
 ((0:Int)≤0∧0≤(↑(4:Nat):Int)∧(↑(4:Nat):Int)≤(↑(4:Nat):Int)∧(0:Int)<(↑(4:Nat):Int))∧
 (af a∧aI IK)∧
 R5 a IK=wo a
def QZ:ac:=ak RQ 315 (aq aoO)
def aeA:Prop:=
 ∀ (a b:Int),
 0≤a∧a<(3:Int)∧0≤b∧b<(3:Int)→
 iR (a+b)∧
 iR (a+b+3)∧
 ap (IntKind.u64.wrap (a+b+3))∧
 af (y5 (IntKind.u64.wrap (a+b+3)))∧
 wo (y5 (IntKind.u64.wrap (a+b+3)))=
 wo (Mu (3*a.toNat+b.toNat))
def QU:ac:=ak QZ 314 (aq ap3)
def adE:Prop:=
 True→
 (((0:Int)≤0∧
 (0:Int)≤3∧
 (have y:=
 have y:=
 have y:= [0,0,0,0,0];
 (0:Int)::(0:Int)::(0:Int)::(0:Int)::y;
 have y:=(0:Int)::(0:Int)::(0:Int)::(0:Int)::(0:Int)::y;
 (0:Int)::(0:Int)::(0:Int)::(0:Int)::y;
 have y:=
 have y:=(0:Int)::(0:Int)::(0:Int)::(0:Int)::(0:Int)::y;
 (0:Int)::(0:Int)::(0:Int)::(0:Int)::y;
 have y:=(0:Int)::(0:Int)::(0:Int)::(0:Int)::(0:Int)::y;
 (0:Int)::(0:Int)::(0:Int)::(0:Int)::y)=
 k9 0)∧
 True)∧
 ∀ (a:Int) (b:List Int),
 b.length=36→
 0≤a∧a≤3∧b=k9 ((3:Nat)*a.toNat)→
 bif decide (a<(3:Int)) then
 ((a=a∧a=a∧(0:Int)≤0∧(0:Int)≤3∧b=k9 ((3:Nat)*a.toNat+0))∧True)∧
 ∀ (c d e:Int) (f:List Int),
 f.length=36→
 c=a∧d=a∧0≤e∧e≤3∧f=k9 ((3:Nat)*a.toNat+e.toNat)→
 bif decide (e<(3:Int)) then
 (0≤c∧c<(3:Int)∧0≤e∧e<(3:Int))∧
 (0≤c∧c<(↑(3:Nat):Int))∧
 (0≤e∧e<(↑(3:Nat):Int))∧
 c.toNat*12+e.toNat*4+4≤36∧
 iR (e+1)∧
 (c=a∧
 d=a∧
 0≤e+1∧
 e+1≤3∧
 ar0 (c.toNat*12+e.toNat*4) f++
 wo (Mu ((3:Nat)*c.toNat+e.toNat))++
 ar1 (c.toNat*12+e.toNat*4+4) f=
 k9 ((3:Nat)*a.toNat+(e+1).toNat))∧
 ((3:Int)-(e+1)).toNat<((3:Int)-e).toNat
 else
 iR (d+1)∧
 (0≤d+1∧d+1≤3∧f=k9 ((3:Nat)*(d+1).toNat))∧
 ((3:Int)-(d+1)).toNat<((3:Int)-a).toNat
 else b=k9 9
def Rz:ac:=ak QU 313 (aq arH)
def au6:Prop:=
 True→True∧k9 9=k9 9
def RN:ac:=ak Rz 305 (aq al6)
theorem arC:akL:=by
 delta akL ee
 exact fun a b _ _ h=>⟨h,rfl⟩
theorem W8:(base.with RE).Ok:=ab adF (ai am adF Tryz.func309 (by kernel_rfl) Tryz.call309 (by kernel_rfl) arC)
theorem amE:ag9:=by
 delta ag9 ee
 exact fun a _ h=>by
  first | exact ⟨⟨h,h⟩,rfl⟩ | exact ⟨h,rfl⟩
theorem WK:(base.with TD).Ok:=ab W8 (ai am W8 Tryz.func308 (by kernel_rfl) Tryz.call308 (by kernel_rfl) amE)
theorem ant:ai2:=by
 delta ai2 ee
 exact fun a b _ _ h=>⟨h,(qi h.1 h.2 4).1,rfl⟩
theorem YH:(base.with St).Ok:=ab WK (ai am WK Tryz.func301 (by kernel_rfl) Tryz.call301 (by kernel_rfl) ant)
theorem amZ:ag2:=by
 delta ag2 ee
 exact fun a _ h=>by
  have h2:=fh h h
  have h4:=fh h2 h2
  exact ⟨h,h2,⟨h4,h⟩,rfl⟩
theorem Yo:(base.with QY).Ok:=ab YH (ai am YH Tryz.func302 (by kernel_rfl) Tryz.call302 (by kernel_rfl) amZ)
theorem tp {a b:List Int} (ha:af a) (hb:af b):af (mb a b):=Gq (qi ha hb 4).1
theorem yF:af [0,0,0,0] :=fun j=>by
 match j with
 | 0 | 1 | 2 | 3=>exact ⟨by decide,by decide⟩
 | j+4=>exact ⟨by simp,by simp⟩
theorem R2 {l:LD} (h:Jr l):∀ i,af (zi l i)
 | 0=>yF
 | i+1=>tp (R2 h i) (h i)
theorem apE:adg:=by
 delta adg lM iR bR ee KV
 intro l hl h _
 refine ⟨⟨⟨rfl,rfl,by omega,by omega,rfl⟩,trivial⟩,?_⟩
 rintro _ _ i _ _ _ _ _ ⟨rfl,rfl,h0,h1,rfl⟩
 refine aa (fun e=> ?_) fun e=> ?_
 ·have e:=au e
  refine ⟨⟨h0,by omega⟩,by omega,⟨R2 h _,h _⟩,⟨by omega,by omega⟩,⟨rfl,rfl,by omega,by omega,?_⟩,by omega⟩
  rw [show (i+1).toNat=i.toNat+1 by omega]
  rfl
 ·have e:=aw e
  exact congrArg (zi _) (by omega)
theorem VI:(base.with Sn).Ok:=ab Yo (ai adl Yo Tryz.func319 (by kernel_rfl) Tryz.call319 (by kernel_rfl) apE)
theorem dL {a:List Int} (h:af a) (n m:Nat):af ((a.drop n).take m):=by
 intro j
 rw [ay,aky]
 split
 ·rw [akB,← ay]
  exact h _
 ·exact ⟨by decide,by decide⟩
theorem apH {a b c:List Int} (ha:a.length=4) (hb:b.length=4) (hc:c.length=4):((([] ++(a++ [0,0,0,0,0,0,0,0])).take 4++(b++([] ++(a++ [0,0,0,0,0,0,0,0])).drop 8)).take 8++(c++((([] ++(a++ [0,0,0,0,0,0,0,0])).take 4++(b++([] ++(a++ [0,0,0,0,0,0,0,0])).drop 8))).drop 12))=a++(b++c):=by
 match a,ha,b,hb,c,hc with
 | [_,_,_,_],_,[_,_,_,_],_,[_,_,_,_],_=>rfl
theorem ry (a b:List Int):(zx a b).length=4:=by
 unfold zx mb
 exact xi (vW _ _ _)
def rR (a:List Int):List CD:= [CD.int (a.getD 0 (0:Int)),CD.int (a.getD 1 (0:Int)),CD.int (a.getD 2 (0:Int)),CD.int (a.getD 3 (0:Int))]
theorem arx {a b c:List Int} (la:a.length=4) (lb:b.length=4) (lc:c.length=4) (ha:af a) (hb:af b) (hc:af c):Jr [rR a,rR b,rR c] ∧zi [rR a,rR b,rR c] 3=mb (mb (mb [0,0,0,0] a) b) c:=by
 match a,la,b,lb,c,lc,ha,hb,hc with
 | [_,_,_,_],_,[_,_,_,_],_,[_,_,_,_],_,ha,hb,hc=>
  refine ⟨fun i=> ?_,rfl⟩
  match i with
  | 0=>exact ha
  | 1=>exact hb
  | 2=>exact hc
  | i+3=>exact yF
theorem aqy:aje:=by
 delta aje yH y8 zw Lt
 intro l k _ _ h
 have r:=arx (lT (vE l 0) (vE k 0)) (lT (vE l 1) (vE k 1)) (lT (vE l 2) (vE k 2)) (fh (dL h.1 _ _) (dL h.2 _ _)) (fh (dL h.1 _ _) (dL h.2 _ _)) (fh (dL h.1 _ _) (dL h.2 _ _))
 exact ⟨⟨by decide,by decide⟩,by decide,⟨by decide,by decide⟩,by decide,⟨dL h.1 _ _,dL h.2 _ _⟩,⟨by decide,by decide⟩,by decide,⟨by decide,by decide⟩,by decide,⟨dL h.1 _ _,dL h.2 _ _⟩,⟨by decide,by decide⟩,by decide,⟨by decide,by decide⟩,by decide,⟨dL h.1 _ _,dL h.2 _ _⟩,r.1,r.2⟩
theorem Yx:(base.with Ri).Ok:=ab VI (ai am VI Tryz.func310 (by kernel_rfl) Tryz.call310 (by kernel_rfl) aqy)
theorem am4:afJ:=by
 delta afJ JI Jf
 exact fun m v _ _ h=>⟨⟨by decide,by decide⟩,by decide,⟨dL h.1 0 12,h.2⟩,⟨by decide,by decide⟩,by decide,⟨dL h.1 12 12,h.2⟩,⟨by decide,by decide⟩,by decide,⟨dL h.1 24 12,h.2⟩,apH (ry _ _) (ry _ _) (ry _ _)⟩
theorem Wg:(base.with QC).Ok:=ab Yx (ai am Yx Tryz.func303 (by kernel_rfl) Tryz.call303 (by kernel_rfl) am4)
theorem JZ {n:Int} (h:ap n):af (y5 n):=by
 unfold y5
 rw [al]
 refine wI fun j=> ?_
 match j with
 | 0=>exact h
 | 1 | 2 | 3 | j+4=>exact ⟨by simp,by simp⟩
theorem XQ:ap 1:=⟨by decide,by decide⟩
theorem Fg {e:List Int} (he:af e) (p:LD) (B:Nat):∀ k,af (qF e p B k)
 | 0=>JZ XQ
 | k+1=>by
  have h2:=fh (Fg he p B k) (Fg he p B k)
  rw [qF]
  split
  ·exact fh h2 he
  ·exact h2
theorem an5:acu:=by
 delta acu lM iR bR ee oc
 rintro e p _ _ ⟨he,hp⟩
 have hb:=Bc hp.2 p.length
 have hl:=hp.1
 refine ⟨XQ,hp,⟨by omega,by omega⟩,⟨⟨rfl,rfl,by omega,by omega,by rw [show (bk p p.length-1-(bk p p.length-1)).toNat=0 by omega];rfl⟩,trivial⟩,?_⟩
 rintro p' n e' _ o _ _ _ _ ⟨h2,h3,h0,h1,h4⟩
 subst h2 h3 h4
 refine aa (fun h=> ?_) fun h=> ?_
 ·have h:=au h
  obtain ⟨i,rfl⟩:=Int.eq_ofNat_of_zero_le h
  have ho:=Fg he p' (bk p' p'.length).toNat (bk p' p'.length-1-(i:Int)).toNat
  have e1:(bk p' p'.length-1-((i:Int)-1)).toNat=(bk p' p'.length-1-(i:Int)).toNat+1:=by omega
  have eB:(bk p' p'.length).toNat-1-(bk p' p'.length-1-(i:Int)).toNat=i:=by omega
  have ed:((i:Int) / 64).toNat=i / 64:=by omega
  have em:(i:Int)%64=((i%64:Nat):Int):=by omega
  have hm:(i:Int)≤IntKind.i64.max:=by
   have:IntKind.i64.max=9223372036854775807:=by decide
   omega
  refine ⟨ho,⟨h,by decide,hm⟩,⟨by omega,by omega⟩,by omega,⟨h,by decide⟩,by omega,aa (fun hb1=> ?_) fun hb1=> ?_⟩
  ·refine ⟨⟨fh ho ho,he⟩,⟨by omega,by omega⟩,⟨rfl,rfl,by omega,by omega,?_⟩,by omega⟩
   rw [e1,qF,eB,if_pos]
   rw [ed,em] at hb1
   exact hb1
  ·refine ⟨⟨by omega,by omega⟩,⟨rfl,rfl,by omega,by omega,?_⟩,by omega⟩
   rw [e1,qF,eB,if_neg]
   rw [ed,em] at hb1
   exact fun hh=>Bool.noConfusion (hh.symm.trans hb1)
 ·have h:=aw h
  unfold R5
  exact congrArg (qF _ _ _) (by omega)
theorem Zs:(base.with RQ).Ok:=ab Wg (ai abx Wg Tryz.func324 (by kernel_rfl) Tryz.call324 (by kernel_rfl) an5)
theorem arb:akj:=by
 delta akj ee IK
 intro l _ h
 refine ⟨trivial,⟨by decide,by decide⟩,by decide,⟨by decide,by decide⟩,by decide,⟨by decide,by decide,by decide,by decide⟩,⟨h,?_,?_⟩,?_⟩
 ·show (4:Nat)≤1000
  decide
 ·intro i
  match i with
  | 0 | 1 | 2 | 3=>exact ⟨by decide,by decide⟩
  | i+4=>exact ⟨asw 0,show (0:Int)<18446744073709551616 by decide⟩
 ·unfold wo
  rw [al]
  rfl
theorem Xk:(base.with QZ).Ok:=ab Zs (ai am Zs Tryz.func315 (by kernel_rfl) Tryz.call315 (by kernel_rfl) arb)
theorem aqb:aeA:=by
 delta aeA iR
 rintro n m ⟨h0,h1,h2,h3⟩
 have hw:IntKind.u64.wrap (n+m+3)=n+m+3:=by
  have hn:n=0∨n=1∨n=2:=by omega
  have hm:m=0∨m=1∨m=2:=by omega
  rcases hn with rfl | rfl | rfl <;>rcases hm with rfl | rfl | rfl <;>decide
 have hi:ap (n+m+3):=⟨by omega,by omega⟩
 rw [hw]
 refine ⟨⟨by omega,by omega⟩,⟨by omega,by omega⟩,hi,JZ hi,?_⟩
 unfold Mu
 rw [show (((3*n.toNat+m.toNat) / 3+(3*n.toNat+m.toNat)%3+3:Nat):Int)=n+m+3 by omega]
theorem ZM:(base.with QU).Ok:=ab Xk (ai am Xk Tryz.func314 (by kernel_rfl) Tryz.call314 (by kernel_rfl) aqb)
theorem adN {c e:List Int} {N k p:Nat} (hc:c.length=4*k) (he:e.length=4) (h:4*k+4≤N) (hp:p=4*k):ar0 p (c++ab0 (N-4*k) 0)++e++ar1 (p+4) (c++ab0 (N-4*k) 0)=c++e++ab0 (N-4*(k+1)) 0:=by
 subst hp
 rw [List.take_append,agv (by omega),hc,Nat.sub_self,List.take_zero,List.append_nil,List.drop_append,List.drop_of_length_le (by omega),asp,hc,List.drop_replicate]
 congr 2
 omega
theorem aaa {e:List Int} (p:LD) (B:Nat):∀ k,(qF e p B k).length=4
 | 0=>by
  show (y5 1).length=4
  unfold y5
  rw [al]
  exact lT _ _
 | k+1=>by
  rw [qF]
  split <;>exact lT _ _
theorem My (e:List Int):(wo e).length=4:=by
 unfold wo
 rw [al]
 exact aaa _ _ _
theorem Na:∀ k,(M2 k).length=4*k
 | 0=>rfl
 | k+1=>by rw [M2,ce,Na k,My];omega
theorem Vk {k p:Nat} (hk:4*k+4≤36) (hp:p=4*k):ar0 p (k9 k)++wo (Mu k)++ar1 (p+4) (k9 k)=k9 (k+1):=by
 unfold k9
 rw [al,al,M2,adN (Na k) (My _) hk hp]
theorem al5:adE:=by
 delta adE iR
 intro _
 refine ⟨⟨⟨by omega,by omega,?_⟩,trivial⟩,?_⟩
 ·unfold k9
  rw [al]
  rfl
 rintro n l hl ⟨h0,h1,rfl⟩
 refine aa (fun e=> ?_) fun e=> ?_
 ·have e:=au e
  refine ⟨⟨⟨rfl,rfl,by omega,by omega,rfl⟩,trivial⟩,?_⟩
  rintro n1 n2 j _ _ ⟨rfl,rfl,g0,g1,rfl⟩
  refine aa (fun k=> ?_) fun k=> ?_
  ·have k:=au k
   refine ⟨⟨by omega,by omega,by omega,by omega⟩,⟨by omega,by omega⟩,⟨by omega,by omega⟩,by omega,⟨by omega,by omega⟩,⟨rfl,rfl,by omega,by omega,?_⟩,by omega⟩
   rw [Vk (by omega) (by omega),show 3*n2.toNat+(j+1).toNat=3*n2.toNat+j.toNat+1 by omega]
  ·have k:=aw k
   refine ⟨⟨by omega,by omega⟩,⟨by omega,by omega,?_⟩,by omega⟩
   exact congrArg k9 (by omega)
 ·have e:=aw e
  exact congrArg k9 (by omega)
theorem Wi:(base.with Rz).Ok:=ab ZM (ai agT ZM Tryz.func313 (by kernel_rfl) Tryz.call313 (by kernel_rfl) al5)
theorem arj:au6:=fun _=>⟨trivial,rfl⟩
theorem Zj:(base.with RN).Ok:=ab Wi (ai am Wi Tryz.func305 (by kernel_rfl) Tryz.call305 (by kernel_rfl) arj)
end
end Go.Proofs.YteiecapbaeajdaaGreatDoor
namespace Go.Avc
set_option linter.unusedVariables false
def In (hp:List Blk):SV→Option (Nat×Nat×TypeId×List SV×IntKind×Int×List SV)
 | .ptr b c=>(match hp.getD b .none with
  | .cells T cs=>(match d6 cs c with
   | some (a,.int k x::d)=>some (b,c,T,a,k,x,d)
   | _=>none)
  | _=>none)
 | _=>none
section
variable {Im:Nat→Prop} {ι:Nat→Option Value} {w:World}
theorem cell_of_row {r c:Nat} {va vd:List Value} {v:Value} {T:TypeId} (hg:w.heap[r]? =some (.cells (va++v::vd).toArray T (0,0))) (hc:va.length=c):w.cell? ⟨r,c,none⟩=some v∧w.frozen? ⟨r,c,none⟩=false:=by
 constructor
 ·simp only [World.cell?,hg]
  simp [← hc]
 ·simp [World.frozen?,hg]
theorem L3 {r c:Nat} {va vd:List Value} {v v':Value} {T:TypeId} (hg:w.heap[r]? =some (.cells (va++v::vd).toArray T (0,0))) (hc:va.length=c):w.setCell ⟨r,c,none⟩ v'=w.setRow r (va++v'::vd).toArray:=by
 unfold World.setCell World.setRow
 congr 1
 apply Array.ext_getElem?
 intro i
 by_cases hi:r=i
 ·subst hi
  simp only [asb,if_true,hg,Option.map_some]
  simp [← hc,List.set_append]
 ·simp only [asb,if_neg hi]
theorem GP {hp:List Blk} {p:SV} {vp:Value} {b c:Nat} {T:TypeId} {a d:List SV} {k:IntKind} {x:Int} (hh:HV Im ι w hp) (hv:VRel Im ι w p vp) (h:In hp p=some (b,c,T,a,k,x,d)):
  ∃ r va vd,vp= .pointer (some ⟨r,c,none⟩)∧ι b=some (.pointer (some ⟨r,0,none⟩))∧aM (hp.getD b .none)=true∧w.heap[r]? =some (.cells (va++ .int k x::vd).toArray T (0,0))∧va.length=c∧
   ∀ y,CellsRel Im ι w (a++ .int k y::d) (va++ .int k y::vd):=by
 unfold In at h
 split at h
 ·rename_i b' c'
  split at h
  ·rename_i T' cs hb
   split at h
   ·rename_i a' k' x' d' hs
    cases h
    obtain ⟨r,h1,rfl⟩:=hv
    obtain ⟨r',vs,h2,h3,h4⟩:=hh.cells hb h1
    cases h2
    obtain ⟨va,vd0,rfl,h5,h6,h7⟩:=bT hs h4
    obtain ⟨v,vd,rfl,h8,h9⟩:=h7
    cases h8
    exact ⟨r,va,vd,rfl,h1,by rw [hb];rfl,h3,h5,fun y=>bA h6 ⟨_,_,rfl,rfl,h9⟩⟩
   ·cases h
  ·cases h
 ·cases h
end
theorem AE {C:Ctx} {E:Ent} {hp:List Blk} {Im:Nat→Prop} {ι:Nat→Option Value} {w:World} {p:SV} {vp:Value} {b c:Nat} {T:TypeId} {a d:List SV} {k:IntKind} {x:Int} (m:Mem C E hp Im ι w) (hv:VRel Im ι w p vp) (h:In hp p=some (b,c,T,a,k,x,d)) (y:Int):
  ∃ r,vp= .pointer (some ⟨r,c,none⟩)∧w.cell? ⟨r,c,none⟩=some (.int k x)∧w.frozen? ⟨r,c,none⟩=false∧
   Mem C E (hp.set b (.cells T (a++ .int k y::d))) Im ι (w.setCell ⟨r,c,none⟩ (.int k y))∧Later Im ι w Im ι (w.setCell ⟨r,c,none⟩ (.int k y)):=by
 obtain ⟨r,va,vd,rfl,h1,hl,h2,h3,h4⟩:=GP m.hv hv h
 have hs:=L3 (v':= .int k y) h2 h3
 have hc:=cell_of_row h2 h3
 obtain ⟨m',l'⟩:=rO (hp':=hp.set b (.cells T (a++ .int k y::d))) m h1 hl h2 (fun b' hb'=>gK _ _ hb') (ft _ _ (mV hl)) (h4 y)
 exact ⟨r,rfl,hc.1,hc.2,by rw [hs];exact m',by rw [hs];exact l'⟩
end Go.Avc
