/-
 The conditions of the reference's steps on bits are met.
-/
import Derived.Test.YteiecapbaeajdaaGreatDoorJ5
import Derived.Test.YteiecapbaeajdaaGreatDoorJ4
import Derived.Recover
import Derived.Laws.Externs
import Derived.Laws.MathBits
open Nat renaming mul_one→anR,pow_le_pow_right→asH,lt_or_ge→atI,le_refl→ar5,add_sub_cancel→awW,testBit_lt_two_pow→asF,lt_of_lt_of_le→asG,beq→asM
open Int renaming pow_succ→awM,ediv_ediv_of_nonneg→awN,le_of_lt→awO,pow_pos→awP,natCast_pow→awD,ediv_one→awQ,ediv_nonneg→ase,ediv_le_self→awR,natCast_zero→awS,fdiv_eq_ediv_of_nonneg→awT,mul_nonneg→awX,natCast_nonneg→awL,eq_ofNat_of_zero_le→as6
open List renaming replicate→ab0,map→asv,take→ar0,drop→ar1,drop_zero→as8,take_of_length_le→agv,length_replicate→asy,map_append→ast,getElem?_set→asX,ext_getElem→awB,getElem?_range→atG,length_take→ajw,getElem?_append_left→aeU,getElem?_take_of_lt→awU,getElem?_append_right→ae5,getElem?_drop→akB,getElem?_replicate→awV,append_nil→aiz
open BitVec renaming ofInt→abN
namespace Go.Proofs.YteiecapbaeajdaaGreatDoor
open Go Go.Avc Go.Proofs
set_option linter.unusedVariables false
set_option linter.unusedSimpArgs false
set_option maxRecDepth 100000
open Go Go.Avc
noncomputable section
theorem bx {n:Int} (h:0≤n):∃ i:Nat,n=i:=⟨n.toNat,by omega⟩
theorem bL (i:Nat):((i:Int)+1).toNat=i+1:=by omega
theorem m5 (x k:Nat):(((x:Int)+(k:Int))%5).toNat=(x+k)%5:=by omega
theorem arw:ahz:=by
 delta ahz iR aN fR om eA fH jF xc cq pP q7
 intro a ha _
 refine ⟨⟨⟨rfl,by omega,by omega,rfl⟩,trivial⟩,?_⟩
 rintro x' a1 _ t _ _ _ ⟨rfl,h0,h1,ht⟩
 obtain ⟨x,rfl⟩:=bx h0
 rw [aA] at ht
 refine aa (fun h=> ?_) fun h=> ?_
 ·simp only [aQ] at h
  refine ⟨⟨⟨rfl,rfl,by omega,by omega,rfl⟩,trivial⟩,?_⟩
  rintro x' y' a2 _ t1 _ _ _ ⟨rfl,rfl,h2,h3,ht1⟩
  obtain ⟨y,rfl⟩:=bx h2
  rw [aA,aA] at ht1
  refine aa (fun h4=> ?_) fun h4=> ?_
  ·simp only [aQ] at h4
   refine ⟨⟨⟨rfl,rfl,rfl,by omega,by omega,rfl⟩,trivial⟩,?_⟩
   rintro x' y' z' a3 _ t2 _ _ _ ⟨rfl,rfl,rfl,h5,h6,ht2⟩
   obtain ⟨z,rfl⟩:=bx h5
   simp only [aA] at ht2
   refine aa (fun h7=> ?_) fun h7=> ?_
   ·simp only [aQ] at h7
    have e1:(((x:Int)+1)%5).toNat=(x+1)%5:=m5 x 1
    have e2:(((x:Int)+2)%5).toNat=(x+2)%5:=m5 x 2
    simp only [aA,e1,e2,bL,anR]
    refine ⟨by omega,by omega,by omega,by omega,by omega,by omega,by omega,by omega,by omega,by omega,fun _=>by omega,fun _=>by omega,fun _=>by omega,fun _=>by omega,fun _=>by omega,fun _=>by omega,by omega,by omega,by omega,by omega,by omega,⟨by trivial,by trivial,by trivial,by omega,by omega,?_⟩,by omega⟩
    rw [ht2];rfl
   ·simp only [aT] at h7
    have hz:z=64:=by omega
    subst hz
    refine ⟨by omega,⟨by trivial,by trivial,by omega,by omega,?_⟩,by omega⟩
    rw [bL,ht2,ht1];rfl
  ·simp only [aT] at h4
   have hy:y=5:=by omega
   subst hy
   refine ⟨by omega,⟨by trivial,by omega,by omega,?_⟩,by omega⟩
   rw [bL,ht1,ht];rfl
 ·simp only [aT] at h
  have hx:x=5:=by omega
  subst hx
  rw [ht];rfl
theorem ajX:(base.with Zz).Ok:=ab ake (ai ah6 ake Tryz.func220 (by kernel_rfl) Tryz.call220 (by kernel_rfl) arw)
theorem xy5 (x y:Nat):((2*(x:Int)+3*(y:Int))%5).toNat=(2*x+3*y)%5:=by
 have:2*(x:Int)+3*(y:Int)=((2*x+3*y:Nat):Int):=by omega
 rw [this]
 generalize 2*x+3*y=m
 omega
theorem apg:ahh:=by
 delta ahh iR aN fR om eA cq q7 zq
 intro a ha _
 refine ⟨⟨⟨rfl,by omega,by omega,rfl⟩,trivial⟩,?_⟩
 rintro x' a1 _ t _ _ _ ⟨rfl,h0,h1,ht⟩
 obtain ⟨x,rfl⟩:=bx h0
 rw [aA] at ht
 refine aa (fun h=> ?_) fun h=> ?_
 ·simp only [aQ] at h
  refine ⟨⟨⟨rfl,rfl,by omega,by omega,rfl⟩,trivial⟩,?_⟩
  rintro x' y' a2 _ t1 _ _ _ ⟨rfl,rfl,h2,h3,ht1⟩
  obtain ⟨y,rfl⟩:=bx h2
  rw [aA,aA] at ht1
  refine aa (fun h4=> ?_) fun h4=> ?_
  ·simp only [aQ] at h4
   have e1:=xy5 x y
   have e2:(2*x+3*y)%5<5:=Nat.mod_lt _ (by decide)
   simp only [aA,e1,bL,anR]
   refine ⟨by omega,by omega,by omega,by omega,by omega,by omega,by omega,by omega,by omega,by omega,by omega,⟨by trivial,by trivial,by omega,by omega,?_⟩,by omega⟩
   rw [ht1];rfl
  ·simp only [aT] at h4
   have hy:y=5:=by omega
   subst hy
   refine ⟨by omega,⟨by trivial,by omega,by omega,?_⟩,by omega⟩
   rw [bL,ht1,ht];rfl
 ·simp only [aT] at h
  have hx:x=5:=by omega
  subst hx
  rw [ht];rfl
theorem acA:(base.with Yc).Ok:=ab ajX (ai adT ajX Tryz.func221 (by kernel_rfl) Tryz.call221 (by kernel_rfl) apg)
theorem aqO:ai1:=by
 delta ai1 iR aN eA fH jF cq pP mu
 intro a ha _
 refine ⟨by omega,by omega,by omega,by omega,by omega,by omega,⟨⟨rfl,by omega,by omega,rfl,rfl,rfl⟩,trivial⟩,?_⟩
 rintro x' y' t' a1 _ l1 _ _ _ ⟨rfl,h0,h1,rfl,rfl,hl⟩
 obtain ⟨t,rfl⟩:=bx h0
 rw [aA] at *
 refine aa (fun h=> ?_) fun h=> ?_
 ·simp only [aQ] at h
  refine ⟨⟨⟨rfl,rfl,rfl,rfl,by omega,by omega,rfl⟩,trivial⟩,?_⟩
  rintro x' y' t' z' a2 _ l2 _ _ _ ⟨rfl,rfl,rfl,rfl,h2,h3,hl2⟩
  obtain ⟨z,rfl⟩:=bx h2
  obtain ⟨hx,hy⟩:=Xw t
  simp only [aA] at hl2
  refine aa (fun h4=> ?_) fun h4=> ?_
  ·simp only [aQ] at h4
   have hm:(t+1)*(t+2)≤24*25:=Nat.mul_le_mul (by omega) (by omega)
   have em:((t:Int)+1)*((t:Int)+2)=(((t+1)*(t+2):Nat):Int):=by simp
   have eq0:((z:Int)+(((t+1)*(t+2):Nat):Int) / 2)%64=(((z+(t+1)*(t+2) / 2)%64:Nat):Int):=by omega
   have emax:IntKind.max .i64=9223372036854775807:=by decide
   rw [em,eq0,emax]
   simp only [aA,bL,anR]
   have hlt:(z+(t+1)*(t+2) / 2)%64<64:=Nat.mod_lt _ (by decide)
   refine ⟨by omega,by omega,by omega,by omega,by omega,by omega,by omega,by omega,by omega,by omega,by omega,by omega,by omega,by omega,by omega,⟨by trivial,by trivial,by trivial,by trivial,by omega,by omega,?_⟩,by omega⟩
   rw [hl2];rfl
  ·simp only [aT] at h4
   have hz:z=64:=by omega
   subst hz
   have e1:=xy5 (br t).1 (br t).2
   refine ⟨by omega,by omega,by omega,by omega,by omega,⟨by trivial,by omega,by omega,?_,?_,?_⟩,by omega⟩
   ·rw [bL];rfl
   ·rw [bL]
    show _=(((2*(br t).1+3*(br t).2)%5:Nat):Int)
    rw [← e1]
    omega
   ·rw [bL,hl2,hl];rfl
 ·simp only [aT] at h
  have ht:t=24:=by omega
  subst ht
  rw [hl];rfl
theorem ahZ:(base.with Zc).Ok:=ab acA (ai ac4 acA Tryz.func222 (by kernel_rfl) Tryz.call222 (by kernel_rfl) aqO)
theorem ang:aia:=by
 delta aia iR aN fR om eA fH jF cq pP q7 zq yL
 intro a ha _
 refine ⟨⟨⟨rfl,by omega,by omega,rfl⟩,trivial⟩,?_⟩
 rintro x' a1 _ p _ _ _ ⟨rfl,h0,h1,ht⟩
 obtain ⟨x,rfl⟩:=bx h0
 rw [aA] at ht
 refine aa (fun h=> ?_) fun h=> ?_
 ·simp only [aQ] at h
  refine ⟨⟨⟨rfl,rfl,by omega,by omega,rfl⟩,trivial⟩,?_⟩
  rintro x' z' a2 _ p1 _ _ _ ⟨rfl,rfl,h2,h3,ht1⟩
  obtain ⟨z,rfl⟩:=bx h2
  rw [aA,aA] at ht1
  refine aa (fun h4=> ?_) fun h4=> ?_
  ·simp only [aQ] at h4
   refine ⟨⟨⟨rfl,rfl,rfl,rfl,by omega,by omega,rfl,by omega,by omega⟩,trivial⟩,?_⟩
   rintro x' z' n' y' a3 _ p2 _ _ _ ⟨rfl,rfl,rfl,rfl,h5,h6,hn,h8,h9⟩
   obtain ⟨y,rfl⟩:=bx h5
   simp only [aA] at hn
   refine aa (fun h7=> ?_) fun h7=> ?_
   ·simp only [aQ] at h7
    simp only [aA,bL,anR]
    refine ⟨by omega,by omega,by omega,by omega,?_⟩
    refine aa (fun hb=> ?_) fun hb=> ?_
    ·refine ⟨by omega,by omega,⟨by trivial,by trivial,by trivial,by trivial,by omega,by omega,?_,by omega,by omega⟩,by omega⟩
     rw [hn,gM]
     exact (if_pos hb).symm
    ·refine ⟨by omega,⟨by trivial,by trivial,by trivial,by trivial,by omega,by omega,?_,by omega,by omega⟩,by omega⟩
     rw [hn,gM]
     exact (if_neg (by unfold gb aG;rw [hb];decide)).symm
   ·simp only [aT] at h7
    have hy:y=5:=by omega
    subst hy
    simp only [aA,bL,anR]
    refine ⟨by omega,by omega,by omega,by omega,by omega,⟨by trivial,by trivial,by omega,by omega,?_⟩,by omega⟩
    rw [ht1,hn];rfl
  ·simp only [aT] at h4
   have hz:z=64:=by omega
   subst hz
   refine ⟨by omega,⟨by trivial,by omega,by omega,?_⟩,by omega⟩
   rw [bL,ht1,ht];rfl
 ·simp only [aT] at h
  have hx:x=5:=by omega
  subst hx
  refine ⟨⟨⟨by trivial,ht,by omega,by omega,rfl⟩,trivial⟩,?_⟩
  clear ht h h1 h0
  rintro x' a2 _ p2 t _ _ _ _ ⟨rfl,hp,h0,h1,ht⟩
  obtain ⟨x,rfl⟩:=bx h0
  rw [aA] at ht
  refine aa (fun h=> ?_) fun h=> ?_
  ·simp only [aQ] at h
   refine ⟨⟨⟨rfl,rfl,rfl,by omega,by omega,rfl⟩,trivial⟩,?_⟩
   rintro x' y' a2 _ p3 t1 _ _ _ _ ⟨rfl,rfl,rfl,h2,h3,ht1⟩
   obtain ⟨y,rfl⟩:=bx h2
   rw [aA,aA] at ht1
   refine aa (fun h4=> ?_) fun h4=> ?_
   ·simp only [aQ] at h4
    refine ⟨⟨⟨rfl,rfl,rfl,rfl,by omega,by omega,rfl⟩,trivial⟩,?_⟩
    rintro x' y' z' a3 _ p3 t2 _ _ _ _ ⟨rfl,rfl,rfl,rfl,h5,h6,ht2⟩
    obtain ⟨z,rfl⟩:=bx h5
    simp only [aA] at ht2
    refine aa (fun h7=> ?_) fun h7=> ?_
    ·simp only [aQ] at h7
     have e1:(((x:Int)+4)%5).toNat=(x+4)%5:=m5 x 4
     have e2:(((x:Int)+1)%5).toNat=(x+1)%5:=m5 x 1
     have e3:(((z:Int)+63)%64).toNat=(z+63)%64:=by omega
     simp only [aA,e1,e2,e3,bL,anR]
     refine ⟨by omega,by omega,by omega,by omega,by omega,by omega,by omega,by omega,by omega,by omega,by omega,by omega,by omega,by omega,by omega,by omega,by omega,by omega,by omega,by omega,by omega,⟨by trivial,by trivial,by trivial,by trivial,by omega,by omega,?_⟩,by omega⟩
     rw [ht2];rfl
    ·simp only [aT] at h7
     have hz:z=64:=by omega
     subst hz
     refine ⟨by omega,⟨by trivial,by trivial,by trivial,by omega,by omega,?_⟩,by omega⟩
     rw [bL,ht2,ht1];rfl
   ·simp only [aT] at h4
    have hy:y=5:=by omega
    subst hy
    refine ⟨by omega,⟨by trivial,hp,by omega,by omega,?_⟩,by omega⟩
    rw [bL,ht1,ht];rfl
  ·simp only [aT] at h
   have hx:x=5:=by omega
   subst hx
   rw [ht,hp];rfl
theorem aeM:(base.with VJ).Ok:=ab ahZ (ai afw ahZ Tryz.func223 (by kernel_rfl) Tryz.call223 (by kernel_rfl) ang)
theorem aoC:adm:=by
 delta adm iR aN fH cq pP mu Ai
 intro a r ha _
 refine ⟨trivial,trivial,trivial,trivial,trivial,⟨⟨rfl,by omega,by omega,rfl⟩,trivial⟩,?_⟩
 rintro z' t _ c _ _ _ ⟨hc,h0,h1,ht⟩
 obtain ⟨z,rfl⟩:=bx h0
 rw [aA] at ht
 refine aa (fun h=> ?_) fun h=> ?_
 ·simp only [aQ] at h
  simp only [aA,bL,anR,Nat.zero_add]
  refine ⟨by omega,by omega,by omega,by omega,by omega,by omega,by omega,by omega,by omega,by omega,by omega,⟨hc,by omega,by omega,?_⟩,by omega⟩
  rw [ht,hc];rfl
 ·simp only [aT] at h
  have hz:z=64:=by omega
  subst hz
  rw [ht];rfl
theorem aij:(base.with Yg).Ok:=ab aeM (ai adr aeM Tryz.func195 (by kernel_rfl) Tryz.call195 (by kernel_rfl) aoC)
theorem UK (n:Nat) (v:Int):v / 2 ^ n / 2=v / 2 ^ (n+1):=by
 rw [awM,awN (awO (awP (by decide)))]
theorem aiA {v:Int} (h:0≤v) (z:Nat):decide (v / 2 ^ z%2=1)=bt v z:=by
 obtain ⟨n,rfl⟩:=bx h
 unfold bt
 rw [aA,Nat.testBit_eq_decide_div_mod_eq,show (2:Int) ^ z=((2 ^ z:Nat):Int) from by rw [awD];rfl]
 apply decide_eq_decide.2
 rw [← Int.natCast_ediv]
 omega
theorem aoo:ait:=by
 delta ait iR aN fR fH cq pP jk qf uN
 intro s hs hw
 refine ⟨⟨⟨rfl,by omega,by omega,rfl⟩,trivial⟩,?_⟩
 rintro i' s1 _ t _ _ _ ⟨rfl,h0,h1,ht⟩
 obtain ⟨i,rfl⟩:=bx h0
 simp only [aA] at ht
 refine aa (fun h=> ?_) fun h=> ?_
 ·simp only [aQ] at h
  have hv:=hw i
  simp only [aA,anR]
  refine ⟨by omega,by omega,⟨⟨by trivial,by trivial,by omega,by omega,(awQ _).symm,rfl⟩,trivial⟩,?_⟩
  generalize hV:s1.getD i 0=V at *
  rintro i' v z' s2 _ t1 _ _ _ ⟨rfl,rfl,h2,h3,rfl,ht1⟩
  obtain ⟨z,rfl⟩:=bx h2
  simp only [aA] at ht1 ⊢
  have hp:(0:Int)<2 ^ z:=awP (by decide)
  have hd:0≤V / 2 ^ z:=ase hv.1 (awO hp)
  have hd2:V / 2 ^ z≤V:=awR _ hv.1
  have hd3:=hv.2
  refine aa (fun h4=> ?_) fun h4=> ?_
  ·simp only [aQ] at h4
   have emax:IntKind.max .i64=9223372036854775807:=by decide
   have emax2:IntKind.max .u64=18446744073709551615:=by decide
   have e1:((i:Int)%5).toNat=i%5:=by omega
   have e2:((i:Int) / 5).toNat=i / 5:=by omega
   rw [emax,emax2,UK,aiA hv.1]
   simp only [aA,e1,e2,bL,anR]
   refine ⟨by omega,by omega,by omega,by omega,by omega,by omega,by omega,by omega,by omega,⟨by trivial,by trivial,by omega,by omega,by trivial,?_⟩,by omega⟩
   rw [ht1];rfl
  ·simp only [aT] at h4
   have hz:z=64:=by omega
   subst hz
   refine ⟨by omega,⟨by trivial,by omega,by omega,?_⟩,by omega⟩
   rw [bL,ht1,ht,← hV];rfl
 ·simp only [aT] at h
  have hi:i=25:=by omega
  subst hi
  rw [ht];rfl
theorem adz:(base.with Zg).Ok:=ab aij (ai ahU aij Tryz.func194 (by kernel_rfl) Tryz.call194 (by kernel_rfl) aoo)
theorem YF (a:List Bool) (i:Nat):∀ n,wv a i n<2 ^ n
 | 0=>Nat.one_pos
 | n+1=>by
  have:=YF a i n
  rw [wv,Nat.pow_succ]
  split <;>omega
theorem ark:agQ:=by
 delta agQ iR aN fH cq jk uN
 intro a ha _
 refine ⟨⟨⟨rfl,by omega,by omega,rfl⟩,trivial⟩,?_⟩
 rintro i' a1 _ t _ _ _ ⟨rfl,h0,h1,ht⟩
 obtain ⟨i,rfl⟩:=bx h0
 simp only [aA] at ht ⊢
 refine aa (fun h=> ?_) fun h=> ?_
 ·simp only [aQ] at h
  refine ⟨⟨⟨by trivial,by trivial,by trivial,by omega,by omega,by omega⟩,trivial⟩,?_⟩
  rintro i' v z' a2 _ t1 _ _ _ ⟨rfl,rfl,rfl,h2,h3,rfl⟩
  refine aa (fun h4=> ?_) fun h4=> ?_
  ·simp only [aQ] at h4
   obtain ⟨z,rfl⟩:=bx h4
   have emax:IntKind.max .i64=9223372036854775807:=by decide
   have e1:((i:Int)%5).toNat=i%5:=by omega
   have e2:((i:Int) / 5).toNat=i / 5:=by omega
   have e3:((63:Int)-(z:Int)).toNat=63-z:=by omega
   have e4:((63:Int)-((z:Int)-1)).toNat=63-z+1:=by omega
   have hw:=YF a2 i (63-z)
   have hpow:2 ^ (63-z)≤2 ^ 63:=asH (by decide) (by omega)
   rw [emax]
   simp only [aA,e1,e2,e3,e4,anR]
   have hwu:∀ b:Nat,b≤1→IntKind.u64.wrap ((wv a2 i (63-z):Int)*2+b)=((2*wv a2 i (63-z)+b:Nat):Int):=fun b hb=>by rw [gq];omega
   refine ⟨by omega,by omega,by omega,by omega,by omega,by omega,?_⟩
   refine aa (fun hb=> ?_) fun hb=> ?_
   ·refine ⟨by omega,⟨by trivial,by trivial,by trivial,by omega,by omega,?_⟩,by omega⟩
    have:=hwu 0 (by omega)
    rw [awS,Int.add_zero,Nat.add_zero] at this
    rw [this,wv,if_pos (by rw [show 63-(63-z)=z from by omega];exact hb),gq]
    omega
   ·refine ⟨by omega,⟨by trivial,by trivial,by trivial,by omega,by omega,?_⟩,by omega⟩
    have:=hwu 0 (by omega)
    rw [awS,Int.add_zero,Nat.add_zero] at this
    rw [this,wv,if_neg (by rw [show 63-(63-z)=z from by omega];unfold gb aG;rw [hb];decide)]
    omega
  ·simp only [aT] at h4
   have hz:z'= -1:=by omega
   subst hz
   refine ⟨by omega,by omega,by omega,⟨by trivial,by omega,by omega,?_⟩,by omega⟩
   rw [bL,ht,aA,anR];rfl
 ·simp only [aT] at h
  have hi:i=25:=by omega
  subst hi
  rw [ht,yU,al]
theorem ahN:(base.with WM).Ok:=ab adz (ai akh adz Tryz.func196 (by kernel_rfl) Tryz.call196 (by kernel_rfl) ark)
theorem anv:aiT:=by
 delta aiT iR aN cq jk
 intro s hs hw
 refine ⟨hw,⟨⟨by omega,by omega,rfl⟩,trivial⟩,?_⟩
 rintro n _ _ t _ _ _ ⟨h0,h1,ht⟩
 obtain ⟨i,rfl⟩:=bx h0
 rw [aA] at ht
 refine aa (fun h=> ?_) fun h=> ?_
 ·simp only [aQ] at h
  refine ⟨trivial,by omega,⟨by omega,by omega,?_⟩,by omega⟩
  rw [bL,ht];rfl
 ·simp only [aT] at h
  have hi:i=24:=by omega
  subst hi
  exact ⟨trivial,by rw [ht,p6,al]⟩
theorem acD:(base.with Xy).Ok:=ab ahN (ai afZ ahN Tryz.func156 (by kernel_rfl) Tryz.call156 (by kernel_rfl) anv)
abbrev rb:Pat:= .rd [.int .u8]
abbrev aK:Pat:= .rd [.int .u64]
abbrev ob:BPat:= .own 5 [.int .u8]
abbrev ow:BPat:= .own 73 [.int .u64]
def ae (n:Int):List CD:= [.int n]
def rv (l:LD) (i:Nat):Int:=((l.getD i []).getD 0 .d0).toInt
def cQ (l:LD):Prop:=∀ i,ap (rv l i)
def av (l:LD):Prop:=∀ i,0≤rv l i∧rv l i<256
def wb (w:Int) (k:Nat):Int:=w / 256 ^ k%256
def oD (w:Int):Nat→List Int
 | 0=> []
 | n+1=>oD w n++ [wb w n]
def dG (f:Nat→Int):Nat→List Int
 | 0=> []
 | n+1=>dG f n++oD (f n) 8
def iO (s:List Int):List Int:=hid (dG (fun i=>s.getD i 0) 25)
theorem oW (s:List Int):iO s=dG (fun i=>s.getD i 0) 25:=al _
def bg (l:LD):Nat→List Int
 | 0=>ab0 ((l.length+7) / 8) 0
 | i+1=>(bg l i).set (i / 8) (iq .u64 ((bg l i).getD (i / 8) 0) (eG .u64 (IntKind.u64.wrap (rv l i)) ((8*(i%8):Nat):Int)))
def mv (l:LD):Nat→List Int
 | 0=>ab0 25 0
 | n+1=>(mv l n).set ((l.length-1-n) / 8) (IntKind.u64.wrap (IntKind.u64.wrap ((mv l n).getD ((l.length-1-n) / 8) 0*256)+IntKind.u64.wrap (rv l (l.length-1-n))))
def wd (f:Nat→Int):Nat→Int
 | 0=>0
 | n+1=>wd f n+f n*256 ^ n
def Cb (l:LD):List Int:=(List.range 25).map fun j=>wd (fun k=>rv l (8*j+k)) 8
def ZJ:List Int:=hid (ab0 25 0)
theorem ak7:ZJ=ab0 25 0:=al _
def amI:Ct:= {ps:= [rb],bs:= [],pre:=fun | [.r l] =>l.length≤1000∧av l | _=>False,res:=fun | [.r l] => .ret (.own 0) [ow] [.r ((bg l l.length).map ae)] | _=>ag}
def ae6:List Dat→Ann
 | [.r l] =>⟨[],[(3,[la 33 [(3,.own 0),(11,rb),(12,i64),(13,i64)] [ow] (fun | [.r l',.i n,.i i,.r w] =>l'=l∧n=l.length∧0≤i∧i≤n∧w=(bg l i.toNat).map ae | _=>False) (fun | [_,.i n,.i i,_] =>(n-i).toNat | _=>0)])],[]⟩
 | _=> {cut:= [],loop:= []}
def alK:Ct:= {ps:= [aK],bs:= [],pre:=fun | [.r l] =>l.length≤1000∧cQ l | _=>False,res:=fun | [.r l] => .ret (.own 0) [ob] [.r ((dG (rv l) l.length).map ae)] | _=>ag}
def OW:List (Nat×Pat):= [(3,.own 0),(6,aK),(7,i64),(8,i64)]
def act:List Dat→Ann
 | [.r l] =>⟨[],[(3,[la 24 OW [ob] (fun | [.r l',.i n,.i i,.r o] =>l'=l∧n=l.length∧0≤i∧i≤n∧o=(dG (rv l) i.toNat).map ae | _=>False) (fun | [_,.i n,.i i,_] =>(n-i).toNat | _=>0)])],
  [(6,[la 24 (OW++ [(5,u64),(12,i64)]) [ob] kf jS],fun | [.i x0,.r l0,.i n0,.i i0,.i _,.r o0] => [la 24 (OW++ [(5,u64),(12,i64)]) [ob]
   (fun | [.i x,.r l',.i n,.i i,.i k,.r o] =>l'=l0∧n=n0∧i=i0∧0≤k∧k≤8∧x=x0 / 256 ^ k.toNat∧o=o0++(oD x0 k.toNat).map ae | _=>False) (fun | [_,_,_,_,.i k,_] =>(8-k).toNat | _=>0)] | _=> [])]⟩
 | _=> {cut:= [],loop:= []}
def aqY:Ct:= {ps:= [rb],bs:= [],pre:=fun | [.r l] =>av l | _=>False,res:=fun | [.r l] => .ite (decide (l.length≠200)) (.ret (.tup [st,i64]) [] [.li ZJ,.i 1]) (.ret (.tup [st,i64]) [] [.li (bg l 200),.i 0]) | _=>ag}
def aoT:Ct:= {ps:= [st],bs:= [],pre:=fun | [.li s] =>af s | _=>False,res:=fun | [.li s] => .ret (.agg [.arrI 200 .u8]) [] [.li (iO s)] | _=>ag}
def apa:Ct:= {ps:= [rb],bs:= [],pre:=fun | [.r l] =>l.length≤200∧av l | _=>False,res:=fun | [.r l] => .ret st [] [.li (mv l l.length)] | _=>ag}
def aeB:List Dat→Ann
 | [.r l] =>⟨[],[(3,[la 28 [(0,rb),(2,.ptr 0 0),(3,.ptr 1 0),(4,i64)] [qP,qP] (fun | [.r l',.i i,.li _,.li w] =>l'=l∧-1≤i∧i<l.length∧w=mv l (l.length-1-i).toNat | _=>False) (fun | [_,.i i,_,_] =>(i+1).toNat | _=>0)])],[]⟩
 | _=> {cut:= [],loop:= []}
def alU:Ct:= {ps:= [st],bs:= [],pre:=fun | [.li s] =>af s | _=>False,res:=fun | [.li s] => .ret (.own 0) [ob] [.r ((iO s).map ae)] | _=>ag}
def Qc:List (Nat×Pat):= [(1,.ptr 0 0),(3,.own 1),(4,i64)]
def acK:List Dat→Ann
 | [.li s] =>⟨[],[(3,[la 28 Qc [qP,ob] (fun | [.i i,.li s',.r o] =>s'=s∧0≤i∧i≤25∧o=(dG (fun i=>s.getD i 0) i.toNat).map ae | _=>False) (fun | [.i i,_,_] =>(25-i).toNat | _=>0)])],
  [(7,[la 28 (Qc++ [(5,u64),(6,i64)]) [qP,ob] kf jS],fun | [.i i0,.i x0,.i _,.li s0,.r o0] => [la 28 (Qc++ [(5,u64),(6,i64)]) [qP,ob]
   (fun | [.i i,.i x,.i k,.li s,.r o] =>i=i0∧s=s0∧0≤k∧k≤8∧x=x0 / 256 ^ k.toNat∧o=o0++(oD x0 k.toNat).map ae | _=>False) (fun | [_,_,.i k,_,_] =>(8-k).toNat | _=>0)] | _=> [])]⟩
 | _=> {cut:= [],loop:= []}
abbrev wY (a:LD):Int:=
 (↑a.length+7) / 8
abbrev mB (a:Int)(b:LD):Int:=
 ((b.getD a.toNat []).getD 0 (.int 0)).toInt
def aeK:Prop:=
 ∀ (a:LD),
 lM a→
 a.length≤1000∧av a→
 lM a→
 iR ((↑a.length:Int)+7)∧
 (0≤(↑a.length:Int)+7∧(0:Int)<(8:Int)∧(↑a.length:Int)+7≤IntKind.i64.max)∧
 (0≤wY a∧
 wY a≤wY a∧
 (↑(8:Nat):Int)*wY a≤140737488355328∧
 wY a≤9223372036854775807)∧
 (lM a→
 ((a=a∧
 (↑a.length:Int)=(↑a.length:Int)∧
 (0:Int)≤0∧
 0≤(↑a.length:Int)∧
 ab0 (wY a).toNat [.int 0] =
 asv ae (bg a 0))∧
 True)∧
 ∀ (b:LD) (c d:Int) (e:LD),
 lM b→
 lM e→
 b=a∧
 c=(↑a.length:Int)∧
 0≤d∧d≤c∧e=asv ae (bg a d.toNat)→
 bif decide (d<c) then
 bR d b∧
 d.toNat<b.length∧
 (0≤d∧(0:Int)<(8:Int)∧d≤IntKind.i64.max)∧
 bR (d / 8) e∧
 (d / 8).toNat<e.length∧
 (0≤d∧(0:Int)<(8:Int))∧
 iR ((8:Int)*(d%(8:Int)))∧
 (0:Int)≤8*(d%(8:Int))∧
 bR (d / 8) e∧
 (d / 8).toNat<e.length∧
 iR (d+1)∧
 (b=a∧
 c=(↑a.length:Int)∧
 0≤d+1∧
 d+1≤c∧
 e.set (d / 8).toNat
 ((e.getD (d / 8).toNat []).set 0
 (.int
 (iq .u64 ((e.getD (d / 8).toNat []).getD 0 (.int 0)).toInt
 (eG .u64 (IntKind.u64.wrap (mB d b))
 ((8:Int)*(d%(8:Int)))))))=
 asv ae (bg a (d+1).toNat))∧
 (c-(d+1)).toNat<(c-d).toNat
 else e=asv ae (bg a a.length))
def VP:ac:=ak Xy 145 (aq amI)
def akS:Prop:=
 ∀ (a:LD),
 lM a→
 a.length≤1000∧cQ a→
 lM a→
 ((a=a∧
 (↑a.length:Int)=(↑a.length:Int)∧
 (0:Int)≤0∧
 0≤(↑a.length:Int)∧
 [] =asv ae (dG (rv a) 0))∧
 True)∧
 ∀ (b:LD) (c d:Int) (e:LD),
 lM b→
 lM e→
 b=a∧
 c=(↑a.length:Int)∧
 0≤d∧
 d≤c∧
 e=asv ae (dG (rv a) d.toNat)→
 bif decide (d<c) then
 bR d b∧
 d.toNat<b.length∧
 ((b=b∧
 c=c∧
 d=d∧
 (0:Int)≤0∧
 (0:Int)≤8∧
 mB d b=mB d b / 256 ^ 0∧
 e=
 e++
 asv ae
 (oD (mB d b) 0))∧
 True)∧
 ∀ (f:Int) (g:LD) (h i j:Int) (k:LD),
 lM g→
 lM k→
 g=b∧
 h=c∧
 i=d∧
 0≤j∧
 j≤8∧
 f=mB d b / 256 ^ j.toNat∧
 k=
 e++
 asv ae
 (oD (mB d b) j.toNat)→
 bif decide (j<(8:Int)) then
 aR (k.length+1) 1∧
 (0:Int)≤8∧
 iR (j+1)∧
 (g=b∧
 h=c∧
 i=d∧
 0≤j+1∧
 j+1≤8∧
 aL .u64 f 8=mB d b / 256 ^ (j+1).toNat∧
 k++ [[.int (IntKind.u8.wrap f)]] =
 e++
 asv ae
 (oD (mB d b) (j+1).toNat))∧
 ((8:Int)-(j+1)).toNat<((8:Int)-j).toNat
 else
 iR (i+1)∧
 (g=a∧
 h=(↑a.length:Int)∧
 0≤i+1∧
 i+1≤h∧
 k=
 asv ae
 (dG (rv a) (i+1).toNat))∧
 (h-(i+1)).toNat<(c-d).toNat
 else e=asv ae (dG (rv a) a.length)
def Xr:ac:=ak VP 102 (aq alK)
abbrev EP:List Int:=
 [0,0,0,0,0,0,0,0,0,0,0,0,0,0,0,0,
 (0:Int),0,0,0,0,0,0,0,0]
abbrev Ou (a:LD):List Int:=
 asv (fun b=>(b.getD 0 (.int 0)).toInt)
 (ar0 25 (ar1 0 (asv ae (bg a a.length))))
def aiO:Prop:=
 ∀ (a:LD),
 lM a→
 av a→
 lM a→
 bif decide ((↑a.length:Int)≠200) then
 bif decide (a.length≠200) then EP=ZJ∧(1:Int)=1
 else EP=bg a 200∧(1:Int)=0
 else
 (a.length≤1000∧av a)∧
 25≤(asv ae (bg a a.length)).length∧
 25≤(asv ae (bg a a.length)).length∧
 bif decide (a.length≠200) then Ou a=ZJ∧(0:Int)=1
 else Ou a=bg a 200∧(0:Int)=0
def ZH:ac:=ak Xr 296 (aq aqY)
abbrev xG (a:List Int):LD:=
 asv (fun b=> [.int b]) (ar0 25 (ar1 0 a))
abbrev OX (a:List Int):Prop:=
 200≤
 (asv ae
 (dG (rv (xG a))
 (xG a).length)).length
def agJ:Prop:=
 ∀ (a:List Int),
 a.length=25→
 af a→
 ((0:Int)≤0∧0≤(↑(25:Nat):Int)∧(↑(25:Nat):Int)≤(↑(25:Nat):Int)∧(0:Int)<(↑(25:Nat):Int))∧
 ((xG a).length≤1000∧cQ (xG a))∧
 OX a∧
 OX a∧
 asv (fun b=>(b.getD 0 (.int 0)).toInt)
 (ar0 200
 (ar1 0
 (asv ae
 (dG (rv (xG a))
 (xG a).length))))=
 iO a
def YK:ac:=ak ZH 148 (aq aoT)
abbrev tF (a:LD):Int:=
 ↑a.length-(1:Int)
def ajt:Prop:=
 ∀ (a:LD),
 lM a→
 a.length≤200∧av a→
 lM a→
 iR (tF a)∧
 ((a=a∧
 (-1:Int)≤tF a∧
 tF a<↑a.length∧
 EP=
 mv a (tF a-tF a).toNat)∧
 True)∧
 ∀ (b:LD) (c:Int) (d e:List Int),
 lM b→
 d.length=25→
 e.length=25→
 b=a∧(-1:Int)≤c∧c<↑a.length∧e=mv a (tF a-c).toNat→
 bif decide (0≤c) then
 (0≤c∧(0:Int)<(8:Int)∧c≤IntKind.i64.max)∧
 (0≤c∧(0:Int)<(8:Int)∧c≤IntKind.i64.max)∧
 (0≤c / 8∧c / 8<(↑(25:Nat):Int))∧
 (c / 8).toNat*1<(25:Nat)∧
 bR c b∧
 c.toNat<b.length∧
 (0≤c / 8∧c / 8<(↑(25:Nat):Int))∧
 (c / 8).toNat*1<(25:Nat)∧
 iR (c-(1:Int))∧
 (b=a∧
 (-1:Int)≤c-(1:Int)∧
 c-(1:Int)<↑a.length∧
 e.set ((c / 8).toNat*1)
 (IntKind.u64.wrap
 (IntKind.u64.wrap (e.getD ((c / 8).toNat*1) 0*256)+
 IntKind.u64.wrap (mB c b)))=
 mv a (tF a-(c-(1:Int))).toNat)∧
 (c-(1:Int)+1).toNat<(c+1).toNat
 else e=mv a a.length
def YD:ac:=ak YK 157 (aq apa)
abbrev ub (a:Int)(b:List Int):Int:=
 b.getD (a.toNat*1) 0
def ahA:Prop:=
 ∀ (a:List Int),
 a.length=25→
 af a→
 ((a=a∧
 (0:Int)≤0∧
 (0:Int)≤25∧ [] =asv ae (dG (fun b=>a.getD b 0) 0))∧
 True)∧
 ∀ (b:Int) (c:List Int) (d:LD),
 c.length=25→
 lM d→
 c=a∧
 0≤b∧
 b≤25∧d=asv ae (dG (fun e=>a.getD e 0) b.toNat)→
 bif decide (b<(25:Int)) then
 (0≤b∧b<(↑(25:Nat):Int))∧
 b.toNat*1<(25:Nat)∧
 ((b=b∧
 c=c∧
 (0:Int)≤0∧
 (0:Int)≤8∧
 ub b c=ub b c / 256 ^ (0:Nat)∧
 d=
 d++
 asv ae
 (oD (ub b c) 0))∧
 True)∧
 ∀ (e f g:Int) (h:List Int) (i:LD),
 h.length=25→
 lM i→
 e=b∧
 h=c∧
 0≤g∧
 g≤8∧
 f=ub b c / 256 ^ g.toNat∧
 i=
 d++
 asv ae
 (oD (ub b c) g.toNat)→
 bif decide (g<(8:Int)) then
 (0≤f∧(0:Int)<(256:Int))∧
 aR (i.length+1) 1∧
 (0≤f∧(0:Int)<(256:Int)∧f≤IntKind.u64.max)∧
 iR (g+1)∧
 (e=b∧
 h=c∧
 0≤g+1∧
 g+1≤8∧
 f / 256=ub b c / 256 ^ (g+1).toNat∧
 i++ [[.int (IntKind.u8.wrap (f%(256:Int)))]] =
 d++
 asv ae
 (oD (ub b c) (g+1).toNat))∧
 ((8:Int)-(g+1)).toNat<((8:Int)-g).toNat
 else
 iR (e+1)∧
 (h=a∧
 0≤e+1∧
 e+1≤25∧
 i=
 asv ae
 (dG (fun j=>a.getD j 0) (e+1).toNat))∧
 ((25:Int)-(e+1)).toNat<((25:Int)-b).toNat
 else d=asv ae (iO a)
def V3:ac:=ak YD 155 (aq alU)
theorem Cl {L:List Int} {i:Nat} (h:i<L.length):(L.map ae).getD i [] = [.int (L.getD i 0)] :=by
 rw [ay,eW,ay,cH h];rfl
theorem da (L:List Int) (i:Nat):rv (L.map ae) i=L.getD i 0:=by
 unfold rv
 rcases atI i L.length with h | h
 ·rw [Cl h];rfl
 ·have e1:(L.map ae).getD i [] = [] :=by rw [ay,eW,gd h];rfl
  have e2:L.getD i 0=0:=by rw [ay,gd h];rfl
  rw [e1,e2];rfl
theorem Um (L:List Int) (i:Nat) (x:Int):(L.map ae).set i [.int x] =(L.set i x).map ae:=by
 rw [List.map_set];rfl
theorem R3 (L:List Int):(L.map ae).map (fun r=>(r.getD 0 (CD.int 0)).toInt)=L:=by
 rw [List.map_map]
 have:((fun r:List CD=>(r.getD 0 (CD.int 0)).toInt) ∘ ae)=id:=by funext x;rfl
 rw [this,List.map_id]
theorem rh {L:List Int} {n:Nat} (h:L.length=n):asv (fun r=>(r.getD 0 (CD.int 0)).toInt) (ar0 n (ar1 0 (L.map ae)))=L:=by
 rw [as8,agv (by simp [h]),R3]
theorem fK (l:LD):∀ n,(bg l n).length=(l.length+7) / 8
 | 0=>by rw [bg,asy]
 | n+1=>by rw [bg,df,fK l n]
theorem IZ (l:LD):∀ n,(mv l n).length=25
 | 0=>by rw [mv,asy]
 | n+1=>by rw [mv,df,IZ l n]
theorem sS (w:Int):∀ n,(oD w n).length=n
 | 0=>rfl
 | n+1=>by rw [oD,ce,sS w n];rfl
theorem j9 (f:Nat→Int):∀ n,(dG f n).length=8*n
 | 0=>rfl
 | n+1=>by rw [dG,ce,j9 f n,sS];omega
theorem NF (n:Nat) (v:Int):v / 256 ^ n / 256=v / 256 ^ (n+1):=by
 rw [awM,awN (awO (awP (by decide)))]
theorem LI (n:Int):IntKind.u8.wrap n=n%256:=by
 simp [IntKind.wrap,IntKind.signed,IntKind.bits]
theorem av6 (x:Int):aL .u64 x 8=x / 256:=by
 unfold aL
 rw [show (2:Int) ^ min (8:Int).toNat (IntKind.bits .u64)=256 from by decide,awT _ (by decide)]
theorem aaL {v:Int} (h:0≤v) (n:Nat):0≤v / 256 ^ n∧v / 256 ^ n≤v:=
 ⟨ase h (awO (awP (by decide))),awR _ h⟩
theorem gc (l:LD) (i:Nat):((l.getD i []).getD 0 (CD.int 0)).toInt=rv l i:=rfl
theorem KN:IntKind.max .i64=9223372036854775807:=by decide
theorem ah0:IntKind.max .u64=18446744073709551615:=by decide
theorem anS:aeK:=by
 delta aeK lM iR bR wY mB
 rintro l _ ⟨hl,hb⟩ _
 have e0:(((l.length:Int)+7) / 8).toNat=(l.length+7) / 8:=by omega
 rw [KN,e0]
 refine ⟨by omega,by omega,by omega,fun _=>⟨⟨⟨rfl,rfl,by omega,by omega,?_⟩,trivial⟩,?_⟩⟩
 ·rw [bg,List.map_replicate];rfl
 rintro l1 n i' w _ _ ⟨rfl,rfl,h0,h1,hw⟩
 obtain ⟨i,rfl⟩:=bx h0
 rw [aA] at hw
 have hwl:w.length=(l1.length+7) / 8:=by rw [hw,bp,fK]
 refine aa (fun h=> ?_) fun h=> ?_
 ·simp only [aQ] at h
  have e1:((i:Int) / 8).toNat=i / 8:=by omega
  simp only [aA,e1,bL]
  have hi:i / 8<(bg l1 i).length:=by rw [fK];omega
  refine ⟨by omega,by omega,by omega,by omega,by omega,by omega,by omega,by omega,by omega,by omega,by omega,⟨by trivial,by trivial,by omega,by omega,?_⟩,by omega⟩
  rw [hw,Cl hi]
  show ((bg l1 i).map ae).set (i / 8) [CD.int _] =_
  rw [Um,bg]
  have e2:(8:Int)*((i:Int)%8)=((8*(i%8):Nat):Int):=by omega
  rw [e2];rfl
 ·simp only [aT] at h
  have hi:i=l1.length:=by omega
  subst hi
  exact hw
theorem acJ:(base.with VP).Ok:=ab acD (ai ae6 acD Tryz.func145 (by kernel_rfl) Tryz.call145 (by kernel_rfl) anS)
theorem aoL:akS:=by
 delta akS lM iR aR bR mB
 rintro l _ ⟨hl,hb⟩ _
 refine ⟨⟨⟨rfl,rfl,by omega,by omega,rfl⟩,trivial⟩,?_⟩
 rintro l1 n i' o _ _ ⟨rfl,rfl,h0,h1,ho⟩
 obtain ⟨i,rfl⟩:=bx h0
 simp only [aA] at ho ⊢
 rw [gc]
 have hol:o.length=8*i:=by rw [ho,bp,j9]
 have hx:=hb i
 generalize hX:rv l1 i=X at *
 refine aa (fun h=> ?_) fun h=> ?_
 ·simp only [aQ] at h
  refine ⟨by omega,by omega,⟨⟨by trivial,by trivial,by trivial,by omega,by omega,(awQ _).symm,by rw [oD];simp⟩,trivial⟩,?_⟩
  rintro x l2 n i' k' o2 _ _ ⟨rfl,rfl,rfl,h2,h3,rfl,ho2⟩
  obtain ⟨k,rfl⟩:=bx h2
  simp only [aA] at ho2 ⊢
  have ho2l:o2.length=8*i+k:=by rw [ho2,ce,bp,sS,hol]
  refine aa (fun h4=> ?_) fun h4=> ?_
  ·simp only [aQ] at h4
   rw [bL]
   refine ⟨by omega,by omega,by omega,⟨by trivial,by trivial,by trivial,by omega,by omega,by rw [av6,NF],?_⟩,by omega⟩
   rw [ho2,oD,ast,← fE,LI];rfl
  ·simp only [aT] at h4
   have hk:k=8:=by omega
   subst hk
   refine ⟨by omega,⟨by trivial,by trivial,by omega,by omega,?_⟩,by omega⟩
   rw [bL,dG,ast,ho2,ho,hX]
 ·simp only [aT] at h
  have hi:i=l1.length:=by omega
  subst hi
  exact ho
theorem ajl:(base.with Xr).Ok:=ab acJ (ai act acJ Tryz.func102 (by kernel_rfl) Tryz.call102 (by kernel_rfl) aoL)
theorem al0:aiO:=by
 delta aiO lM EP Ou
 rintro l _ hb _
 refine aa (fun h=> ?_) fun h=> ?_
 ·simp only [aQ] at h
  refine aa (fun _=>⟨ak7.symm,rfl⟩) fun h2=> ?_
  simp only [aT] at h2
  omega
 ·simp only [aT] at h
  have hl:l.length=200:=by omega
  have hw:(bg l l.length).length=25:=by rw [fK,hl]
  refine ⟨⟨by omega,hb⟩,by rw [bp];omega,by rw [bp];omega,?_⟩
  rw [rh hw]
  refine aa (fun h2=> ?_) fun _=>⟨by rw [hl],rfl⟩
  simp only [aQ] at h2
  omega
theorem ajb:(base.with ZH).Ok:=ab ajl (ai am ajl Tryz.func296 (by kernel_rfl) Tryz.call296 (by kernel_rfl) al0)
theorem S9 (s:List Int):rv (asv (fun x=> [CD.int x]) s)=fun i=>s.getD i 0:=by
 funext i;exact da s i
theorem arX:agJ:=by
 delta agJ xG OX
 rintro s hs hw
 rw [as8,agv (by omega),S9,bp,hs]
 have h8:(dG (fun i=>s.getD i 0) 25).length=200:=j9 _ 25
 refine ⟨by omega,⟨by omega,fun i=> ?_⟩,by rw [bp];omega,by rw [bp];omega,(rh h8).trans (oW s).symm⟩
 rw [S9];exact hw i
theorem abL:(base.with YK).Ok:=ab ajb (ai am ajb Tryz.func148 (by kernel_rfl) Tryz.call148 (by kernel_rfl) arX)
theorem anh:ajt:=by
 delta ajt lM iR bR mB EP tF
 rintro l _ ⟨hl,hb⟩ _
 refine ⟨by omega,⟨⟨rfl,by omega,by omega,?_⟩,trivial⟩,?_⟩
 ·rw [show ((l.length:Int)-1-((l.length:Int)-1)).toNat=0 from by omega];rfl
 rintro l1 n _ w _ _ hwl ⟨rfl,h0,h1,hw⟩
 refine aa (fun h=> ?_) fun h=> ?_
 ·simp only [aQ] at h
  obtain ⟨i,rfl⟩:=bx h
  have e1:((i:Int) / 8).toNat=i / 8:=by omega
  have e2:((l1.length:Int)-1-(i:Int)).toNat=l1.length-1-i:=by omega
  have e3:((l1.length:Int)-1-((i:Int)-1)).toNat=(l1.length-1-i)+1:=by omega
  rw [e2] at hw
  rw [KN]
  simp only [aA,e1,e3,anR]
  refine ⟨by omega,by omega,by omega,by omega,by omega,by omega,by omega,by omega,by omega,⟨by trivial,by omega,by omega,?_⟩,by omega⟩
  rw [gc,mv,show l1.length-1-(l1.length-1-i)=i from by omega,← hw]
 ·simp only [aT] at h
  have hn:n= -1:=by omega
  subst hn
  rw [hw]
  congr 1
  omega
theorem afo:(base.with YD).Ok:=ab abL (ai aeB abL Tryz.func157 (by kernel_rfl) Tryz.call157 (by kernel_rfl) anh)
theorem aps:ahA:=by
 delta ahA lM iR aR ub
 rintro s hs hw
 refine ⟨⟨⟨rfl,by omega,by omega,rfl⟩,trivial⟩,?_⟩
 rintro i' s1 o _ _ ⟨rfl,h0,h1,ho⟩
 obtain ⟨i,rfl⟩:=bx h0
 simp only [aA,anR] at ho ⊢
 have hol:o.length=8*i:=by rw [ho,bp,j9]
 have hx:=hw i
 refine aa (fun h=> ?_) fun h=> ?_
 ·simp only [aQ] at h
  generalize hX:s1.getD i 0=X at *
  refine ⟨by omega,by omega,⟨⟨by trivial,by trivial,by omega,by omega,(awQ _).symm,by rw [oD];simp⟩,trivial⟩,?_⟩
  rintro i' x k' s2 o2 _ _ ⟨rfl,rfl,h2,h3,rfl,ho2⟩
  obtain ⟨k,rfl⟩:=bx h2
  simp only [aA] at ho2 ⊢
  have ho2l:o2.length=8*i+k:=by rw [ho2,ce,bp,sS,hol]
  have hd:=aaL hx.1 k
  have hx2:=hx.2
  refine aa (fun h4=> ?_) fun h4=> ?_
  ·simp only [aQ] at h4
   rw [bL,ah0]
   refine ⟨by omega,by omega,by omega,by omega,⟨by trivial,by trivial,by omega,by omega,by rw [NF],?_⟩,by omega⟩
   rw [ho2,oD,ast,← fE,LI,Int.emod_emod_of_dvd _ (Int.dvd_refl _)];rfl
  ·simp only [aT] at h4
   have hk:k=8:=by omega
   subst hk
   refine ⟨by omega,⟨by trivial,by omega,by omega,?_⟩,by omega⟩
   rw [bL,dG,ast,ho2,ho,hX]
 ·simp only [aT] at h
  have hi:i=25:=by omega
  subst hi
  rw [oW];exact ho
theorem agP:(base.with V3).Ok:=ab afo (ai acK afo Tryz.func155 (by kernel_rfl) Tryz.call155 (by kernel_rfl) aps)
theorem JC (l:List Bool) (i k:Nat) (x:Bool) (h:k<l.length):gb (l.set i x) k=if i=k then x else gb l k:=by
 unfold gb
 rw [ay,ay,asX]
 by_cases e:i=k
 ·subst e;simp [h]
 ·simp [e]
theorem qc (f:Nat→Nat) (g:Nat→Bool) (l:List Bool):∀ n,(eh f g l n).length=l.length
 | 0=>rfl
 | n+1=>by rw [eh,df,qc f g l n]
theorem qr (f:Nat→Nat→Nat) (g:Nat→Nat→Bool) (m:Nat) (l:List Bool):∀ n,(dt f g m l n).length=l.length
 | 0=>rfl
 | n+1=>by rw [dt,qc,qr f g m l n]
theorem t5 (f:Nat→Nat→Nat→Nat) (g:Nat→Nat→Nat→Bool) (k m:Nat) (l:List Bool):∀ n,(i4 f g k m l n).length=l.length
 | 0=>rfl
 | n+1=>by rw [i4,qr,t5 f g k m l n]
theorem CI {f:Nat→Nat} {b:Nat} (hf:∀ z,f z=b+z) (g:Nat→Bool) (l:List Bool) (k:Nat) (hk:k<l.length):∀ n,gb (eh f g l n) k=if b≤k∧k<b+n then g (k-b) else gb l k
 | 0=>by rw [if_neg (by omega)];rfl
 | n+1=>by
  rw [eh,JC _ _ _ _ (by rw [qc];exact hk),CI hf g l k hk n,hf]
  by_cases e:b+n=k
  ·rw [if_pos e,if_pos (by omega),show k-b=n from by omega]
  ·rw [if_neg e]
   by_cases e2:b≤k∧k<b+n
   ·rw [if_pos e2,if_pos (by omega)]
   ·rw [if_neg e2,if_neg (by omega)]
theorem B4 {f:Nat→Nat→Nat} {b:Nat} (hf:∀ y z,f y z=b+y*64+z) (g:Nat→Nat→Bool) (l:List Bool) (k:Nat) (hk:k<l.length):∀ n,gb (dt f g 64 l n) k=if b≤k∧k<b+n*64 then g ((k-b) / 64) ((k-b)%64) else gb l k
 | 0=>by rw [if_neg (by omega)];rfl
 | n+1=>by
  rw [dt,CI (hf n) _ _ _ (by rw [qr];exact hk),B4 hf g l k hk n]
  by_cases e:b+n*64≤k∧k<b+n*64+64
  ·rw [if_pos e,if_pos (by omega),show (k-b) / 64=n from by omega,show (k-b)%64=k-(b+n*64) from by omega]
  ·rw [if_neg e]
   by_cases e2:b≤k∧k<b+n*64
   ·rw [if_pos e2,if_pos (by omega)]
   ·rw [if_neg e2,if_neg (by omega)]
theorem JQ (g:Nat→Nat→Nat→Bool) (l:List Bool) (k:Nat) (hk:k<l.length):∀ n,gb (i4 aG g 5 64 l n) k=if k<n*320 then g (k / 320) (k%320 / 64) (k%64) else gb l k
 | 0=>by rw [if_neg (by omega)];rfl
 | n+1=>by
  rw [i4,B4 (f:=aG n) (b:=n*320) (fun y z=>rfl) _ _ _ (by rw [t5];exact hk),JQ g l k hk n]
  by_cases e:n*320≤k∧k<n*320+5*64
  ·rw [if_pos e,if_pos (by omega),show k / 320=n from by omega,show k%320 / 64=(k-n*320) / 64 from by omega,show k%64=(k-n*320)%64 from by omega]
  ·rw [if_neg e]
   by_cases e2:k<n*320
   ·rw [if_pos e2,if_pos (by omega)]
   ·rw [if_neg e2,if_neg (by omega)]
theorem l7:zB.length=1600:=asy
theorem Fd {x y z:Nat} (hx:x<5) (hy:y<5) (hz:z<64):aG x y z<1600:=by unfold aG;omega
theorem H0 {a b:List Bool} (ha:a.length=1600) (hb:b.length=1600) (h:∀ x y z,x<5→y<5→z<64→gb a (aG x y z)=gb b (aG x y z)):a=b:=by
 apply awB (by rw [ha,hb])
 intro i h1 h2
 have:=h (i / 320) (i%320 / 64) (i%64) (by omega) (by omega) (by omega)
 have e:aG (i / 320) (i%320 / 64) (i%64)=i:=by unfold aG;omega
 rw [e] at this
 unfold gb at this
 rw [ay,ay,cH h1,cH h2] at this
 simpa using this
theorem Hw {g:Nat→Nat→Nat→Bool} {x y z:Nat} (hx:x<5) (hy:y<5) (hz:z<64):gb (i4 aG g 5 64 zB 5) (aG x y z)=g x y z:=by
 have hk:=Fd hx hy hz
 rw [JQ g zB _ (by rw [l7];exact hk),if_pos (by omega)]
 have e1:aG x y z / 320=x:=by unfold aG;omega
 have e2:aG x y z%320 / 64=y:=by unfold aG;omega
 have e3:aG x y z%64=z:=by unfold aG;omega
 rw [e1,e2,e3]
theorem lR (s:List Int):(kp s).length=1600:=by unfold kp;rw [qr,l7]
theorem dV (s:List Int) {x y z:Nat} (hx:x<5) (hy:y<5) (hz:z<64):gb (kp s) (aG x y z)=bt (s.getD (x+5*y) 0) z:=by
 have hk:=Fd hx hy hz
 have gen:∀ n,n≤25→gb (dt (fun i z=>aG (i%5) (i / 5) z) (fun i z=>bt (s.getD i 0) z) 64 zB n) (aG x y z)=if x+5*y<n then bt (s.getD (x+5*y) 0) z else gb zB (aG x y z):=by
  intro n
  induction n with
  | zero=>intro _;rw [if_neg (by omega)];rfl
  | succ n ih=>
   intro hn
   rw [dt,CI (f:=fun z=>aG (n%5) (n / 5) z) (b:=n%5*320+n / 5*64) (fun z=>rfl) _ _ _ (by rw [qr,l7];exact hk),ih (by omega)]
   by_cases e:n=x+5*y
   ·have e1:n%5*320+n / 5*64=x*320+y*64:=by omega
    rw [e1,if_pos (by unfold aG;omega),if_pos (by omega),show aG x y z-(x*320+y*64)=z from by unfold aG;omega,e]
   ·rw [if_neg (by unfold aG;omega)]
    by_cases e2:x+5*y<n
    ·rw [if_pos e2,if_pos (by omega)]
    ·rw [if_neg e2,if_neg (by omega)]
 unfold kp
 rw [gen 25 (ar5 _),if_pos (by omega)]
theorem mm (a b:Int):ap (xr a b):=Ke (abN 64 a ^^^ abN 64 b)
theorem bl:ap 0:=⟨by omega,by omega⟩
theorem Nv (s:List Int) (x:Nat):ap (GS s x):=mm _ _
theorem aeF {s:List Int} (hs:af s) (x z:Nat):bt (GS s x) z=(bt (s.getD x 0) z !=(bt (s.getD (x+5) 0) z !=(bt (s.getD (x+10) 0) z !=(bt (s.getD (x+15) 0) z !=bt (s.getD (x+20) 0) z)))):=by
 unfold GS
 have h0:bt 0 z=false:=by simp [bt]
 rw [rq (mm _ _) (hs _),rq (mm _ _) (hs _),rq (mm _ _) (hs _),rq (mm _ _) (hs _),rq bl (hs _),h0]
 cases bt (s.getD x 0) z <;>cases bt (s.getD (x+5) 0) z <;>cases bt (s.getD (x+10) 0) z <;>cases bt (s.getD (x+15) 0) z <;>cases bt (s.getD (x+20) 0) z <;>rfl
def b2i (b:Bool):Int:=if b=true then 1 else 0
theorem E8 (a:List Bool) (x z n:Nat):gM a x z (n+1)=gM a x z n+b2i (gb a (aG x n z)):=by
 rw [gM];unfold b2i;split <;>simp
theorem av4 (a:List Bool) (x z:Nat):decide (gM a x z 5%2=1)=(gb a (aG x 0 z) !=(gb a (aG x 1 z) !=(gb a (aG x 2 z) !=(gb a (aG x 3 z) !=gb a (aG x 4 z))))):=by
 rw [E8,E8,E8,E8,E8,show gM a x z 0=0 from rfl]
 generalize gb a (aG x 0 z)=b0
 generalize gb a (aG x 1 z)=b1
 generalize gb a (aG x 2 z)=b2
 generalize gb a (aG x 3 z)=b3
 generalize gb a (aG x 4 z)=b4
 revert b0 b1 b2 b3 b4
 decide
theorem M5 {s:List Int} (hs:af s) {x z:Nat} (hx:x<5) (hz:z<64):gb (CB (kp s)) (x*64+z)=bt (GS s x) z:=by
 unfold CB
 rw [B4 (b:=0) (fun y z=>by omega) _ _ _ (by rw [asy];omega),if_pos (by omega),Nat.sub_zero,show (x*64+z) / 64=x from by omega,show (x*64+z)%64=z from by omega,av4,
  dV _ hx (by omega) hz,dV _ hx (by omega) hz,dV _ hx (by omega) hz,dV _ hx (by omega) hz,dV _ hx (by omega) hz,aeF hs]
 rfl
theorem vD {f:Nat→Int} {j:Nat} (h:j<25):((List.range 25).map f).getD j 0=f j:=by
 rw [ay,eW,atG h];rfl
theorem M4 {s:List Int} (h:s.length=25):af (gh s):=fun j=>by
 rw [Cj h]
 rcases atI j 25 with hj | hj
 ·rw [vD hj];exact mm _ _
 ·rw [ay,gd (by simpa using hj)];exact bl
theorem UF {s:List Int} (h:s.length=25) (hs:af s):qz (kp s)=kp (gh s):=by
 refine H0 (by unfold qz;rw [t5,l7]) (lR _) fun x y z hx hy hz=> ?_
 unfold qz
 rw [Hw hx hy hz,dV _ hx hy hz]
 unfold tD
 rw [M5 hs (by omega) hz,M5 hs (by omega) (by omega),dV _ hx hy hz,Cj h,vD (by omega),rq (hs _) (mm _ _),rq (Nv _ _) (Nz _ _)]
 have:=Tm (Nv s (((x+5*y)%5+1)%5)) (s:=1) (by omega) hz
 rw [show ((1:Nat):Int)=1 from rfl] at this
 rw [this,show (x+5*y)%5=x from by omega]
theorem GU {t l:List Bool} {i k:Nat} (hl:l.length=64) (hi:i+64≤t.length):gb (AN t l i) k=if i≤k∧k<i+64 then gb l (k-i) else gb t k:=by
 unfold gb AN
 rw [ay,fE]
 have hti:(t.take i).length=i:=by rw [ajw];omega
 rcases atI k i with h | h
 ·rw [if_neg (by omega),aeU (by omega),awU h,ay]
 ·rw [ae5 (by omega),hti]
  rcases atI (k-i) 64 with h2 | h2
  ·rw [if_pos (by omega),aeU (by omega),ay]
  ·rw [if_neg (by omega),ae5 (by omega),hl,akB,ay,show i+64+(k-i-64)=k from by omega]
theorem G3 {t l:List Bool} {i:Nat} (hl:l.length=64) (hi:i+64≤t.length):(AN t l i).length=t.length:=by
 unfold AN
 simp only [ce,ajw,eH,hl]
 omega
theorem xo {a:List Bool} {i:Nat} (h:i+64≤a.length):(FH a i).length=64:=by
 unfold FH
 rw [ajw,eH];omega
theorem IW {a:List Bool} {i z:Nat} (hz:z<64):gb (FH a i) z=gb a (i+z):=by
 unfold gb FH
 rw [ay,awU hz,akB,ay]
theorem Bf {a:List Bool} (ha:a.length=1600) {x:Nat} (hx:x<5) {t:List Bool} (ht:t.length=1600):∀ n,n≤5→(BJ a x t n).length=1600
 | 0,_=>ht
 | n+1,hn=>by
  rw [BJ,G3 (xo (by omega)) (by rw [Bf ha hx ht n (by omega)];omega),Bf ha hx ht n (by omega)]
theorem N4 {a:List Bool} (ha:a.length=1600) {x:Nat} (hx:x<5) {t:List Bool} (ht:t.length=1600) {X Y z:Nat} (hX:X<5) (hY:Y<5) (hz:z<64):∀ n,n≤5→
  gb (BJ a x t n) (aG X Y z)=if X<n∧(2*x+3*X)%5=Y then gb a (aG x X z) else gb t (aG X Y z)
 | 0,_=>by rw [if_neg (by omega)];rfl
 | n+1,hn=>by
  have hl:=Bf ha hx ht n (by omega)
  rw [BJ,GU (xo (by omega)) (by rw [hl];omega),N4 ha hx ht hX hY hz n (by omega)]
  by_cases e:n=X∧(2*x+3*n)%5=Y
  ·obtain ⟨e1,e2⟩:=e
   subst e1
   rw [if_pos (by unfold aG;omega),if_pos ⟨by omega,e2⟩,IW (by unfold aG;omega)]
   congr 1
   unfold aG;omega
  ·rw [if_neg (by unfold aG;omega)]
   by_cases e2:X<n∧(2*x+3*X)%5=Y
   ·rw [if_pos e2,if_pos (by omega)]
   ·rw [if_neg e2,if_neg (by
     rintro ⟨h1,h2⟩
     have:X=n:=by omega
     subst this
     exact e ⟨rfl,h2⟩)]
theorem FD {a:List Bool} (ha:a.length=1600) {t:List Bool} (ht:t.length=1600):∀ n,n≤5→(Dk a t n).length=1600
 | 0,_=>ht
 | n+1,hn=>Bf ha (by omega) (FD ha ht n (by omega)) 5 (ar5 _)
theorem NN {a:List Bool} (ha:a.length=1600) {t:List Bool} (ht:t.length=1600) {X Y z:Nat} (hX:X<5) (hY:Y<5) (hz:z<64):∀ n,n≤5→
  gb (Dk a t n) (aG X Y z)=if (X+3*Y)%5<n then gb a (aG ((X+3*Y)%5) X z) else gb t (aG X Y z)
 | 0,_=>by rw [if_neg (by omega)];rfl
 | n+1,hn=>by
  rw [Dk,N4 ha (by omega) (FD ha ht n (by omega)) hX hY hz 5 (ar5 _),NN ha ht hX hY hz n (by omega)]
  by_cases e:n=(X+3*Y)%5
  ·rw [if_pos (by omega),if_pos (by omega),← e]
  ·rw [if_neg (by omega)]
   by_cases e2:(X+3*Y)%5<n
   ·rw [if_pos e2,if_pos (by omega)]
   ·rw [if_neg e2,if_neg (by omega)]
def CC (x y:Nat):Nat→Option Nat
 | 0=>none
 | n+1=>if (br n).1=x∧(br n).2=y then some n else CC x y n
def Fo (t:Nat):Nat:=(t+1)*(t+2) / 2
theorem xyl (i:Nat):(br i).1<5∧(br i).2<5:=by
 induction i with
 | zero=>decide
 | succ i ih=>simp only [br];omega
theorem aan (a:List Bool) (t:Nat) (l:List Bool) (n:Nat):(Dc a t l n).length=l.length:=qc _ _ _ _
theorem Gj {a:List Bool} (ha:a.length=1600):∀ n,(tI a n).length=1600
 | 0=>by rw [tI,G3 (xo (by omega)) (by rw [l7];omega),l7]
 | n+1=>by rw [tI,aan,Gj ha n]
theorem Mx {a:List Bool} {t:Nat} {l:List Bool} (hl:l.length=1600) {x y z:Nat} (hx:x<5) (hy:y<5) (hz:z<64):∀ n,n≤64→
  gb (Dc a t l n) (aG x y z)=if ((br t).1=x∧(br t).2=y)∧(z+(64-Fo t%64))%64<n then gb a (aG x y ((z+(64-Fo t%64))%64)) else gb l (aG x y z)
 | 0,_=>by rw [if_neg (by omega)];rfl
 | n+1,hn=>by
  have ih:=Mx (a:=a) (t:=t) hl hx hy hz n (by omega)
  have hk:=Fd hx hy hz
  obtain ⟨h1,h2⟩:=xyl t
  unfold Dc at ih ⊢
  rw [eh,JC _ _ _ _ (by rw [qc,hl];exact hk),ih]
  have hoff:Fo t=(t+1)*(t+2) / 2:=rfl
  rw [← hoff]
  generalize Fo t=o at *
  generalize hX:(br t).1=X at *
  generalize hY:(br t).2=Y at *
  by_cases e:X=x∧Y=y
  ·obtain ⟨e1,e2⟩:=e
   subst e1 e2
   by_cases e3:(z+(64-o%64))%64=n
   ·rw [if_pos (by unfold aG;omega),if_pos ⟨⟨rfl,rfl⟩,by omega⟩,e3]
   ·rw [if_neg (by unfold aG;omega)]
    by_cases e4:(z+(64-o%64))%64<n
    ·rw [if_pos ⟨⟨rfl,rfl⟩,e4⟩,if_pos ⟨⟨rfl,rfl⟩,by omega⟩]
    ·rw [if_neg (fun h=>e4 h.2),if_neg (fun h=>by have:=h.2;omega)]
  ·rw [if_neg (fun h=>e (by unfold aG at h;omega)),if_neg (fun h=>e h.1),if_neg (fun h=>e h.1)]
theorem NZ {a:List Bool} (ha:a.length=1600) {x y z:Nat} (hx:x<5) (hy:y<5) (hz:z<64):∀ n,
  gb (tI a n) (aG x y z)=match CC x y n with | some t=>gb a (aG x y ((z+(64-Fo t%64))%64)) | none=>gb (tI a 0) (aG x y z)
 | 0=>rfl
 | n+1=>by
  rw [show tI a (n+1)=Dc a n (tI a n) 64 from rfl,Mx (Gj ha n) hx hy hz 64 (ar5 _),NZ ha hx hy hz n,CC]
  by_cases e:(br n).1=x∧(br n).2=y
  ·rw [if_pos ⟨e,by omega⟩,if_pos e]
  ·rw [if_neg (fun h=>e h.1),if_neg e]
theorem K6 (s:List Int):∀ n,(tO s n).length=25
 | 0=>by rw [tO];simp
 | n+1=>by rw [tO,df,K6 s n]
theorem UC:∀ x y X Y:Fin 5,y.val+5*((2*x.val+3*y.val)%5)=X.val+5*Y.val↔x.val=(X.val+3*Y.val)%5∧y.val=X.val:=by decide+kernel
theorem am9 (s:List Int) (i:Nat):tO s (i+1)=(tO s i).set ((br i).2+5*((2*(br i).1+3*(br i).2)%5)) (n6 (s.getD ((br i).1+5*(br i).2) 0) (((i+1)*(i+2) / 2:Nat)%64:Nat)):=rfl
theorem Jn (s:List Int) {X Y:Nat} (hX:X<5) (hY:Y<5):∀ n,
  (tO s n).getD (X+5*Y) 0=match CC ((X+3*Y)%5) X n with | some t=>n6 (s.getD ((X+3*Y)%5+5*X) 0) ((Fo t%64:Nat):Int) | none=>(tO s 0).getD (X+5*Y) 0
 | 0=>rfl
 | n+1=>by
  obtain ⟨h1,h2⟩:=xyl n
  rw [am9,ka _ _ _ _ (by rw [K6];omega),Jn s hX hY n,CC]
  have hi:=UC ⟨_,h1⟩ ⟨_,h2⟩ ⟨X,hX⟩ ⟨Y,hY⟩
  simp only at hi
  by_cases e:(br n).1=(X+3*Y)%5∧(br n).2=X
  ·rw [if_pos e,if_pos (hi.2 e),e.1,e.2];rfl
  ·rw [if_neg e,if_neg (fun h=>e (hi.1 h))]
theorem Rq:∀ X Y:Fin 5,(X.val=0∧Y.val=0∧CC 0 0 24=none)∨(CC ((X.val+3*Y.val)%5) X.val 24).isSome=true:=by decide+kernel
theorem jt (s:List Int):(iZ s).length=25:=K6 s 24
theorem arA {s:List Int} (hs:af s):KW (hZ (kp s))=kp (iZ s):=by
 have hl:=Gj (lR s) 24
 refine H0 (FD hl l7 5 (ar5 _)) (lR _) fun X Y z hX hY hz=> ?_
 unfold KW hZ
 rw [NN hl l7 hX hY hz 5 (ar5 _),if_pos (by omega),dV _ hX hY hz]
 unfold iZ
 rw [NZ (lR s) (by omega) hX hz,Jn s hX hY]
 rcases Rq ⟨X,hX⟩ ⟨Y,hY⟩ with h | h
 ·obtain ⟨e1,e2,e3⟩:=h
  simp only at e1 e2
  subst e1 e2
  rw [show (0+3*0)%5=0 from rfl,e3]
  simp only
  rw [tI,GU (xo (by rw [lR];omega)) (by rw [l7];omega),if_pos (by unfold aG;omega),IW (by unfold aG;omega),show 0+(aG 0 0 z-0)=aG 0 0 z from by omega,dV _ hX hX hz]
  rfl
 ·simp only at h
  obtain ⟨t,ht⟩:=Option.isSome_iff_exists.1 h
  rw [ht]
  simp only
  rw [dV _ (by omega) hX (by omega),Tm (hs _) (by omega) hz]
theorem abs {s:List Int} (hs:af s):af (iZ s):=fun j=>by
 rcases atI j 25 with hj | hj
 ·have:=Jn s (X:=j%5) (Y:=j / 5) (by omega) (by omega) 24
  rw [show j%5+5*(j / 5)=j from by omega] at this
  unfold iZ
  rw [this]
  split
  ·exact Nz _ _
  ·rw [tO,ka _ _ _ _ (by simpa using hj)]
   split
   ·exact hs 0
   ·rw [ay,awV]
    split <;>exact bl
 ·rw [ay,gd (by rw [jt];exact hj)];exact bl
theorem MU {s:List Int} (h:s.length=25):(te s).length=25:=by rw [zs h];simp
theorem WQ {s:List Int} (h:s.length=25):af (te s):=fun j=>by
 rw [zs h]
 rcases atI j 25 with hj | hj
 ·rw [vD hj];exact mm _ _
 ·rw [ay,gd (by simpa using hj)];exact bl
theorem ah7 {s:List Int} (h:s.length=25) (hs:af s):yl (kp s)=kp (te s):=by
 refine H0 (by unfold yl;rw [t5,l7]) (lR _) fun x y z hx hy hz=> ?_
 unfold yl
 rw [Hw hx hy hz,dV _ hx hy hz]
 unfold tC
 rw [dV _ hx hy hz,dV _ (by omega) hy hz,dV _ (by omega) hy hz,zs h,vD (by omega),rq (hs _) (Qf _ _),Sg (hs _) (hs _) hz,
  show x+5*y-(x+5*y)%5+(x+5*y+2)%5=(x+2)%5+5*y from by omega,show x+5*y-(x+5*y)%5+(x+5*y+1)%5=(x+1)%5+5*y from by omega,Bool.and_comm]
theorem BZ (a c:List Bool):∀ n,(sr a c n).length=a.length
 | 0=>rfl
 | n+1=>by rw [sr,df,BZ a c n]
theorem CF (a c:List Bool) {k:Nat} (hk:k<a.length):∀ n,gb (sr a c n) k=if k<n then (gb a k !=gb c k) else gb a k
 | 0=>by rw [if_neg (by omega)];rfl
 | n+1=>by
  rw [sr,JC _ _ _ _ (by rw [BZ];exact hk)]
  by_cases e:n=k
  ·subst e
   rw [if_pos rfl,if_pos (by omega),CF a c hk n,if_neg (by omega)]
  ·rw [if_neg e,CF a c hk n]
   by_cases e2:k<n
   ·rw [if_pos e2,if_pos (by omega)]
   ·rw [if_neg e2,if_neg (by omega)]
theorem alx:∀ i:Fin 24,0≤Hp.getD i.val 0∧Hp.getD i.val 0<18446744073709551616:=by decide+kernel
theorem agL (r:Int):ap (oN r):=by
 unfold oN
 split
 ·exact bl
 ·exact alx ⟨r.toNat,by omega⟩
theorem QI (w:Int) {z:Nat} (hz:z<64):gb (Ig w) z=bt w z:=by
 unfold gb Ig
 rw [ay,eW,atG hz];rfl
theorem Tl {s:List Int} (h:s.length=25) (r:Int):(round s r).length=25:=by
 unfold round
 rw [df,MU (jt _)]
theorem Pz {s:List Int} (hs:af s) {x:Int} (hx:ap x) (i:Nat):af (s.set i x):=fun j=>by
 rcases atI j s.length with hj | hj
 ·rw [ka _ _ _ _ hj]
  split
  ·exact hx
  ·exact hs j
 ·rw [ay,gd (by rw [df];exact hj)];exact bl
theorem aaV {s:List Int} (h:s.length=25) (hs:af s) (r:Int):af (round s r):=Pz (WQ (jt _)) (mm _ _) 0
theorem Ui {s:List Int} (h:s.length=25) (hs:af s) (r:Int):wn (kp s) r=kp (round s r):=by
 unfold wn round
 rw [UF h hs,arA (M4 h),ah7 (jt _) (abs (M4 h)),Vc]
 have hc:=WQ (jt (gh s))
 have hcl:=MU (jt (gh s))
 generalize te (iZ (gh s))=c at *
 refine H0 (by rw [BZ,lR]) (lR _) fun x y z hx hy hz=> ?_
 rw [CF _ _ (by rw [lR];exact Fd hx hy hz),dV _ hx hy hz,dV _ hx hy hz,ka _ _ _ _ (by omega)]
 by_cases e:x=0∧y=0
 ·obtain ⟨rfl,rfl⟩:=e
  rw [if_pos (by unfold aG;omega),if_pos (by omega),rq (hc _) (agL r),show aG 0 0 z=z from by unfold aG;omega,QI _ hz]
 ·rw [if_neg (by unfold aG;omega),if_neg (by omega)]
theorem afi (w:Nat) (c:Bool) (b:Nat):(2*w+(if c=true then 1 else 0)).testBit b=if b=0 then c else w.testBit (b-1):=by
 cases b with
 | zero=>
  rw [if_pos rfl,Nat.testBit_zero]
  cases c
  ·rw [if_neg (by decide)];exact decide_eq_false (by omega)
  ·rw [if_pos rfl];exact decide_eq_true (by omega)
 | succ b=>
  have e:(2*w+(if c=true then 1 else 0)) / 2=w:=by
   cases c
   ·rw [if_neg (by decide)];omega
   ·rw [if_pos rfl];omega
  rw [Nat.testBit_succ,e,if_neg (by omega),awW]
theorem RS (a:List Bool) (i:Nat):∀ n b,n≤64→b<n→(wv a i n).testBit b=gb a (aG (i%5) (i / 5) (64-n+b))
 | 0,b,_,h=>by omega
 | n+1,b,hn,hb=>by
  rw [wv,afi]
  by_cases e:b=0
  ·subst e
   rw [if_pos rfl,show 64-(n+1)+0=63-n from by omega]
  ·rw [if_neg e,RS a i n (b-1) (by omega) (by omega),show 64-n+(b-1)=64-(n+1)+b from by omega]
theorem Uy (a:List Bool) (i:Nat):∀ n,wv a i n<2 ^ n
 | 0=>Nat.one_pos
 | n+1=>by
  have:=Uy a i n
  rw [wv,Nat.pow_succ]
  split <;>omega
theorem ET (a:List Bool):∀ n,(xN a n).length=25
 | 0=>by rw [xN,asy]
 | n+1=>by rw [xN,df,ET a n]
theorem JT (a:List Bool) {j:Nat} (hj:j<25):∀ n,(xN a n).getD j 0=if j<n then (wv a j 64:Int) else 0
 | 0=>by
  rw [if_neg (by omega),xN,ay,awV]
  split <;>rfl
 | n+1=>by
  rw [xN,ka _ _ _ _ (by rw [ET];exact hj),JT a hj n]
  by_cases e:n=j
  ·subst e
   rw [if_pos rfl,if_pos (by omega)]
  ·rw [if_neg e]
   by_cases e2:j<n
   ·rw [if_pos e2,if_pos (by omega)]
   ·rw [if_neg e2,if_neg (by omega)]
theorem Lg {l m:List Int} (hl:l.length=25) (hm:m.length=25) (h:∀ j,j<25→l.getD j 0=m.getD j 0):l=m:=by
 apply awB (by rw [hl,hm])
 intro i h1 h2
 have:=h i (by omega)
 rw [ay,ay,cH h1,cH h2] at this
 simpa using this
theorem aap (a:List Bool):(yU a).length=25:=by unfold yU;rw [al,ET]
theorem aqS (a:List Bool):af (yU a):=fun j=>by
 unfold yU
 rw [al]
 rcases atI j 25 with hj | hj
 ·rw [JT a hj,if_pos hj]
  have:=Uy a j 64
  rw [show (2:Nat) ^ 64=18446744073709551616 from by decide] at this
  exact ⟨by omega,by omega⟩
 ·rw [ay,gd (by rw [ET];exact hj)];exact bl
theorem aay {s:List Int} (h:s.length=25) (hs:af s):yU (kp s)=s:=by
 refine Lg (aap _) h fun j hj=> ?_
 unfold yU
 rw [al,JT _ hj,if_pos hj]
 have hw:=hs j
 obtain ⟨n,hn⟩:∃ n:Nat,s.getD j 0=n:=⟨(s.getD j 0).toNat,by have:=hw.1;omega⟩
 rw [hn]
 have hlt:n<2 ^ 64:=by have:=hw.2;rw [show (2:Nat) ^ 64=18446744073709551616 from by decide];omega
 refine congrArg (fun k:Nat=>(k:Int)) ?_
 apply Nat.eq_of_testBit_eq
 intro b
 rcases atI b 64 with hb | hb
 ·rw [RS _ _ _ _ (ar5 _) hb,Nat.sub_self,Nat.zero_add,dV _ (by omega) (by omega) hb,show j%5+5*(j / 5)=j from by omega,hn]
  rfl
 ·have h1:(2:Nat) ^ 64≤2 ^ b:=asH (by decide) hb
  rw [asF (asG (Uy _ _ _) h1),asF (asG hlt h1)]
theorem wT {s:List Int} (h:s.length=25) (hs:af s):∀ n,(ff s n).length=25∧af (ff s n)
 | 0=>⟨h,hs⟩
 | n+1=>by
  obtain ⟨h1,h2⟩:=wT h hs n
  exact ⟨Tl h1 _,aaV h1 h2 _⟩
theorem N7 {s:List Int} (h:s.length=25) (hs:af s):∀ n,tU (kp s) n=kp (ff s n)
 | 0=>rfl
 | n+1=>by
  obtain ⟨h1,h2⟩:=wT h hs n
  rw [tU,N7 h hs n,Ui h1 h2];rfl
theorem Us {s:List Int} (h:s.length=25) (hs:af s):p6 s=gN s:=by
 obtain ⟨h1,h2⟩:=wT h hs 24
 unfold p6
 rw [al,N7 h hs,aay h1 h2,Bg]
theorem Gi {s:List Int} (h:s.length=25) (hs:af s):(gN s).length=25∧af (gN s):=by
 rw [Bg];exact wT h hs 24
theorem aaJ (s:List Int) (n:Nat):ff s (n+1)=round (ff s n) (n:Int):=by rw [ff]
theorem Q2 (f:Nat→Int):∀ n,wd f (n+1)=f 0+256*wd (fun k=>f (k+1)) n
 | 0=>by simp [wd]
 | n+1=>by
  rw [wd,Q2 f n,wd,awM]
  have:f (n+1)*(256 ^ n*256)=256*(f (n+1)*256 ^ n):=by rw [← Int.mul_assoc,Int.mul_comm]
  rw [this]
  omega
theorem By {f:Nat→Int} (h:∀ k,0≤f k∧f k<256):∀ n,0≤wd f n∧wd f n<256 ^ n
 | 0=>⟨by simp [wd],by simp [wd]⟩
 | n+1=>by
  obtain ⟨h1,h2⟩:=By h n
  obtain ⟨k1,k2⟩:=h n
  have hp:(0:Int)<256 ^ n:=awP (by decide)
  rw [wd,awM]
  constructor
  ·have:=awX k1 (awO hp);omega
  ·have h3:f n*256 ^ n≤255*256 ^ n:=Int.mul_le_mul_of_nonneg_right (by omega) (awO hp)
   omega
theorem afG (w:Int) (k:Nat):0≤wb w k∧wb w k<256:=by unfold wb;omega
theorem aie {f:Nat→Int} (h:∀ k,0≤f k∧f k<256):ap (wd f 8):=by
 have:=By h 8
 rw [show (256:Int) ^ 8=18446744073709551616 from by decide] at this
 exact this
theorem NX (w:Int):∀ n k,k<n→(oD w n).getD k 0=wb w k
 | 0,k,h=>by omega
 | n+1,k,h=>by
  rw [oD,ay]
  rcases atI k n with h2 | h2
  ·rw [aeU (by rw [sS];exact h2),← ay,NX w n k h2]
  ·have:k=n:=by omega
   subst this
   rw [ae5 (by rw [sS];exact ar5 _),sS,Nat.sub_self];rfl
theorem KB (f:Nat→Int):∀ n p,p<8*n→(dG f n).getD p 0=wb (f (p / 8)) (p%8)
 | 0,p,h=>by omega
 | n+1,p,h=>by
  rw [dG,ay]
  rcases atI p (8*n) with h2 | h2
  ·rw [aeU (by rw [j9];exact h2),← ay,KB f n p h2]
  ·rw [ae5 (by rw [j9];exact h2),j9,← ay,NX _ _ _ (by omega),show p / 8=n from by omega,show p-8*n=p%8 from by omega]
theorem sI (s:List Int):(iO s).length=200:=by rw [oW];exact j9 _ 25
theorem TM (s:List Int) {p:Nat} (hp:p<200):(iO s).getD p 0=wb (s.getD (p / 8) 0) (p%8):=by rw [oW];exact KB _ 25 p (by omega)
theorem Ky (s:List Int) (p:Nat):0≤(iO s).getD p 0∧(iO s).getD p 0<256:=by
 rcases atI p 200 with h | h
 ·rw [TM s h];exact afG _ _
 ·rw [ay,gd (by rw [sI];exact h)];exact ⟨by decide,by decide⟩
theorem QG (s:List Int):av ((iO s).map ae):=fun i=>by rw [da];exact Ky s i
theorem xz (l:LD):(Cb l).length=25:=by unfold Cb;simp
theorem Ci (l:LD) {j:Nat} (h:j<25):(Cb l).getD j 0=wd (fun k=>rv l (8*j+k)) 8:=by unfold Cb;rw [vD h]
theorem af5 {l:LD} (h:av l):af (Cb l):=fun j=>by
 rcases atI j 25 with hj | hj
 ·rw [Ci l hj];exact aie fun k=>h _
 ·rw [ay,gd (by rw [xz];exact hj)];exact bl
theorem dw {n:Int} (h:ap n):IntKind.u64.wrap n=n:=by rw [gq];have:=h.1;have:=h.2;omega
theorem P4 (k:Nat):(256:Int) ^ k=((2 ^ (8*k):Nat):Int):=by
 rw [Nat.pow_mul,awD];rfl
theorem KI {v b:Int} {k:Nat} (hk:k<8) (hv:0≤v∧v<256 ^ k) (hb:0≤b∧b<256):iq .u64 v (eG .u64 b ((8*k:Nat):Int))=v+b*256 ^ k:=by
 obtain ⟨m,rfl⟩:=bx hv.1
 obtain ⟨c,rfl⟩:=bx hb.1
 have hm:m<2 ^ (8*k):=by have:=hv.2;rw [P4] at this;exact Int.ofNat_lt.1 this
 have hc:c<256:=by have:=hb.2;omega
 have hpow:2 ^ (8*k)*256≤2 ^ 64:=by
  rw [show (256:Nat)=2 ^ 8 from by decide,← Nat.pow_add]
  exact asH (by decide) (by omega)
 have hlt:m+c*2 ^ (8*k)<18446744073709551616:=by
  have h3:c*2 ^ (8*k)≤255*2 ^ (8*k):=Nat.mul_le_mul_right _ (by omega)
  rw [show (2:Nat) ^ 64=18446744073709551616 from by decide] at hpow
  omega
 rw [Pg c (8*k) (by omega),Nat.mod_eq_of_lt (show c*2 ^ (8*k)<18446744073709551616 from by omega),P4]
 have w1:ap (m:Int):=⟨by omega,by omega⟩
 have w2:ap ((c*2 ^ (8*k):Nat):Int):=⟨awL _,by
  have h9:c*2 ^ (8*k)<18446744073709551616:=by omega
  omega⟩
 have e1:(abN 64 (m:Int) |||abN 64 ((c*2 ^ (8*k):Nat):Int)).toNat=m |||(c*2 ^ (8*k)):=by
  rw [BitVec.toNat_or,v5 w1,v5 w2,aA,aA]
 show IntKind.u64.wrap ((abN 64 (m:Int) |||abN 64 ((c*2 ^ (8*k):Nat):Int)).toNat:Int)=_
 have e2:m |||(c*2 ^ (8*k))=m+c*2 ^ (8*k):=by
  rw [Nat.or_comm,Nat.mul_comm,← Nat.two_pow_add_eq_or_of_lt hm,Nat.add_comm]
 rw [e1,e2,dw ⟨awL _,Int.ofNat_lt.2 hlt⟩,Int.natCast_add,Int.natCast_mul]
theorem Tv {l:LD} (hl:l.length=200) (hb:av l):∀ n,n≤200→∀ j,j<25→(bg l n).getD j 0=wd (fun k=>rv l (8*j+k)) (min 8 (n-8*j))
 | 0,_,j,hj=>by
  rw [bg,hl,show min 8 (0-8*j)=0 from by omega,wd,ay,awV]
  split <;>rfl
 | n+1,hn,j,hj=>by
  have ih:=Tv hl hb n (by omega)
  rw [bg,ka _ _ _ _ (by rw [fK,hl];omega)]
  by_cases e:n / 8=j
  ·subst e
   have hv:=By (f:=fun k=>rv l (8*(n / 8)+k)) (fun k=>hb _) (n%8)
   have hbn:=hb n
   rw [if_pos rfl,ih _ hj,show min 8 (n-8*(n / 8))=n%8 from by omega,show min 8 (n+1-8*(n / 8))=n%8+1 from by omega,dw ⟨hbn.1,by omega⟩,KI (by omega) hv hbn,wd,show 8*(n / 8)+n%8=n from by omega]
  ·rw [if_neg e,ih j hj]
   congr 1
   omega
theorem ahB {l:LD} (hl:l.length=200) (hb:av l):bg l 200=Cb l:=by
 refine Lg (by rw [fK,hl]) (xz _) fun j hj=> ?_
 rw [Tv hl hb 200 (ar5 _) j hj,Ci _ hj,show min 8 (200-8*j)=8 from by omega]
theorem JS {f g:Nat→Int} (h:∀ k,f k=g k) (n:Nat):wd f n=wd g n:=by rw [show f=g from funext h]
theorem QQ {l:LD} (hl:l.length=200) (hb:av l):∀ n,n≤200→∀ j,j<25→(mv l n).getD j 0=wd (fun k=>rv l (8*j+(8-min 8 (n-(192-8*j)))+k)) (min 8 (n-(192-8*j)))
 | 0,_,j,hj=>by
  rw [mv,show min 8 (0-(192-8*j))=0 from by omega,wd,ay,awV]
  split <;>rfl
 | n+1,hn,j,hj=>by
  have ih:=QQ hl hb n (by omega)
  rw [mv,ka _ _ _ _ (by rw [IZ];exact hj),hl]
  by_cases e:(200-1-n) / 8=j
  ·subst e
   have hc:min 8 (n-(192-8*((200-1-n) / 8)))=n%8:=by omega
   have hc1:min 8 (n+1-(192-8*((200-1-n) / 8)))=n%8+1:=by omega
   have hih:=ih _ hj
   rw [hc] at hih
   rw [if_pos rfl,hc1,hih,Q2]
   have hv:=By (f:=fun k=>rv l (8*((200-1-n) / 8)+(8-n%8)+k)) (fun k=>hb _) (n%8)
   have hbn:=hb (200-1-n)
   have hpow:(256:Int) ^ (n%8)≤256 ^ 7:=by
    rw [P4,P4]
    exact Int.ofNat_le.2 (asH (by decide) (by omega))
   rw [show (256:Int) ^ 7=72057594037927936 from by decide] at hpow
   generalize hV:wd (fun k=>rv l (8*((200-1-n) / 8)+(8-n%8)+k)) (n%8)=V at *
   have hV2:wd (fun k=>rv l (8*((200-1-n) / 8)+(8-(n%8+1))+(k+1))) (n%8)=V:=by
    rw [← hV]
    refine JS (fun k=> ?_) _
    congr 1;omega
   rw [hV2,show 8*((200-1-n) / 8)+(8-(n%8+1))+0=200-1-n from by omega]
   generalize rv l (200-1-n)=b at *
   rw [dw (n:=V*256) ⟨by omega,by omega⟩,dw (n:=b) ⟨by omega,by omega⟩,dw ⟨by omega,by omega⟩]
   omega
  ·rw [if_neg e,ih j hj]
   have:min 8 (n+1-(192-8*j))=min 8 (n-(192-8*j)):=by omega
   rw [this]
theorem aes {l:LD} (hl:l.length=200) (hb:av l):mv l 200=Cb l:=by
 refine Lg (IZ _ _) (xz _) fun j hj=> ?_
 have h1:min 8 (200-(192-8*j))=8:=by omega
 have:=QQ hl hb 200 (ar5 _) j hj
 rw [h1] at this
 rw [this,Ci _ hj]
 refine JS (fun k=> ?_) _
 congr 1
abbrev u8:Pat:= .int .u8
abbrev qh:BPat:= .cells 214 [YX,i64]
abbrev BW:Pat:= .agg [.arrI 32 .u8]
abbrev Hs:=List Int×Nat
def iU (s:List Int) (p:Nat) (b:Int):List Int:=s.set (p / 8) (xr (s.getD (p / 8) 0) (eG .u64 (IntKind.u64.wrap b) ((8*(p%8):Nat):Int)))
def q8 (h:Hs) (b:Int):Hs:=if h.2+1=136 then (gN (iU h.1 h.2 b),0) else (iU h.1 h.2 b,h.2+1)
def mU (h:Hs) (l:LD):Nat→Hs
 | 0=>h
 | n+1=>q8 (mU h l n) (rv l n)
def fin (h:Hs):List Int:=hid ((iO (gN (iU (iU h.1 h.2 6) 135 128))).take 32)
def pt (l:LD) (i:Nat):LD:=((l.getD i []).getD 0 .d0).toSl
def qu:Hs:=(ab0 25 0,0)
def zM (l:LD):Nat→Hs
 | 0=>qu
 | n+1=>mU (zM l n) (pt l n) (pt l n).length
def yZ (l:LD):List Int:=hid (fin (zM l l.length))
def Pn (l:LD):Prop:=∀ i,av (pt l i)
def al4:Ct:= {ps:= [.ptr 0 0,i64,u8],bs:= [qh],pre:=fun | [.i p,.i b,.li s,.i a] =>0≤p∧p<200 | _=>False,res:=fun | [.i p,.i b,.li s,.i a] => .ret (.tup []) [qh] [.li (iU s p.toNat b),.i a] | _=>ag}
def avD:Ct:= {ps:= [.ptr 0 0,rb],bs:= [qh],pre:=fun | [.r l,.li s,.i a] =>0≤a∧a<136 | _=>False,res:=fun | [.r l,.li s,.i a] => .ret (.tup []) [qh] [.li (mU (s,a.toNat) l l.length).1,.i ((mU (s,a.toNat) l l.length).2:Nat)] | _=>ag}
def aok:List Dat→Ann
 | [.r l,.li s,.i a] =>⟨[],[(1,[la 43 [(0,.ptr 0 0),(6,rb),(7,i64),(8,i64)] [qh] (fun | [.r l',.i n,.i i,.li s',.i a'] =>l'=l∧n=l.length∧0≤i∧i≤n∧s'=(mU (s,a.toNat) l i.toNat).1∧a'=((mU (s,a.toNat) l i.toNat).2:Nat) | _=>False) (fun | [_,.i n,.i i,_,_] =>(n-i).toNat | _=>0)])],[]⟩
 | _=> {cut:= [],loop:= []}
def aqP:Ct:= {ps:= [.ptr 0 0],bs:= [qh],pre:=fun | [.li s,.i a] =>af s∧0≤a∧a<136 | _=>False,res:=fun | [.li s,.i a] => .ret BW [qh] [.li (fin (s,a.toNat)),.li s,.i a] | _=>ag}
def avo:Ct:= {ps:= [.rd [.sl [.int .u8]]],bs:= [],pre:=fun | [.r l] =>Pn l | _=>False,res:=fun | [.r l] => .ret BW [] [.li (yZ l)] | _=>ag}
def arm:List Dat→Ann
 | [.r l] =>⟨[],[(3,[la 16 [(2,.ptr 0 0),(3,.ptr 1 0),(6,.rd [.sl [.int .u8]]),(7,i64),(8,i64)] [.cells 79 [.arrI 32 .u8],qh] (fun | [.r l',.i n,.i i,.li _,.li s',.i a'] =>l'=l∧n=l.length∧0≤i∧i≤n∧s'=(zM l i.toNat).1∧a'=((zM l i.toNat).2:Nat) | _=>False) (fun | [_,.i n,.i i,_,_,_] =>(n-i).toNat | _=>0)])],[]⟩
 | _=> {cut:= [],loop:= []}
def aew:Prop:=
 ∀ (a b:Int) (c:List Int) (d:Int),
 c.length=25→
 0≤a∧a<(200:Int)→
 (0≤a∧(0:Int)<(8:Int)∧a≤IntKind.i64.max)∧
 (0≤a / 8∧a / 8<(↑(25:Nat):Int))∧
 (a / 8).toNat*1<(25:Nat)∧
 (0≤a∧(0:Int)<(8:Int))∧
 iR ((8:Int)*(a%(8:Int)))∧
 (0:Int)≤8*(a%(8:Int))∧
 (0≤a / 8∧a / 8<(↑(25:Nat):Int))∧
 (a / 8).toNat*1<(25:Nat)∧
 c.set ((a / 8).toNat*1)
 (wV .u64 (c.getD ((a / 8).toNat*1) 0)
 (eG .u64 (IntKind.u64.wrap b) ((8:Int)*(a%(8:Int)))))=
 iU c a.toNat b∧
 d=d
def VU:ac:=ak V3 146 (aq al4)
abbrev lO (a:LD):Int:=
 ↑a.length
abbrev OH (a:Int)(b:LD):Int:=
 ((b.getD a.toNat []).getD 0 (.int 0)).toInt
def P99:Prop:=
 ∀ (a:LD) (b:List Int) (c:Int),
 lM a→
 b.length=25→
 0≤c∧c<(136:Int)→
 lM a→
 ((a=a∧
 lO a=lO a∧
 (0:Int)≤0∧
 0≤lO a∧
 b=(mU (b,c.toNat) a 0).fst∧
 c=(↑(mU (b,c.toNat) a 0).snd:Int))∧
 True)∧
 ∀ (d:LD) (e f:Int) (g:List Int) (h:Int),
 lM d→
 g.length=25→
 d=a∧
 e=lO a∧
 0≤f∧
 f≤e∧
 g=(mU (b,c.toNat) a f.toNat).fst∧
 h=(↑(mU (b,c.toNat) a f.toNat).snd:Int)→
 bif decide (f<e) then
 bR f d∧
 f.toNat<d.length∧
 (0≤h∧h<(200:Int))∧
 iR (h+1)∧
 bif decide (h+1=136) then
 True∧
 iR (f+1)∧
 (d=a∧
 e=lO a∧
 0≤f+1∧
 f+1≤e∧
 gN
 (iU g h.toNat (OH f d))=
 (mU (b,c.toNat) a (f+1).toNat).fst∧
 0=(↑(mU (b,c.toNat) a (f+1).toNat).snd:Int))∧
 (e-(f+1)).toNat<(e-f).toNat
 else
 iR (f+1)∧
 (d=a∧
 e=lO a∧
 0≤f+1∧
 f+1≤e∧
 iU g h.toNat (OH f d)=
 (mU (b,c.toNat) a (f+1).toNat).fst∧
 h+1=(↑(mU (b,c.toNat) a (f+1).toNat).snd:Int))∧
 (e-(f+1)).toNat<(e-f).toNat
 else
 g=(mU (b,c.toNat) a a.length).fst∧h=(↑(mU (b,c.toNat) a a.length).snd:Int)
def agV:ac:=ak VU 99 (aq avD)
def av5:Prop:=
 ∀ (a:List Int) (b:Int),
 a.length=25→
 af a∧0≤b∧b<(136:Int)→
 (0≤b∧b<(200:Int))∧
 ((0:Int)≤135∧(135:Int)<(200:Int))∧
 True∧
 af
 (gN
 (iU (iU a b.toNat 6) 135 128))∧
 ((0:Int)≤0∧(0:Int)≤32∧32≤(↑(200:Nat):Int)∧(0:Int)<(↑(200:Nat):Int))∧
 (32:Nat)≤32∧
 (32:Nat)≤200∧
 ar0 32
 (ar1 0
 (iO
 (gN
 (iU (iU a b.toNat 6) 135 128))))=
 fin (a,b.toNat)∧
 a=a∧b=b
def Wt:ac:=ak agV 100 (aq aqP)
abbrev Pb (a b:Int)(c:LD)(d:List Int):Hs:=
 mU (d,a.toNat) ((c.getD b.toNat []).getD 0 (.int 0)).toSl
 ((c.getD b.toNat []).getD 0 (.int 0)).toSl.length
def P61:Prop:=
 ∀ (a:LD),
 lM a→
 Pn a→
 lM a→
 ((a=a∧
 lO a=lO a∧
 (0:Int)≤0∧
 0≤lO a∧
 [0,0,0,0,0,0,0,0,0,0,0,0,0,0,
 (0:Int),0,0,0,0,0,0,0,0,0,0] =
 (zM a 0).fst∧
 0=(↑(0:Nat):Int))∧
 True)∧
 ∀ (b:LD) (c d:Int) (e f:List Int) (g:Int),
 lM b→
 e.length=32→
 f.length=25→
 b=a∧
 c=lO a∧
 0≤d∧d≤c∧f=(zM a d.toNat).fst∧g=(↑(zM a d.toNat).snd:Int)→
 bif decide (d<c) then
 bR d b∧
 d.toNat<b.length∧
 (0≤g∧g<(136:Int))∧
 iR (d+1)∧
 (b=a∧
 c=lO a∧
 0≤d+1∧
 d+1≤c∧
 (Pb g d b f).fst=(zM a (d+1).toNat).fst∧
 (↑(Pb g d b f).snd:Int)=
 (↑(zM a (d+1).toNat).snd:Int))∧
 (c-(d+1)).toNat<(c-d).toNat
 else
 (af f∧0≤g∧g<(136:Int))∧
 fin (f,g.toNat)=yZ a
def ahK:ac:=ak Wt 61 (aq avo)
theorem apd:aew:=by
 delta aew iR
 rintro p' b s a hs ⟨h0,h1⟩
 obtain ⟨p,rfl⟩:=bx h0
 have e1:((p:Int) / 8).toNat=p / 8:=by omega
 have e2:(8:Int)*((p:Int)%8)=((8*(p%8):Nat):Int):=by omega
 rw [KN,e1,e2]
 simp only [aA,anR]
 exact ⟨by omega,by omega,by omega,by omega,by omega,by omega,by omega,by omega,rfl,by trivial⟩
theorem ajD:(base.with VU).Ok:=ab agP (ai am agP Tryz.func146 (by kernel_rfl) Tryz.call146 (by kernel_rfl) apd)
theorem xE (s:List Int) (p:Nat) (b:Int):(iU s p b).length=s.length:=df
theorem Em {s:List Int} (h:af s) (p:Nat) (b:Int):af (iU s p b):=Pz h (mm _ _) _
def NB (h:Hs):Prop:=h.1.length=25∧af h.1∧h.2<136
theorem aaS {h:Hs} (k:NB h) (b:Int):NB (q8 h b):=by
 obtain ⟨h1,h2,h3⟩:=k
 unfold q8
 split
 ·obtain ⟨k1,k2⟩:=Gi (s:=iU h.1 h.2 b) (by rw [xE];exact h1) (Em h2 _ _)
  exact ⟨k1,k2,by show 0<136;decide⟩
 ·exact ⟨by rw [xE];exact h1,Em h2 _ _,by show h.2+1<136;omega⟩
theorem XD {h:Hs} (k:NB h) (l:LD):∀ n,NB (mU h l n)
 | 0=>k
 | n+1=>aaS (XD k l n) _
theorem aaX {h:Hs} (k:h.2<136) (b:Int):(q8 h b).2<136:=by
 unfold q8
 split
 ·show 0<136;decide
 ·show h.2+1<136;omega
theorem Vr {h:Hs} (k:h.2<136) (l:LD):∀ n,(mU h l n).2<136
 | 0=>k
 | n+1=>aaX (Vr k l n) _
theorem atR:P99:=by
 delta P99 lM iR bR lO OH
 rintro l s a' _ hs ⟨h0,h1⟩ _
 obtain ⟨a,rfl⟩:=bx h0
 rw [aA]
 refine ⟨⟨⟨rfl,rfl,by omega,by omega,rfl,rfl⟩,trivial⟩,?_⟩
 rintro l2 n i' s2 a2 _ _ ⟨rfl,rfl,h2,h3,hs2,ha2⟩
 obtain ⟨i,rfl⟩:=bx h2
 rw [aA] at hs2 ha2
 have hlt:=Vr (h:=(s,a)) (show a<136 by omega) l2 i
 refine aa (fun h=> ?_) fun h=> ?_
 ·simp only [aQ] at h
  refine ⟨by omega,by omega,by omega,by omega,?_⟩
  rw [gc,bL,mU,aA,ha2,aA,hs2]
  refine aa (fun h4=> ?_) fun h4=> ?_
  ·simp only [aQ] at h4
   refine ⟨trivial,by omega,⟨rfl,rfl,by omega,by omega,?_,?_⟩,by omega⟩
   ·unfold q8;rw [if_pos (by omega)]
   ·unfold q8;rw [if_pos (by omega)];rfl
  ·simp only [aT] at h4
   refine ⟨by omega,⟨rfl,rfl,by omega,by omega,?_,?_⟩,by omega⟩
   ·unfold q8;rw [if_neg (by omega)]
   ·unfold q8;rw [if_neg (by omega)];rfl
 ·simp only [aT] at h
  have hi:i=l2.length:=by omega
  subst hi
  exact ⟨hs2,ha2⟩
theorem c99:(base.with agV).Ok:=ab ajD (ai aok ajD Tryz.func99 (by kernel_rfl) Tryz.call99 (by kernel_rfl) atR)
theorem anc:av5:=by
 rintro s a' hs ⟨hw,h0,h1⟩
 obtain ⟨a,rfl⟩:=bx h0
 rw [aA]
 have k:=Gi (s:=iU (iU s a 6) 135 128) (by rw [xE,xE];exact hs) (Em (Em hw _ _) _ _)
 refine ⟨by omega,by omega,trivial,k.2,by omega,by omega,by omega,?_,rfl,rfl⟩
 rw [as8,fin,al]
theorem acp:(base.with Wt).Ok:=ab c99 (ai am c99 Tryz.func100 (by kernel_rfl) Tryz.call100 (by kernel_rfl) anc)
theorem Dy (n:Nat):af (ab0 n 0):=fun j=>by
 rw [ay,awV]
 split <;>exact bl
theorem acI:NB qu:=⟨rfl,Dy 25,by decide⟩
theorem Sv (l:LD):∀ n,NB (zM l n)
 | 0=>acI
 | n+1=>XD (Sv l n) _ _
theorem avt:P61:=by
 delta P61 lM iR bR lO Pb
 intro l _ hp _
 refine ⟨⟨⟨rfl,rfl,by omega,by omega,rfl,rfl⟩,trivial⟩,?_⟩
 rintro l2 n i' _ s a _ _ _ ⟨rfl,rfl,h0,h1,hs,ha⟩
 obtain ⟨i,rfl⟩:=bx h0
 rw [aA] at hs ha
 obtain ⟨k1,k2,k3⟩:=Sv l2 i
 refine aa (fun h=> ?_) fun h=> ?_
 ·simp only [aQ] at h
  rw [bL,ha,hs,aA,aA]
  exact ⟨by omega,by omega,by omega,by omega,⟨rfl,rfl,by omega,by omega,rfl,rfl⟩,by omega⟩
 ·simp only [aT] at h
  have hi:i=l2.length:=by omega
  subst hi
  rw [ha,hs,aA,yZ,al]
  exact ⟨⟨k2,by omega,by omega⟩,rfl⟩
theorem c61:(base.with ahK).Ok:=ab acp (ai arm acp Tryz.func61 (by kernel_rfl) Tryz.call61 (by kernel_rfl) avt)
theorem mJ (x:Int):ap (IntKind.u64.wrap x):=by rw [gq];exact ⟨by omega,by omega⟩
theorem aiW (l:LD):∀ n,af (mv l n)
 | 0=>Dy 25
 | n+1=>Pz (aiW l n) (mJ _) _
theorem ZS (s:List Int):af (p6 s):=by rw [p6,al];exact aqS _
end
end Go.Proofs.YteiecapbaeajdaaGreatDoor
namespace Go.Avc
set_option linter.unusedVariables false
set_option linter.unusedSimpArgs false
def Uh (P:Program) (f:FuncId) (n:Nat):Prop:=∀ (vs:Array Value) (w:World),vs.size=n→(callFunc f vs).run P w= .ok (.enter f vs) w∧CallsD P f vs .returning w fun e u w'=>(∃ v,e= .returned v)∧u= .returning∧w'=w
section
variable (C:Ctx) (n0:Nat) (ann:Ann)
def evD (x:Code) (o1 o2:Oper) (t:Tmp) (fc nc:Nat) (z:Code) (s:ES) (Q:Exit→ES→Prop):Prop:=
 jQ C n0 ann x s fun e s=>match e with
  | .normal=>pk C #[o1,o2] [o1] s fun s=>s.clr fun s=>(match s.ev C.glob (.tmp t) with
   | .fn f caps=>bif asM f fc&&asM caps.length nc then jQ C n0 ann z s Q else Miss 5 eS
   | _=>Miss 5 eS)
  | _=>False
end
def Ct.VCD (C:Ctx) (ct:Ct) (rs:List ResultVar) (nt k:Nat) (x:Code) (o1 o2:Oper) (t:Tmp) (fc nc:Nat) (z:Code) (ann:List Dat→Ann):Prop:=
 ct.VCG fun svs hp ds=>evD C ct.bs.length (ann ds) x o1 o2 t fc nc z ⟨nt,[],svs++ab0 k SV.dead,hp,[]⟩ (Cc C.P rs fun sv hp'=>(ct.res ds).ok ct.bs.length sv hp')
theorem Mem.ent {C:Ctx} {E:Ent} {hp:List Blk} {Im:Nat→Prop} {ι:Nat→Option Value} {w:World} (m:Mem C E hp Im ι w) (D:List Deferred):Mem C {E with dfr:=D} hp Im ι w:=
 ⟨m.hv,⟨m.mr.imlt,m.mr.imm,m.mr.sep,m.mr.mine⟩,⟨m.since.os,m.since.tape,m.since.output,m.since.size,m.since.block,m.since.hd,m.since.im,m.since.imnew⟩,m.glob⟩
theorem Mem.ent' {C:Ctx} {E:Ent} {hp:List Blk} {Im:Nat→Prop} {ι:Nat→Option Value} {w:World} {D:List Deferred} (m:Mem C {E with dfr:=D} hp Im ι w):Mem C E hp Im ι w:=
 ⟨m.hv,⟨m.mr.imlt,m.mr.imm,m.mr.sep,m.mr.mine⟩,⟨m.since.os,m.since.tape,m.since.output,m.since.size,m.since.block,m.since.hd,m.since.im,m.since.imnew⟩,m.glob⟩
theorem Ma {C:Ctx} (hC:C.Ok) {f:FuncId} {fn:Func} {x z:Code} {i1:Nat} {o1 o2:Oper} {t:Tmp} {fc nc:Nat} (hf:C.P.funcs[f]? =some fn) (hb:fn.body=some (.seq x (.seq (.region i1 #[o1,o2] false) z)))
  (ho2:o2.op= .defer ⟨.value (.tmp t),#[],#[]⟩) (hg2:o2.guard=none) (hd2:o2.dst=none) (hidle:Uh C.P fc nc) (ann:Ann) {svs:List SV} {hp:List Blk} {r:Res} {k:Nat} (hn:fn.ntmps-svs.length=k) (hn2:svs.length+k=fn.ntmps)
  {E:Ent} {Im:Nat→Prop} {ι:Nat→Option Value} {w:World} (hE:∀ b,hp.length≤b→E.ι b=none)
  (h:evD C hp.length ann x o1 o2 t fc nc z ⟨fn.ntmps,[],svs++ab0 k SV.dead,hp,[]⟩ (Cc C.P fn.results.toList fun sv hp'=>r.ok hp.length sv hp')) {vs:List Value} (hD:E.dfr= []) (hm:Mem C E hp Im ι w) (hF:q9 hp.length ι) (hv:VRels Im ι w svs vs):
  Calls C.P f vs.toArray w (fU C E Im ι w hp.length r):=by
 refine calls_of_wp_defers hf hb ?_
 have hlen:=kN hv
 refine wp_seq (eZ (E:=E) (B:=⟨w,Im,ι,fun b=>b<hp.length,[]⟩) (n0:=hp.length) hC ann hE hF (fun b hb=>hb) x _ _ _ _ _ (EJ (by simp [hn2])) ⟨Im,ι,⟨hD.symm,?_,fun t=> ?_,hm⟩,hF,⟨Later.refl _ _ _,fun b hb=>⟨hb,rfl⟩⟩⟩ h fun e s a w' kk hs rr=> ?_)
 ·show _=(aP [] (svs++ab0 k SV.dead)).length
  simp [hlen,hn,aP]
 ·show VRel Im ι w (aH (svs++ab0 k SV.dead) t) _
  rw [ue]
  split
  ·rename_i ht
   obtain ⟨v,h1,h2⟩:=xf hv t ht
   have:(vs.toArray++Array.replicate (fn.ntmps-vs.toArray.size) undef).getD t undef=v:=by
    rw [Array.getD_eq_getD_getElem?,Array.getElem?_append_left (by simp;omega)]
    simp [h1]
   rw [this]
   exact h2
  ·rw [vL]
   split <;>trivial
 ·cases e with
  | normal=>
   have hops:=CT [o1] s hs kk
   refine wp_seq (wp_region ?_)
   show wpOps C.P #[o1,o2] _ [0,1] a w'
   have second:∀ s' a1 w1,Next (fun s=>s.clr fun s=>(match s.ev C.glob (.tmp t) with
     | .fn f caps=>bif asM f fc&&asM caps.length nc then jQ C hp.length ann z s (Cc C.P fn.results.toList fun sv hp'=>r.ok hp.length sv hp') else Miss 5 eS
     | _=>Miss 5 eS)) s'→jl C E ⟨w,Im,ι,fun b=>b<hp.length,[]⟩ s' a1 w1→wpOps C.P #[o1,o2] (Exit.then (z.wp C.P (bodyPostD C.P fn (fU C E Im ι w hp.length r))) (bodyPostD C.P fn (fU C E Im ι w hp.length r))) [1] a1 w1:=by
    intro s' a1 w1 hnx hR1
    obtain ⟨s2,hs2,e2,k2⟩:=hnx
    obtain ⟨s3,hs3,e3,k3⟩:=JR hs2 k2
    obtain ⟨Im1,ι1,hRel,hFr,hA⟩:=hR1
    have hv3:VRel Im1 ι1 w1 (s'.ev C.glob (.tmp t)) (a1.eval (.tmp t)):=Ee hRel.tm hRel.mem.glob (.tmp t)
    have hev:s3.ev C.glob (.tmp t)=s'.ev C.glob (.tmp t):=by rw [s3.ev_eq hs3,e3,e2]
    split at k3
    ·rename_i g caps hg
     cases hb2:(asM g fc&&asM caps.length nc) with
     | false=>rw [hb2] at k3;cases k3
     | true=>
      rw [hb2] at k3
      simp only [cond_true] at k3
      simp only [cZ] at hb2
      cases aE.1 hb2.1
      have hcl:=aE.1 hb2.2
      rw [← hev,hg] at hv3
      obtain ⟨us,hu,hus⟩:=hv3
      have hul:us.toArray.size=nc:=by rw [List.size_toArray,kN hus];exact hcl
      show (if Region.wanted o2 (yielded #[o1,o2] a1.tmps)=true then _ else _)
      rw [if_pos (by simp [Region.wanted,hg2])]
      refine .inl ?_
      have hrun:(execOp a1.eval o2).run C.P w1= .ok (.defer ⟨.fn (.func fc) us.toArray,#[]⟩) w1:=by
       unfold execOp
       rw [ho2]
       simp [resolve,hu,Deferred.ofValue]
      show Oper.upon C.P o2 a1 _ _ ((execOp a1.eval o2).run C.P w1)
      rw [hrun,Oper.upon_defer,hd2]
      subst e2
      show z.wp C.P _ {a1 with defers:=⟨.fn (.func fc) us.toArray,#[]⟩::a1.defers} w1
      refine eZ (E:= {E with dfr:= [⟨.fn (.func fc) us.toArray,#[]⟩]}) (B:=⟨w,Im,ι,fun b=>b<hp.length,[]⟩) (n0:=hp.length) hC ann hE hF (fun b hb=>hb) z s3 _ _ _ w1 hs3 ⟨Im1,ι1,⟨?_,?_,?_,?_⟩,by rw [e3];exact hFr,by rw [e3];exact hA⟩ k3 fun e s4 a4 w4 kk4 hs4 rr4=> ?_
      ·show _::a1.defers=_
       rw [hRel.defers,hD]
      ·rw [e3];exact hRel.size
      ·rw [e3];exact hRel.tm
      ·rw [e3];exact hRel.mem.ent _
      ·obtain ⟨Im',ι',hR,hF',hA'⟩:=rr4
       have key:(match uO C.P s4 fn.results.toList with | some sv=>b8 sv fun sv=>Res.ok hp.length r sv s4.hp | none=>Miss 3 eS)→Leaves C.P fn a4.tmps (fU C E Im ι w hp.length r) a4.defers .returning w4:=fun kk=>by
        rw [GO hs4] at kk
        split at kk
        ·rename_i sv hsv
         rw [bd] at kk
         obtain ⟨v,h1,h2⟩:=Hv hR hsv
         have hres:fU C E Im ι w hp.length r (.returned v) w4:=qB hC hE hA'.later hF (fun b hb=>(hA'.keep b hb).2) hR.mem.ent' h2 _ kk
         rw [hR.defers]
         have hid:=hidle us.toArray w4 hul
         refine leaves_cons (by simp) (f:=fc) (args:=us.toArray) ?_ (CallsD.mono hid.2 fun e u' w' h=> ?_)
         ·show (callFunc fc (#[] ++us.toArray)).run C.P w4=_
          rw [Array.empty_append];exact hid.1
         ·obtain ⟨⟨v0,rfl⟩,rfl,rfl⟩:=h
          exact ⟨v,h1,hres⟩
        ·cases kk
       cases e with
       | normal=>exact key kk4
       | ret=>exact key kk4
       | exit id=>exact kk4.elim
       | goto l=>exact kk4.elim
       | panic ch=>exact kk4.elim
       | outgrown=>exact kk4.elim
    ·cases k3
   show (if Region.wanted o1 (yielded #[o1,o2] a.tmps)=true then _ else _)
   rcases Ep (Q:=Exit.then (z.wp C.P (bodyPostD C.P fn (fU C E Im ι w hp.length r))) (bodyPostD C.P fn (fU C E Im ι w hp.length r))) hC rr (wu hops) with ⟨h1,h2⟩ | ⟨h1,s',h2,h3⟩
   ·rw [if_pos h1]
    exact .inl (Oper.wp_mono (fun a w ⟨s',k,r⟩=>second s' a w k r) h2)
   ·rw [if_neg (by simp [h1])]
    exact second s' _ w' h2 h3
  | exit id=>exact kk.elim
  | goto l=>exact kk.elim
  | ret=>exact kk.elim
  | panic ch=>exact kk.elim
  | outgrown=>exact kk.elim
theorem U8 {C:Ctx} (hC:C.Ok) {f:FuncId} {fn:Func} {x z:Code} {i1:Nat} {o1 o2:Oper} {t:Tmp} {fc nc:Nat} (hf:C.P.funcs[f]? =some fn) (hb:fn.body=some (.seq x (.seq (.region i1 #[o1,o2] false) z)))
  (ho2:o2.op= .defer ⟨.value (.tmp t),#[],#[]⟩) (hg2:o2.guard=none) (hd2:o2.dst=none) (hidle:Uh C.P fc nc) (ann:List Dat→Ann) {ct:Ct} {k:Nat} (hlenps:ct.ps.length+k=fn.ntmps) (hcall:∀ vs:Array Value,∀ w,vs.size=ct.ps.length→(callFunc f vs).run C.P w= .ok (.enter f vs) w)
  (hvc:ct.VCD C fn.results.toList fn.ntmps k x o1 o2 t fc nc z ann):b9 C f (aq ct):=by
 refine ws hC (fun svs hp ds=>evD C ct.bs.length (ann ds) x o1 o2 t fc nc z ⟨fn.ntmps,[],svs++ab0 k SV.dead,hp,[]⟩ (Cc C.P fn.results.toList fun sv hp'=>(ct.res ds).ok ct.bs.length sv hp')) (fun svs hp ds E Im ι w vs h h1 h2 hD hE hm hF hv=> ?_) hcall hvc
 rw [← h2] at h
 exact Ma hC hf hb ho2 hg2 hd2 hidle (ann ds) (k:=k) (by omega) (by omega) hE h hD hm hF hv
end Go.Avc
namespace Go.Proofs.YteiecapbaeajdaaGreatDoor
open Go Go.Avc Go.Proofs
set_option linter.unusedVariables false
set_option maxRecDepth 100000
open Go.Avc
set_option linter.unusedSimpArgs false
noncomputable section
def dc (x y c:Int):Int:=(x+y+c)%18446744073709551616
def dj (x y c:Int):Int:=(x+y+c) / 18446744073709551616
def jd (x y c:Int):Int:=(x+18446744073709551616-y-c)%18446744073709551616
def bC (x y c:Int):Int:=if x<y+c then 1 else 0
def TV:List SV→List Blk→CR:=fun svs hp=>match svs with
 | [.int .u64 x,.int .u64 y,.int .u64 c] => .need (ap x∧ap y∧0≤c∧c≤1) (.ret (.tup [.int .u64 (dc x y c),.int .u64 (dj x y c)]) [] [])
 | _=> .bad
def U1:List SV→List Blk→CR:=fun svs hp=>match svs with
 | [.int .u64 x,.int .u64 y,.int .u64 c] => .need (ap x∧ap y∧0≤c∧c≤1) (.ret (.tup [.int .u64 (jd x y c),.int .u64 (bC x y c)]) [] [])
 | _=> .bad
def LC:Array Value→Sem Value:=fun args=>do
 let (x,y,b) ← Extern.MathBitsCarry.three "Sub64" args
 pure (Extern.MathBitsCarry.pair ((x+Extern.MathBitsCarry.m64-y-b)%Extern.MathBitsCarry.m64) (if x<y+b then 1 else 0))
theorem IB {P:Program} (x y b:Nat) (hb:b≤1) (w:World):
  (LC #[.int .u64 x,.int .u64 y,.int .u64 b]).run P w= .ok (.tuple #[.int .u64 (((x+18446744073709551616-y-b)%18446744073709551616:Nat):Int),.int .u64 ((if x<y+b then 1 else 0:Nat):Int)]) w:=by
 have:b=0∨b=1:=by omega
 rcases this with rfl | rfl <;>rfl
theorem anm {sp:ac} :b9 (base.with sp) 190 TV:=by
 intro svs hp K R h E Im ι w vs hm hRn hv
 unfold TV at h
 split at h
 ·rename_i x y c
  obtain ⟨⟨hx,hy,h0,h1⟩,hK,_⟩:=h
  obtain ⟨_,_,rfl,rfl,_,_,rfl,rfl,_,_,rfl,rfl,rfl⟩:=hv
  refine .inr ⟨.tuple #[.int .u64 (dc x y c),.int .u64 (dj x y c)],?_,_,SV.tup [.int .u64 (dc x y c),.int .u64 (dj x y c)],hp,Im,ι,rfl,by rw [aiz] at hK;exact hK,⟨_,rfl,_,_,rfl,rfl,_,_,rfl,rfl,rfl⟩,hm,ar5 _,fun _ _=>rfl,Later.refl _ _ _⟩
  show (callFunc 190 #[.int .u64 x,.int .u64 y,.int .u64 c]).run Tryz.prog w=_
  rw [run_callFunc_extern Tryz.func190 (by kernel_rfl) (by kernel_rfl) (by kernel_rfl) (e:=add64Entry) (by kernel_rfl),run_add64 x y c hx.1 hy.1 h0 h1]
  rfl
 ·exact h.elim
theorem amP {sp:ac} :b9 (base.with sp) 230 U1:=by
 intro svs hp K R h E Im ι w vs hm hRn hv
 unfold U1 at h
 split at h
 ·rename_i x y c
  obtain ⟨⟨hx,hy,h0,h1⟩,hK,_⟩:=h
  obtain ⟨_,_,rfl,rfl,_,_,rfl,rfl,_,_,rfl,rfl,rfl⟩:=hv
  refine .inr ⟨.tuple #[.int .u64 (jd x y c),.int .u64 (bC x y c)],?_,_,SV.tup [.int .u64 (jd x y c),.int .u64 (bC x y c)],hp,Im,ι,rfl,by rw [aiz] at hK;exact hK,⟨_,rfl,_,_,rfl,rfl,_,_,rfl,rfl,rfl⟩,hm,ar5 _,fun _ _=>rfl,Later.refl _ _ _⟩
  show (callFunc 230 #[.int .u64 x,.int .u64 y,.int .u64 c]).run Tryz.prog w=_
  have hx':=hx;have hy':=hy
  unfold ap at hx' hy'
  obtain ⟨a,rfl⟩:=as6 hx'.1
  obtain ⟨b,rfl⟩:=as6 hy'.1
  obtain ⟨d,rfl⟩:=as6 h0
  rw [run_callFunc_extern Tryz.func230 (by kernel_rfl) (by kernel_rfl) (by kernel_rfl) (e:=LC) (by kernel_rfl),IB a b d (by omega)]
  have e1:(((a+18446744073709551616-b-d)%18446744073709551616:Nat):Int)=jd a b d:=by unfold jd;omega
  have e2:((if a<b+d then 1 else 0:Nat):Int)=bC a b d:=by
   unfold bC
   by_cases h:a<b+d
   ·rw [if_pos h,if_pos (by omega)];rfl
   ·rw [if_neg h,if_neg (by omega)];rfl
  rw [e1,e2]
  rfl
 ·exact h.elim
def Yp:ac:=ak ahK 190 TV
theorem auT:(base.with Yp).Ok:=ab c61 anm
def VD:ac:=ak Yp 230 U1
theorem acO:(base.with VD).Ok:=ab auT amP
abbrev a4:Pat:= .arrI 4 .u64
abbrev w4:Pat:= .agg [a4]
abbrev q4:BPat:= .cells 74 [a4]
def pW:List Int:= [4891460686036598785,2896914383306846353,13281191951274694749,3486998266802970665]
def gI (l:List Int) (i:Nat):Int:=l.getD i 0
def ck (a b:List Int):Nat→List Int×Int
 | 0=>([0,0,0,0],0)
 | i+1=>((ck a b i).1.set i (jd (gI a i) (gI b i) (ck a b i).2),bC (gI a i) (gI b i) (ck a b i).2)
def eY (a b:List Int):Nat→List Int×Int
 | 0=>([0,0,0,0],0)
 | i+1=>((eY a b i).1.set i (dc (gI a i) (gI b i) (eY a b i).2),dj (gI a i) (gI b i) (eY a b i).2)
def iK (a:List Int):List Int:=if (ck a pW 4).2=0 then (ck a pW 4).1 else a
def eO (a x y c:Int):Int:=(a+x*y+c)%18446744073709551616
def cT (a x y c:Int):Int:=(a+x*y+c) / 18446744073709551616
def Of:Nat→Int
 | 0=>1
 | i+1=>IntKind.u64.wrap (Of i*IntKind.u64.wrap (2-IntKind.u64.wrap (4891460686036598785*Of i)))
def inv:Int:=14042775128853446655
def api:Ct:= {ps:= [],bs:= [],pre:=fun _=>True,res:=fun _=> .ret w4 [] [.li pW]}
def arK:Ct:= {ps:= [w4,w4],bs:= [],pre:=fun | [.li a,.li b] =>af a∧af b | _=>False,res:=fun | [.li a,.li b] => .ret (.tup [w4,u64]) [] [.li (ck a b 4).1,.i (ck a b 4).2] | _=>ag}
def agr:List Dat→Ann
 | [.li a,.li b] => {cut:= [],loop:= [(2,[la 26 [(2,.ptr 0 0),(3,.ptr 1 0),(4,.ptr 2 0),(5,u64),(7,i64)] [q4,q4,q4] (fun | [.i c,.i i,.li a',.li b',.li o] =>a'=a∧b'=b∧0≤i∧i≤4∧o=(ck a b i.toNat).1∧c=(ck a b i.toNat).2 | _=>False) (fun | [_,.i i,_,_,_] =>(4-i).toNat | _=>0)])]}
 | _=> {cut:= [],loop:= []}
def apo:Ct:= {ps:= [w4,w4],bs:= [],pre:=fun | [.li a,.li b] =>af a∧af b | _=>False,res:=fun | [.li a,.li b] => .ret w4 [] [.li (eY a b 4).1] | _=>ag}
def agn:List Dat→Ann
 | [.li a,.li b] => {cut:= [],loop:= [(3,[la 25 [(2,.ptr 0 0),(3,.ptr 1 0),(4,.ptr 2 0),(5,u64),(7,i64)] [q4,q4,q4] (fun | [.i c,.i i,.li a',.li b',.li o] =>a'=a∧b'=b∧0≤i∧i≤4∧o=(eY a b i.toNat).1∧c=(eY a b i.toNat).2 | _=>False) (fun | [_,.i i,_,_,_] =>(4-i).toNat | _=>0)])]}
 | _=> {cut:= [],loop:= []}
def amY:Ct:= {ps:= [w4],bs:= [],pre:=fun | [.li a] =>af a | _=>False,res:=fun | [.li a] => .ret w4 [] [.li (iK a)] | _=>ag}
def an0:Ct:= {ps:= [u64,u64],bs:= [],pre:=fun | [.i x,.i y] =>ap x∧ap y | _=>False,res:=fun | [.i x,.i y] => .ret (.tup [u64,u64]) [] [.i (x*y / 18446744073709551616),.i (x*y%18446744073709551616)] | _=>ag}
def aoR:Ct:= {ps:= [u64,u64,u64,u64],bs:= [],pre:=fun | [.i a,.i x,.i y,.i c] =>ap a∧ap x∧ap y∧ap c | _=>False,res:=fun | [.i a,.i x,.i y,.i c] => .ret (.tup [u64,u64]) [] [.i (eO a x y c),.i (cT a x y c)] | _=>ag}
def alR:Ct:= {ps:= [],bs:= [],pre:=fun _=>True,res:=fun _=> .ret u64 [] [.i inv]}
def aj6:List Dat→Ann:=fun _=> {cut:= [],loop:= [(3,[la 16 [(1,u64),(2,u64),(5,i64)] [] (fun | [.i p,.i x,.i i] =>p=4891460686036598785∧0≤i∧i≤6∧x=Of i.toNat | _=>False) (fun | [_,_,.i i] =>(6-i).toNat | _=>0)])]}
abbrev xl:List Int:=
 [4891460686036598785,2896914383306846353,13281191951274694749,3486998266802970665]
def acR:Prop:=
 True→xl=xl
def Wk:ac:=ak VD 142 (aq api)
abbrev nU (a:List Int):Prop:=
 a.length=4
abbrev nY (a:Int)(b:List Int):Int:=
 b.getD (a.toNat*1) 0
def acQ:Prop:=
 ∀ (a b:List Int),
 nU a→
 nU b→
 af a∧af b→
 ((a=a∧
 b=b∧
 (0:Int)≤0∧
 (0:Int)≤4∧
 [0,0,0,0] =(ck a b 0).fst∧
 0=(ck a b 0).snd)∧
 True)∧
 ∀ (c d:Int) (e f g:List Int),
 nU e→
 nU f→
 nU g→
 e=a∧
 f=b∧
 0≤d∧
 d≤4∧g=(ck a b d.toNat).fst∧c=(ck a b d.toNat).snd→
 bif decide (d<(4:Int)) then
 (0≤d∧d<(↑(4:Nat):Int))∧
 d.toNat*1<(4:Nat)∧
 (0≤d∧d<(↑(4:Nat):Int))∧
 d.toNat*1<(4:Nat)∧
 (ap (nY d e)∧
 ap (nY d f)∧0≤c∧c≤1)∧
 (0≤d∧d<(↑(4:Nat):Int))∧
 d.toNat*1<(4:Nat)∧
 iR (d+1)∧
 (e=a∧
 f=b∧
 0≤d+1∧
 d+1≤4∧
 g.set (d.toNat*1)
 (jd (nY d e)
 (nY d f) c)=
 (ck a b (d+1).toNat).fst∧
 bC (nY d e)
 (nY d f) c=
 (ck a b (d+1).toNat).snd)∧
 ((4:Int)-(d+1)).toNat<((4:Int)-d).toNat
 else g=(ck a b 4).fst∧c=(ck a b 4).snd
def Wl:ac:=ak Wk 202 (aq arK)
def aex:Prop:=
 ∀ (a b:List Int),
 nU a→
 nU b→
 af a∧af b→
 ((a=a∧
 b=b∧
 (0:Int)≤0∧
 (0:Int)≤4∧
 [0,0,0,0] =(eY a b 0).fst∧
 0=(eY a b 0).snd)∧
 True)∧
 ∀ (c d:Int) (e f g:List Int),
 nU e→
 nU f→
 nU g→
 e=a∧
 f=b∧
 0≤d∧
 d≤4∧g=(eY a b d.toNat).fst∧c=(eY a b d.toNat).snd→
 bif decide (d<(4:Int)) then
 (0≤d∧d<(↑(4:Nat):Int))∧
 d.toNat*1<(4:Nat)∧
 (0≤d∧d<(↑(4:Nat):Int))∧
 d.toNat*1<(4:Nat)∧
 (ap (nY d e)∧
 ap (nY d f)∧0≤c∧c≤1)∧
 (0≤d∧d<(↑(4:Nat):Int))∧
 d.toNat*1<(4:Nat)∧
 iR (d+1)∧
 (e=a∧
 f=b∧
 0≤d+1∧
 d+1≤4∧
 g.set (d.toNat*1)
 (dc (nY d e)
 (nY d f) c)=
 (eY a b (d+1).toNat).fst∧
 dj (nY d e)
 (nY d f) c=
 (eY a b (d+1).toNat).snd)∧
 ((4:Int)-(d+1)).toNat<((4:Int)-d).toNat
 else g=(eY a b 4).fst
def Ze:ac:=ak Wl 181 (aq apo)
def aim:Prop:=
 ∀ (a:List Int),
 nU a→
 af a→
 True∧
 (af a∧af xl)∧
 bif decide ((ck a xl 4).snd=0) then
 (ck a xl 4).fst=iK a
 else a=iK a
def V0:ac:=ak Ze 180 (aq amY)
abbrev ID (a:Int):Int:=
 dp .u64 a 4294967295
abbrev Vl (a b:Int):Int:=
 IntKind.u64.wrap
 (IntKind.u64.wrap (aL .u64 a 32*ID b)+
 aL .u64 (IntKind.u64.wrap (ID a*ID b)) 32)
def akR:Prop:=
 ∀ (a b:Int),
 ap a∧ap b→
 (0:Int)≤32∧
 (0:Int)≤32∧
 (0:Int)≤32∧
 (0:Int)≤32∧
 (0:Int)≤32∧
 IntKind.u64.wrap
 (IntKind.u64.wrap
 (IntKind.u64.wrap (aL .u64 a 32*aL .u64 b 32)+
 aL .u64 (Vl a b) 32)+
 aL .u64
 (IntKind.u64.wrap
 (dp .u64 (Vl a b) 4294967295+
 IntKind.u64.wrap (ID a*aL .u64 b 32)))
 32)=
 a*b / 18446744073709551616∧
 IntKind.u64.wrap (a*b)=a*b%(18446744073709551616:Int)
def VG:ac:=ak V0 215 (aq an0)
def avP:Prop:=
 ∀ (a b c d:Int),
 ap a∧ap b∧ap c∧ap d→
 (ap b∧ap c)∧
 (ap (b*c%(18446744073709551616:Int))∧ap a∧(0:Int)≤0∧(0:Int)≤1)∧
 (ap (dc (b*c%(18446744073709551616:Int)) a 0)∧
 ap d∧(0:Int)≤0∧(0:Int)≤1)∧
 dc (dc (b*c%(18446744073709551616:Int)) a 0) d 0=
 eO a b c d∧
 IntKind.u64.wrap
 (IntKind.u64.wrap (b*c / 18446744073709551616+dj (b*c%(18446744073709551616:Int)) a 0)+
 dj (dc (b*c%(18446744073709551616:Int)) a 0) d 0)=
 cT a b c d
def XX:ac:=ak VG 189 (aq aoR)
def aic:Prop:=
 True→
 True∧
 ((0:Int)≤0∧(0:Int)<(↑(4:Nat):Int)∧(0:Nat)<(4:Nat))∧
 ((xl.getD 0 0=4891460686036598785∧
 (0:Int)≤0∧(0:Int)≤6∧1=Of 0)∧
 True)∧
 ∀ (a b c:Int),
 a=4891460686036598785∧0≤c∧c≤6∧b=Of c.toNat→
 bif decide (c<(6:Int)) then
 iR (c+1)∧
 (a=4891460686036598785∧
 0≤c+1∧
 c+1≤6∧
 IntKind.u64.wrap (b*IntKind.u64.wrap ((2:Int)-IntKind.u64.wrap (a*b)))=Of (c+1).toNat)∧
 ((6:Int)-(c+1)).toNat<((6:Int)-c).toNat
 else IntKind.u64.wrap ((0:Int)-b)=inv
def Wh:ac:=ak XX 188 (aq alR)
theorem xd (x y c:Int):ap (dc x y c):=by unfold ap dc;omega
theorem VY (x y c:Int):ap (jd x y c):=by unfold ap jd;omega
theorem HZ {x y c:Int} (hx:ap x) (hy:ap y) (hc:0≤c∧c≤1):0≤dj x y c∧dj x y c≤1:=by unfold ap at hx hy;unfold dj;omega
theorem Ei (x y c:Int):0≤bC x y c∧bC x y c≤1:=by unfold bC;split <;>omega
theorem gC {s:List Int} (h:af s) {v:Int} (hv:ap v) (i:Nat):af (s.set i v):=fun j=>by
 rw [ay,asX]
 split
 ·split
  ·exact hv
  ·exact bl
 ·rw [← ay];exact h j
theorem IN:af [0,0,0,0] :=fun j=>by
 match j with
 | 0=>exact bl
 | 1=>exact bl
 | 2=>exact bl
 | 3=>exact bl
 | _+4=>exact bl
theorem nX:af pW:=fun j=>by
 match j with
 | 0=>exact ⟨by decide,by decide⟩
 | 1=>exact ⟨by decide,by decide⟩
 | 2=>exact ⟨by decide,by decide⟩
 | 3=>exact ⟨by decide,by decide⟩
 | _+4=>exact bl
theorem DC (a b:List Int):∀ i,af (ck a b i).1∧0≤(ck a b i).2∧(ck a b i).2≤1
 | 0=>⟨IN,by show (0:Int)≤0;omega,by show (0:Int)≤1;omega⟩
 | i+1=>⟨gC (DC a b i).1 (VY _ _ _) i,Ei _ _ _⟩
theorem qi {a b:List Int} (ha:af a) (hb:af b):∀ i,af (eY a b i).1∧0≤(eY a b i).2∧(eY a b i).2≤1
 | 0=>⟨IN,by show (0:Int)≤0;omega,by show (0:Int)≤1;omega⟩
 | i+1=>⟨gC (qi ha hb i).1 (xd _ _ _) i,HZ (ha i) (hb i) (qi ha hb i).2⟩
theorem xJ (n:Int):IntKind.u64.wrap n=n%18446744073709551616:=IntKind.wrap_u64 n
theorem aru:acR:=by
 delta acR xl
 exact fun _=>rfl
theorem adM:(base.with Wk).Ok:=ab acO (ai am acO Tryz.func142 (by kernel_rfl) Tryz.call142 (by kernel_rfl) aru)
theorem aoz:acQ:=by
 delta acQ iR nU nY
 rintro a b ha hb ⟨wa,wb⟩
 refine ⟨⟨⟨rfl,rfl,by omega,by omega,rfl,rfl⟩,trivial⟩,?_⟩
 rintro c n a' b' o _ _ _ ⟨rfl,rfl,h0,h1,rfl,rfl⟩
 obtain ⟨i,rfl⟩:=as6 h0
 rw [aA,anR]
 refine aa (fun h=> ?_) fun h=> ?_
 ·simp only [aQ] at h
  have:=(DC a' b' i).2
  refine ⟨⟨h0,h⟩,by omega,⟨h0,h⟩,by omega,⟨wa i,wb i,this⟩,⟨h0,h⟩,by omega,⟨by omega,by omega⟩,⟨rfl,rfl,by omega,by omega,?_,?_⟩,by omega⟩
  ·rw [show ((i:Int)+1).toNat=i+1 from by omega];rfl
  ·rw [show ((i:Int)+1).toNat=i+1 from by omega];rfl
 ·simp only [aT] at h
  rw [show i=4 from by omega]
  exact ⟨rfl,rfl⟩
theorem ag6:(base.with Wl).Ok:=ab adM (ai agr adM Tryz.func202 (by kernel_rfl) Tryz.call202 (by kernel_rfl) aoz)
theorem aln:aex:=by
 delta aex iR nU nY
 rintro a b ha hb ⟨wa,wb⟩
 refine ⟨⟨⟨rfl,rfl,by omega,by omega,rfl,rfl⟩,trivial⟩,?_⟩
 rintro c n a' b' o _ _ _ ⟨rfl,rfl,h0,h1,rfl,rfl⟩
 obtain ⟨i,rfl⟩:=as6 h0
 rw [aA,anR]
 refine aa (fun h=> ?_) fun h=> ?_
 ·simp only [aQ] at h
  have:=(qi wa wb i).2
  refine ⟨⟨h0,h⟩,by omega,⟨h0,h⟩,by omega,⟨wa i,wb i,this⟩,⟨h0,h⟩,by omega,⟨by omega,by omega⟩,⟨rfl,rfl,by omega,by omega,?_,?_⟩,by omega⟩
  ·rw [show ((i:Int)+1).toNat=i+1 from by omega];rfl
  ·rw [show ((i:Int)+1).toNat=i+1 from by omega];rfl
 ·simp only [aT] at h
  rw [show i=4 from by omega]
theorem aeh:(base.with Ze).Ok:=ab ag6 (ai agn ag6 Tryz.func181 (by kernel_rfl) Tryz.call181 (by kernel_rfl) aln)
theorem amy:aim:=by
 delta aim xl nU
 intro a ha wa
 refine ⟨trivial,⟨wa,nX⟩,aa (fun h=> ?_) fun h=> ?_⟩
 ·exact (if_pos (au h)).symm
 ·exact (if_neg (aw h)).symm
theorem abF:(base.with V0).Ok:=ab aeh (ai am aeh Tryz.func180 (by kernel_rfl) Tryz.call180 (by kernel_rfl) amy)
theorem apI:akR:=by
 delta akR ID Vl
 rintro x y ⟨hx,hy⟩
 refine ⟨by omega,by omega,by omega,by omega,by omega,?_,xJ _⟩
 have l32:∀ z,ap z→dp .u64 z 4294967295=z%4294967296:=fun z hz=>and_low32 z hz.1 hz.2
 have s32:∀ z,aL .u64 z 32=z / 4294967296:=fun z=>by
  unfold aL
  exact awT _ (by decide)
 have iw:∀ z:Int,ap (z%18446744073709551616):=fun z=>by unfold ap;omega
 simp only [s32,xJ,l32 _ hx,l32 _ hy,l32 _ (iw _)]
 exact mul64_arith x y hx.1 hx.2 hy.1 hy.2
theorem afB:(base.with VG).Ok:=ab abF (ai am abF Tryz.func215 (by kernel_rfl) Tryz.call215 (by kernel_rfl) apI)
theorem C2 {a x y c:Int} (ha:ap a) (hx:ap x) (hy:ap y) (hc:ap c):0≤a+x*y+c∧a+x*y+c<340282366920938463463374607431768211456:=by
 unfold ap at *
 have h1:=awX hx.1 hy.1
 have h2:x*y≤18446744073709551615*18446744073709551615:=Int.mul_le_mul (by omega) (by omega) hy.1 (by omega)
 omega
theorem ana:avP:=by
 rintro a x y c ⟨ha,hx,hy,hc⟩
 have iw:∀ z:Int,ap (z%18446744073709551616):=fun z=>by unfold ap;omega
 refine ⟨⟨hx,hy⟩,⟨iw _,ha,by omega,by omega⟩,⟨xd _ _ _,hc,by omega,by omega⟩,?_⟩
 have hb:=C2 ha hx hy hc
 unfold ap at ha hc
 have h1:0≤x*y:=awX hx.1 hy.1
 simp only [xJ]
 unfold eO cT dc dj
 generalize x*y=m at *
 refine ⟨by omega,by omega⟩
theorem ajV:(base.with XX).Ok:=ab afB (ai am afB Tryz.func189 (by kernel_rfl) Tryz.call189 (by kernel_rfl) ana)
theorem alt:aic:=by
 delta aic iR xl
 intro _
 refine ⟨trivial,⟨by decide,by decide,by decide⟩,⟨⟨rfl,by omega,by omega,rfl⟩,trivial⟩,?_⟩
 rintro p x n ⟨rfl,h0,h1,rfl⟩
 obtain ⟨i,rfl⟩:=as6 h0
 refine aa (fun h=> ?_) fun h=> ?_
 ·simp only [aQ] at h
  refine ⟨⟨by omega,by omega⟩,⟨rfl,by omega,by omega,?_⟩,by omega⟩
  rw [show ((i:Int)+1).toNat=i+1 from by omega]
  rfl
 ·simp only [aT] at h
  rw [aA,show i=6 from by omega]
  decide
theorem acb:(base.with Wh).Ok:=ab ajV (ai aj6 ajV Tryz.func188 (by kernel_rfl) Tryz.call188 (by kernel_rfl) alt)
abbrev q5:BPat:= .cells 337 [.arrI 5 .u64]
abbrev qe:BPat:= .cells 76 [a4]
def gR (x:Int) (b t:List Int):Nat→List Int×Int
 | 0=>(t,0)
 | j+1=>((gR x b t j).1.set j (eO (gI (gR x b t j).1 j) x (gI b j) (gR x b t j).2),cT (gI (gR x b t j).1 j) x (gI b j) (gR x b t j).2)
def jU (k:Int) (t:List Int) (c:Int):Nat→List Int×Int
 | 0=>(t,c)
 | n+1=>((jU k t c n).1.set n (eO (gI (jU k t c n).1 (n+1)) k (gI pW (n+1)) (jU k t c n).2),cT (gI (jU k t c n).1 (n+1)) k (gI pW (n+1)) (jU k t c n).2)
def u1 (x:Int) (b t:List Int):List Int:=(gR x b t 4).1.set 4 (IntKind.u64.wrap (gI (gR x b t 4).1 4+(gR x b t 4).2))
def kW (t:List Int):Int:=IntKind.u64.wrap (gI t 0*inv)
def r1 (t:List Int):List Int×Int:=jU (kW t) t (cT (gI t 0) (kW t) (gI pW 0) 0) 3
def f5 (r:List Int×Int):List Int:=(r.1.set 3 (dc (gI r.1 4) r.2 0)).set 4 (dj (gI r.1 4) r.2 0)
def Ek (x:Int) (b t:List Int):List Int:=f5 (r1 (u1 x b t))
def eM (a b:List Int):Nat→List Int
 | 0=> [0,0,0,0,0]
 | i+1=>Ek (gI a i) b (eM a b i)
def du (a b:List Int):List Int:=iK ((eM a b 4).take 4)
def qb:Nat→List Int
 | 0=> [1,0,0,0]
 | i+1=>iK (eY (qb i) (qb i) 4).1
def de (a:List Int):List Int:=du a (qb 512)
def r9 (a:List Int):List Int:=du a [1,0,0,0]
def kV (a:List Int):List Int:=dG (fun i=>gI (r9 a) i) 4
def gk (l:LD):List Int:=bg l 32
def aqM:Ct:= {ps:= [w4,w4],bs:= [],pre:=fun | [.li a,.li b] =>af a∧af b | _=>False,res:=fun | [.li a,.li b] => .ret w4 [] [.li (du a b)] | _=>ag}
def C1:List (Nat×Pat):= [(2,.ptr 0 0),(3,.ptr 1 0),(4,.ptr 2 0),(5,.ptr 3 0),(6,u64),(7,.ptr 4 0),(17,w4),(18,i64)]
def akw:List Dat→Ann
 | [.li a,.li b] =>⟨[],[(4,[la 91 C1 [q4,q4,q4,q4,q5] (fun | [.i v,.li a',.i i,.li _,.li b',.li _,.li p,.li t] =>v=inv∧a'=a∧0≤i∧i≤4∧b'=b∧p=pW∧t=eM a b i.toNat | _=>False) (fun | [_,_,.i i,_,_,_,_,_] =>(4-i).toNat | _=>0)])],
   [
    (8,[la 91 (C1++ [(9,u64),(10,u64),(21,w4),(22,i64)]) [q4,q4,q4,q4,q5] (fun _=>True) (fun _=>0)],fun
     | [.i v0,.i x0,.i c0,.li a0,.i i0,.li b0,.i j0,.li e0,.li f0,.li o0,.li p0,.li t0] => [la 91 (C1++ [(9,u64),(10,u64),(21,w4),(22,i64)]) [q4,q4,q4,q4,q5]
      (fun | [.i v,.i x,.i c,.li a,.i i,.li b,.i j,.li e,.li f,.li _,.li p,.li t] =>v=v0∧x=x0∧a=a0∧i=i0∧b=b0∧0≤j∧j≤4∧f=f0∧p=p0∧t=(gR x0 b0 t0 j.toNat).1∧c=(gR x0 b0 t0 j.toNat).2 | _=>False)
      (fun | [_,_,_,_,_,_,.i j,_,_,_,_,_] =>(4-j).toNat | _=>0)]
     | _=> []),
    (16,[la 91 (C1++ [(10,u64),(13,u64),(14,i64)]) [q4,q4,q4,q4,q5] (fun _=>True) (fun _=>0)],fun
     | [.i v0,.i c0,.i k0,.i j0,.li a0,.i i0,.li e0,.li f0,.li o0,.li p0,.li t0] => [la 91 (C1++ [(10,u64),(13,u64),(14,i64)]) [q4,q4,q4,q4,q5]
      (fun | [.i v,.i c,.i k,.i j,.li a,.i i,.li e,.li f,.li _,.li p,.li t] =>v=v0∧k=k0∧a=a0∧i=i0∧1≤j∧j≤4∧f=f0∧p=p0∧t=(jU k0 t0 c0 (j.toNat-1)).1∧c=(jU k0 t0 c0 (j.toNat-1)).2 | _=>False)
      (fun | [_,_,_,.i j,_,_,_,_,_,_,_] =>(4-j).toNat | _=>0)]
     | _=> [])]⟩
 | _=> {cut:= [],loop:= []}
def aqr:Ct:= {ps:= [w4],bs:= [],pre:=fun | [.li a] =>af a | _=>False,res:=fun | [.li a] => .ret w4 [] [.li (de a)] | _=>ag}
def af6:List Dat→Ann
 | [.li a] => {cut:= [],loop:= [(3,[la 16 [(1,.ptr 0 0),(2,.ptr 1 0),(3,.ptr 2 0),(5,i64)] [q4,qe,q4] (fun | [.i i,.li a',.li _,.li s] =>0≤i∧i≤512∧a'=a∧s=qb i.toNat | _=>False) (fun | [.i i,_,_,_] =>(512-i).toNat | _=>0)])]}
 | _=> {cut:= [],loop:= []}
def apD:Ct:= {ps:= [w4],bs:= [],pre:=fun | [.li a] =>af a | _=>False,res:=fun | [.li a] => .ret w4 [] [.li (r9 a)] | _=>ag}
def auS:Ct:= {ps:= [w4],bs:= [],pre:=fun | [.li a] =>af a | _=>False,res:=fun | [.li a] => .ret BW [] [.li (kV a)] | _=>ag}
def arD:Ct:= {ps:= [rb],bs:= [],pre:=fun | [.r l] =>av l | _=>False,res:=fun
 | [.r l] => .ite (decide (l.length≠32)) (.ret (.tup [w4,i64]) [] [.li [0,0,0,0],.i 1]) (.ite (decide ((ck (gk l) pW 4).2=0)) (.ret (.tup [w4,i64]) [] [.li [0,0,0,0],.i 4]) (.ret (.tup [w4,i64]) [] [.li (de (gk l)),.i 0]))
 | _=>ag}
def jy (b:List Int):List Int:=b.set 31 (dp .u8 (gI b 31) 63)
def amD:Ct:= {ps:= [BW],bs:= [],pre:=fun _=>True,res:=fun | [.li b] => .ret BW [] [.li (jy b)] | _=>ag}
abbrev fa (a:List Int):Prop:=
 a.length=4
abbrev wC:List Int:=
 [4891460686036598785,2896914383306846353,13281191951274694749,3486998266802970665]
abbrev mF:List Int:=
 [0,0,0,0]
abbrev gD (a:Int)(b:List Int):Int:=
 b.getD (a.toNat*1) 0
abbrev sf (a:Int)(b:List Int):List Int:=
 b.set 4 (IntKind.u64.wrap (b.getD 4 0+a))
abbrev pM (a b:Int)(c:List Int):Int:=
 IntKind.u64.wrap ((sf a c).getD 0 0*b)
abbrev zK (a b:Int)(c d:List Int):Int:=
 cT ((sf a c).getD 0 0) (pM a b c)
 (d.getD 0 0) 0
def acy:Prop:=
 ∀ (a b:List Int),
 fa a→
 fa b→
 af a∧af b→
 True∧
 True∧
 ((inv=inv∧
 a=a∧
 (0:Int)≤0∧
 (0:Int)≤4∧
 b=b∧
 wC=wC∧
 (0:Int)::mF=eM a b 0)∧
 True)∧
 ∀ (c:Int) (d:List Int) (e:Int) (f g h i j:List Int),
 fa d→
 fa f→
 fa g→
 fa h→
 fa i→
 j.length=5→
 c=inv∧
 d=a∧
 0≤e∧e≤4∧g=b∧i=wC∧j=eM a b e.toNat→
 bif decide (e<(4:Int)) then
 (0≤e∧e<(↑(4:Nat):Int)∧e.toNat*1<(4:Nat))∧
 ((c=c∧
 gD e d=gD e d∧
 d=d∧
 e=e∧
 g=g∧
 (0:Int)≤0∧
 (0:Int)≤4∧
 g=g∧
 i=i∧
 j=(gR (gD e d) g j 0).fst∧
 0=(gR (gD e d) g j 0).snd)∧
 True)∧
 ∀ (k m o:Int) (p:List Int) (q:Int) (r:List Int) (s:Int) (t u v w x:List Int),
 fa p→
 fa r→
 fa t→
 fa u→
 fa v→
 fa w→
 x.length=5→
 k=c∧
 m=gD e d∧
 p=d∧
 q=e∧
 r=g∧
 0≤s∧
 s≤4∧
 u=g∧
 w=i∧
 x=
 (gR (gD e d) g j
 s.toNat).fst∧
 o=
 (gR (gD e d) g j
 s.toNat).snd→
 bif decide (s<(4:Int)) then
 (0≤s∧s<(↑(4:Nat):Int)∧s.toNat*1<(4:Nat))∧
 (0≤s∧s<(↑(5:Nat):Int))∧
 s.toNat*1<(5:Nat)∧
 (ap (gD s x)∧
 ap m∧
 ap (gD s r)∧
 ap o)∧
 (0≤s∧s<(↑(5:Nat):Int))∧
 s.toNat*1<(5:Nat)∧
 iR (s+1)∧
 (k=c∧
 m=gD e d∧
 p=d∧
 q=e∧
 r=g∧
 0≤s+1∧
 s+1≤4∧
 u=g∧
 w=i∧
 x.set (s.toNat*1)
 (eO
 (gD s x) m
 (gD s r) o)=
 (gR
 (gD e d) g j (s+1).toNat).fst∧
 cT (gD s x) m
 (gD s r) o=
 (gR
 (gD e d) g j (s+1).toNat).snd)∧
 ((4:Int)-(s+1)).toNat<((4:Int)-s).toNat
 else
 ((0:Int)≤4∧(4:Int)<(↑(5:Nat):Int))∧
 (4:Nat)<(5:Nat)∧
 ((0:Int)≤4∧(4:Int)<(↑(5:Nat):Int))∧
 (4:Nat)<(5:Nat)∧
 ((0:Int)≤0∧(0:Int)<(↑(5:Nat):Int))∧
 (0:Nat)<(5:Nat)∧
 ((0:Int)≤0∧(0:Int)<(↑(5:Nat):Int))∧
 (0:Nat)<(5:Nat)∧
 ((0:Int)≤0∧(0:Int)<(↑(4:Nat):Int))∧
 (0:Nat)<(4:Nat)∧
 (ap
 ((sf o x).getD 0 0)∧
 ap (pM o k x)∧
 ap (w.getD 0 0)∧
 ap 0)∧
 ((k=k∧
 pM o k x=
 pM o k x∧
 p=p∧
 q=q∧
 (1:Int)≤1∧
 (1:Int)≤4∧
 u=u∧
 w=w∧
 sf o x=
 (jU
 (pM o k x)
 (sf o x)
 (zK o k x w) 0).fst∧
 zK o k x w=
 (jU
 (pM o k x)
 (sf o x)
 (zK o k x w) 0).snd)∧
 True)∧
 ∀ (y z A B:Int) (D:List Int) (F:Int) (G H I J K:List Int),
 fa D→
 fa G→
 fa H→
 fa I→
 fa J→
 K.length=5→
 y=k∧
 A=pM o k x∧
 D=p∧
 F=q∧
 1≤B∧
 B≤4∧
 H=u∧
 J=w∧
 K=
 (jU
 (pM o k x)
 (sf o x)
 (zK o k x w)
 (B.toNat-(1:Nat))).fst∧
 z=
 (jU
 (pM o k x)
 (sf o x)
 (zK o k x w)
 (B.toNat-(1:Nat))).snd→
 bif decide (B<(4:Int)) then
 iR (B-(1:Int))∧
 (0≤B∧B<(↑(5:Nat):Int))∧
 B.toNat*1<(5:Nat)∧
 (0≤B∧B<(↑(4:Nat):Int))∧
 B.toNat*1<(4:Nat)∧
 (ap
 (gD B K)∧
 ap A∧
 ap
 (gD B J)∧
 ap z)∧
 (0≤B-(1:Int)∧B-(1:Int)<(↑(5:Nat):Int))∧
 (B-(1:Int)).toNat*1<(5:Nat)∧
 iR (B+1)∧
 (y=k∧
 A=pM o k x∧
 D=p∧
 F=q∧
 1≤B+1∧
 B+1≤4∧
 H=u∧
 J=w∧
 K.set ((B-(1:Int)).toNat*1)
 (eO
 (gD
 B K)
 A
 (gD
 B J)
 z)=
 (jU
 (pM
 o k x)
 (sf
 o x)
 (zK
 o k x w)
 ((B+1).toNat -
 (1:Nat))).fst∧
 cT
 (gD
 B K)
 A
 (gD
 B J)
 z=
 (jU
 (pM
 o k x)
 (sf
 o x)
 (zK
 o k x w)
 ((B+1).toNat -
 (1:Nat))).snd)∧
 ((4:Int)-(B+1)).toNat<((4:Int)-B).toNat
 else
 ((0:Int)≤4∧(4:Int)<(↑(5:Nat):Int))∧
 (4:Nat)<(5:Nat)∧
 (ap (K.getD 4 0)∧
 ap z∧
 (0:Int)≤0∧(0:Int)≤1)∧
 ((0:Int)≤3∧(3:Int)<(↑(5:Nat):Int))∧
 (3:Nat)<(5:Nat)∧
 ((0:Int)≤4∧(4:Int)<(↑(5:Nat):Int))∧
 (4:Nat)<(5:Nat)∧
 iR (F+1)∧
 (y=inv∧
 D=a∧
 0≤F+1∧
 F+1≤4∧
 H=b∧
 J=wC∧
 (K.set 3
 (dc
 (K.getD 4 0) z
 0)).set
 4
 (dj
 (K.getD 4 0) z 0)=
 eM a b
 (F+1).toNat)∧
 ((4:Int)-(F+1)).toNat<((4:Int)-e).toNat
 else
 ((0:Int)≤0∧(0:Int)≤4∧4≤(↑(5:Nat):Int)∧(0:Int)<(↑(5:Nat):Int))∧
 (4:Nat)≤4∧
 (4:Nat)≤5∧
 af (ar0 4 (ar1 0 j))∧
 iK (ar0 4 (ar1 0 j))=du a b
def VF:ac:=ak Wh 149 (aq aqM)
def ahj:Prop:=
 ∀ (a:List Int),
 fa a→
 af a→
 (((0:Int)≤0∧(0:Int)≤512∧a=a∧ [(1:Int),0,0,0] = [(1:Int),0,0,0])∧True)∧
 ∀ (b:Int) (c d e:List Int),
 fa c→
 fa d→
 fa e→
 0≤b∧b≤512∧c=a∧e=qb b.toNat→
 bif decide (b<(512:Int)) then
 (af e∧af e)∧
 af (eY e e 4).fst∧
 iR (b+1)∧
 (0≤b+1∧
 b+1≤512∧
 c=a∧
 iK (eY e e 4).fst=
 qb (b+1).toNat)∧
 ((512:Int)-(b+1)).toNat<((512:Int)-b).toNat
 else
 (af c∧af e)∧
 du c e=de a
def ZG:ac:=ak VF 139 (aq aqr)
def ael:Prop:=
 ∀ (a:List Int),
 fa a→
 af a→
 (af a∧af [1,0,0,0])∧
 du a [1,0,0,0] =r9 a
def XR:ac:=ak ZG 101 (aq apD)
abbrev Cx (a:List Int):LD:=
 asv (fun b=> [.int b]) (ar0 4 (ar1 0 (r9 a)))
abbrev UO (a:List Int):Prop:=
 32≤
 (asv ae
 (dG (rv (Cx a))
 (Cx a).length)).length
def P63:Prop:=
 ∀ (a:List Int),
 fa a→
 af a→
 af a∧
 ((0:Int)≤0∧0≤(↑(4:Nat):Int)∧(↑(4:Nat):Int)≤(↑(4:Nat):Int)∧(0:Int)<(↑(4:Nat):Int))∧
 ((Cx a).length≤1000∧cQ (Cx a))∧
 UO a∧
 UO a∧
 asv (fun b=>(b.getD 0 (.int 0)).toInt)
 (ar0 32
 (ar1 0
 (asv ae
 (dG (rv (Cx a))
 (Cx a).length))))=
 kV a
def agt:ac:=ak XR 63 (aq auS)
abbrev PA (a:LD):Bool:=
 decide ((ck (gk a) wC 4).snd=0)
abbrev xu (a:LD):List Int:=
 asv (fun b=>(b.getD 0 (.int 0)).toInt)
 (ar0 4 (ar1 0 (asv ae (bg a a.length))))
def agd:Prop:=
 ∀ (a:LD),
 lM a→
 av a→
 lM a→
 bif decide ((↑a.length:Int)≠32) then
 bif decide (a.length≠32) then mF=mF∧(1:Int)=1
 else
 bif PA a then mF=mF∧(1:Int)=4
 else mF=de (gk a)∧(1:Int)=0
 else
 (a.length≤1000∧av a)∧
 4≤(asv ae (bg a a.length)).length∧
 4≤(asv ae (bg a a.length)).length∧
 True∧
 (af (xu a)∧
 af wC)∧
 bif
 decide
 ((ck (xu a) wC 4).snd=
 (0:Int)) then
 bif decide (a.length≠32) then mF=mF∧(4:Int)=1
 else
 bif PA a then
 mF=mF∧(4:Int)=4
 else mF=de (gk a)∧(4:Int)=0
 else
 af (xu a)∧
 bif decide (a.length≠32) then
 de (xu a)=mF∧(0:Int)=1
 else
 bif PA a then
 de (xu a)=mF∧(0:Int)=4
 else
 de (xu a)=
 de (gk a)∧
 (0:Int)=0
def Ya:ac:=ak agt 177 (aq arD)
def auI:Prop:=
 ∀ (a:List Int),
 a.length=32→
 True→
 ((0:Int)≤31∧(31:Int)<(↑(32:Nat):Int))∧
 (31:Nat)<(32:Nat)∧
 ((0:Int)≤31∧(31:Int)<(↑(32:Nat):Int))∧
 (31:Nat)<(32:Nat)∧a.set 31 (dp .u8 (a.getD 31 0) 63)=jy a
def WV:ac:=ak Ya 280 (aq amD)
theorem Xo (a x y c:Int):ap (eO a x y c):=by unfold ap eO;omega
theorem Ih {a x y c:Int} (ha:ap a) (hx:ap x) (hy:ap y) (hc:ap c):ap (cT a x y c):=by
 have:=C2 ha hx hy hc
 unfold ap cT;omega
theorem PE (n:Int):ap (IntKind.u64.wrap n):=by rw [xJ];unfold ap;omega
theorem yI {x:Int} {b t:List Int} (hx:ap x) (hb:af b) (ht:af t):∀ j,af (gR x b t j).1∧ap (gR x b t j).2
 | 0=>⟨ht,bl⟩
 | j+1=>⟨gC (yI hx hb ht j).1 (Xo _ _ _ _) j,Ih ((yI hx hb ht j).1 j) hx (hb j) (yI hx hb ht j).2⟩
theorem Al {k c:Int} {t:List Int} (hk:ap k) (hc:ap c) (ht:af t):∀ n,af (jU k t c n).1∧ap (jU k t c n).2
 | 0=>⟨ht,hc⟩
 | n+1=>⟨gC (Al hk hc ht n).1 (Xo _ _ _ _) n,Ih ((Al hk hc ht n).1 (n+1)) hk (nX (n+1)) (Al hk hc ht n).2⟩
theorem WW {x:Int} {b t:List Int} (hx:ap x) (hb:af b) (ht:af t):af (u1 x b t):=gC (yI hx hb ht 4).1 (PE _) 4
theorem ZK {x y c:Int} (hx:ap x) (hy:ap y) (hc:0≤c∧c≤1):ap (dj x y c):=by
 have:=HZ hx hy hc
 unfold ap;omega
theorem aoH {t:List Int} (ht:af t):af (r1 t).1∧ap (r1 t).2:=Al (PE _) (Ih (ht 0) (PE _) (nX 0) bl) ht 3
theorem agX {x:Int} {b t:List Int} (hx:ap x) (hb:af b) (ht:af t):af (Ek x b t):=by
 have h:=aoH (WW hx hb ht)
 exact gC (gC h.1 (xd _ _ _) 3) (ZK (h.1 4) h.2 ⟨by omega,by omega⟩) 4
theorem aaM:af [0,0,0,0,0] :=fun j=>by
 match j with
 | 0=>exact bl
 | 1=>exact bl
 | 2=>exact bl
 | 3=>exact bl
 | 4=>exact bl
 | _+5=>exact bl
theorem Dl {a b:List Int} (ha:af a) (hb:af b):∀ i,af (eM a b i)
 | 0=>aaM
 | i+1=>agX (ha i) hb (Dl ha hb i)
theorem GN {s:List Int} (h:af s) (n:Nat):af (s.take n):=fun j=>by
 rw [ay,List.getElem?_take]
 split
 ·rw [← ay];exact h j
 ·exact bl
theorem Gq {a:List Int} (ha:af a):af (iK a):=by
 unfold iK
 split
 ·exact (DC a pW 4).1
 ·exact ha
theorem fh {a b:List Int} (ha:af a) (hb:af b):af (du a b):=Gq (GN (Dl ha hb 4) 4)
theorem KJ:af [1,0,0,0] :=fun j=>by
 match j with
 | 0=>exact ⟨by decide,by decide⟩
 | 1=>exact bl
 | 2=>exact bl
 | 3=>exact bl
 | _+4=>exact bl
theorem kX:∀ i,af (qb i)
 | 0=>KJ
 | i+1=>Gq (qi (kX i) (kX i) 4).1
theorem ani:acy:=by
 delta acy iR fa wC mF gD sf pM zK
 rintro a b _ _ ⟨wa,wb⟩
 refine ⟨trivial,trivial,⟨⟨rfl,rfl,by omega,by omega,rfl,rfl,rfl⟩,trivial⟩,?_⟩
 rintro v a' n e b' o p t _ _ _ _ _ hlt ⟨rfl,rfl,h0,h1,rfl,hp,rfl⟩
 have hp:p=pW:=hp
 obtain ⟨i,rfl⟩:=as6 h0
 rw [aA,anR]
 refine aa (fun h=> ?_) fun h=> ?_
 ·simp only [aQ] at h
  have wt:=Dl wa wb i
  refine ⟨⟨h0,h,by omega⟩,⟨⟨rfl,rfl,rfl,rfl,rfl,by omega,by omega,rfl,rfl,rfl,rfl⟩,trivial⟩,?_⟩
  rintro v2 x c a2 i2 b2 j e2 f2 o2 p2 t2 _ _ _ _ _ _ ht2 ⟨rfl,rfl,rfl,rfl,rfl,j0,j1,rfl,rfl,rfl,rfl⟩
  obtain ⟨j,rfl⟩:=as6 j0
  rw [aA,anR]
  have wm:=yI (wa i) wb wt
  refine aa (fun h2=> ?_) fun h2=> ?_
  ·simp only [aQ] at h2
   refine ⟨⟨j0,h2,by omega⟩,⟨j0,by omega⟩,by omega,⟨(wm j).1 j,wa i,wb j,(wm j).2⟩,⟨j0,by omega⟩,by omega,⟨by omega,by omega⟩,⟨rfl,rfl,rfl,rfl,rfl,by omega,by omega,rfl,rfl,?_,?_⟩,by omega⟩
   ·rw [show ((j:Int)+1).toNat=j+1 from by omega];rfl
   ·rw [show ((j:Int)+1).toNat=j+1 from by omega];rfl
  ·simp only [aT] at h2
   have e4:j=4:=by omega
   subst e4
   have wU:af (u1 (gI a2 i) f2 (eM a2 f2 i)):=WW (wa i) wb wt
   have hst:eM a2 f2 (i+1)=f5 (r1 (u1 (gI a2 i) f2 (eM a2 f2 i))):=rfl
   rw [show (gR (a2.getD i 0) f2 (eM a2 f2 i) 4).1.set 4 (IntKind.u64.wrap ((gR (a2.getD i 0) f2 (eM a2 f2 i) 4).1.getD 4 0+(gR (a2.getD i 0) f2 (eM a2 f2 i) 4).2))=u1 (gI a2 i) f2 (eM a2 f2 i) from rfl]
   generalize u1 (gI a2 i) f2 (eM a2 f2 i)=U at *
   rw [show IntKind.u64.wrap (U.getD 0 0*inv)=kW U from rfl]
   have wk:ap (kW U):=PE _
   have wl:ap (cT (U.getD 0 0) (kW U) (p2.getD 0 0) 0):=by rw [hp];exact Ih (wU 0) wk (nX 0) bl
   refine ⟨⟨by omega,by omega⟩,by omega,⟨by omega,by omega⟩,by omega,⟨by omega,by omega⟩,by omega,⟨by omega,by omega⟩,by omega,⟨by omega,by omega⟩,by omega,⟨wU 0,wk,by rw [hp];exact nX 0,bl⟩,⟨⟨rfl,rfl,rfl,rfl,by omega,by omega,rfl,rfl,rfl,rfl⟩,trivial⟩,?_⟩
   rintro v3 c3 k3 j3 a3 i3 e3 f3 o3 p3 t3 _ _ _ _ _ ht3 ⟨rfl,rfl,rfl,rfl,g0,g1,rfl,rfl,rfl,rfl⟩
   obtain ⟨m,rfl⟩:∃ m:Nat,j3=m+1:=⟨(j3-1).toNat,by omega⟩
   have wr:=Al wk wl wU
   rw [show ((m:Int)+1).toNat=m+1 from by omega,anR,awW]
   refine aa (fun h3=> ?_) fun h3=> ?_
   ·simp only [aQ] at h3
    have em:((m:Int)+1-1).toNat*1=m:=by omega
    refine ⟨⟨by omega,by omega⟩,⟨by omega,by omega⟩,by omega,⟨by omega,by omega⟩,by omega,⟨(wr m).1 (m+1),wk,by rw [hp];exact nX (m+1),(wr m).2⟩,⟨by omega,by omega⟩,by omega,⟨by omega,by omega⟩,⟨rfl,rfl,rfl,rfl,by omega,by omega,rfl,rfl,?_,?_⟩,by omega⟩
    ·rw [em,show ((m:Int)+1+1).toNat-1=m+1 from by omega,hp];rfl
    ·rw [show ((m:Int)+1+1).toNat-1=m+1 from by omega,hp];rfl
   ·simp only [aT] at h3
    have e3:m=3:=by omega
    subst e3
    refine ⟨⟨by omega,by omega⟩,by omega,⟨(wr 3).1 4,(wr 3).2,by omega,by omega⟩,⟨by omega,by omega⟩,by omega,⟨by omega,by omega⟩,by omega,⟨by omega,by omega⟩,⟨rfl,rfl,by omega,by omega,rfl,hp,?_⟩,by omega⟩
    rw [show ((i:Int)+1).toNat=i+1 from by omega,hst,hp]
    rfl
 ·simp only [aT] at h
  have e4:i=4:=by omega
  subst e4
  exact ⟨⟨by omega,by omega,by omega,by omega⟩,by omega,by omega,GN (Dl wa wb 4) 4,rfl⟩
theorem ahL:(base.with VF).Ok:=ab acb (ai akw acb Tryz.func149 (by kernel_rfl) Tryz.call149 (by kernel_rfl) ani)
theorem Nw (x:Int) (b t:List Int):∀ j,(gR x b t j).1.length=t.length
 | 0=>rfl
 | j+1=>by rw [gR,df,Nw x b t j]
theorem Np (k:Int) (t:List Int) (c:Int):∀ n,(jU k t c n).1.length=t.length
 | 0=>rfl
 | n+1=>by rw [jU,df,Np k t c n]
theorem MJ (a b:List Int):∀ i,(eM a b i).length=5
 | 0=>rfl
 | i+1=>by
  show (f5 (r1 (u1 (gI a i) b (eM a b i)))).length=5
  unfold f5 r1 u1
  rw [df,df,Np,df,Nw,MJ a b i]
theorem Fm (a b:List Int):∀ i,(ck a b i).1.length=4
 | 0=>rfl
 | i+1=>by rw [ck,df,Fm a b i]
theorem xi {a:List Int} (h:a.length=4):(iK a).length=4:=by
 unfold iK
 split
 ·exact Fm _ _ 4
 ·exact h
theorem lT (a b:List Int):(du a b).length=4:=xi (by rw [ajw,MJ];rfl)
theorem Ah (l:LD):∀ n,af (bg l n)
 | 0=>fun j=>by
  rw [bg,ay,awV]
  split <;>exact bl
 | n+1=>gC (Ah l n) (zE _ _) _
theorem aob:ahj:=by
 delta ahj iR fa
 intro a _ wa
 refine ⟨⟨⟨by omega,by omega,rfl,rfl⟩,trivial⟩,?_⟩
 rintro n a' o s _ _ _ ⟨h0,h1,rfl,rfl⟩
 obtain ⟨i,rfl⟩:=as6 h0
 rw [aA]
 refine aa (fun h=> ?_) fun h=> ?_
 ·simp only [aQ] at h
  refine ⟨⟨kX i,kX i⟩,(qi (kX i) (kX i) 4).1,⟨by omega,by omega⟩,⟨by omega,by omega,rfl,?_⟩,by omega⟩
  rw [show ((i:Int)+1).toNat=i+1 from by omega]
  rfl
 ·simp only [aT] at h
  rw [show i=512 from by omega]
  exact ⟨⟨wa,kX _⟩,rfl⟩
theorem afa:(base.with ZG).Ok:=ab ahL (ai af6 ahL Tryz.func139 (by kernel_rfl) Tryz.call139 (by kernel_rfl) aob)
theorem amx:ael:=by
 delta ael fa
 exact fun a _ wa=>⟨⟨wa,KJ⟩,rfl⟩
theorem adL:(base.with XR).Ok:=ab afa (ai am afa Tryz.func101 (by kernel_rfl) Tryz.call101 (by kernel_rfl) amx)
theorem aaW (a:List Int):(r9 a).length=4:=lT _ _
theorem akf {a:List Int} (h:af a):af (r9 a):=fh h KJ
theorem avk:P63:=by
 delta P63 fa Cx UO
 intro a _ wa
 have hl:=aaW a
 have hw:=akf wa
 unfold kV
 rw [as8,agv (Nat.le_of_eq hl)]
 generalize r9 a=L at *
 have e:L.map (fun x=> [CD.int x])=L.map ae:=rfl
 rw [e]
 have el:(L.map ae).length=4:=by rw [bp,hl]
 have ef:rv (L.map ae)=fun i=>gI L i:=funext fun i=>da L i
 rw [el,ef]
 have e32:(dG (fun i=>gI L i) 4).length=32:=j9 _ 4
 have e32':32≤((dG (fun i=>gI L i) 4).map ae).length:=by rw [bp,e32];exact ar5 _
 refine ⟨wa,⟨by omega,by omega,by omega,by omega⟩,⟨by omega,fun i=>by rw [da];exact hw i⟩,e32',e32',?_⟩
 exact rh e32
theorem c63:(base.with agt).Ok:=ab adL (ai am adL Tryz.func63 (by kernel_rfl) Tryz.call63 (by kernel_rfl) avk)
theorem amH:agd:=by
 delta agd lM wC mF PA xu
 intro l hl hb _
 refine aa (fun h=> ?_) fun h=> ?_
 ·have h':l.length≠32:=fun e=>(au h) (by rw [e];rfl)
  rw [decide_eq_true h']
  exact ⟨rfl,rfl⟩
 ·have h':l.length=32:=by
   have:=aw h
   omega
  have hd:decide (l.length≠32)=false:=decide_eq_false fun h=>h h'
  rw [hd,h']
  have hw:(bg l 32).length=4:=by rw [fK,h']
  have ew:asv (fun r=>(r.getD 0 (CD.int 0)).toInt) (ar0 4 (ar1 0 ((bg l 32).map ae)))=gk l:=rh hw
  rw [ew]
  have h4:4≤((bg l 32).map ae).length:=by rw [bp,hw];exact ar5 _
  have w1:af (gk l):=by unfold gk;exact Ah l 32
  generalize gk l=W at *
  refine ⟨⟨by omega,hb⟩,h4,h4,trivial,⟨w1,nX⟩,aa (fun h2=> ?_) fun h2=>⟨w1,?_⟩⟩
  ·have h2':decide ((ck W pW 4).2=0)=true:=h2
   rw [h2]
   exact ⟨rfl,rfl⟩
  ·have h2':decide ((ck W pW 4).2=0)=false:=h2
   rw [h2]
   exact ⟨rfl,rfl⟩
theorem abQ:(base.with Ya).Ok:=ab c63 (ai am c63 Tryz.func177 (by kernel_rfl) Tryz.call177 (by kernel_rfl) amH)
theorem aqd:auI:=fun l hl _=>⟨⟨by omega,by omega⟩,by omega,⟨by omega,by omega⟩,by omega,rfl⟩
theorem ajY:(base.with WV).Ok:=ab abQ (ai am abQ Tryz.func280 (by kernel_rfl) Tryz.call280 (by kernel_rfl) aqd)
abbrev Fl:Pat:= .iface 253 (.agg [])
abbrev eV:BPat:= .cells 298 [Fl,.own 1,i64,i64,i64]
abbrev KT:Pat:= .agg [.ptr 0 0]
def fD (s:LD):LD:=(iO (gN (bg s 200))).map ae
abbrev Sp:=Int×Int×Int×LD
def pmS (x:Sp):Sp:=(0,x.2.1,x.2.2.1+1,fD x.2.2.2)
def Js (x:Sp):Sp:=if x.1=136 then pmS x else x
def ab1 (x:Sp) (u:Int):Sp:=(x.1+1,136,x.2.2.1,x.2.2.2.set x.1.toNat ((x.2.2.2.getD x.1.toNat []).set 0 (.int u)))
def b7 (l:LD) (x:Sp):Nat→Sp
 | 0=>x
 | i+1=>ab1 (Js (b7 l x i)) (rv l i)
def oG (x:Sp):Sp:=if x.2.1=136 then (0,0,x.2.2.1+1,fD x.2.2.2) else x
def sq1 (x:Sp):Sp:=(x.1,x.2.1+1,x.2.2.1,x.2.2.2)
def aU (x:Sp):Nat→Sp
 | 0=>x
 | i+1=>sq1 (oG (aU x i))
def kr (x:Sp):Nat→LD
 | 0=> []
 | i+1=>kr x i++ [[.int (rv (oG (aU x i)).2.2.2 (oG (aU x i)).2.1.toNat)]]
def sa (l:LD):LD:=gj (ab0 200 [.int 0]) 136 64 l
def db (x:Sp):Prop:=0≤x.1∧x.1≤136∧0≤x.2.1∧x.2.1≤136∧0≤x.2.2.1∧x.2.2.1≤1000000000∧x.2.2.2.length=200∧av x.2.2.2
def aoM:Ct:= {ps:= [.agg []],bs:= [],pre:=fun _=>True,res:=fun _=> .ret i64 [] [.i 136]}
def aq9:Ct:= {ps:= [.agg []],bs:= [],pre:=fun _=>True,res:=fun _=> .ret i64 [] [.i 200]}
def apK:Ct:= {ps:= [.agg [],.own 0],bs:= [ob],pre:=fun | [.r s] =>s.length=200∧av s | _=>False,res:=fun | [.r s] => .ret (.tup []) [ob] [.r (fD s)] | _=>ag}
def auX:Ct:= {ps:= [],bs:= [],pre:=fun _=>True,res:=fun _=> .ret Fl [] []}
def aqZ:Ct:= {ps:= [Fl,rb],bs:= [],pre:=fun | [.r l] =>l.length≤64 | _=>False,res:=fun | [.r l] => .ret (.tup [.ptr 0 0,i64]) [eV,ob] [.i 0,.i 0,.i 136,.i 0,.r (sa l)] | _=>ag}
def auC:Ct:= {ps:= [Fl,rb],bs:= [],pre:=fun | [.r l] =>l.length≤64 | _=>False,res:=fun | [.r l] => .ret (.ptr 0 0) [eV,ob] [.i 0,.i 136,.i 0,.r (sa l)] | _=>ag}
def atO:Ct:= {ps:= [BW],bs:= [],pre:=fun _=>True,res:=fun | [.li t] => .ret (.ptr 0 0) [eV,ob] [.i 0,.i 136,.i 0,.r (sa (t.map ae))] | _=>ag}
def alr:Ct:= {ps:= [.ptr 0 0],bs:= [eV,ob],pre:=fun | [.i a,.i b,.i c,.r s] =>s.length=200∧av s∧0≤c∧c≤2000000000 | _=>False,res:=fun | [.i a,.i b,.i c,.r s] => .ret (.tup []) [eV,ob] [.i 0,.i b,.i (c+1),.r (fD s)] | _=>ag}
def amA:Ct:= {ps:= [.ptr 0 0,rb],bs:= [eV,ob],pre:=fun | [.r l,.i a,.i b,.i c,.r s] =>db (a,b,c,s)∧av l∧l.length≤1000000 | _=>False,res:=fun
 | [.r l,.i a,.i b,.i c,.r s] => .ret (.tup []) [eV,ob] [.i (b7 l (a,b,c,s) l.length).1,.i (b7 l (a,b,c,s) l.length).2.1,.i (b7 l (a,b,c,s) l.length).2.2.1,.r (b7 l (a,b,c,s) l.length).2.2.2]
 | _=>ag}
def ajE:List Dat→Ann
 | [.r l,.i a,.i b,.i c,.r s] => {cut:= [],loop:= [(2,[la 48 [(0,.ptr 0 0),(4,i64),(12,rb),(13,i64),(14,i64)] [eV,ob] (fun
   | [.i q,.r l',.i n,.i i,.i a',.i b',.i c',.r s'] =>q=136∧l'=l∧n=l.length∧0≤i∧i≤n∧a'=(b7 l (a,b,c,s) i.toNat).1∧b'=(b7 l (a,b,c,s) i.toNat).2.1∧c'=(b7 l (a,b,c,s) i.toNat).2.2.1∧s'=(b7 l (a,b,c,s) i.toNat).2.2.2
   | _=>False) (fun | [_,_,.i n,.i i,_,_,_,_] =>(n-i).toNat | _=>0)])]}
 | _=> {cut:= [],loop:= []}
def amF:Ct:= {ps:= [.ptr 0 0,i64],bs:= [eV,ob],pre:=fun | [.i n,.i a,.i b,.i c,.r s] =>db (a,b,c,s)∧n≤1000000 | _=>False,res:=fun
 | [.i n,.i a,.i b,.i c,.r s] => .ret (.own 2) [eV,ob,ob] [.i (aU (a,b,c,s) n.toNat).1,.i (aU (a,b,c,s) n.toNat).2.1,.i (aU (a,b,c,s) n.toNat).2.2.1,.r (aU (a,b,c,s) n.toNat).2.2.2,.r (kr (a,b,c,s) n.toNat)]
 | _=>ag}
def afe:List Dat→Ann
 | [.i n,.i a,.i b,.i c,.r s] => {cut:= [],loop:= [(3,[la 47 [(0,.ptr 0 0),(5,.own 2),(7,i64),(8,i64)] [eV,ob,ob] (fun
   | [.i m,.i i,.i a',.i b',.i c',.r s',.r o] =>m=max n 0∧0≤i∧i≤m∧a'=(aU (a,b,c,s) i.toNat).1∧b'=(aU (a,b,c,s) i.toNat).2.1∧c'=(aU (a,b,c,s) i.toNat).2.2.1∧s'=(aU (a,b,c,s) i.toNat).2.2.2∧o=kr (a,b,c,s) i.toNat
   | _=>False) (fun | [.i m,.i i,_,_,_,_,_] =>(m-i).toNat | _=>0)])]}
 | _=> {cut:= [],loop:= []}
def qo (x:Sp):List Int:=hid ((kr x 32).map fun r=>(r.getD 0 .d0).toInt)
def amo:Ct:= {ps:= [KT],bs:= [eV,ob],pre:=fun | [.i a,.i b,.i c,.r s] =>db (a,b,c,s) | _=>False,res:=fun
 | [.i a,.i b,.i c,.r s] => .ret BW [eV,ob] [.li (qo (a,b,c,s)),.i (aU (a,b,c,s) 32).1,.i (aU (a,b,c,s) 32).2.1,.i (aU (a,b,c,s) 32).2.2.1,.r (aU (a,b,c,s) 32).2.2.2]
 | _=>ag}
def aux:Prop:=
 True→(136:Int)=136
def ZL:ac:=ak WV 294 (aq aoM)
def avB:Prop:=
 True→(200:Int)=200
def Vu:ac:=ak ZL 295 (aq aq9)
def ag0:Prop:=
 ∀ (a:LD),
 lM a→
 a.length=200∧av a→
 av a∧
 bif decide (a.length≠200) then a=fD a
 else
 True∧
 af (gN (bg a 200))∧
 ((0:Int)≤0∧0≤(↑(200:Nat):Int)∧(↑(200:Nat):Int)≤(↑(200:Nat):Int)∧(0:Int)<(↑(200:Nat):Int))∧
 gj a 0 a.length
 (asv (fun b=> [.int b])
 (ar0 200
 (ar1 0
 (iO (gN (bg a 200))))))=
 fD a
def Zw:ac:=ak Vu 293 (aq apK)
def P83:Prop:=
 True→True
def aht:ac:=ak Zw 83 (aq auX)
def aiS:Prop:=
 ∀ (a:LD),
 lM a→
 a.length≤64→
 lM a→
 True∧
 True∧
 iR ((200:Int)-(136:Int))∧
 bif decide ((200:Int)-(136:Int)<↑a.length) then
 Miss 2 eS
 else
 True∧
 ((0:Int)≤200∧(200:Int)≤200∧(↑(1:Nat):Int)*200≤140737488355328∧(200:Int)≤9223372036854775807)∧
 True∧
 True∧
 ((0:Int)≤136∧136≤(↑(200:Nat):Int)∧(↑(200:Nat):Int)≤(↑(200:Nat):Int)∧(136:Int)<(↑(200:Nat):Int))∧
 (0:Int)=0∧
 (0:Int)=0∧
 (136:Int)=136∧
 (0:Int)=0∧
 gj
 (have y:=
 have y:=
 have y:=
 have y:=
 have y:=
 [[.int 0],[.int 0],[.int 0],[.int 0],
 [.int 0],[.int 0],[.int 0]];
 [.int 0] ::
 [.int 0] ::
 [.int 0] :: [.int 0] :: [.int 0] :: [.int 0] ::y;
 have y:=
 [.int 0] ::
 [.int 0] ::
 [.int 0] :: [.int 0] :: [.int 0] :: [.int 0] ::y;
 [.int 0] ::
 [.int 0] ::
 [.int 0] :: [.int 0] :: [.int 0] :: [.int 0] ::y;
 have y:=
 have y:=
 [.int 0] ::
 [.int 0] ::
 [.int 0] ::
 [.int 0] :: [.int 0] :: [.int 0] :: [.int 0] ::y;
 [.int 0] ::
 [.int 0] ::
 [.int 0] :: [.int 0] :: [.int 0] :: [.int 0] ::y;
 have y:=
 [.int 0] ::
 [.int 0] ::
 [.int 0] :: [.int 0] :: [.int 0] :: [.int 0] ::y;
 [.int 0] ::
 [.int 0] ::
 [.int 0] :: [.int 0] :: [.int 0] :: [.int 0] ::y;
 have y:=
 have y:=
 have y:=
 [.int 0] ::
 [.int 0] ::
 [.int 0] ::
 [.int 0] :: [.int 0] :: [.int 0] :: [.int 0] ::y;
 [.int 0] ::
 [.int 0] ::
 [.int 0] :: [.int 0] :: [.int 0] :: [.int 0] ::y;
 have y:=
 [.int 0] ::
 [.int 0] ::
 [.int 0] :: [.int 0] :: [.int 0] :: [.int 0] ::y;
 [.int 0] ::
 [.int 0] ::
 [.int 0] :: [.int 0] :: [.int 0] :: [.int 0] ::y;
 have y:=
 have y:=
 [.int 0] ::
 [.int 0] ::
 [.int 0] ::
 [.int 0] :: [.int 0] :: [.int 0] :: [.int 0] ::y;
 [.int 0] ::
 [.int 0] ::
 [.int 0] :: [.int 0] :: [.int 0] :: [.int 0] ::y;
 have y:=
 [.int 0] ::
 [.int 0] ::
 [.int 0] :: [.int 0] :: [.int 0] :: [.int 0] ::y;
 [.int 0] ::
 [.int 0] ::
 [.int 0] :: [.int 0] :: [.int 0] :: [.int 0] ::y;
 have y:=
 have y:=
 have y:=
 have y:=
 [.int 0] ::
 [.int 0] ::
 [.int 0] ::
 [.int 0] :: [.int 0] :: [.int 0] :: [.int 0] ::y;
 [.int 0] ::
 [.int 0] ::
 [.int 0] :: [.int 0] :: [.int 0] :: [.int 0] ::y;
 have y:=
 [.int 0] ::
 [.int 0] ::
 [.int 0] :: [.int 0] :: [.int 0] :: [.int 0] ::y;
 [.int 0] ::
 [.int 0] ::
 [.int 0] :: [.int 0] :: [.int 0] :: [.int 0] ::y;
 have y:=
 have y:=
 [.int 0] ::
 [.int 0] ::
 [.int 0] ::
 [.int 0] :: [.int 0] :: [.int 0] :: [.int 0] ::y;
 [.int 0] ::
 [.int 0] ::
 [.int 0] :: [.int 0] :: [.int 0] :: [.int 0] ::y;
 have y:=
 [.int 0] ::
 [.int 0] ::
 [.int 0] :: [.int 0] :: [.int 0] :: [.int 0] ::y;
 [.int 0] ::
 [.int 0] ::
 [.int 0] :: [.int 0] :: [.int 0] :: [.int 0] ::y;
 have y:=
 have y:=
 have y:=
 [.int 0] ::
 [.int 0] ::
 [.int 0] ::
 [.int 0] :: [.int 0] :: [.int 0] :: [.int 0] ::y;
 [.int 0] ::
 [.int 0] ::
 [.int 0] :: [.int 0] :: [.int 0] :: [.int 0] ::y;
 have y:=
 [.int 0] ::
 [.int 0] ::
 [.int 0] :: [.int 0] :: [.int 0] :: [.int 0] ::y;
 [.int 0] ::
 [.int 0] ::
 [.int 0] :: [.int 0] :: [.int 0] :: [.int 0] ::y;
 have y:=
 have y:=
 [.int 0] ::
 [.int 0] ::
 [.int 0] ::
 [.int 0] :: [.int 0] :: [.int 0] :: [.int 0] ::y;
 [.int 0] ::
 [.int 0] ::
 [.int 0] :: [.int 0] :: [.int 0] :: [.int 0] ::y;
 have y:=
 [.int 0] ::
 [.int 0] ::
 [.int 0] :: [.int 0] :: [.int 0] :: [.int 0] ::y;
 [.int 0] ::
 [.int 0] ::
 [.int 0] :: [.int 0] :: [.int 0] :: [.int 0] ::y)
 136 64 a=
 sa a
def Wj:ac:=ak aht 130 (aq aqZ)
def P82:Prop:=
 ∀ (a:LD),
 lM a→
 a.length≤64→
 a.length≤64∧
 (0:Int)=0∧(136:Int)=136∧(0:Int)=0∧sa a=sa a
def ah9:ac:=ak Wj 82 (aq auC)
def P45:Prop:=
 ∀ (a:List Int),
 a.length=32→
 True→
 True∧
 ((0:Int)≤0∧0≤(↑(32:Nat):Int)∧(↑(32:Nat):Int)≤(↑(32:Nat):Int)∧(0:Int)<(↑(32:Nat):Int))∧
 (asv (fun b=> [CD.int b]) (ar0 32 (ar1 0 a))).length≤64∧
 (0:Int)=0∧
 (136:Int)=136∧
 (0:Int)=0∧
 sa (asv (fun b=> [CD.int b]) (ar0 32 (ar1 0 a)))=
 sa (asv ae a)
def adJ:ac:=ak ah9 45 (aq atO)
abbrev Fy (a:Int)(b:LD):Prop:=
 b.length=200∧av b∧0≤a∧a≤2000000000
def aec:Prop:=
 ∀ (n a b:Int) (c:LD),
 Fy b c→
 (c.length=200∧av c)∧
 iR (b+1)∧
 (0:Int)=0∧a=a∧b+1=b+1∧fD c=fD c
def XF:ac:=ak adJ 271 (aq alr)
abbrev JP (a:Int)(b:LD):CD:=
 .int ((b.getD a.toNat []).getD 0 (.int 0)).toInt
abbrev Gz (a b:Int):Prop:=
 (a-(b+1)).toNat<(a-b).toNat
def ahC:Prop:=
 ∀ (a:LD) (b c d:Int) (e:LD),
 lM a→
 db (b,c,d,e)∧av a∧a.length≤1000000→
 True∧
 (lM a→
 (((136:Int)=136∧
 a=a∧
 (↑a.length:Int)=(↑a.length:Int)∧
 (0:Int)≤0∧
 0≤(↑a.length:Int)∧
 b=(b7 a (b,c,d,e) 0).fst∧
 c=(b7 a (b,c,d,e) 0).snd.fst∧
 d=(b7 a (b,c,d,e) 0).snd.snd.fst∧
 e=(b7 a (b,c,d,e) 0).snd.snd.snd)∧
 True)∧
 ∀ (f:Int) (g:LD) (h i j k m:Int) (o:LD),
 lM g→
 f=136∧
 g=a∧
 h=(↑a.length:Int)∧
 0≤i∧
 i≤h∧
 j=(b7 a (b,c,d,e) i.toNat).fst∧
 k=(b7 a (b,c,d,e) i.toNat).snd.fst∧
 m=(b7 a (b,c,d,e) i.toNat).snd.snd.fst∧
 o=(b7 a (b,c,d,e) i.toNat).snd.snd.snd→
 bif decide (i<h) then
 bR i g∧
 i.toNat<g.length∧
 bif decide (j=f) then
 Fy m o∧
 bR 0 (fD o)∧
 0<(fD o).length∧
 iR ((0:Int)+1)∧
 iR (i+1)∧
 (f=136∧
 g=a∧
 h=(↑a.length:Int)∧
 0≤i+1∧
 i+1≤h∧
 (0:Int)+1=(b7 a (b,c,d,e) (i+1).toNat).fst∧
 f=(b7 a (b,c,d,e) (i+1).toNat).snd.fst∧
 m+1=(b7 a (b,c,d,e) (i+1).toNat).snd.snd.fst∧
 (fD o).set 0
 (((fD o).getD 0 []).set 0
 (JP i g))=
 (b7 a (b,c,d,e) (i+1).toNat).snd.snd.snd)∧
 Gz h i
 else
 bR j o∧
 j.toNat<o.length∧
 iR (j+1)∧
 iR (i+1)∧
 (f=136∧
 g=a∧
 h=(↑a.length:Int)∧
 0≤i+1∧
 i+1≤h∧
 j+1=(b7 a (b,c,d,e) (i+1).toNat).fst∧
 f=(b7 a (b,c,d,e) (i+1).toNat).snd.fst∧
 m=(b7 a (b,c,d,e) (i+1).toNat).snd.snd.fst∧
 o.set j.toNat ((o.getD j.toNat []).set 0 (JP i g))=
 (b7 a (b,c,d,e) (i+1).toNat).snd.snd.snd)∧
 Gz h i
 else
 j=(b7 a (b,c,d,e) a.length).fst∧
 k=(b7 a (b,c,d,e) a.length).snd.fst∧
 m=(b7 a (b,c,d,e) a.length).snd.snd.fst∧
 o=(b7 a (b,c,d,e) a.length).snd.snd.snd)
def Zt:ac:=ak XF 278 (aq amA)
abbrev U9 (a b c d e f g:Int)(h i j:LD):Prop:=
 a=(aU (b,c,d,h) e.toNat).fst∧
 f=(aU (b,c,d,h) e.toNat).snd.fst∧
 g=(aU (b,c,d,h) e.toNat).snd.snd.fst∧
 i=(aU (b,c,d,h) e.toNat).snd.snd.snd∧j=kr (b,c,d,h) e.toNat
def afx:Prop:=
 ∀ (a b c d:Int) (e:LD),
 db (b,c,d,e)∧a≤1000000→
 ((max a 0=max a 0∧
 (0:Int)≤0∧
 0≤max a 0∧
 b=(aU (b,c,d,e) 0).fst∧
 c=(aU (b,c,d,e) 0).snd.fst∧
 d=(aU (b,c,d,e) 0).snd.snd.fst∧
 e=(aU (b,c,d,e) 0).snd.snd.snd∧ [] =kr (b,c,d,e) 0)∧
 True)∧
 ∀ (f g h i j:Int) (k m:LD),
 lM m→
 f=max a 0∧0≤g∧g≤f∧U9 h b c d g i j e k m→
 bif decide (g<f) then
 True∧
 bif decide (i=136) then
 Fy j k∧
 bR 0 (fD k)∧
 0<(fD k).length∧
 aR (m.length+1) 1∧
 iR ((0:Int)+1)∧
 iR (g+1)∧
 (f=max a 0∧
 0≤g+1∧
 g+1≤f∧
 0=(aU (b,c,d,e) (g+1).toNat).fst∧
 (0:Int)+1=(aU (b,c,d,e) (g+1).toNat).snd.fst∧
 j+1=(aU (b,c,d,e) (g+1).toNat).snd.snd.fst∧
 fD k=(aU (b,c,d,e) (g+1).toNat).snd.snd.snd∧
 m++
 [[.int
 (((fD k).getD 0 []).getD 0 (.int 0)).toInt]] =
 kr (b,c,d,e) (g+1).toNat)∧
 Gz f g
 else
 bR i k∧
 i.toNat<k.length∧
 aR (m.length+1) 1∧
 iR (i+1)∧
 iR (g+1)∧
 (f=max a 0∧
 0≤g+1∧
 g+1≤f∧
 h=(aU (b,c,d,e) (g+1).toNat).fst∧
 i+1=(aU (b,c,d,e) (g+1).toNat).snd.fst∧
 j=(aU (b,c,d,e) (g+1).toNat).snd.snd.fst∧
 k=(aU (b,c,d,e) (g+1).toNat).snd.snd.snd∧
 m++ [[JP i k]] =kr (b,c,d,e) (g+1).toNat)∧
 Gz f g
 else U9 h b c d a i j e k m
def ZA:ac:=ak Zt 275 (aq amF)
def auq:Prop:=
 ∀ (a b c:Int) (d:LD),
 db (a,b,c,d)→
 (db (a,b,c,d)∧(32:Int)≤1000000)∧
 32≤32∧
 32≤32∧
 asv (fun e=>(e.getD 0 (.int 0)).toInt)
 (ar0 32 (ar1 0 (kr (a,b,c,d) 32)))=
 qo (a,b,c,d)∧
 (aU (a,b,c,d) 32).fst=(aU (a,b,c,d) 32).fst∧
 (aU (a,b,c,d) 32).snd.fst=(aU (a,b,c,d) 32).snd.fst∧
 (aU (a,b,c,d) 32).snd.snd.fst=(aU (a,b,c,d) 32).snd.snd.fst∧
 (aU (a,b,c,d) 32).snd.snd.snd=(aU (a,b,c,d) 32).snd.snd.snd
def Vv:ac:=ak ZA 277 (aq amo)
end
end Go.Proofs.YteiecapbaeajdaaGreatDoor
