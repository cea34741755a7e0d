/-
 The field's product as a number: Montgomery's way. Plain arithmetic of words.
-/
import Derived.Test.YteiecapbaeajdaaGreatDoorJ7
import Derived.KernelRfl
open Int renaming le_refl→asw,emod_eq_of_lt→aw2,mul_le_mul_of_nonneg_right→aw3,pow_succ→awM,mul_assoc→axc,dvd_mul_of_dvd_left→axd,dvd_add→axe,natAbs_dvd_natAbs→axf,natCast_add→axi,natCast_mul→awE,mul_le_mul_of_nonneg_left→axj,dvd_sub→axk,dvd_mul_of_dvd_right→axl,natCast_pow→awD,emod_eq_zero_of_dvd→axq,toNat→aw1,toNat_of_nonneg→asa
open List renaming mem_of_getElem?→awZ,not_mem_nil→awt,replicate→ab0,map_map→as4,mem_cons_self→awp,mem_cons_of_mem→awo,take_zero→atc,length_cons→adC,length_eq_zero_iff→awm,map→asv,getElem_of_mem→axu,length_replicate→asy,getElem?_replicate→awV,getElem?_set→asX,drop_succ_cons→axx
open Nat renaming le_refl→ar5,mod_lt→as3,pow_succ→asR,gcd→aw4,gcd_dvd_left→aw5,gcd_dvd_right→aw6,le_of_dvd→aw7,dvd_trans→aw8,mul_zero→aw9,mul_one→anR,mul_le_mul→axa,mul_comm→asS,sub_zero→axb,add→asI,dvd_of_mod_eq_zero→axg,div_add_mod→axh,gcd_comm→axm,mod_eq_of_lt→awC,mod_two_eq_zero_or_one→axn,div_lt_iff_lt_mul→axo,mul_le_mul_left→axp,pow_zero→asQ,div_one→axr,div_div_eq_div_mul→axs,mod_one→axt,mod_pow_succ→axv,lt_of_le_of_lt→awq,div_le_self→axw,max_eq_right→axy,max_eq_left→axz,sub_self→as7,mul_mod_mod→axA,one_mul→ajc,beq→asM,eq_of_beq_eq_true→asP,add_mul_mod_self_left→axC,mod→asK,mul→asJ,div→asL
open Bool renaming and_eq_true→axB
namespace Go.Proofs.YteiecapbaeajdaaGreatDoor
open Go Go.Avc Go.Proofs
set_option linter.unusedVariables false
set_option linter.unusedSimpArgs false
set_option maxRecDepth 100000
open Go Go.Avc
noncomputable section
def vl:List Int→Int
 | [] =>0
 | a::l=>a+18446744073709551616*vl l
theorem avL:vl pW=21888242871839275222246405745257275088548364400416034343698204186575808495617:=by decide
theorem xP (a b c d:Int):vl [a,b,c,d] =a+18446744073709551616*b+18446744073709551616*18446744073709551616*c+18446744073709551616*18446744073709551616*18446744073709551616*d:=by simp only [vl];grind
theorem vl5 (a b c d e:Int):vl [a,b,c,d,e] =a+18446744073709551616*b+18446744073709551616*18446744073709551616*c+18446744073709551616*18446744073709551616*18446744073709551616*d+18446744073709551616*18446744073709551616*18446744073709551616*18446744073709551616*e:=by simp only [vl];grind
theorem xI {l:List Int} (h:l.length=4):∃ a b c d,l= [a,b,c,d] :=by
 match l,h with
 | [a,b,c,d],_=>exact ⟨a,b,c,d,rfl⟩
theorem aca {l:List Int} (h:l.length=5):∃ a b c d e,l= [a,b,c,d,e] :=by
 match l,h with
 | [a,b,c,d,e],_=>exact ⟨a,b,c,d,e,rfl⟩
theorem oC (a x y c:Int):eO a x y c+18446744073709551616*cT a x y c=a+x*y+c:=by unfold eO cT;omega
theorem wD (a x y c:Int):ap (eO a x y c):=by unfold ap eO;omega
theorem sD {a x y c:Int} (ha:ap a) (hx:ap x) (hy:ap y) (hc:ap c):ap (cT a x y c):=by
 have:=C2 ha hx hy hc
 unfold ap cT
 omega
theorem agN {x b0 b1 b2 b3 t0 t1 t2 t3 t4:Int} (hx:ap x) (h0:ap b0) (h1:ap b1) (h2:ap b2) (h3:ap b3) (k0:ap t0) (k1:ap t1) (k2:ap t2) (k3:ap t3):
  ∃ u0 u1 u2 u3 c,gR x [b0,b1,b2,b3] [t0,t1,t2,t3,t4] 4=([u0,u1,u2,u3,t4],c)∧ap u0∧ap u1∧ap u2∧ap u3∧ap c∧
   vl [u0,u1,u2,u3] +18446744073709551616*18446744073709551616*18446744073709551616*18446744073709551616*c=vl [t0,t1,t2,t3] +x*vl [b0,b1,b2,b3] :=by
 have s1:gR x [b0,b1,b2,b3] [t0,t1,t2,t3,t4] 1=([eO t0 x b0 0,t1,t2,t3,t4],cT t0 x b0 0):=rfl
 have e0:=oC t0 x b0 0
 have w0:=wD t0 x b0 0
 have v0:=sD k0 hx h0 bl
 generalize eO t0 x b0 0=u0 at *
 generalize cT t0 x b0 0=c0 at *
 have s2:gR x [b0,b1,b2,b3] [t0,t1,t2,t3,t4] 2=([u0,eO t1 x b1 c0,t2,t3,t4],cT t1 x b1 c0):=by rw [gR,s1];rfl
 have e1:=oC t1 x b1 c0
 have w1:=wD t1 x b1 c0
 have v1:=sD k1 hx h1 v0
 generalize eO t1 x b1 c0=u1 at *
 generalize cT t1 x b1 c0=c1 at *
 have s3:gR x [b0,b1,b2,b3] [t0,t1,t2,t3,t4] 3=([u0,u1,eO t2 x b2 c1,t3,t4],cT t2 x b2 c1):=by rw [gR,s2];rfl
 have e2:=oC t2 x b2 c1
 have w2:=wD t2 x b2 c1
 have v2:=sD k2 hx h2 v1
 generalize eO t2 x b2 c1=u2 at *
 generalize cT t2 x b2 c1=c2 at *
 have s4:gR x [b0,b1,b2,b3] [t0,t1,t2,t3,t4] 4=([u0,u1,u2,eO t3 x b3 c2,t4],cT t3 x b3 c2):=by rw [gR,s3];rfl
 have e3:=oC t3 x b3 c2
 have w3:=wD t3 x b3 c2
 have v3:=sD k3 hx h3 v2
 generalize eO t3 x b3 c2=u3 at *
 generalize cT t3 x b3 c2=c3 at *
 refine ⟨u0,u1,u2,u3,c3,s4,w0,w1,w2,w3,v3,?_⟩
 rw [xP,xP,xP]
 clear s1 s2 s3 s4 w0 v0 w1 v1 w2 v2 w3 v3
 grind
theorem aer {k u0 u1 u2 u3 u4 c0:Int} (hk:ap k) (h1:ap u1) (h2:ap u2) (h3:ap u3) (hc:ap c0):
  ∃ r0 r1 r2 c,jU k [u0,u1,u2,u3,u4] c0 3=([r0,r1,r2,u3,u4],c)∧ap r0∧ap r1∧ap r2∧ap c∧
   r0+18446744073709551616*r1+18446744073709551616*18446744073709551616*r2+18446744073709551616*18446744073709551616*18446744073709551616*c=u1+18446744073709551616*u2+18446744073709551616*18446744073709551616*u3+k*(2896914383306846353+18446744073709551616*13281191951274694749+18446744073709551616*18446744073709551616*3486998266802970665)+c0:=by
 have p1:ap 2896914383306846353:=⟨by decide,by decide⟩
 have p2:ap 13281191951274694749:=⟨by decide,by decide⟩
 have p3:ap 3486998266802970665:=⟨by decide,by decide⟩
 have s1:jU k [u0,u1,u2,u3,u4] c0 1=([eO u1 k 2896914383306846353 c0,u1,u2,u3,u4],cT u1 k 2896914383306846353 c0):=rfl
 have e0:=oC u1 k 2896914383306846353 c0
 have w0:=wD u1 k 2896914383306846353 c0
 have v0:=sD h1 hk p1 hc
 generalize eO u1 k 2896914383306846353 c0=r0 at *
 generalize cT u1 k 2896914383306846353 c0=d0 at *
 have s2:jU k [u0,u1,u2,u3,u4] c0 2=([r0,eO u2 k 13281191951274694749 d0,u2,u3,u4],cT u2 k 13281191951274694749 d0):=by rw [jU,s1];rfl
 have e1:=oC u2 k 13281191951274694749 d0
 have w1:=wD u2 k 13281191951274694749 d0
 have v1:=sD h2 hk p2 v0
 generalize eO u2 k 13281191951274694749 d0=r1 at *
 generalize cT u2 k 13281191951274694749 d0=d1 at *
 have s3:jU k [u0,u1,u2,u3,u4] c0 3=([r0,r1,eO u3 k 3486998266802970665 d1,u3,u4],cT u3 k 3486998266802970665 d1):=by rw [jU,s2];rfl
 have e2:=oC u3 k 3486998266802970665 d1
 have w2:=wD u3 k 3486998266802970665 d1
 have v2:=sD h3 hk p3 v1
 generalize eO u3 k 3486998266802970665 d1=r2 at *
 generalize cT u3 k 3486998266802970665 d1=d2 at *
 refine ⟨r0,r1,r2,d2,s3,w0,w1,w2,v2,?_⟩
 clear s1 s2 s3 w0 v0 w1 v1 w2 v2 p1 p2 p3
 grind
theorem aqL {u0:Int} (h:ap u0):∃ m,u0+(u0*inv%18446744073709551616)*4891460686036598785=18446744073709551616*m:=by
 have h1:inv*4891460686036598785+1=18446744073709551616*3723675147829272286:=by decide
 have h2:=Int.mul_ediv_add_emod (u0*inv) 18446744073709551616
 refine ⟨u0*3723675147829272286-(u0*inv / 18446744073709551616)*4891460686036598785,?_⟩
 generalize u0*inv%18446744073709551616=r at *
 generalize u0*inv / 18446744073709551616=q at *
 grind
theorem oq:∀ {l:List Int},af l→0≤vl l
 | [],_=>asw 0
 | a::l,h=>by
  have h0:=(h 0).1
  have:=oq (l:=l) fun i=>h (i+1)
  have e: [a].getD 0 0=a:=rfl
  have h0:0≤a:=h0
  have:0≤18446744073709551616*vl l:=Int.mul_nonneg (by decide) this
  simp only [vl]
  omega
theorem pD {l:List Int} (h:∀ x∈l,ap x):af l:=fun i=>by
 rw [ay]
 cases hi:l[i]? with
 | none=>exact bl
 | some x=>exact h x (awZ hi)
theorem X3 {a b c d e:Int} (ha:ap a) (hb:ap b) (hc:ap c) (hd:ap d) (he:ap e):af [a,b,c,d,e] :=pD fun x hx=>by
 simp only [List.mem_cons,awt,or_false] at hx
 rcases hx with rfl | rfl | rfl | rfl | rfl <;>assumption
theorem wZ {a b c d:Int} (ha:ap a) (hb:ap b) (hc:ap c) (hd:ap d):af [a,b,c,d] :=pD fun x hx=>by
 simp only [List.mem_cons,awt,or_false] at hx
 rcases hx with rfl | rfl | rfl | rfl <;>assumption
theorem E4 {x:Int} {b t:List Int} (hx:ap x) (hb:b.length=4) (wb:af b) (hB:vl b<21888242871839275222246405745257275088548364400416034343698204186575808495617) (ht:t.length=5) (wt:af t) (hT:vl t<vl b+21888242871839275222246405745257275088548364400416034343698204186575808495617):
  ∃ k,(Ek x b t).length=5∧af (Ek x b t)∧18446744073709551616*vl (Ek x b t)=vl t+x*vl b+k*21888242871839275222246405745257275088548364400416034343698204186575808495617∧vl (Ek x b t)<vl b+21888242871839275222246405745257275088548364400416034343698204186575808495617:=by
 obtain ⟨b0,b1,b2,b3,rfl⟩:=xI hb
 obtain ⟨t0,t1,t2,t3,t4,rfl⟩:=aca ht
 have hbn:=oq wb
 have htn:=oq wt
 have g0:ap t0:=wt 0
 have g1:ap t1:=wt 1
 have g2:ap t2:=wt 2
 have g3:ap t3:=wt 3
 have g4:ap t4:=wt 4
 obtain ⟨q0,q1,q2,q3,c,em,w0,w1,w2,w3,wc,ev⟩:=agN (b0:=b0) (b1:=b1) (b2:=b2) (b3:=b3) (t4:=t4) hx (wb 0) (wb 1) (wb 2) (wb 3) g0 g1 g2 g3
 have eB:vl [b0,b1,b2,b3] =vl [b0,b1,b2,b3] :=rfl
 have eT:vl [t0,t1,t2,t3,t4] =vl [t0,t1,t2,t3] +18446744073709551616*18446744073709551616*18446744073709551616*18446744073709551616*t4:=by rw [vl5,xP]
 have ev':vl [q0,q1,q2,q3] +18446744073709551616*18446744073709551616*18446744073709551616*18446744073709551616*c=vl [t0,t1,t2,t3] +x*vl [b0,b1,b2,b3] :=ev
 have hu:=oq (wZ w0 w1 w2 w3)
 have hxB:0≤x*vl [b0,b1,b2,b3] :=Int.mul_nonneg hx.1 hbn
 have hxB2:x*vl [b0,b1,b2,b3] ≤(18446744073709551616-1)*21888242871839275222246405745257275088548364400416034343698204186575808495617:=Int.mul_le_mul (by have:=hx.2;omega) (by omega) hbn (by decide)
 have hu4:0≤t4+c∧t4+c<18446744073709551616:=by
  have:=g4.1
  have:=wc.1
  omega
 have eu:u1 x [b0,b1,b2,b3] [t0,t1,t2,t3,t4] = [q0,q1,q2,q3,t4+c] :=by
  unfold YteiecapbaeajdaaGreatDoor.u1
  rw [em]
  show [q0,q1,q2,q3,IntKind.u64.wrap (t4+c)] =_
  rw [xJ,aw2 hu4.1 hu4.2]
 have ek:kW [q0,q1,q2,q3,t4+c] =q0*inv%18446744073709551616:=xJ _
 have wk:ap (q0*inv%18446744073709551616):=⟨Int.emod_nonneg _ (by decide),Int.emod_lt_of_pos _ (by decide)⟩
 obtain ⟨m,hm⟩:=aqL w0
 generalize q0*inv%18446744073709551616=k at *
 have p0:ap 4891460686036598785:=⟨by decide,by decide⟩
 have hc0:=sD w0 wk p0 bl
 have ec0:=oC q0 k 4891460686036598785 0
 have ez:eO q0 k 4891460686036598785 0=0:=by
  unfold eO
  rw [Int.add_zero,hm]
  exact Int.mul_emod_right _ _
 rw [ez] at ec0
 generalize hcd:cT q0 k 4891460686036598785 0=c0 at *
 obtain ⟨r0,r1',r2,c',er,v0,v1,v2,vc,ew⟩:=aer (u0:=q0) (u4:=t4+c) wk w1 w2 w3 hc0
 have er1:r1 [q0,q1,q2,q3,t4+c] =([r0,r1',r2,q3,t4+c],c'):=by
  unfold YteiecapbaeajdaaGreatDoor.r1
  rw [ek]
  show jU k [q0,q1,q2,q3,t4+c] (cT q0 k 4891460686036598785 0) 3=_
  rw [hcd,er]
 have es:Ek x [b0,b1,b2,b3] [t0,t1,t2,t3,t4] = [r0,r1',r2,dc (t4+c) c' 0,dj (t4+c) c' 0] :=by
  unfold Ek f5
  rw [eu,er1]
  rfl
 have wS:=xd (t4+c) c' 0
 have hC:ap (dj (t4+c) c' 0):=by
  have:=vc.1
  have:=vc.2
  unfold ap dj
  omega
 have esum:dc (t4+c) c' 0+18446744073709551616*dj (t4+c) c' 0=t4+c+c':=by unfold dc dj;omega
 have hval:18446744073709551616*vl (Ek x [b0,b1,b2,b3] [t0,t1,t2,t3,t4])=vl [t0,t1,t2,t3,t4] +x*vl [b0,b1,b2,b3] +k*21888242871839275222246405745257275088548364400416034343698204186575808495617:=by
  rw [es,vl5,eT]
  rw [xP q0] at ev'
  generalize dc (t4+c) c' 0=S at *
  generalize dj (t4+c) c' 0=C at *
  generalize vl [b0,b1,b2,b3] =B at *
  generalize vl [t0,t1,t2,t3] =T at *
  generalize x*B=xB at *
  clear em eu ek er er1 es hm
  grind
 refine ⟨k,by rw [es];rfl,by rw [es];exact X3 v0 v1 v2 wS hC,hval,?_⟩
 have hk:k*21888242871839275222246405745257275088548364400416034343698204186575808495617≤(18446744073709551616-1)*21888242871839275222246405745257275088548364400416034343698204186575808495617:=aw3 (by have:=wk.2;omega) (by decide)
 have hxB3:x*vl [b0,b1,b2,b3] ≤(18446744073709551616-1)*vl [b0,b1,b2,b3] :=aw3 (by have:=hx.2;omega) hbn
 generalize vl [b0,b1,b2,b3] =B at *
 generalize x*B=xB at *
 generalize k*21888242871839275222246405745257275088548364400416034343698204186575808495617=kP at *
 omega
theorem aaC {a b:List Int} (ha:a.length=4) (wa:af a) (hb:b.length=4) (wb:af b) (hB:vl b<21888242871839275222246405745257275088548364400416034343698204186575808495617):
  ∃ q,(eM a b 4).length=5∧af (eM a b 4)∧18446744073709551616*18446744073709551616*18446744073709551616*18446744073709551616*vl (eM a b 4)=vl a*vl b+q*21888242871839275222246405745257275088548364400416034343698204186575808495617∧vl (eM a b 4)<vl b+21888242871839275222246405745257275088548364400416034343698204186575808495617:=by
 obtain ⟨a0,a1,a2,a3,rfl⟩:=xI ha
 have hbn:=oq wb
 have z0:vl (eM [a0,a1,a2,a3] b 0)=0:=rfl
 obtain ⟨k0,l1,w1,e1,t1⟩:=E4 (t:=eM [a0,a1,a2,a3] b 0) (wa 0) hb wb hB rfl (X3 bl bl bl bl bl) (by rw [z0];omega)
 obtain ⟨k1,l2,w2,e2,t2⟩:=E4 (t:=eM [a0,a1,a2,a3] b 1) (wa 1) hb wb hB l1 w1 t1
 obtain ⟨k2,l3,w3,e3,t3⟩:=E4 (t:=eM [a0,a1,a2,a3] b 2) (wa 2) hb wb hB l2 w2 t2
 obtain ⟨k3,l4,w4,e4,t4⟩:=E4 (t:=eM [a0,a1,a2,a3] b 3) (wa 3) hb wb hB l3 w3 t3
 refine ⟨k0+18446744073709551616*k1+18446744073709551616*18446744073709551616*k2+18446744073709551616*18446744073709551616*18446744073709551616*k3,l4,w4,?_,t4⟩
 have d1:18446744073709551616*vl (eM [a0,a1,a2,a3] b 1)=vl (eM [a0,a1,a2,a3] b 0)+a0*vl b+k0*21888242871839275222246405745257275088548364400416034343698204186575808495617:=e1
 have d2:18446744073709551616*vl (eM [a0,a1,a2,a3] b 2)=vl (eM [a0,a1,a2,a3] b 1)+a1*vl b+k1*21888242871839275222246405745257275088548364400416034343698204186575808495617:=e2
 have d3:18446744073709551616*vl (eM [a0,a1,a2,a3] b 3)=vl (eM [a0,a1,a2,a3] b 2)+a2*vl b+k2*21888242871839275222246405745257275088548364400416034343698204186575808495617:=e3
 have d4:18446744073709551616*vl (eM [a0,a1,a2,a3] b 4)=vl (eM [a0,a1,a2,a3] b 3)+a3*vl b+k3*21888242871839275222246405745257275088548364400416034343698204186575808495617:=e4
 rw [z0] at d1
 rw [xP]
 generalize vl (eM [a0,a1,a2,a3] b 1)=T1 at *
 generalize vl (eM [a0,a1,a2,a3] b 2)=T2 at *
 generalize vl (eM [a0,a1,a2,a3] b 3)=T3 at *
 generalize vl (eM [a0,a1,a2,a3] b 4)=T4 at *
 generalize vl b=B at *
 clear e1 e2 e3 e4 t1 t2 t3 t4 l1 l2 l3 l4 w1 w2 w3 w4 hB hbn z0 wb hb wa ha
 grind
theorem Fa {x y c:Int} (hx:ap x) (hy:ap y) (hc:0≤c∧c≤1):jd x y c=x-y-c+18446744073709551616*bC x y c:=by
 unfold ap at hx hy
 unfold jd bC
 split <;>omega
theorem ak1 {a0 a1 a2 a3 b0 b1 b2 b3:Int} (ha:af [a0,a1,a2,a3]) (hb:af [b0,b1,b2,b3]):
  vl (ck [a0,a1,a2,a3] [b0,b1,b2,b3] 4).1=vl [a0,a1,a2,a3] - vl [b0,b1,b2,b3] +18446744073709551616*18446744073709551616*18446744073709551616*18446744073709551616*(ck [a0,a1,a2,a3] [b0,b1,b2,b3] 4).2:=by
 have s1:ck [a0,a1,a2,a3] [b0,b1,b2,b3] 1=([jd a0 b0 0,0,0,0],bC a0 b0 0):=rfl
 have e0:=Fa (ha 0) (hb 0) (c:=0) ⟨by decide,by decide⟩
 have c0:=Ei a0 b0 0
 have s2:ck [a0,a1,a2,a3] [b0,b1,b2,b3] 2=([jd a0 b0 0,jd a1 b1 (bC a0 b0 0),0,0],bC a1 b1 (bC a0 b0 0)):=by rw [ck,s1];rfl
 have e1:=Fa (ha 1) (hb 1) c0
 have c1:=Ei a1 b1 (bC a0 b0 0)
 have s3:ck [a0,a1,a2,a3] [b0,b1,b2,b3] 3=([jd a0 b0 0,jd a1 b1 (bC a0 b0 0),jd a2 b2 (bC a1 b1 (bC a0 b0 0)),0],bC a2 b2 (bC a1 b1 (bC a0 b0 0))):=by rw [ck,s2];rfl
 have e2:=Fa (ha 2) (hb 2) c1
 have c2:=Ei a2 b2 (bC a1 b1 (bC a0 b0 0))
 have s4:ck [a0,a1,a2,a3] [b0,b1,b2,b3] 4=([jd a0 b0 0,jd a1 b1 (bC a0 b0 0),jd a2 b2 (bC a1 b1 (bC a0 b0 0)),jd a3 b3 (bC a2 b2 (bC a1 b1 (bC a0 b0 0)))],bC a3 b3 (bC a2 b2 (bC a1 b1 (bC a0 b0 0)))):=by rw [ck,s3];rfl
 have e3:=Fa (ha 3) (hb 3) c2
 have f0:jd a0 b0 0=a0-b0-0+18446744073709551616*bC a0 b0 0:=e0
 have f1:jd a1 b1 (bC a0 b0 0)=a1-b1-bC a0 b0 0+18446744073709551616*bC a1 b1 (bC a0 b0 0):=e1
 have f2:jd a2 b2 (bC a1 b1 (bC a0 b0 0))=a2-b2-bC a1 b1 (bC a0 b0 0)+18446744073709551616*bC a2 b2 (bC a1 b1 (bC a0 b0 0)):=e2
 have f3:jd a3 b3 (bC a2 b2 (bC a1 b1 (bC a0 b0 0)))=a3-b3-bC a2 b2 (bC a1 b1 (bC a0 b0 0))+18446744073709551616*bC a3 b3 (bC a2 b2 (bC a1 b1 (bC a0 b0 0))):=e3
 rw [s4]
 simp only [xP]
 rw [f0,f1,f2,f3]
 generalize bC a3 b3 (bC a2 b2 (bC a1 b1 (bC a0 b0 0)))=g3 at *
 generalize bC a2 b2 (bC a1 b1 (bC a0 b0 0))=g2 at *
 generalize bC a1 b1 (bC a0 b0 0)=g1 at *
 generalize bC a0 b0 0=g0 at *
 clear s1 s2 s3 s4 e0 e1 e2 e3 f0 f1 f2 f3 c0 c1 c2 ha hb
 grind
theorem QO {l:List Int} (h:l.length=4) (hw:af l):vl l<18446744073709551616*18446744073709551616*18446744073709551616*18446744073709551616:=by
 obtain ⟨a,b,c,d,rfl⟩:=xI h
 have h0:ap a:=hw 0
 have h1:ap b:=hw 1
 have h2:ap c:=hw 2
 have h3:ap d:=hw 3
 unfold ap at *
 rw [xP]
 omega
theorem HY {a:List Int} (h:a.length=4) (hw:af a):((ck a pW 4).2=0↔21888242871839275222246405745257275088548364400416034343698204186575808495617≤vl a)∧(21888242871839275222246405745257275088548364400416034343698204186575808495617≤vl a→vl (ck a pW 4).1=vl a-21888242871839275222246405745257275088548364400416034343698204186575808495617):=by
 obtain ⟨a0,a1,a2,a3,rfl⟩:=xI h
 have e:=ak1 (b0:=4891460686036598785) (b1:=2896914383306846353) (b2:=13281191951274694749) (b3:=3486998266802970665) hw nX
 have e':vl (ck [a0,a1,a2,a3] pW 4).1=vl [a0,a1,a2,a3] - 21888242871839275222246405745257275088548364400416034343698204186575808495617+18446744073709551616*18446744073709551616*18446744073709551616*18446744073709551616*(ck [a0,a1,a2,a3] pW 4).2:=by
  rw [← avL];exact e
 obtain ⟨h1,h2,h3⟩:=DC [a0,a1,a2,a3] pW 4
 have g1:=oq h1
 have g2:=QO (Fm _ _ _) h1
 have g3:=oq hw
 have g4:=QO h hw
 generalize (ck [a0,a1,a2,a3] pW 4).2=c at *
 refine ⟨⟨fun hc=> ?_,fun hc=> ?_⟩,fun hc=> ?_⟩
 ·omega
 ·omega
 ·omega
theorem MK {a:List Int} (h:a.length=4) (hw:af a) (h2:vl a<21888242871839275222246405745257275088548364400416034343698204186575808495617+21888242871839275222246405745257275088548364400416034343698204186575808495617):∃ q,vl (iK a)=vl a+q*21888242871839275222246405745257275088548364400416034343698204186575808495617∧0≤vl (iK a)∧vl (iK a)<21888242871839275222246405745257275088548364400416034343698204186575808495617:=by
 obtain ⟨h3,h4⟩:=HY h hw
 have:=oq hw
 unfold iK
 split
 ·rename_i hc
  have:=h3.1 hc
  exact ⟨-1,by rw [h4 this];omega,by rw [h4 this];omega,by rw [h4 this];omega⟩
 ·rename_i hc
  have:¬ 21888242871839275222246405745257275088548364400416034343698204186575808495617≤vl a:=fun k=>hc (h3.2 k)
  exact ⟨0,by omega,by omega,by omega⟩
theorem TH {a b:List Int} (ha:a.length=4) (wa:af a) (hb:b.length=4) (wb:af b) (hB:vl b<21888242871839275222246405745257275088548364400416034343698204186575808495617):
  ∃ q,18446744073709551616*18446744073709551616*18446744073709551616*18446744073709551616*vl (du a b)=vl a*vl b+q*21888242871839275222246405745257275088548364400416034343698204186575808495617∧0≤vl (du a b)∧vl (du a b)<21888242871839275222246405745257275088548364400416034343698204186575808495617:=by
 obtain ⟨q,hl,hw,he,ht⟩:=aaC ha wa hb wb hB
 unfold du
 generalize eM a b 4=T at *
 obtain ⟨t0,t1,t2,t3,t4,rfl⟩:=aca hl
 have g0:ap t0:=hw 0
 have g1:ap t1:=hw 1
 have g2:ap t2:=hw 2
 have g3:ap t3:=hw 3
 have g4:ap t4:=hw 4
 have hn:=oq (wZ g0 g1 g2 g3)
 have e5:vl [t0,t1,t2,t3,t4] =vl [t0,t1,t2,t3] +18446744073709551616*18446744073709551616*18446744073709551616*18446744073709551616*t4:=by rw [vl5,xP]
 have h4:=g4.1
 have htake: [t0,t1,t2,t3,t4].take 4= [t0,t1,t2,t3] :=rfl
 rw [htake]
 have hz:t4=0:=by omega
 obtain ⟨r,k1,k2,k3⟩:=MK rfl (wZ g0 g1 g2 g3) (by omega)
 refine ⟨q+18446744073709551616*18446744073709551616*18446744073709551616*18446744073709551616*r,?_,k2,k3⟩
 rw [e5,hz] at he
 rw [k1]
 generalize vl [t0,t1,t2,t3] =V at *
 clear e5 hn k1 k2 k3 ht hB
 grind
theorem A6 {x y c:Int} :dc x y c+18446744073709551616*dj x y c=x+y+c:=by unfold dc dj;omega
theorem agY {a0 a1 a2 a3 b0 b1 b2 b3:Int} :
  vl (eY [a0,a1,a2,a3] [b0,b1,b2,b3] 4).1+18446744073709551616*18446744073709551616*18446744073709551616*18446744073709551616*(eY [a0,a1,a2,a3] [b0,b1,b2,b3] 4).2=vl [a0,a1,a2,a3] +vl [b0,b1,b2,b3] :=by
 have s1:eY [a0,a1,a2,a3] [b0,b1,b2,b3] 1=([dc a0 b0 0,0,0,0],dj a0 b0 0):=rfl
 have e0:=A6 (x:=a0) (y:=b0) (c:=0)
 generalize dc a0 b0 0=r0 at *
 generalize dj a0 b0 0=c0 at *
 have s2:eY [a0,a1,a2,a3] [b0,b1,b2,b3] 2=([r0,dc a1 b1 c0,0,0],dj a1 b1 c0):=by rw [eY,s1];rfl
 have e1:=A6 (x:=a1) (y:=b1) (c:=c0)
 generalize dc a1 b1 c0=r1 at *
 generalize dj a1 b1 c0=c1 at *
 have s3:eY [a0,a1,a2,a3] [b0,b1,b2,b3] 3=([r0,r1,dc a2 b2 c1,0],dj a2 b2 c1):=by rw [eY,s2];rfl
 have e2:=A6 (x:=a2) (y:=b2) (c:=c1)
 generalize dc a2 b2 c1=r2 at *
 generalize dj a2 b2 c1=c2 at *
 have s4:eY [a0,a1,a2,a3] [b0,b1,b2,b3] 4=([r0,r1,r2,dc a3 b3 c2],dj a3 b3 c2):=by rw [eY,s3];rfl
 have e3:=A6 (x:=a3) (y:=b3) (c:=c2)
 generalize dc a3 b3 c2=r3 at *
 generalize dj a3 b3 c2=c3 at *
 rw [s4]
 simp only [xP]
 clear s1 s2 s3 s4
 grind
theorem vW (a b:List Int):∀ i,(eY a b i).1.length=4
 | 0=>rfl
 | i+1=>by rw [eY,df,vW a b i]
theorem adk {a b:List Int} (ha:a.length=4) (wa:af a) (hb:b.length=4) (wb:af b) (hA:vl a<21888242871839275222246405745257275088548364400416034343698204186575808495617) (hB:vl b<21888242871839275222246405745257275088548364400416034343698204186575808495617):
  ∃ q,vl (iK (eY a b 4).1)=vl a+vl b+q*21888242871839275222246405745257275088548364400416034343698204186575808495617∧0≤vl (iK (eY a b 4).1)∧vl (iK (eY a b 4).1)<21888242871839275222246405745257275088548364400416034343698204186575808495617:=by
 obtain ⟨a0,a1,a2,a3,rfl⟩:=xI ha
 obtain ⟨b0,b1,b2,b3,rfl⟩:=xI hb
 have e:=agY (a0:=a0) (a1:=a1) (a2:=a2) (a3:=a3) (b0:=b0) (b1:=b1) (b2:=b2) (b3:=b3)
 obtain ⟨h1,h2,h3⟩:=qi wa wb 4
 have hl:=vW [a0,a1,a2,a3] [b0,b1,b2,b3] 4
 have g1:=oq h1
 have hz:(eY [a0,a1,a2,a3] [b0,b1,b2,b3] 4).2=0:=by omega
 rw [hz] at e
 obtain ⟨q,k1,k2,k3⟩:=MK hl h1 (by omega)
 exact ⟨q,by omega,k2,k3⟩
theorem F8:∀ i,(qb i).length=4
 | 0=>rfl
 | i+1=>by rw [qb];exact xi (vW _ _ _)
theorem Tw:∀ i:Nat,∃ q,vl (qb i)=2 ^ i+q*21888242871839275222246405745257275088548364400416034343698204186575808495617∧0≤vl (qb i)∧vl (qb i)<21888242871839275222246405745257275088548364400416034343698204186575808495617
 | 0=>⟨0,by decide,by decide,by decide⟩
 | i+1=>by
  obtain ⟨q,h1,h2,h3⟩:=Tw i
  obtain ⟨r,k1,k2,k3⟩:=adk (F8 i) (kX i) (F8 i) (kX i) h3 h3
  have e:qb (i+1)=iK (eY (qb i) (qb i) 4).1:=rfl
  rw [e]
  refine ⟨2*q+r,?_,k2,k3⟩
  rw [k1,h1,awM]
  grind
theorem aeY {a:List Int} (ha:a.length=4) (wa:af a):∃ q,vl (de a)=18446744073709551616*18446744073709551616*18446744073709551616*18446744073709551616*vl a+q*21888242871839275222246405745257275088548364400416034343698204186575808495617∧0≤vl (de a)∧vl (de a)<21888242871839275222246405745257275088548364400416034343698204186575808495617:=by
 obtain ⟨q,h1,h2,h3⟩:=Tw 512
 obtain ⟨r,k1,k2,k3⟩:=TH ha wa (F8 512) (kX 512) h3
 unfold de
 generalize vl (du a (qb 512))=V at *
 generalize vl (qb 512)=S at *
 generalize vl a=A at *
 have hp:(2:Int) ^ 512=(18446744073709551616*18446744073709551616*18446744073709551616*18446744073709551616)*(18446744073709551616*18446744073709551616*18446744073709551616*18446744073709551616):=by
  have h256:(2:Int) ^ 256=18446744073709551616*18446744073709551616*18446744073709551616*18446744073709551616:=by decide
  rw [show (512:Nat)=256+256 from rfl,Int.pow_add,h256]
 have hi:∃ c:Int,18446744073709551616*18446744073709551616*18446744073709551616*18446744073709551616*9915499612839321149637521777990102151350674507940716049588462388200839649614=1+c*21888242871839275222246405745257275088548364400416034343698204186575808495617:=⟨52454480824480482120356829342366457550537710351690908576382634413609933864959,by decide⟩
 obtain ⟨c,hc⟩:=hi
 rw [hp] at h1
 refine ⟨9915499612839321149637521777990102151350674507940716049588462388200839649614*(A*q+r)+c*(18446744073709551616*18446744073709551616*18446744073709551616*18446744073709551616*A-V),?_,k2,k3⟩
 clear h2 h3 k2 k3 wa ha hp
 grind
theorem aeW {a:List Int} (ha:a.length=4) (wa:af a):∃ q,18446744073709551616*18446744073709551616*18446744073709551616*18446744073709551616*vl (r9 a)=vl a+q*21888242871839275222246405745257275088548364400416034343698204186575808495617∧0≤vl (r9 a)∧vl (r9 a)<21888242871839275222246405745257275088548364400416034343698204186575808495617:=by
 have h1:vl [1,0,0,0] =1:=by decide
 obtain ⟨r,k1,k2,k3⟩:=TH ha wa (b:= [1,0,0,0]) rfl (wZ ⟨by decide,by decide⟩ bl bl bl) (by rw [h1];decide)
 rw [h1,Int.mul_one] at k1
 exact ⟨r,k1,k2,k3⟩
theorem Ur {a b q:Int} (h:a=b+q*21888242871839275222246405745257275088548364400416034343698204186575808495617) (h1:0≤a) (h2:a<21888242871839275222246405745257275088548364400416034343698204186575808495617) (h3:0≤b) (h4:b<21888242871839275222246405745257275088548364400416034343698204186575808495617):a=b:=by omega
theorem am5 {a:List Int} (ha:a.length=4) (wa:af a) (h:vl a<21888242871839275222246405745257275088548364400416034343698204186575808495617):vl (r9 (de a))=vl a:=by
 obtain ⟨q,h1,h2,h3⟩:=aeY ha wa
 obtain ⟨r,k1,k2,k3⟩:=aeW (Aw a) (wI wa)
 have hn:=oq wa
 rw [h1] at k1
 obtain ⟨c,hc⟩:∃ c:Int,18446744073709551616*18446744073709551616*18446744073709551616*18446744073709551616*9915499612839321149637521777990102151350674507940716049588462388200839649614=1+c*21888242871839275222246405745257275088548364400416034343698204186575808495617:=⟨52454480824480482120356829342366457550537710351690908576382634413609933864959,by decide⟩
 generalize vl (r9 (de a))=L at *
 generalize vl a=A at *
 refine Ur (q:=9915499612839321149637521777990102151350674507940716049588462388200839649614*(q+r)+c*(A-L)) ?_ k2 k3 hn h
 clear h1 h2 h3 k2 k3 hn h wa ha
 grind
theorem afq {a b:List Int} (ha:a.length=4) (hb:b.length=4) (wa:af a) (wb:af b) (h:vl a=vl b):a=b:=by
 obtain ⟨a0,a1,a2,a3,rfl⟩:=xI ha
 obtain ⟨b0,b1,b2,b3,rfl⟩:=xI hb
 have g0:ap a0:=wa 0
 have g1:ap a1:=wa 1
 have g2:ap a2:=wa 2
 have g3:ap a3:=wa 3
 have k0:ap b0:=wb 0
 have k1:ap b1:=wb 1
 have k2:ap b2:=wb 2
 have k3:ap b3:=wb 3
 unfold ap at *
 rw [xP,xP] at h
 have e0:a0=b0:=by omega
 subst e0
 have e1:a1=b1:=by omega
 subst e1
 have e2:a2=b2:=by omega
 subst e2
 have e3:a3=b3:=by omega
 subst e3
 rfl
def frN (n:Nat) (K:Nat→Bool):Bool:=Nat.rec (K 0) (fun m _=>K (m+1)) n
theorem acV (n:Nat) (K:Nat→Bool):frN n K=K n:=by cases n <;>rfl
def frZ (x:Int) (K:Int→Bool):Bool:=match x with
 | .ofNat n=>frN n fun n=>K (.ofNat n)
 | .negSucc n=>K (.negSucc n)
theorem aji (x:Int) (K:Int→Bool):frZ x K=K x:=by cases x with
 | ofNat n=>exact acV n fun n=>K (.ofNat n)
 | negSucc n=>rfl
def K9:List Int→(List Int→Bool)→Bool
 | [],K=>K []
 | x::l,K=>frZ x fun x=>K9 l fun l=>K (x::l)
theorem zk:∀ (l:List Int) (K:List Int→Bool),K9 l K=K l
 | [],K=>rfl
 | x::l,K=>by rw [K9,aji,zk l]
def thF (s:List Int):List Int:=(List.range 25).map fun j=>xr (s.getD j 0) (xr (GS s ((j%5+4)%5)) (n6 (GS s ((j%5+1)%5)) 1))
def chF (s:List Int):List Int:=(List.range 25).map fun j=>xr (s.getD j 0) (lC .u64 (s.getD (j-j%5+(j+2)%5) 0) (s.getD (j-j%5+(j+1)%5) 0))
def rnF (s:List Int) (r:Int) (K:List Int→Bool):Bool:=K9 (thF s) fun s=>K9 (iZ s) fun s=>K9 (chF s) fun s=>K9 (s.set 0 (xr (s.getD 0 0) (oN r))) K
theorem aig {s:List Int} (h:s.length=25) (r:Int) (K:List Int→Bool):rnF s r K=K (round s r):=by
 unfold rnF
 rw [zk,zk,zk,zk]
 have e1:thF s=gh s:=(Cj h).symm
 have e2:chF (iZ (gh s))=te (iZ (gh s)):=(zs (jt _)).symm
 rw [e1,e2]
 rfl
def Yy:Nat→Nat→List Int→(List Int→Bool)→Bool
 | 0,_,s,K=>K s
 | n+1,i,s,K=>rnF s (i:Int) fun s=>Yy n (i+1) s K
theorem aag {s:List Int} (h:s.length=25):∀ i,(ff s i).length=25
 | 0=>h
 | i+1=>by
  have e:(te (iZ (gh (ff s i)))).length=25:=by rw [zs (jt _)];simp
  rw [ff]
  unfold round
  rw [df,e]
theorem SC {s:List Int} (h:s.length=25) (K:List Int→Bool):∀ n i,Yy n i (ff s i) K=K (ff s (i+n))
 | 0,i=>rfl
 | n+1,i=>by
  rw [Yy,aig (aag h i),← aaJ,SC h K n (i+1),show i+1+n=i+(n+1) from by omega]
theorem Gc {s z:List Int} (h:s.length=25) (k:Yy 24 0 s (fun t=>decide (t=z))=true):gN s=z:=by
 rw [Bg]
 have:=SC h (fun t=>decide (t=z)) 24 0
 rw [show ff s 0=s from rfl,k] at this
 exact au this.symm
def ke0:List Int:= [8372025008686331489,8100131176266490226,282578803306356,284782101528576,25769803776,0,0,0,0,0,0,0,0,0,0,0,9223372036854775808,0,0,0,0,0,0,0,0]
def ke1:List Int:= [17883697082401287854,4253325710419480824,11613133384083954445,4150652354307323921,5450703342257237111,3850305790896014819,2098129896617138482,3261985650114761404,14082931796852556143,8502102766655106628,17839499364438936170,13021195715379908664,15399973476708412778,5250098445452077603,2841967868550486175,6709708827652306979,15223099987002964623,9348929316260896462,96394114582478202,3855134325323266039,610184281064956661,17490923861226901500,985653902140203456,1505509844641713764,11031009988316786517]
theorem ke:gN ke0=ke1:=Gc rfl (by kernel_rfl)
def X2:List Int:= [174,238,55,155,190,167,47,248,248,208,150,211,50,217,6,59,13,219,141,167,72,35,42,161,17,120,160,60,83,20,154,57]
def ks7:List Int:= [146085512912896257,259,0,0,0,0,0,0,0,0,0,0,0,0,0,0,0,17883697082401287854,4253325710419480824,11613133384083954445,4150652354307323921,0,0,0,0]
def kz7:List Int:= [14052056302608695159,17578836594094856944,18314827469102199205,8093192738066234267,17508017827032677215,2886178562792874151,14793273547368993520,1383062114744888811,7168119107699457784,2163302939794814075,986248445006035889,5064298006269386921,8803759145140315383,17159037738295442138,14508567843353664383,14856863771369055405,991290347843542656,16095916574360114579,9909427587133103591,12918494340837085612,11151706324598239179,15394613505218226162,13192475577469199322,7244770877287454406,18313807249409089941]
theorem kp7:gN ks7=kz7:=Gc rfl (by kernel_rfl)
def LO:List Int:= [14052056302608695159,17578836594094856944,18314827469102199205,3481506719638846363]
def ks8:List Int:= [146366987889606913,259,0,0,0,0,0,0,0,0,0,0,0,0,0,0,0,17883697082401287854,4253325710419480824,11613133384083954445,4150652354307323921,0,0,0,0]
def kz8:List Int:= [5991343304603806364,5545951138849680404,16782799169413629814,4653188081362363761,3259842054026930299,6721820371532259915,2555612426354464456,12981712720304069041,10908308515129413883,17663178918108430462,2540219414342171211,6618120495261238060,1010860472115011509,13259967290300216063,13779810973806611518,3972286236533893228,1720460063043334908,11287706456884518063,4108595074166285240,12501175042273369553,7097706341743713761,12950817525631413630,15312954729242174154,11859214295558485001,13141323501984080208]
theorem kp8:gN ks8=kz8:=Gc rfl (by kernel_rfl)
def IH:List Int:= [5991343304603806364,5545951138849680404,16782799169413629814,41502062934975857]
theorem NL:eN (ah cM)=([⟨1,1,1,[]⟩,⟨2,3,1,[]⟩],-1,0):=by kernel_rfl
def Q0:LD:= [[.int 1,.int 1,.int 1,.str []],[.int 2,.int 3,.int 1,.str []]]
theorem N2:oF cM=Q0:=by
 unfold oF
 rw [NL]
 kernel_rfl
theorem Tu:cL (ar Q0)=(ah cM,-1,0):=by kernel_rfl
def kbl:LD:= [[.sl Lb],[.sl [[.int 1]]],[.sl cM]]
def kh0:List Int:= [8372025008686331489,8100131176266490226,282578803306356,284782101528576,0,0,0,0,0,0,0,0,0,0,0,0,0,0,0,0,0,0,0,0,0]
theorem aqK:zM kbl 3=(kh0,36):=by kernel_rfl
theorem abX:sF 1 cM=X2:=by
 unfold sF
 rw [N2]
 unfold nz
 rw [if_pos (by rw [Tu])]
 unfold aeV
 have e:([[.sl Lb],[.sl [[.int (IntKind.u8.wrap 1)]]],[.sl (aj (cL (ar Q0)).1)]] :LD)=kbl:=by
  rw [Tu]
  kernel_rfl
 have e2:iU (iU kh0 36 6) 135 128=ke0:=by decide+kernel
 rw [e,yZ,al,show kbl.length=3 from rfl,aqK,fin,al]
 show (iO (gN (iU (iU kh0 36 6) 135 128))).take 32=X2
 rw [e2,ke,oW]
 decide+kernel
def iT (l:List Int):LD:=((l++ab0 (136-l.length) 0)++(X2++ab0 32 0)).map ae
theorem PF:iu cM=(0,136,0,iT []):=by
 unfold iu
 rw [abX]
 have:sa (X2.map ae)=iT [] :=by kernel_rfl
 rw [this]
theorem amV:iJ 1 1 1 [[.int 7]] (0,136,0,iT [])=(7,136,0,iT [1,1,1,0,0,0,7]):=by kernel_rfl
theorem aqH:iJ 1 1 1 [[.int 8]] (0,136,0,iT [])=(7,136,0,iT [1,1,1,0,0,0,8]):=by kernel_rfl
theorem anj:iJ 2 3 1 [] (7,136,0,iT [1,1,1,0,0,0,7])=(13,136,0,iT [1,1,1,0,0,0,7,2,3,1,0,0,0]):=by kernel_rfl
theorem arr:iJ 2 3 1 [] (7,136,0,iT [1,1,1,0,0,0,8])=(13,136,0,iT [1,1,1,0,0,0,8,2,3,1,0,0,0]):=by kernel_rfl
theorem G2 {x:Sp} (h:x.2.1=136):∀ i:Nat,i<136→aU x (i+1)=(0,(i:Int)+1,x.2.2.1+1,fD x.2.2.2)
 | 0,_=>by
  rw [aU,aU,oG,if_pos h]
  rfl
 | i+1,hi=>by
  rw [aU,G2 h i (by omega),oG,if_neg (by show ¬ ((i:Int)+1=136);omega)]
  rfl
theorem Qw {x:Sp} (h:x.2.1=136):∀ i:Nat,i<136→oG (aU x i)=(0,(i:Int),x.2.2.1+1,fD x.2.2.2)
 | 0,_=>by
  rw [aU,oG,if_pos h]
  rfl
 | i+1,hi=>by
  rw [G2 h i (by omega),oG,if_neg (by show ¬ ((i:Int)+1=136);omega)]
  rfl
theorem Hg {x:Sp} (h:x.2.1=136):∀ i:Nat,i≤136→kr x i=(fD x.2.2.2).take i
 | 0,_=>rfl
 | i+1,hi=>by
  have hl:=j4 x.2.2.2
  rw [kr,Hg h i (by omega),Qw h i (by omega)]
  show _++ [[CD.int (rv (fD x.2.2.2) (i:Int).toNat)]] =_
  rw [aA,List.take_add_one,cH (by omega)]
  congr 1
  unfold fD
  rw [da,List.getElem_map,ay,cH (by rw [sI];omega)]
  rfl
theorem Hd {x:Sp} (h:x.2.1=136):qo x=(iO (gN (bg x.2.2.2 200))).take 32:=by
 rw [qo,al,Hg h 32 (by omega)]
 unfold fD
 rw [← List.map_take,as4]
 generalize (iO (gN (bg x.2.2.2 200))).take 32=L
 have:((fun r:List CD=>(r.getD 0 .d0).toInt) ∘ ae)=id:=rfl
 rw [this,List.map_id]
abbrev acL:Sp:=(13,136,0,iT [1,1,1,0,0,0,7,2,3,1,0,0,0])
abbrev ab4:Sp:=(13,136,0,iT [1,1,1,0,0,0,8,2,3,1,0,0,0])
theorem bl7:tR acL=LO:=by
 unfold tR
 rw [Hd rfl]
 have e:bg (iT [1,1,1,0,0,0,7,2,3,1,0,0,0]) 200=ks7:=by kernel_rfl
 show gk ((jy ((iO (gN (bg (iT [1,1,1,0,0,0,7,2,3,1,0,0,0]) 200))).take 32)).map ae)=LO
 rw [e,kp7,oW]
 kernel_rfl
theorem bl8:tR ab4=IH:=by
 unfold tR
 rw [Hd rfl]
 have e:bg (iT [1,1,1,0,0,0,8,2,3,1,0,0,0]) 200=ks8:=by kernel_rfl
 show gk ((jy ((iO (gN (bg (iT [1,1,1,0,0,0,8,2,3,1,0,0,0]) 200))).take 32)).map ae)=IH
 rw [e,kp8,oW]
 kernel_rfl
theorem KX {x:Sp} {w:List Int} (h:tR x=w) (hw:(ck w pW 4).2≠0):aC x=(de w,1,0,aU x 32):=by
 rw [aC,al,show (64:Nat)=63+1 from rfl,nn,h,if_neg hw]
 rfl
theorem lt7:(ck LO pW 4).2≠0:=by decide+kernel
theorem lt8:(ck IH pW 4).2≠0:=by decide+kernel
theorem alZ:af LO:=wZ ⟨by decide,by decide⟩ ⟨by decide,by decide⟩ ⟨by decide,by decide⟩ ⟨by decide,by decide⟩
theorem an9:af IH:=wZ ⟨by decide,by decide⟩ ⟨by decide,by decide⟩ ⟨by decide,by decide⟩ ⟨by decide,by decide⟩
theorem Rc {w:List Int} (h:w.length=4) (hw:af w) (hl:(ck w pW 4).2≠0):kV (de w)=dG (fun i=>gI w i) 4:=by
 have hlt:vl w<21888242871839275222246405745257275088548364400416034343698204186575808495617:=by
  have:=(HY h hw).1
  omega
 have e:r9 (de w)=w:=afq (by unfold r9;exact lT _ _) h (by unfold r9;exact fh (wI hw) (wZ ⟨by decide,by decide⟩ bl bl bl)) hw (am5 h hw hlt)
 unfold kV
 rw [e]
theorem SW:cg 0 (iu cM):=by
 rw [PF]
 exact ⟨by decide,by decide,by decide,by decide,by decide,by decide,rfl,ut (by decide+kernel)⟩
def Sr (b:Int):List Int:=(dN (iJ 1 1 1 [[.int b]] (iu cM))).1
theorem dr7:dN (iJ 1 1 1 [[.int 7]] (iu cM))=(de LO,1,0,aU acL 32):=by
 unfold dN
 rw [PF,amV,anj]
 exact KX bl7 lt7
theorem dr8:dN (iJ 1 1 1 [[.int 8]] (iu cM))=(de IH,1,0,aU ab4 32):=by
 unfold dN
 rw [PF,aqH,arr]
 exact KX bl8 lt8
theorem pl1 (b:Int):qN (jc b) (iu cM) 1=(1,iJ 1 1 1 [[.int b]] (iu cM)):=by
 rw [qN,qN]
 rfl
theorem pl2 (b:Int):qN (jc b) (iu cM) 2=(2,(dN (iJ 1 1 1 [[.int b]] (iu cM))).2.2.2):=by
 rw [qN,pl1]
 show iB 2 [] 1 (iJ 1 1 1 [[.int b]] (iu cM))=_
 unfold iB
 rw [if_neg (by decide),if_pos rfl]
 rfl
theorem P0:fk cM:=⟨by show cM=aj (ah cM);kernel_rfl,by decide⟩
theorem Hc (b:Int) (hb:0≤b∧b<256) (hd:(dN (iJ 1 1 1 [[.int b]] (iu cM))).2.2.1=0) (hz:cg 800000000 (dN (iJ 1 1 1 [[.int b]] (iu cM))).2.2.2):w8 1 cM (jc b):=by
 have h1:av [[CD.int b]] :=YV hb
 have hs:=RP (k:=1) (t:=1) (n:=1) h1 SW
 refine ⟨rfl,P0,by rw [NL],by show (3:Nat)≤200;decide,fun i hi=> ?_⟩
 have hi:i<3:=hi
 rw [N2]
 match i,hi with
 | 0,_=>exact ⟨⟨asw 0,(by decide:(0:Int)≤1000000)⟩,aY (by decide) SW,.inl ⟨rfl,rfl,h1,by show (1:Nat)≤900;decide,rfl,by show cm Q0 0 1 1 1=true;decide+kernel⟩⟩
 | 1,_=>
  rw [pl1]
  exact ⟨⟨(by decide:(0:Int)≤1),(by decide:(1:Int)≤1000000)⟩,aY (by simp) hs,.inr (.inl ⟨rfl,rfl,by show cm Q0 1 2 3 1=true;decide+kernel,hd⟩)⟩
 | 2,_=>
  rw [pl2]
  exact ⟨⟨(by decide:(0:Int)≤2),(by decide:(2:Int)≤1000000)⟩,hz,.inr (.inr ⟨rfl,rfl⟩)⟩
theorem SL {l:List Int} (h:iT l=iT l) (hb:(iT l).length=200∧av (iT l)):cg 0 ((13:Int),(136:Int),(0:Int),iT l):=
 ⟨(by decide:(0:Int)≤13),(by decide:(13:Int)≤136),(by decide:(0:Int)≤136),asw 136,asw 0,asw 0,hb.1,hb.2⟩
theorem awh:w8 1 cM (jc 7):=by
 refine Hc 7 ⟨by decide,by decide⟩ (by rw [dr7]) ?_
 rw [dr7]
 exact aY (by decide) (qm (SL rfl ⟨rfl,ut (by decide+kernel)⟩) 32)
theorem auN:w8 1 cM (jc 8):=by
 refine Hc 8 ⟨by decide,by decide⟩ (by rw [dr8]) ?_
 rw [dr8]
 exact aY (by decide) (qm (SL rfl ⟨rfl,ut (by decide+kernel)⟩) 32)
theorem RK (b:Int):lV (jc b) cM= [[.int 0,.sl []],[.int 0,.sl ((kV (Sr b)).map ae)],[.int 0,.sl []]] :=by
 rw [lV,al]
 show qR (jc b) (iu cM) 3=_
 rw [qR,qR,qR,qR,pl1]
 rfl
theorem arM:(kV (Sr 7)).map ae=(dG (fun i=>gI LO i) 4).map ae:=by
 unfold Sr
 rw [dr7,Rc rfl alZ lt7]
theorem arN:(kV (Sr 8)).map ae=(dG (fun i=>gI IH i) 4).map ae:=by
 unfold Sr
 rw [dr8,Rc rfl an9 lt8]
theorem an7:lV (jc 7) cM= [[.int 0,.sl []],[.int 0,.sl ((dG (fun i=>gI LO i) 4).map ae)],[.int 0,.sl []]] :=by rw [RK,arM]
theorem an8:lV (jc 8) cM= [[.int 0,.sl []],[.int 0,.sl ((dG (fun i=>gI IH i) 4).map ae)],[.int 0,.sl []]] :=by rw [RK,arN]
theorem vc9:P9:=by
 delta P9 lM bR OF Bq Pj Ij Ow nB OD EO AL Pv v8 KH
 have a7:=an7
 have a8:=an8
 have a7':lV [[CD.int 0,CD.int 1,CD.int 0,CD.sl [[CD.int 7]]],[CD.int 2,CD.int 0,CD.int 1,CD.sl []],[CD.int 4,CD.int 0,CD.int 0,CD.sl []]] [[CD.int 1],[CD.int 1],[CD.int 1],[CD.int 0],[CD.int 0],[CD.int 0],[CD.int 0],[CD.int 0],[CD.int 2],[CD.int 3],[CD.int 1],[CD.int 0],[CD.int 0],[CD.int 0],[CD.int 0],[CD.int 0]] =_:=an7
 have a8':lV [[CD.int 0,CD.int 1,CD.int 0,CD.sl [[CD.int 8]]],[CD.int 2,CD.int 0,CD.int 1,CD.sl []],[CD.int 4,CD.int 0,CD.int 0,CD.sl []]] [[CD.int 1],[CD.int 1],[CD.int 1],[CD.int 0],[CD.int 0],[CD.int 0],[CD.int 0],[CD.int 0],[CD.int 2],[CD.int 3],[CD.int 1],[CD.int 0],[CD.int 0],[CD.int 0],[CD.int 0],[CD.int 0]] =_:=an8
 rw [a7,a8,a7',a8']
 intro _
 refine ⟨rfl,fun _=>⟨awh,⟨by decide,by decide⟩,by decide,auN,fun _ _=> ?_⟩⟩
 repeat' first
  | exact trivial
  | refine cf (by decide+kernel) ?_
  | apply And.intro
  | rfl
  | decide+kernel
  | intro _
theorem c9:(base.with sp9).Ok:=ab c10 (ai am c10 Tryz.func9 (by kernel_rfl) Tryz.call9 (by kernel_rfl) vc9)
def j6 (hp:List Blk):List (Nat×Blk)→Prop
 | [] =>True
 | (b,x)::u=>hp.getD b .none=x∧j6 hp u
def wR (F:List SV→List Blk→CR) (svs:List SV) (hp:List Blk):CR:=
 match F svs hp with
 | .need p (.ret sv upd [])=> .need (p∧j6 hp upd) (.ret sv [] [])
 | r=>r
theorem Ly:∀ (hp:List Blk) (b:Nat),hp.set b (hp.getD b .none)=hp
 | [],_=>rfl
 | _::_,0=>rfl
 | x::hp,b+1=>by
  show x::hp.set b (hp.getD b .none)=x::hp
  rw [Ly hp b]
theorem BL {hp:List Blk} :∀ {u:List (Nat×Blk)},j6 hp u→bq hp u=hp
 | [],_=>rfl
 | (b,x)::u,h=>by
  show bq (hp.set b x) u=hp
  rw [← h.1,Ly]
  exact BL h.2
theorem Fq {C:Ctx} {f:FuncId} {F:List SV→List Blk→CR} (h:b9 C f F):b9 C f (wR F):=by
 intro svs hp K R hw
 refine h svs hp K R ?_
 unfold wR at hw
 split at hw
 ·rename_i p sv upd he
  rw [he]
  refine ⟨hw.1.1,?_⟩
  show _∧_
  rw [BL hw.1.2]
  exact hw.2
 ·exact hw
theorem acZ {a:LD} (h:(cL (ar a)).2.2=0):eN (ah (aj (cL (ar a)).1))=(ar a,-1,0):=by rw [eP,aac h]
theorem EQ (b:List UInt8):(aj b).length=b.length:=by unfold aj;exact bp ..
theorem IY (l:List It):fk (aj (cL l).1):=⟨jJ _,by
 have h:=abc l
 rw [EQ]
 omega⟩
def cX:List Nat→Nat
 | [] =>0
 | d::l=>d+4294967296*cX l
def yq:Nat→Nat→List Nat
 | 0,_=> []
 | f+1,n=>if n=0 then [] else n%4294967296::yq f (n / 4294967296)
def Ha (n:Nat):List Nat:=yq n n
def tx (l:List Nat):Prop:=∀ d∈l,d<4294967296
def TY (l:List Nat):Prop:=∀ m d,l=m++ [d] →d≠0
theorem MZ:∀ f n,n≤f→cX (yq f n)=n
 | 0,n,h=>by
  have:n=0:=by omega
  subst this;rfl
 | f+1,n,h=>by
  rw [yq]
  by_cases e:n=0
  ·rw [if_pos e,e];rfl
  ·rw [if_neg e,cX,MZ f (n / 4294967296) (by omega)]
   omega
theorem aai (n:Nat):cX (Ha n)=n:=MZ n n (ar5 n)
theorem Nl:∀ f n,tx (yq f n)
 | 0,_=>fun d hd=>by cases hd
 | f+1,n=>by
  rw [yq]
  split
  ·intro d hd;cases hd
  ·intro d hd
   cases hd with
   | head=>exact as3 _ (by omega)
   | tail _ hd=>exact Nl f _ d hd
theorem Z0 (n:Nat):tx (Ha n):=Nl n n
theorem Ko:∀ {l:List Nat},cX l=0→TY l→l= []
 | [],_,_=>rfl
 | d::l,h,ht=>by
  rw [cX] at h
  have hl:cX l=0:=by omega
  have hd:d=0:=by omega
  have h2:=Ko hl fun m x e=>ht (d::m) x (by rw [e];rfl)
  subst h2
  exact absurd hd (ht [] d rfl)
theorem Su:∀ {l:List Nat} {f:Nat},tx l→TY l→cX l≤f→yq f (cX l)=l
 | [],f,_,_,_=>by cases f <;>rfl
 | d::l,f,hd,ht,hf=>by
  have h0:cX (d::l)≠0:=fun e=>by cases Ko e ht
  cases f with
  | zero=>omega
  | succ f=>
   rw [yq,if_neg h0]
   have h1:=hd d (awp ..)
   have e1:cX (d::l)%4294967296=d:=by rw [cX];omega
   have e2:cX (d::l) / 4294967296=cX l:=by rw [cX];omega
   rw [e1,e2,Su (fun x hx=>hd x (awo _ hx)) (fun m x e=>ht (d::m) x (by rw [e];rfl)) (by rw [cX] at hf h0;omega)]
theorem SO {l:List Nat} (hd:tx l) (ht:TY l):Ha (cX l)=l:=Su hd ht (ar5 _)
theorem Cf:∀ (l:List Nat) (t:Nat),(∀ j,t≤j→l.getD j 0=0)→cX (l.take t)=cX l
 | [],t,_=>by rw [List.take_nil]
 | d::l,0,h=>by
  rw [atc]
  have h0:d=0:=h 0 (by omega)
  have h1:=Cf l 0 fun j _=>h (j+1) (by omega)
  rw [atc] at h1
  show 0=d+4294967296*cX l
  rw [← h1,h0];rfl
 | d::l,t+1,h=>by
  rw [List.take_succ_cons,cX,cX,Cf l t fun j hj=>h (j+1) (by omega)]
theorem TE {l:List Nat} {t:Nat} (hd:tx l) (hl:t≤l.length) (h0:∀ j,t≤j→l.getD j 0=0) (h1:t=0∨l.getD (t-1) 0≠0):l.take t=Ha (cX l):=by
 rw [← Cf l t h0]
 refine (SO (fun d h=>hd d (List.mem_of_mem_take h)) fun m d e=> ?_).symm
 rcases h1 with rfl | h1
 ·rw [atc] at e
  have:=congrArg List.length e
  simp at this
 ·intro hd0
  apply h1
  have hlen:m.length+1=t:=by
   have:=congrArg List.length e
   rw [List.length_take,ce] at this
   simp at this
   omega
  have h2:(l.take t).getD (t-1) 0=d:=by
   rw [e,ay,List.getElem?_append_right (by omega)]
   rw [show t-1-m.length=0 from by omega];rfl
  rw [ay,List.getElem?_take_of_lt (by omega)] at h2
  rw [ay,h2,hd0]
theorem LN:∀ {l:List Nat},tx l→cX l<4294967296 ^ l.length
 | [],_=>by decide
 | d::l,h=>by
  have h1:=LN fun x hx=>h x (awo _ hx)
  have h2:=h d (awp ..)
  rw [cX,adC,asR]
  omega
theorem kE (l:List Nat):cX l=l.getD 0 0+4294967296*cX l.tail:=by
 cases l <;>rfl
theorem iv (l:List Nat) (i:Nat):l.tail.getD i 0=l.getD (i+1) 0:=by
 cases l <;>simp
theorem wG {l:List Nat} (h:tx l) (i:Nat):l.getD i 0<4294967296:=by
 rw [ay]
 cases e:l[i]? with
 | none=>exact (by decide:0<4294967296)
 | some d=>exact h d (awZ e)
theorem B0 {l:List Nat} (h:tx l):tx l.tail:=fun d hd=>h d (List.mem_of_mem_tail hd)
theorem FT:∀ (n:Nat) {a b:List Nat},a.length≤n→b.length≤n→(∀ i,a.getD i 0=b.getD i 0)→cX a=cX b
 | 0,a,b,ha,hb,h=>by
  have e1:a= [] :=awm.1 (by omega)
  have e2:b= [] :=awm.1 (by omega)
  rw [e1,e2]
 | n+1,a,b,ha,hb,h=>by
  rw [kE a,kE b,h 0,FT n (a:=a.tail) (b:=b.tail) (by simp;omega) (by simp;omega) fun i=>by rw [iv,iv];exact h (i+1)]
theorem Mm:∀ (i:Nat) {a b:List Nat},tx a→tx b→(∀ j,i<j→a.getD j 0=b.getD j 0)→a.getD i 0<b.getD i 0→cX a<cX b
 | 0,a,b,ha,hb,h,hl=>by
  rw [kE a,kE b,FT (max a.length b.length) (a:=a.tail) (b:=b.tail) (by simp;omega) (by simp;omega) fun j=>by rw [iv,iv];exact h (j+1) (by omega)]
  omega
 | i+1,a,b,ha,hb,h,hl=>by
  have ih:=Mm i (a:=a.tail) (b:=b.tail) (B0 ha) (B0 hb) (fun j hj=>by rw [iv,iv];exact h (j+1) (by omega)) (by rw [iv,iv];exact hl)
  have h1:=wG ha 0
  rw [kE a,kE b]
  omega
def sb (d:Nat):List CD:= [.int (d:Int)]
def bU (n:Nat):LD:=(Ha n).map sb
def dI (l:LD):List Nat:=l.map fun r=>((r.getD 0 .d0).toInt).toNat
def dv (l:LD):Nat:=cX (dI l)
def iH (l:LD):Prop:=l=(dI l).map sb∧tx (dI l)
def zC (l:LD):Prop:=l=bU (dv l)
theorem y9 (l:List Nat):dI (l.map sb)=l:=by
 unfold dI
 rw [as4]
 have:((fun r:List CD=>((r.getD 0 .d0).toInt).toNat) ∘ sb)=id:=by funext d;rfl
 rw [this,List.map_id]
theorem di (n:Nat):dv (bU n)=n:=by unfold dv bU;rw [y9,aai]
theorem vS (n:Nat):zC (bU n):=by unfold zC;rw [di]
theorem Fw (n:Nat):iH (bU n):=by unfold iH bU;rw [y9];exact ⟨rfl,Z0 n⟩
theorem aaQ {l:List Nat} (h:tx l):iH (l.map sb):=by unfold iH;rw [y9];exact ⟨rfl,h⟩
theorem mO (l:LD):(dI l).length=l.length:=bp ..
theorem Un (l:List Nat) (i:Nat):rv (l.map sb) i=((l.getD i 0:Nat):Int):=by
 unfold rv
 rw [ay (l:=l.map sb),eW,ay (l:=l)]
 cases l[i]? <;>rfl
theorem sN {l:LD} (h:iH l) (i:Nat):rv l i=(((dI l).getD i 0:Nat):Int):=by
 have:=Un (dI l) i
 rwa [← h.1] at this
theorem m8 {l:LD} (h:iH l) (i:Nat):0≤rv l i∧rv l i<4294967296:=by
 rw [sN h]
 have:=wG h.2 i
 omega
theorem SF {l:LD} {t:Nat} (h:iH l) (hl:t≤l.length) (h0:∀ j,t≤j→rv l j=0) (h1:t=0∨rv l (t-1)≠0):l.take t=bU (dv l):=by
 have e:l.take t=((dI l).take t).map sb:=by rw [List.map_take,← h.1]
 rw [e,TE h.2 (by rw [mO];exact hl) (fun j hj=>by have:=h0 j hj;rw [sN h] at this;omega) (h1.imp id fun h1=>by rw [sN h] at h1;omega)]
 rfl
end
end Go.Proofs.YteiecapbaeajdaaGreatDoor
namespace Go.NT
set_option linter.unusedVariables false
def Pr (p:Nat):Prop:=2≤p∧∀ d,d∣p→d=1∨d=p
theorem Pr.coprime {p a:Nat} (h:Pr p) (ha:¬ p∣a):aw4 p a=1:=by
 rcases h.2 _ (aw5 p a) with e | e
 ·exact e
 ·exact absurd (e ▸ aw6 p a) ha
theorem Pr.dvd_mul {p a b:Nat} (h:Pr p) (hd:p∣a*b):p∣a∨p∣b:=by
 by_cases ha:p∣a
 ·exact .inl ha
 ·exact .inr (Nat.Coprime.dvd_of_dvd_mul_left (h.coprime ha) hd)
theorem Hf:∀ n:Nat,2≤n→∃ p,Pr p∧p∣n:=by
 intro n
 induction n using Nat.strongRecOn with
 | ind n ih=>
  intro h
  by_cases hp:∀ d,d∣n→d=1∨d=n
  ·exact ⟨n,⟨h,hp⟩,Nat.dvd_refl n⟩
  ·have ⟨d,hd⟩:=Classical.not_forall.1 hp
   have ⟨h1,h2⟩:=Classical.not_imp.1 hd
   have h3:d≠1:=fun e=>h2 (.inl e)
   have h4:d≠n:=fun e=>h2 (.inr e)
   have h5:=aw7 (by omega) h1
   have h6:d≠0:=fun e=>by subst e;have:=Nat.eq_zero_of_zero_dvd h1;omega
   have ⟨p,k1,k2⟩:=ih d (by omega) (by omega)
   exact ⟨p,k1,aw8 k2 h1⟩
theorem YN {n:Nat} (h2:2≤n) (h:∀ p,Pr p→p∣n→p*p≤n→False):Pr n:=by
 refine ⟨h2,fun d hd=> ?_⟩
 by_cases h1:d=1
 ·exact .inl h1
 by_cases h3:d=n
 ·exact .inr h3
 exfalso
 obtain ⟨e,he⟩:=hd
 have hd0:d≠0:=fun k=>by rw [k,Nat.zero_mul] at he;omega
 have he0:e≠0:=fun k=>by rw [k,aw9] at he;omega
 have he1:e≠1:=fun k=>by rw [k,anR] at he;omega
 rcases Nat.le_total d e with hl | hl
 ·have ⟨p,k1,k2⟩:=Hf d (by omega)
  have k3:=aw7 (by omega) k2
  exact h p k1 (aw8 k2 ⟨e,he⟩) (by rw [he];exact axa k3 (Nat.le_trans k3 hl))
 ·have ⟨p,k1,k2⟩:=Hf e (by omega)
  have k3:=aw7 (by omega) k2
  exact h p k1 (aw8 k2 ⟨d,by rw [he,asS]⟩) (by rw [he];exact axa (Nat.le_trans k3 hl) k3)
def ch:Nat→Nat→Nat
 | _,0=>1
 | 0,_+1=>0
 | n+1,k+1=>ch n k+ch n (k+1)
theorem xC (n:Nat):ch n 0=1:=by cases n <;>rfl
theorem pV:∀ n k,n<k→ch n k=0
 | 0,k+1,_=>rfl
 | n+1,k+1,h=>by
  rw [ch,pV n k (by omega),pV n (k+1) (by omega)]
theorem D0:∀ n k,(k+1)*ch (n+1) (k+1)=(n+1)*ch n k
 | 0,0=>rfl
 | 0,k+1=>by rw [pV 1 (k+2) (by omega),pV 0 (k+1) (by omega)];omega
 | n+1,0=>by
  have:=D0 n 0
  rw [xC] at this ⊢
  rw [ch,xC]
  omega
 | n+1,k+1=>by
  have h1:=D0 n k
  have h2:=D0 n (k+1)
  have e1:ch (n+2) (k+2)=ch (n+1) (k+1)+ch (n+1) (k+2):=rfl
  have e2:ch (n+1) (k+1)=ch n k+ch n (k+1):=rfl
  rw [e1]
  grind
theorem Ys {p k:Nat} (hp:Pr p) (h0:0<k) (h1:k<p):p∣ch p k:=by
 obtain ⟨q,rfl⟩:∃ q,p=q+1:=⟨p-1,by have:=hp.1;omega⟩
 obtain ⟨j,rfl⟩:∃ j,k=j+1:=⟨k-1,by omega⟩
 rcases hp.dvd_mul (⟨ch q j,D0 q j⟩:(q+1)∣(j+1)*ch (q+1) (j+1)) with h | h
 ·have:=aw7 (by omega) h;omega
 ·exact h
def tm (a b:Int) (n k:Nat):Int:=(ch n k:Int)*a ^ (n-k)*b ^ k
theorem awf (a b:Int) (n:Nat):tm a b (n+1) 0=a*tm a b n 0:=by
 unfold tm
 rw [xC,xC,axb,axb,awM]
 grind
theorem ae3 (a b:Int) (n k:Nat):tm a b (n+1) (k+1)=a*tm a b n (k+1)+b*tm a b n k:=by
 unfold tm
 have e1:ch (n+1) (k+1)=ch n k+ch n (k+1):=rfl
 rw [e1,Nat.add_sub_add_right]
 by_cases h:k<n
 ·rw [show n-k=(n-(k+1))+1 from by omega,awM,awM]
  grind
 ·rw [pV n (k+1) (by omega),awM]
  grind
theorem PU (a b:Int) (n k:Nat) (h:n<k):tm a b n k=0:=by
 unfold tm;rw [pV n k h];simp
theorem RF {p k:Nat} (hp:Pr p) (h0:0<k) (h1:k<p) (a b:Int):(p:Int)∣tm a b p k:=by
 have:(p:Int)∣(ch p k:Int):=Int.natCast_dvd_natCast.2 (Ys hp h0 h1)
 unfold tm
 rw [axc]
 exact axd this
def sm (f:Nat→Int):Nat→Int
 | 0=>0
 | n+1=>sm f n+f n
theorem sG (f:Nat→Int):∀ n,sm f (n+1)=f 0+sm (fun j=>f (j+1)) n
 | 0=>by simp [sm]
 | n+1=>by
  rw [sm,sG f n,sm]
  omega
theorem Kg (c d:Int) (f g:Nat→Int):∀ n,sm (fun j=>c*f j+d*g j) n=c*sm f n+d*sm g n
 | 0=>by simp [sm]
 | n+1=>by
  rw [sm,Kg c d f g n,sm,sm]
  grind
theorem B5 {f g:Nat→Int} :∀ {n},(∀ j,j<n→f j=g j)→sm f n=sm g n
 | 0,_=>rfl
 | n+1,h=>by rw [sm,sm,B5 fun j hj=>h j (by omega),h n (by omega)]
theorem JG {f:Nat→Int} {m:Int} :∀ {n},(∀ j,j<n→m∣f j)→m∣sm f n
 | 0,_=>⟨0,by simp [sm]⟩
 | n+1,h=>axe (JG fun j hj=>h j (by omega)) (h n (by omega))
def ml (D:Int) (x y:Int×Int):Int×Int:=(x.1*y.1+D*(x.2*y.2),x.1*y.2+x.2*y.1)
def pw (D:Int) (x:Int×Int):Nat→Int×Int
 | 0=>(1,0)
 | n+1=>ml D x (pw D x n)
theorem VB (D a b:Int):∀ n K,n<2*K→pw D (a,b) n=(sm (fun j=>tm a b n (2*j)*D ^ j) K,sm (fun j=>tm a b n (2*j+1)*D ^ j) K)
 | 0,K,h=>by
  obtain ⟨L,rfl⟩:∃ L,K=L+1:=⟨K-1,by omega⟩
  have z:∀ (f:Nat→Int) n,(∀ j,f j=0)→sm f n=0:=fun f n hf=>by
   induction n with
   | zero=>rfl
   | succ n ih=>rw [sm,ih,hf];rfl
  rw [sG,z _ L (fun j=>by rw [PU _ _ _ _ (by omega)];simp),z _ (L+1) (fun j=>by rw [PU _ _ _ _ (by omega)];simp)]
  simp [pw,tm,xC]
 | n+1,K,h=>by
  rw [pw,VB D a b n K (by omega)]
  obtain ⟨L,rfl⟩:∃ L,K=L+1:=⟨K-1,by omega⟩
  unfold ml
  ext
  ·show a*sm _ (L+1)+D*(b*sm _ (L+1))=sm _ (L+1)
   rw [sG (fun j=>tm a b n (2*j)*D ^ j),sG (fun j=>tm a b (n+1) (2*j)*D ^ j)]
   have e1:sm (fun j=>tm a b (n+1) (2*(j+1))*D ^ (j+1)) L=sm (fun j=>a*(tm a b n (2*(j+1))*D ^ (j+1))+(D*b)*(tm a b n (2*j+1)*D ^ j)) L:=by
    refine B5 fun j _=> ?_
    rw [show 2*(j+1)=(2*j+1)+1 from by omega,ae3,awM]
    grind
   rw [e1,Kg a (D*b) (fun j=>tm a b n (2*(j+1))*D ^ (j+1)) (fun j=>tm a b n (2*j+1)*D ^ j)]
   rw [sm,PU a b n (2*L+1) (by omega)]
   simp only [aw9,awf]
   grind
  ·show a*sm _ (L+1)+b*sm _ (L+1)=sm _ (L+1)
   have e1:sm (fun j=>tm a b (n+1) (2*j+1)*D ^ j) (L+1)=sm (fun j=>a*(tm a b n (2*j+1)*D ^ j)+b*(tm a b n (2*j)*D ^ j)) (L+1):=by
    refine B5 fun j _=> ?_
    rw [ae3]
    grind
   rw [e1,Kg a b (fun j=>tm a b n (2*j+1)*D ^ j) (fun j=>tm a b n (2*j)*D ^ j)]
theorem at0 {p K:Nat} (hp:Pr p) (hK:p=2*K+1) (D a b:Int):(p:Int)∣(pw D (a,b) p).1-a ^ p∧(p:Int)∣(pw D (a,b) p).2-b ^ p*D ^ K:=by
 rw [VB D a b p (K+1) (by omega)]
 constructor
 ·show (p:Int)∣sm _ (K+1)-a ^ p
  rw [sG]
  have h1:tm a b p (2*0)*D ^ 0=a ^ p:=by simp [tm,xC]
  rw [h1]
  have:(p:Int)∣sm (fun j=>tm a b p (2*(j+1))*D ^ (j+1)) K:=JG fun j hj=>axd (RF hp (by omega) (by omega) a b)
  rw [show a ^ p+sm (fun j=>tm a b p (2*(j+1))*D ^ (j+1)) K-a ^ p=sm (fun j=>tm a b p (2*(j+1))*D ^ (j+1)) K from by omega]
  exact this
 ·show (p:Int)∣sm _ (K+1)-_
  rw [sm]
  have h1:tm a b p (2*K+1)=b ^ p:=by
   rw [← hK]
   have:∀ n,ch n n=1:=fun n=>by
    induction n with
    | zero=>rfl
    | succ n ih=>rw [ch,ih,pV n (n+1) (by omega)]
   simp [tm,this]
  rw [h1]
  have:(p:Int)∣sm (fun j=>tm a b p (2*j+1)*D ^ j) K:=JG fun j hj=>axd (RF hp (by omega) (by omega) a b)
  rw [show sm (fun j=>tm a b p (2*j+1)*D ^ j) K+b ^ p*D ^ K-b ^ p*D ^ K=sm (fun j=>tm a b p (2*j+1)*D ^ j) K from by omega]
  exact this
theorem SA (a b:Int):∀ n,(pw 1 (a,b) n).1+(pw 1 (a,b) n).2=(a+b) ^ n
 | 0=>by rw [Int.pow_zero];rfl
 | n+1=>by
  have:=SA a b n
  rw [pw,awM,← this]
  unfold ml
  grind
theorem Ub {p K:Nat} (hp:Pr p) (hK:p=2*K+1) (a:Int):(p:Int)∣(a+1) ^ p-a ^ p-1:=by
 obtain ⟨h1,h2⟩:=at0 hp hK 1 a 1
 rw [← SA a 1 p]
 have e:(1:Int) ^ p*1 ^ K=1:=by rw [Int.one_pow,Int.one_pow];rfl
 rw [e] at h2
 have:=axe h1 h2
 rw [show (pw 1 (a,1) p).1+(pw 1 (a,1) p).2-a ^ p-1=(pw 1 (a,1) p).1-a ^ p+((pw 1 (a,1) p).2-1) from by omega]
 exact this
theorem Lo {p K:Nat} (hp:Pr p) (hK:p=2*K+1):∀ a:Nat,(p:Int)∣(a:Int) ^ p-a
 | 0=>by
  rw [hK,awM]
  simp
 | a+1=>by
  have h1:=Ub hp hK a
  have h2:=Lo hp hK a
  have:=axe h1 h2
  rw [show ((a+1:Nat):Int)=(a:Int)+1 from rfl]
  rw [show ((a:Int)+1) ^ p-(↑a+1)=((a:Int)+1) ^ p-(a:Int) ^ p-1+((a:Int) ^ p-a) from by omega]
  exact this
theorem abh {p K:Nat} (hp:Pr p) (hK:p=2*K+1) (a:Int):(p:Int)∣a ^ p-a:=by
 rcases Int.eq_nat_or_neg a with ⟨n,h | h⟩
 ·rw [h];exact Lo hp hK n
 ·have h1:=Lo hp hK n
  have e:(-(n:Int)) ^ p= -((n:Int) ^ p):=by
   rw [hK,awM,awM,Int.pow_mul,Int.pow_mul]
   rw [show (-(n:Int)) ^ 2=(n:Int) ^ 2 from by grind]
   grind
  rw [h,e,show -((n:Int) ^ p)- -(n:Int)= -((n:Int) ^ p-n) from by omega]
  exact Int.dvd_neg.2 h1
theorem Px (e:Nat→Prop) (h:∀ a b,e a→e b→e (b%a)) (a b:Nat):e a→e b→e (aw4 a b):=by
 refine Nat.gcd.induction (P:=fun a b=>e a→e b→e (aw4 a b)) a b (fun n _ hn=>by rw [Nat.gcd_zero_left];exact hn) fun m n hm ih h1 h2=> ?_
 rw [Nat.gcd_rec]
 exact ih (h _ _ h1 h2) h1
theorem NS {e:Nat→Prop} (h:∀ a b,e a→e b→e (b%a)) (hk:∀ a k,e a→e (a*k)) {f k M t:Nat} (hf:Pr f) (hM:e M) (hd:f ^ k∣M) (ht:e t) (hn:¬ e (M / f)):f ^ k∣t:=by
 have hg:=Px e h M t hM ht
 obtain ⟨c,hc⟩:=aw5 M t
 have hgt:=aw6 M t
 generalize aw4 M t=g at *
 have hfc:¬ f∣c:=fun ⟨c',hc'⟩=>by
  apply hn
  have:M=f*(g*c'):=by rw [hc,hc'];grind
  rw [this,Nat.mul_div_cancel_left _ (by have:=hf.1;omega)]
  exact hk _ _ hg
 have hcop:Nat.Coprime (f ^ k) c:=Nat.Coprime.pow_left k (hf.coprime hfc)
 rw [hc] at hd
 exact aw8 (hcop.dvd_of_dvd_mul_right hd) hgt
def fo {α:Type} (op:α→α→α) (z:α) (f:Nat→α):Nat→α
 | 0=>z
 | n+1=>op (fo op z f n) (f n)
theorem r8 {α:Type} {op:α→α→α} {z:α} {f g:Nat→α} :∀ {n},(∀ k,k<n→f k=g k)→fo op z f n=fo op z g n
 | 0,_=>rfl
 | n+1,h=>by rw [fo,fo,r8 fun k hk=>h k (by omega),h n (by omega)]
theorem TA {α:Type} {op:α→α→α} {z:α} (hc:∀ x y,op x y=op y x) (ha:∀ x y w,op (op x y) w=op x (op y w)) (f:Nat→α) (u:α) (j:Nat):∀ n,j<n→op (fo op z (fun k=>if k=j then u else f k) n) (f j)=op (fo op z f n) u
 | n+1,h=>by
  rw [fo,fo]
  by_cases e:n=j
  ·subst e
   rw [if_pos rfl,r8 (g:=f) fun k hk=>if_neg (by omega),ha,ha,hc u]
  ·rw [if_neg e,ha,hc (f n),← ha,TA hc ha f u j n (by omega),ha,ha,hc u]
theorem R7:∀ (n:Nat) (f:Nat→Nat),(∀ k,k<n+1→f k<n)→(∀ i j,i<n+1→j<n+1→f i=f j→i=j)→False
 | 0,f,h,_=>by have:=h 0 (by omega);omega
 | n+1,f,h,hi=>by
  refine R7 n (fun k=>if f k=n then f (n+1) else f k) (fun k hk=> ?_) (fun i j hi' hj' e=> ?_)
  ·have h1:=h k (by omega)
   have h2:=h (n+1) (by omega)
   have h3:f k=n→f (n+1)≠n:=fun e1 e2=>by have:=hi k (n+1) (by omega) (by omega) (by omega);omega
   show (if f k=n then f (n+1) else f k)<n
   split
   ·rename_i e;have:=h3 e;omega
   ·omega
  ·have e:(if f i=n then f (n+1) else f i)=(if f j=n then f (n+1) else f j):=e
   have h1:f i=f (n+1)→False:=fun e1=>by have:=hi i (n+1) (by omega) (by omega) e1;omega
   have h2:f j=f (n+1)→False:=fun e1=>by have:=hi j (n+1) (by omega) (by omega) e1;omega
   split at e
   ·split at e
    ·exact hi i j (by omega) (by omega) (by omega)
    ·exact (h2 e.symm).elim
   ·split at e
    ·exact (h1 e).elim
    ·exact hi i j (by omega) (by omega) e
theorem AW {α:Type} {op:α→α→α} {z:α} (hc:∀ x y,op x y=op y x) (ha:∀ x y w,op (op x y) w=op x (op y w)) (g:Nat→α):∀ (n:Nat) (f:Nat→Nat),(∀ k,k<n→f k<n)→(∀ i j,i<n→j<n→f i=f j→i=j)→fo op z (fun k=>g (f k)) n=fo op z g n
 | 0,f,_,_=>rfl
 | n+1,f,h,hi=>by
  have ⟨j,hj,e⟩:∃ j,j<n+1∧f j=n:=by
   apply Classical.byContradiction
   intro hn
   refine R7 n f (fun k hk=> ?_) (fun i j hi' hj'=>hi i j hi' hj')
   have h1:=h k hk
   have h2:f k≠n:=fun e=>hn ⟨k,hk,e⟩
   omega
  by_cases hjn:j=n
  ·subst hjn
   rw [fo,fo,e,AW hc ha g j f (fun k hk=> ?_) (fun i k hi' hk'=>hi i k (by omega) (by omega))]
   have h1:=h k (by omega)
   have h2:f k≠j:=fun e2=>by have:=hi k j (by omega) (by omega) (by omega);omega
   omega
  ·have ih:=AW (z:=z) hc ha g n (fun k=>if k=j then f n else f k) (fun k hk=>by
     show (if k=j then f n else f k)<n
     have h3:f n≠n:=fun e2=>by have:=hi n j (by omega) (by omega) (by omega);omega
     have h4:=h n (by omega)
     split
     ·omega
     ·rename_i hk2
      have h1:=h k (by omega)
      have h2:f k≠n:=fun e2=>by have:=hi k j (by omega) (by omega) (by omega);omega
      omega) (fun i k hi' hk' e2=>by
     have e2:(if i=j then f n else f i)=(if k=j then f n else f k):=e2
     split at e2
     ·split at e2
      ·omega
      ·have:=hi n k (by omega) (by omega) e2;omega
     ·split at e2
      ·have:=hi i n (by omega) (by omega) e2;omega
      ·exact hi i k (by omega) (by omega) e2)
   have hu:=TA hc ha (z:=z) (fun k=>g (f k)) (g (f n)) j n (by omega)
   rw [fo,fo,← ih,← hu,e]
   congr 1
   exact r8 fun k hk=>by split <;>rfl
theorem int_cop {m x y:Int} (h:m∣x*y) (hg:Int.gcd x m=1):m∣y:=by
 rw [← axf,Int.natAbs_mul] at h
 rw [← axf]
 exact Nat.Coprime.dvd_of_dvd_mul_left (Nat.Coprime.symm hg) h
def su (f:Nat→Nat) (n:Nat):Nat:=fo asI 0 f n
def pd (f:Nat→Int) (n:Nat):Int:=fo (fun x y=>x*y) 1 f n
theorem wF (f:Nat→Nat) (n:Nat):su f (n+1)=su f n+f n:=rfl
theorem uq (f:Nat→Int) (n:Nat):pd f (n+1)=pd f n*f n:=rfl
theorem wW {f g:Nat→Nat} {n:Nat} (h:∀ k,k<n→f k=g k):su f n=su g n:=r8 h
theorem KK {f g:Nat→Int} {n:Nat} (h:∀ k,k<n→f k=g k):pd f n=pd g n:=r8 h
theorem v9 (f g:Nat→Nat):∀ n,su (fun k=>f k+g k) n=su f n+su g n
 | 0=>rfl
 | n+1=>by rw [wF,wF,wF,v9 f g n];omega
theorem xj (a:Nat):∀ n,su (fun _=>a) n=n*a
 | 0=>by rw [Nat.zero_mul];rfl
 | n+1=>by rw [wF,xj a n,Nat.succ_mul]
theorem N1 (f:Nat→Nat→Nat) (m:Nat):∀ n,su (fun i=>su (fun j=>f i j) m) n=su (fun j=>su (fun i=>f i j) n) m
 | 0=>by
  rw [show su (fun j=>su (fun i=>f i j) 0) m=su (fun _=>0) m from rfl,xj,aw9];rfl
 | n+1=>by
  rw [wF,N1 f m n,← v9]
  rfl
theorem KQ (f g:Nat→Int):∀ n,pd (fun k=>f k*g k) n=pd f n*pd g n
 | 0=>rfl
 | n+1=>by rw [uq,uq,uq,KQ f g n];grind
theorem Z6 (g:Nat→Nat) {n:Nat} {f:Nat→Nat} (h:∀ k,k<n→f k<n) (hi:∀ i j,i<n→j<n→f i=f j→i=j):su (fun k=>g (f k)) n=su g n:=AW Nat.add_comm Nat.add_assoc g n f h hi
theorem MM (g:Nat→Int) {n:Nat} {f:Nat→Nat} (h:∀ k,k<n→f k<n) (hi:∀ i j,i<n→j<n→f i=f j→i=j):pd (fun k=>g (f k)) n=pd g n:=AW Int.mul_comm axc g n f h hi
def rs (h a k:Nat):Nat:=a*(k+1)%(2*h+1)
def ep (h a k:Nat):Int:=if h<rs h a k then -1 else 1
def pl (h a k:Nat):Nat:=(if h<rs h a k then 2*h+1-rs h a k else rs h a k)-1
def gs (h a:Nat):Int:=pd (ep h a) h
theorem EM (h a k:Nat):ep h a k=1∨ep h a k= -1:=by unfold ep;split <;>simp
theorem K5 {h a k:Nat} (hg:aw4 a (2*h+1)=1) (hk:k<h):0<rs h a k:=by
 apply Nat.pos_of_ne_zero
 intro e
 have hd:(2*h+1)∣a*(k+1):=axg e
 have h1:=(Nat.Coprime.symm hg).dvd_of_dvd_mul_left hd
 have:=aw7 (by omega) h1
 omega
theorem O3 (h a k:Nat):rs h a k<2*h+1:=as3 _ (by omega)
theorem Bu {h a k:Nat} (hg:aw4 a (2*h+1)=1) (hk:k<h):pl h a k<h:=by
 have h1:=K5 hg hk
 have h2:=O3 h a k
 unfold pl
 split <;>omega
theorem Aq {h a k:Nat} (hg:aw4 a (2*h+1)=1) (hk:k<h):((2*h+1:Nat):Int)∣(a:Int)*(k+1)-ep h a k*(pl h a k+1):=by
 have h1:=K5 hg hk
 have h2:=O3 h a k
 have h3:a*(k+1)=(2*h+1)*(a*(k+1) / (2*h+1))+rs h a k:=(axh _ _).symm
 have h4:(a:Int)*(k+1)=((2*h+1:Nat):Int)*((a*(k+1) / (2*h+1):Nat):Int)+(rs h a k:Int):=by
  have:((a*(k+1):Nat):Int)=(((2*h+1)*(a*(k+1) / (2*h+1))+rs h a k:Nat):Int):=congrArg _ h3
  rw [axi,awE,awE] at this
  rw [← this];simp
 rw [h4]
 unfold ep pl
 by_cases hc:h<rs h a k
 ·rw [if_pos hc,if_pos hc]
  refine ⟨((a*(k+1) / (2*h+1):Nat):Int)+1,?_⟩
  have:((2*h+1-rs h a k-1:Nat):Int)+1=((2*h+1:Nat):Int)-rs h a k:=by omega
  rw [this]
  grind
 ·rw [if_neg hc,if_neg hc]
  refine ⟨((a*(k+1) / (2*h+1):Nat):Int),?_⟩
  have:((rs h a k-1:Nat):Int)+1=rs h a k:=by omega
  rw [this]
  grind
theorem Sk {h u v:Nat} {d e:Int} (hd:d=1∨d= -1) (he:e=1∨e= -1) (hu:u<h) (hv:v<h) (k:((2*h+1:Nat):Int)∣d*(u+1)-e*(v+1)):d=e∧u=v:=by
 obtain ⟨q,hq⟩:=k
 have hb:∀ x:Int,((2*h+1:Nat):Int)*q=x→-(2*h+1:Int)<x→x<2*h+1→x=0:=fun x hx h1 h2=>by
  have h0:q=0:=by
   rcases Int.lt_trichotomy q 0 with hq | hq | hq
   ·have:((2*h+1:Nat):Int)*q≤((2*h+1:Nat):Int)* -1:=axj (by omega) (by omega)
    omega
   ·exact hq
   ·have:((2*h+1:Nat):Int)*1≤((2*h+1:Nat):Int)*q:=axj (by omega) (by omega)
    omega
  rw [← hx,h0,Int.mul_zero]
 rcases hd with rfl | rfl <;>rcases he with rfl | rfl
 ·have:=hb _ hq.symm (by omega) (by omega);omega
 ·have:=hb _ hq.symm (by omega) (by omega);omega
 ·have:=hb _ hq.symm (by omega) (by omega);omega
 ·have:=hb _ hq.symm (by omega) (by omega);omega
theorem L1 {h a:Nat} (hg:aw4 a (2*h+1)=1) (i j:Nat) (hi:i<h) (hj:j<h) (e:pl h a i=pl h a j):i=j:=by
 have h1:=Aq hg hi
 have h2:=Aq hg hj
 rw [e] at h1
 have key:∃ s:Int,(s=1∨s= -1)∧((2*h+1:Nat):Int)∣(a:Int)*(1*((i:Int)+1)-s*(j+1)):=by
  rcases EM h a i with e1 | e1 <;>rcases EM h a j with e2 | e2 <;>rw [e1] at h1 <;>rw [e2] at h2
  ·refine ⟨1,.inl rfl,?_⟩
   have e:(a:Int)*(1*((i:Int)+1)-1*(j+1))=a*(i+1)-1*(pl h a j+1)-(a*(j+1)-1*(pl h a j+1)):=by grind
   rw [e];exact axk h1 h2
  ·refine ⟨-1,.inr rfl,?_⟩
   have e:(a:Int)*(1*((i:Int)+1)- -1*(j+1))=a*(i+1)-1*(pl h a j+1)+(a*(j+1)- -1*(pl h a j+1)):=by grind
   rw [e];exact axe h1 h2
  ·refine ⟨-1,.inr rfl,?_⟩
   have e:(a:Int)*(1*((i:Int)+1)- -1*(j+1))=a*(i+1)- -1*(pl h a j+1)+(a*(j+1)-1*(pl h a j+1)):=by grind
   rw [e];exact axe h1 h2
  ·refine ⟨1,.inl rfl,?_⟩
   have e:(a:Int)*(1*((i:Int)+1)-1*(j+1))=a*(i+1)- -1*(pl h a j+1)-(a*(j+1)- -1*(pl h a j+1)):=by grind
   rw [e];exact axk h1 h2
 obtain ⟨s,hs,hd⟩:=key
 have hd2:((2*h+1:Nat):Int)∣1*((i:Int)+1)-s*(j+1):=int_cop hd hg
 exact (Sk (.inl rfl) hs hi hj hd2).2
theorem Nk {a b n:Nat} (ha:aw4 a n=1) (hb:aw4 b n=1):aw4 (a*b) n=1:=Nat.Coprime.mul_left ha hb
theorem aea {h a b:Nat} (ha:aw4 a (2*h+1)=1) (hb:aw4 b (2*h+1)=1):gs h (a*b)=gs h a*gs h b:=by
 have key:∀ k,k<h→ep h (a*b) k=ep h a (pl h b k)*ep h b k:=fun k hk=>by
  have h1:=Aq hb hk
  have hp:=Bu hb hk
  have h2:=Aq ha hp
  have h3:=Aq (Nk ha hb) hk
  have h4:((2*h+1:Nat):Int)∣(a:Int)*b*(k+1)-ep h a (pl h b k)*ep h b k*(pl h a (pl h b k)+1):=by
   have e:(a:Int)*b*(k+1)-ep h a (pl h b k)*ep h b k*(pl h a (pl h b k)+1)=a*(b*(k+1)-ep h b k*(pl h b k+1))+ep h b k*(a*(pl h b k+1)-ep h a (pl h b k)*(pl h a (pl h b k)+1)):=by grind
   rw [e]
   exact axe (axl h1) (axl h2)
  rw [awE] at h3
  have h5:=axk h4 h3
  have e:(a:Int)*b*(k+1)-ep h a (pl h b k)*ep h b k*(pl h a (pl h b k)+1)-(a*b*(k+1)-ep h (a*b) k*(pl h (a*b) k+1))=ep h (a*b) k*(pl h (a*b) k+1)-ep h a (pl h b k)*ep h b k*(pl h a (pl h b k)+1):=by grind
  rw [e] at h5
  have hor:ep h a (pl h b k)*ep h b k=1∨ep h a (pl h b k)*ep h b k= -1:=by
   rcases EM h a (pl h b k) with e1 | e1 <;>rcases EM h b k with e2 | e2 <;>rw [e1,e2] <;>decide
  exact (Sk (EM _ _ _) hor (Bu (Nk ha hb) hk) (Bu ha hp) h5).1
 unfold gs
 rw [KK key,KQ,MM (ep h a) (fun k hk=>Bu hb hk) fun i j hi hj=>L1 hb i j hi hj]
theorem Ry (h a:Nat):gs h (a%(2*h+1))=gs h a:=by
 unfold gs
 refine KK fun k hk=> ?_
 have e:rs h (a%(2*h+1)) k=rs h a k:=by unfold rs;rw [Nat.mod_mul_mod]
 unfold ep
 rw [e]
theorem aeg {h a:Nat} (ha:2*h+1≤a):gs h (a-(2*h+1))=gs h a:=by
 rw [← Ry h a,← Ry h (a-_),← Nat.mod_eq_sub_mod ha]
def Q5 (n:Nat):Int:=pd (fun k=>(k:Int)+1) n
theorem Lr (a:Int) (f:Nat→Int):∀ n,pd (fun k=>a*f k) n=a ^ n*pd f n
 | 0=>by show (1:Int)=a ^ 0*1;simp
 | n+1=>by rw [uq,uq,Lr a f n,awM];grind
theorem NM {m:Int} {f g:Nat→Int} :∀ {n},(∀ k,k<n→m∣f k-g k)→m∣pd f n-pd g n
 | 0,_=>by show m∣1-1;simp
 | n+1,hk=>by
  have h1:=NM (n:=n) fun k h=>hk k (by omega)
  have h2:=hk n (by omega)
  rw [uq,uq,show pd f n*f n-pd g n*g n=(pd f n-pd g n)*f n+pd g n*(f n-g n) from by grind]
  exact axe (axd h1) (axl h2)
theorem M1 {p:Nat} (hp:Pr p):∀ n,n<p→Int.gcd (Q5 n) p=1
 | 0,_=>by show Int.gcd 1 p=1;simp
 | n+1,hn=>by
  have ih:=M1 hp n (by omega)
  have h1:aw4 (n+1) p=1:=by
   rw [axm]
   exact hp.coprime fun hd=>by have:=aw7 (by omega) hd;omega
  unfold Q5
  rw [uq]
  show aw4 (Int.natAbs (Q5 n*((n:Int)+1))) p=1
  rw [Int.natAbs_mul]
  exact Nat.Coprime.mul_left ih h1
theorem aqF {h a:Nat} (hp:Pr (2*h+1)) (ha:aw4 a (2*h+1)=1):((2*h+1:Nat):Int)∣(a:Int) ^ h-gs h a:=by
 have h1:((2*h+1:Nat):Int)∣pd (fun k=>(a:Int)*((k:Int)+1)) h-pd (fun k=>ep h a k*((pl h a k:Nat)+1:Int)) h:=NM fun k hk=>Aq ha hk
 rw [Lr,KQ,MM (fun k=>(k:Int)+1) (fun k hk=>Bu ha hk) fun i j hi hj=>L1 ha i j hi hj] at h1
 have e:(a:Int) ^ h*pd (fun k=>(k:Int)+1) h-pd (fun k=>ep h a k) h*pd (fun k=>(k:Int)+1) h=Q5 h*((a:Int) ^ h-gs h a):=by unfold Q5 gs;grind
 rw [e] at h1
 exact int_cop h1 (M1 hp h (by omega))
theorem EC (h:Nat):∀ n,n≤h→pd (ep h 2) n=if (n-h / 2)%2=0 then 1 else -1
 | 0,_=>by rw [Nat.zero_sub];rfl
 | n+1,hn=>by
  rw [uq,EC h n (by omega)]
  have e:rs h 2 n=2*(n+1):=awC (by omega)
  unfold ep
  rw [e]
  by_cases hc:h<2*(n+1)
  ·rw [if_pos hc]
   have h1:n+1-h / 2=n-h / 2+1:=by omega
   rw [h1]
   rcases axn (n-h / 2) with e1 | e1
   ·rw [if_pos e1,if_neg (by omega)];rfl
   ·rw [if_neg (by omega),if_pos (by omega)];rfl
  ·rw [if_neg hc]
   have h1:n+1-h / 2=0:=by omega
   have h2:n-h / 2=0:=by omega
   rw [h1,h2];rfl
theorem acC (h:Nat):gs h 2=if (2*h+1)%8=3∨(2*h+1)%8=5 then -1 else 1:=by
 unfold gs
 rw [EC h h (ar5 _)]
 by_cases hc:(2*h+1)%8=3∨(2*h+1)%8=5
 ·rw [if_pos hc,if_neg (by omega)]
 ·rw [if_neg hc,if_pos (by omega)]
def nu (m:Nat):Int:=if m%2=0 then 1 else -1
theorem Li (m n:Nat):nu (m+n)=nu m*nu n:=by
 have h:=Nat.add_mod m n 2
 unfold nu
 rw [h]
 rcases axn m with e1 | e1 <;>rcases axn n with e2 | e2 <;>rw [e1,e2] <;>rfl
def ng (h a k:Nat):Nat:=if h<rs h a k then 1 else 0
theorem Dh (h a:Nat):∀ n,pd (ep h a) n=nu (su (ng h a) n)
 | 0=>rfl
 | n+1=>by
  rw [uq,wF,Li,Dh h a n]
  congr 1
  unfold ep ng
  split <;>rfl
theorem Hy {f g:Nat→Nat} :∀ {n},(∀ k,k<n→f k%2=g k%2)→su f n%2=su g n%2
 | 0,_=>rfl
 | n+1,h=>by
  have h1:=Hy (n:=n) fun k hk=>h k (by omega)
  have h2:=h n (by omega)
  rw [wF,wF]
  omega
theorem K4 {h b:Nat} (ha:aw4 (2*b+1) (2*h+1)=1):gs h (2*b+1)=nu (su (fun k=>(2*b+1)*(k+1) / (2*h+1)) h):=by
 unfold gs
 rw [Dh]
 have key:∀ k,k<h→(k+1+ng h (2*b+1) k)%2=((2*b+1)*(k+1) / (2*h+1)+(pl h (2*b+1) k+1))%2:=fun k hk=>by
  have h1:=K5 ha hk
  have h2:=O3 h (2*b+1) k
  have h3:(2*b+1)*(k+1)=(2*h+1)*((2*b+1)*(k+1) / (2*h+1))+rs h (2*b+1) k:=(axh _ _).symm
  generalize (2*b+1)*(k+1) / (2*h+1)=f at h3 ⊢
  have h4:(2*b+1)*(k+1)=2*(b*(k+1))+(k+1):=by grind
  have h5:(2*h+1)*f=2*(h*f)+f:=by grind
  rw [h4,h5] at h3
  unfold ng pl
  split <;>omega
 have h1:=Hy key
 have h0:su (fun k=>pl h (2*b+1) k+1) h=su (fun k=>k+1) h:=Z6 (fun k=>k+1) (fun k hk=>Bu ha hk) fun i j hi hj=>L1 ha i j hi hj
 have e3:=v9 (fun k=>k+1) (ng h (2*b+1)) h
 have e4:=v9 (fun k=>(2*b+1)*(k+1) / (2*h+1)) (fun k=>pl h (2*b+1) k+1) h
 rw [e3,e4,h0] at h1
 unfold nu
 have:su (ng h (2*b+1)) h%2=su (fun k=>(2*b+1)*(k+1) / (2*h+1)) h%2:=by omega
 rw [this]
theorem Ce {x n:Nat} (hn:0<n):∀ m,su (fun j=>if n*(j+1)≤x then 1 else 0) m=if x / n<m then x / n else m
 | 0=>by simp;rfl
 | m+1=>by
  rw [wF,Ce hn m]
  have:n*(m+1)≤x↔m+1≤x / n:=by rw [Nat.le_div_iff_mul_le hn,asS]
  by_cases hc:n*(m+1)≤x
  ·have:=this.1 hc
   rw [if_pos hc,if_neg (by omega),if_neg (by omega)]
  ·have h1:¬ m+1≤x / n:=fun h=>hc (this.2 h)
   rw [if_neg hc]
   by_cases h2:x / n<m
   ·rw [if_pos h2,if_pos (by omega)];rfl
   ·rw [if_neg h2,if_pos (by omega)];omega
theorem aaT {h b:Nat} (ha:aw4 (2*b+1) (2*h+1)=1):su (fun k=>(2*b+1)*(k+1) / (2*h+1)) h+su (fun j=>(2*h+1)*(j+1) / (2*b+1)) b=h*b:=by
 have e1:∀ k,k<h→(2*b+1)*(k+1) / (2*h+1)=su (fun j=>if (2*h+1)*(j+1)≤(2*b+1)*(k+1) then 1 else 0) b:=fun k hk=>by
  rw [Ce (by omega)]
  split
  ·rfl
  ·rename_i hc
   have:(2*b+1)*(k+1) / (2*h+1)<b+1:=by
    rw [axo (by omega)]
    have:(2*b+1)*(k+1)≤(2*b+1)*h:=axp _ (by omega)
    grind
   omega
 have e2:∀ j,j<b→(2*h+1)*(j+1) / (2*b+1)=su (fun k=>if (2*b+1)*(k+1)≤(2*h+1)*(j+1) then 1 else 0) h:=fun j hj=>by
  rw [Ce (by omega)]
  split
  ·rfl
  ·rename_i hc
   have:(2*h+1)*(j+1) / (2*b+1)<h+1:=by
    rw [axo (by omega)]
    have:(2*h+1)*(j+1)≤(2*h+1)*b:=axp _ (by omega)
    grind
   omega
 have e3:=N1 (fun j k=>if (2*b+1)*(k+1)≤(2*h+1)*(j+1) then 1 else 0) h b
 have e4:=v9 (fun k=>su (fun j=>if (2*h+1)*(j+1)≤(2*b+1)*(k+1) then 1 else 0) b) (fun k=>su (fun j=>if (2*b+1)*(k+1)≤(2*h+1)*(j+1) then 1 else 0) b) h
 rw [wW e1,wW e2,e3,← e4,← xj b h]
 refine wW fun k hk=> ?_
 have e5:=v9 (fun j=>if (2*h+1)*(j+1)≤(2*b+1)*(k+1) then 1 else 0) (fun j=>if (2*b+1)*(k+1)≤(2*h+1)*(j+1) then 1 else 0) b
 rw [← e5,wW (g:=fun _=>1) fun j hj=> ?_,xj,anR]
 have hne:(2*h+1)*(j+1)≠(2*b+1)*(k+1):=fun e=>by
  have hd:(2*b+1)∣(2*h+1)*(j+1):=⟨k+1,e⟩
  have:=aw7 (by omega) (Nat.Coprime.dvd_of_dvd_mul_left ha hd)
  omega
 rcases Nat.lt_or_ge ((2*h+1)*(j+1)) ((2*b+1)*(k+1)) with hl | hl
 ·rw [if_pos (by omega),if_neg (by omega)]
 ·rw [if_neg (by omega),if_pos (by omega)]
theorem aqV {h b:Nat} (ha:aw4 (2*b+1) (2*h+1)=1):gs h (2*b+1)*gs b (2*h+1)=nu (h*b):=by
 have ha':aw4 (2*h+1) (2*b+1)=1:=by rw [axm];exact ha
 rw [K4 ha,K4 ha',← Li,aaT ha]
def sy (a n:Nat):Int:=gs (n / 2) a
theorem sV {n:Nat} (h:n%2=1):n=2*(n / 2)+1:=by omega
theorem sy_half {a n:Nat} (hn:n%2=1) (hg:aw4 a n=1) (ha:a%2=0):sy a n=(if n%8=3∨n%8=5 then -1 else 1)*sy (a / 2) n:=by
 have e:=sV hn
 have h2:aw4 2 n=1:=by
  rw [Nat.gcd_rec,hn];rfl
 have h3:aw4 (a / 2) n=1:=Nat.Coprime.coprime_dvd_left (Nat.div_dvd_of_dvd (axg ha)) hg
 unfold sy
 have h4:=aea (h:=n / 2) (a:=2) (b:=a / 2) (by rw [← e];exact h2) (by rw [← e];exact h3)
 rw [show 2*(a / 2)=a from by omega] at h4
 rw [h4,acC,← e]
theorem sy_sub {a n:Nat} (hn:n%2=1) (h:n≤a):sy (a-n) n=sy a n:=by
 unfold sy
 have e:=sV hn
 have:=aeg (h:=n / 2) (a:=a) (by omega)
 rwa [← e] at this
theorem aa1 (m:Nat):nu m*nu m=1:=by unfold nu;split <;>rfl
theorem aov (h a:Nat):gs h a*gs h a=1:=by unfold gs;rw [Dh];exact aa1 _
theorem sy_swap {a n:Nat} (hn:n%2=1) (ha:a%2=1) (hg:aw4 a n=1):sy a n=(if a%4=3∧n%4=3 then -1 else 1)*sy n a:=by
 have e1:=sV hn
 have e2:=sV ha
 have h:=aqV (h:=n / 2) (b:=a / 2) (by rw [← e1,← e2];exact hg)
 rw [← e1,← e2] at h
 unfold sy
 have h2:=aov (a / 2) n
 have h3:gs (n / 2) a=nu (n / 2*(a / 2))*gs (a / 2) n:=by
  rw [← h,axc,h2,Int.mul_one]
 rw [h3]
 congr 1
 unfold nu
 have hm:n / 2*(a / 2)%2=(n / 2%2)*(a / 2%2)%2:=Nat.mul_mod _ _ _
 rw [hm]
 have f1:n / 2%2=0∨n / 2%2=1:=by omega
 have f2:a / 2%2=0∨a / 2%2=1:=by omega
 rcases f1 with f1 | f1 <;>rcases f2 with f2 | f2 <;>rw [f1,f2]
 ·rw [if_pos (by decide),if_neg (by omega)]
 ·rw [if_pos (by decide),if_neg (by omega)]
 ·rw [if_pos (by decide),if_neg (by omega)]
 ·rw [if_neg (by decide),if_pos (by omega)]
theorem sy_one (a:Nat):sy a 1=1:=rfl
theorem als (a n:Nat):sy a n=1∨sy a n= -1:=by
 unfold sy gs
 rw [Dh]
 unfold nu
 split <;>simp
theorem euler_sy {p a:Nat} (hp:Pr p) (hodd:p%2=1) (ha:¬ p∣a):sy a p=1↔a ^ (p / 2)%p=1:=by
 have e:=sV hodd
 have hp':Pr (2*(p / 2)+1):=by rw [← e];exact hp
 have hg:aw4 a (2*(p / 2)+1)=1:=by rw [← e,axm];exact hp.coprime ha
 have h:=aqF hp' hg
 rw [← e] at h
 have h3:3≤p:=by have:=hp.1;omega
 unfold sy
 rcases als a p with h1 | h1
 ·refine ⟨fun _=> ?_,fun _=>h1⟩
  have h1:gs (p / 2) a=1:=h1
  rw [h1] at h
  have h4:((a ^ (p / 2):Nat):Int)%(p:Int)=1%(p:Int):=by
   rw [awD]
   exact Int.emod_eq_emod_iff_emod_sub_eq_zero.2 (axq h)
  have h5:(1:Int)%(p:Int)=1:=aw2 (by omega) (by omega)
  rw [h5] at h4
  exact_mod_cast h4
 ·have h1:gs (p / 2) a= -1:=h1
  refine ⟨fun h2=>absurd (h1.symm.trans h2) (by decide),fun h2=> ?_⟩
  rw [h1] at h
  exfalso
  have h4:((a ^ (p / 2):Nat):Int)%(p:Int)=1:=by exact_mod_cast h2
  rw [awD] at h4
  have h5:=axq h
  have h6:((a:Int) ^ (p / 2)- -1)%(p:Int)=(((a:Int) ^ (p / 2))%p+1%p)%p:=by
   rw [← Int.add_emod];congr 1
  have h7:(1:Int)%(p:Int)=1:=aw2 (by omega) (by omega)
  rw [h6,h4,h7,aw2 (by omega) (by omega)] at h5
  omega
end Go.NT
namespace Go.Proofs.YteiecapbaeajdaaGreatDoor
open Go Go.Avc
set_option linter.unusedVariables false
open Go Go.Avc Go.Proofs
set_option maxRecDepth 100000
set_option linter.unusedSimpArgs false
noncomputable section
def bE:Nat:=1552518092300708935130918131258481755631334049434514313202351194902966239949102107258669453876591642442910007680288864229150803718918046342632727613031282983744380820890196288509170691316593175367469551763119843371637221007210577919
def t7:LD:= [4294967295,4294967295,2788832800,4098638569,1650360006,3833967990,1834074693,1340159341,4066317367,808127085,3443147547,4019526067,2385773789,1363806329,991140642,34324134,2322058356,688016904,2161908945,3301335691,560513588,3373259426,4294967295,4294967295].map ae
def pP2:LD:= [4026531841,1138881939,2042196113,674490440,2172737629,3092268470,3778125865,811880050].map ae
def vq:Nat:=21888242871839275222246405745257275088548364400416034343698204186575808495617
def c8 (l:LD):Prop:=iH l∧l.length≤1000
def lY (x y:Nat):Int:=if x<y then -1 else if y<x then 1 else 0
def fV (a b:LD):Nat→List Int×Int
 | 0=>([],0)
 | i+1=>((fV a b i).1++ [(4294967296+rv a i-rv b i-(fV a b i).2)%4294967296],1-(4294967296+rv a i-rv b i-(fV a b i).2) / 4294967296)
def oK (a:LD):Nat→List Int
 | 0=>ab0 a.length 0
 | i+1=>(oK a i).set i (rv a i / 2+rv a (i+1)%2*2147483648)
def io (b:LD):Nat→List Int
 | 0=>ab0 (b.length / 4+1) 0
 | k+1=>(io b k).set ((b.length-1-k) / 4) ((io b k).getD ((b.length-1-k) / 4) 0*256+rv b (b.length-1-k))
def rZ:List Nat→Nat
 | [] =>0
 | d::l=>d+256*rZ l
def bv (l:LD):Nat:=rZ (dI l)
def Ll (b:Bool):Int:=if b then 1 else -1
def oJ (p:Nat) (x n:LD) (s:Bool) (y:Nat):Prop:=zC x∧zC n∧dv x≤p∧dv n≤p∧dv n%2=1∧aw4 (dv x) (dv n)=1∧Ll s*NT.sy (dv x) (dv n)=NT.sy y p
def aq3:Ct:= {ps:= [aK,i64],bs:= [],pre:=fun | [.r l,.i i] =>0≤i | _=>False,res:=fun | [.r l,.i i] => .ret u64 [] [.i (rv l i.toNat)] | _=>ag}
def arW:Ct:= {ps:= [aK],bs:= [],pre:=fun | [.r l] =>c8 l | _=>False,res:=fun | [.r l] => .ret aK [] [.r (bU (dv l))] | _=>ag}
def aeJ:List Dat→Ann
 | [.r l] => {cut:= [],loop:= [(2,[la 21 [(0,aK),(3,i64)] [] (fun | [.r l',.i i] =>l'=l∧0≤i∧i≤l.length∧∀ j:Nat,i≤j→rv l j=0 | _=>False) (fun | [_,.i i] =>i.toNat | _=>0)])]}
 | _=> {cut:= [],loop:= []}
def alh:Ct:= {ps:= [aK,aK],bs:= [],pre:=fun | [.r a,.r b] =>c8 a∧c8 b | _=>False,res:=fun | [.r a,.r b] => .ret i64 [] [.i (lY (dv a) (dv b))] | _=>ag}
def akW:List Dat→Ann
 | [.r a,.r b] => {cut:= [],loop:= [(2,[la 29 [(0,aK),(1,aK),(5,i64)] [] (fun | [.r a',.r b',.i i] =>a'=a∧b'=b∧-1≤i∧i≤a.length+b.length∧∀ j:Nat,i<j→rv a j=rv b j | _=>False) (fun | [_,_,.i i] =>(i+1).toNat | _=>0)])]}
 | _=> {cut:= [],loop:= []}
def ao8:Ct:= {ps:= [aK,aK],bs:= [],pre:=fun | [.r a,.r b] =>c8 a∧c8 b∧dv b≤dv a | _=>False,res:=fun | [.r a,.r b] => .ret aK [] [.r (bU (dv a-dv b))] | _=>ag}
def ajx:List Dat→Ann
 | [.r a,.r b] => {cut:= [],loop:= [(4,[la 39 [(0,aK),(1,aK),(5,.own 0),(6,u64),(7,i64)] [ow] (fun | [.r a',.r b',.i c,.i i,.r o] =>a'=a∧b'=b∧0≤i∧i≤a.length∧c=(fV a b i.toNat).2∧o=(fV a b i.toNat).1.map ae | _=>False) (fun | [_,_,_,.i i,_] =>(a.length-i).toNat | _=>0)])]}
 | _=> {cut:= [],loop:= []}
def am0:Ct:= {ps:= [aK],bs:= [],pre:=fun | [.r a] =>c8 a | _=>False,res:=fun | [.r a] => .ret aK [] [.r (bU (dv a / 2))] | _=>ag}
def ai7:List Dat→Ann
 | [.r a] => {cut:= [],loop:= [(3,[la 44 [(0,aK),(3,.own 0),(4,i64)] [ow] (fun | [.r a',.i i,.r o] =>a'=a∧0≤i∧i≤a.length∧o=(oK a i.toNat).map ae | _=>False) (fun | [_,.i i,_] =>(a.length-i).toNat | _=>0)])]}
 | _=> {cut:= [],loop:= []}
def anJ:Ct:= {ps:= [rb],bs:= [],pre:=fun | [.r b] =>jf b∧b.length≤1000 | _=>False,res:=fun | [.r b] => .ret aK [] [.r (bU (bv b))] | _=>ag}
def ak9:List Dat→Ann
 | [.r b] => {cut:= [],loop:= [(3,[la 35 [(0,rb),(3,.own 0),(4,i64)] [ow] (fun | [.r b',.i i,.r o] =>b'=b∧-1≤i∧i<b.length∧o=(io b (b.length-1-i).toNat).map ae | _=>False) (fun | [_,.i i,_] =>(i+1).toNat | _=>0)])]}
 | _=> {cut:= [],loop:= []}
def arS:Ct:= {ps:= [],bs:= [],pre:=fun _=>True,res:=fun _=> .ret (.own 0) [ow] [.r t7]}
def arg:Ct:= {ps:= [.bool],bs:= [],pre:=fun | [.b g] =>g=true | _=>False,res:=fun _=> .ret (.own 0) [ow] [.r t7]}
def aoJ:Ct:= {ps:= [],bs:= [],pre:=fun _=>True,res:=fun _=> .ret (.own 0) [ow] [.r pP2]}
def apQ:Ct:= {ps:= [aK],bs:= [],pre:=fun | [.r a] =>c8 a∧zC a∧0<dv a∧dv a<bE | _=>False,res:=fun | [.r a] => .ret .bool [] [.b (decide (NT.sy (dv a) bE=1))] | _=>ag}
def ahe:List Dat→Ann
 | [.r a] =>⟨[],[(3,[la 54 [(0,aK),(3,aK),(4,.bool)] [] (fun | [.r x,.r n,.b s] =>oJ bE x n s (dv a) | _=>False) (fun | [.r x,.r n,_] =>dv x+dv n | _=>0)])],
   [(4,[la 54 [(0,aK),(3,aK),(4,.bool)] [] (fun _=>True) jS],fun
    | [.r x0,.r n0,_] => [la 54 [(0,aK),(3,aK),(4,.bool)] [] (fun | [.r x,.r n,.b s] =>oJ bE x n s (dv a)∧0<dv x∧dv x≤dv x0∧dv n=dv n0 | _=>False) (fun | [.r x,_,_] =>dv x | _=>0)]
    | _=> [])]⟩
 | _=> {cut:= [],loop:= []}
def alm:Ct:= {ps:= [.bool,rb],bs:= [],pre:=fun | [.b g,.r b] =>g=true∧jf b∧b.length≤1000 | _=>False,res:=fun | [.b g,.r b] => .ite (decide ((b.length:Int)≠96)) (.ret (.tup [.nils,i64]) [] [.i 1]) (.ite (decide (bE≤bv b)) (.ret (.tup [.nils,i64]) [] [.i 4]) (.ret (.tup [aK,i64]) [] [.r (bU (bv b)),.i 0])) | _=>ag}
def xX (b:LD):Bool:=decide ((b.length:Int)=96)&&(decide (bv b<bE)&&(decide (bv b≠0)&&decide (NT.sy (bv b) bE=1)))
def iD (b:LD):Int:=if (b.length:Int)≠96 then 1 else if xX b=true then 0 else 4
def oE (b:LD):Int:=if (b.length:Int)≠32 then 1 else if vq≤bv b then 4 else 0
def avI:Ct:= {ps:= [rb],bs:= [],pre:=fun | [.r b] =>jf b∧b.length≤1000 | _=>False,res:=fun | [.r b] => .ret (.tup [.skip,i64]) [] [.i (iD b)] | _=>ag}
def auG:Ct:= {ps:= [rb],bs:= [],pre:=fun | [.r b] =>jf b∧b.length≤1000 | _=>False,res:=fun | [.r b] => .ret (.tup [.skip,i64]) [] [.i (oE b)] | _=>ag}
abbrev ax (a:LD):Int:=
 ↑a.length
abbrev mc (a:Int)(b:LD):Int:=
 ((b.getD a.toNat []).getD 0 (.int 0)).toInt
def ae2:Prop:=
 ∀ (a:LD) (b:Int),
 lM a→
 0≤b→
 lM a→
 bif decide (b<ax a) then
 bR b a∧b.toNat<a.length∧mc b a=rv a b.toNat
 else 0=rv a b.toNat
def Y4:ac:=ak sp9 152 (aq aq3)
def acN:Prop:=
 ∀ (a:LD),
 lM a→
 c8 a→
 lM a→
 ((a=a∧
 0≤ax a∧
 ax a≤ax a∧
 ∀ (b:Nat),ax a≤↑b→rv a b=0)∧
 True)∧
 ∀ (b:LD) (c:Int),
 lM b→
 (b=a∧0≤c∧c≤ax a∧∀ (d:Nat),c≤↑d→rv a d=0)→
 (decide ((0:Int)<c)=true→iR (c-(1:Int)))∧
 (decide ((0:Int)<c)=true→bR (c-(1:Int)) b)∧
 (decide ((0:Int)<c)=true→(c-(1:Int)).toNat<b.length)∧
 bif decide ((0:Int)<c)&&decide (((b.getD (c-(1:Int)).toNat []).getD 0 (.int 0)).toInt=0) then
 iR (c-(1:Int))∧
 (b=a∧
 0≤c-(1:Int)∧
 c-1≤ax a∧
 ∀ (d:Nat),c-1≤↑d→rv a d=0)∧
 (c-(1:Int)).toNat<c.toNat
 else
 ((0:Int)≤0∧0≤c∧c≤ax b)∧
 List.drop 0 (List.take c.toNat b)=bU (dv a)
def WP:ac:=ak Y4 110 (aq arW)
def af0:Prop:=
 ∀ (a b:LD),
 lM a→
 lM b→
 c8 a∧c8 b→
 lM a→
 lM b→
 iR (ax a+ax b)∧
 ((a=a∧
 b=b∧
 (-1:Int)≤ax a+ax b∧
 ax a+ax b≤
 ax a+ax b∧
 ∀ (c:Nat),
 ax a+ax b<↑c→
 rv a c=rv b c)∧
 True)∧
 ∀ (c d:LD) (e:Int),
 lM c→
 lM d→
 (c=a∧
 d=b∧
 (-1:Int)≤e∧
 e≤ax a+ax b∧
 ∀ (f:Nat),e<↑f→rv a f=rv b f)→
 bif decide (0≤e) then
 0≤e∧
 0≤e∧
 bif decide (rv c e.toNat<rv d e.toNat) then
 (-1:Int)=lY (dv a) (dv b)
 else
 0≤e∧
 0≤e∧
 bif decide (rv d e.toNat<rv c e.toNat) then
 1=lY (dv a) (dv b)
 else
 iR (e-(1:Int))∧
 (c=a∧
 d=b∧
 (-1:Int)≤e-(1:Int)∧
 e-1≤ax a+ax b∧
 ∀ (f:Nat),
 e-(1:Int)<↑f→rv a f=rv b f)∧
 (e-(1:Int)+1).toNat<(e+1).toNat
 else 0=lY (dv a) (dv b)
def VT:ac:=ak WP 108 (aq alh)
abbrev EU (a:LD):Prop:=
 (↑(8:Nat):Int)*ax a≤140737488355328∧ax a≤9223372036854775807
abbrev uY (a b:Int)(c d:LD):Int:=
 IntKind.u64.wrap
 (IntKind.u64.wrap (IntKind.u64.wrap ((4294967296:Int)+mc a c)-rv d a.toNat)-b)
abbrev Ae (a:Int)(b:LD):Prop:=
 (ax b-(a+1)).toNat<(ax b-a).toNat
def aix:Prop:=
 ∀ (a b:LD),
 lM a→
 lM b→
 c8 a∧
 c8 b∧dv b≤dv a→
 lM a→
 ((0:Int)≤0∧0≤ax a∧EU a)∧
 ((a=a∧
 b=b∧
 (0:Int)≤0∧
 0≤ax a∧
 0=(fV a b 0).snd∧
 [] =asv ae (fV a b 0).fst)∧
 True)∧
 ∀ (c d:LD) (e f:Int) (g:LD),
 lM c→
 lM d→
 lM g→
 c=a∧
 d=b∧
 0≤f∧
 f≤ax a∧
 e=(fV a b f.toNat).snd∧
 g=asv ae (fV a b f.toNat).fst→
 lM c→
 bif decide (f<ax c) then
 bR f c∧
 f.toNat<c.length∧
 0≤f∧
 (0≤uY f e c d∧(0:Int)<(4294967296:Int))∧
 aR (g.length+1) 8∧
 (0≤uY f e c d∧
 (0:Int)<(4294967296:Int)∧uY f e c d≤IntKind.u64.max)∧
 iR (f+1)∧
 (c=a∧
 d=b∧
 0≤f+1∧
 f+1≤ax a∧
 IntKind.u64.wrap ((1:Int)-uY f e c d / 4294967296)=
 (fV a b (f+1).toNat).snd∧
 g++ [[.int (uY f e c d%(4294967296:Int))]] =
 asv ae (fV a b (f+1).toNat).fst)∧
 Ae f a
 else
 c8 g∧
 bU (dv g)=
 bU (dv a-dv b)
def Xj:ac:=ak VT 151 (aq ao8)
abbrev nM (a:Int)(b c:LD):LD:=
 b.set a.toNat ((b.getD a.toNat []).set 0 (.int (mc a c / 2)))
def aj9:Prop:=
 ∀ (a:LD),
 lM a→
 c8 a→
 lM a→
 (0≤ax a∧
 ax a≤ax a∧EU a)∧
 ((a=a∧
 (0:Int)≤0∧
 0≤ax a∧
 ab0 (ax a).toNat [.int 0] =
 asv ae (oK a 0))∧
 True)∧
 ∀ (b:LD) (c:Int) (d:LD),
 lM b→
 lM d→
 b=a∧
 0≤c∧
 c≤ax a∧
 d=asv ae (oK a c.toNat)→
 lM b→
 bif decide (c<ax b) then
 bR c b∧
 c.toNat<b.length∧
 (0≤mc c b∧
 (0:Int)<(2:Int)∧mc c b≤IntKind.u64.max)∧
 bR c d∧
 c.toNat<d.length∧
 iR (c+1)∧
 (lM b→
 bif decide (c+1<ax b) then
 bR c (nM c d b)∧
 c.toNat<(nM c d b).length∧
 iR (c+1)∧
 bR (c+1) b∧
 (c+1).toNat<b.length∧
 (0≤((b.getD (c+1).toNat []).getD 0 (.int 0)).toInt∧(0:Int)<(2:Int))∧
 bR c (nM c d b)∧
 c.toNat<(nM c d b).length∧
 iR (c+1)∧
 (b=a∧
 0≤c+1∧
 c+1≤ax a∧
 (nM c d b).set c.toNat
 (((nM c d b).getD c.toNat []).set 0
 (.int
 (IntKind.u64.wrap
 ((((nM c d b).getD c.toNat []).getD 0
 (.int 0)).toInt+
 IntKind.u64.wrap
 (((b.getD (c+1).toNat []).getD 0 (.int 0)).toInt%(2:Int) *
 (2147483648:Int))))))=
 asv ae
 (oK a (c+1).toNat))∧
 Ae c a
 else
 iR (c+1)∧
 (b=a∧
 0≤c+1∧
 c+1≤ax a∧
 nM c d b=
 asv ae (oK a (c+1).toNat))∧
 Ae c a)
 else
 c8 d∧
 bU (dv d)=
 bU (dv a / 2)
def Wr:ac:=ak Xj 174 (aq am0)
abbrev kG (a:LD):Prop:=
 jf a∧a.length≤1000
def aeS:Prop:=
 ∀ (a:LD),
 lM a→
 kG a→
 lM a→
 (0≤ax a∧(0:Int)<(4:Int)∧ax a≤IntKind.i64.max)∧
 iR (ax a / 4+1)∧
 (0≤ax a / 4+1∧
 ax a / 4+1≤ax a / 4+1∧
 (↑(8:Nat):Int)*(ax a / 4+1)≤140737488355328∧
 ax a / 4+1≤9223372036854775807)∧
 (lM a→
 iR (ax a-(1:Int))∧
 ((a=a∧
 (-1:Int)≤ax a-(1:Int)∧
 ax a-(1:Int)<ax a∧
 ab0 (ax a / 4+1).toNat [.int 0] =
 asv ae
 (io a
 (ax a-(1:Int)-(ax a-(1:Int))).toNat))∧
 True)∧
 ∀ (b:LD) (c:Int) (d:LD),
 lM b→
 lM d→
 b=a∧
 (-1:Int)≤c∧
 c<ax a∧
 d=
 asv ae
 (io a (ax a-(1:Int)-c).toNat)→
 bif decide (0≤c) then
 (0≤c∧(0:Int)<(4:Int)∧c≤IntKind.i64.max)∧
 (0≤c∧(0:Int)<(4:Int)∧c≤IntKind.i64.max)∧
 bR (c / 4) d∧
 (c / 4).toNat<d.length∧
 bR c b∧
 c.toNat<b.length∧
 bR (c / 4) d∧
 (c / 4).toNat<d.length∧
 iR (c-(1:Int))∧
 (b=a∧
 (-1:Int)≤c-(1:Int)∧
 c-(1:Int)<ax a∧
 d.set (c / 4).toNat
 ((d.getD (c / 4).toNat []).set 0
 (.int
 (IntKind.u64.wrap
 (IntKind.u64.wrap
 (((d.getD (c / 4).toNat []).getD 0 (.int 0)).toInt*256)+
 IntKind.u64.wrap (mc c b)))))=
 asv ae
 (io a
 (ax a-(1:Int)-(c-(1:Int))).toNat))∧
 (c-(1:Int)+1).toNat<(c+1).toNat
 else
 c8 d∧
 bU (dv d)=
 bU (bv a))
def WI:ac:=ak Wr 133 (aq anJ)
abbrev qg:List CD:=
 [.int 4294967295]
abbrev mh:LD:=
 [qg,qg,[.int 2788832800],[.int 4098638569],
 [.int 1650360006],[.int 3833967990],[.int 1834074693],[.int 1340159341],
 [.int 4066317367],[.int 808127085],[.int 3443147547],[.int 4019526067],[.int 2385773789],
 [.int 1363806329],[.int 991140642],[.int 34324134],[.int 2322058356],[.int 688016904],
 [.int 2161908945],[.int 3301335691],[.int 560513588],[.int 3373259426],
 qg,qg]
def ach:Prop:=
 True→mh=mh
def VH:ac:=ak WI 173 (aq arS)
def ajy:Prop:=
 ∀ (a:Bool),a=true→bif a then True∧mh=mh else False
def Ym:ac:=ak VH 172 (aq arg)
abbrev Ac:LD:=
 [[.int 4026531841],[.int 1138881939],[.int 2042196113],[.int 674490440],[.int 2172737629],
 [.int 3092268470],[.int 3778125865],[.int 811880050]]
def afr:Prop:=
 True→Ac=Ac
def Yd:ac:=ak Ym 109 (aq aoJ)
abbrev AC (a b c:LD)(d:Bool):Prop:=
 oJ
 (1552518092300708935130918131258481755631334049434514313202351194902966239949102107258669453876591642442910007680288864229150803718918046342632727613031282983744380820890196288509170691316593175367469551763119843371637221007210577919:
 Nat)
 a b d (dv c)
abbrev fw (a:LD):Int:=
 ((a.getD 0 []).getD 0 (.int 0)).toInt
abbrev AZ (a:LD):Prop:=
 (!decide (fw a%(8:Int)=3))=true
abbrev GF (a b c d e:LD)(f:Bool):Prop:=
 (c8 a∧c8 b∧dv b≤dv a)∧
 oJ
 (1552518092300708935130918131258481755631334049434514313202351194902966239949102107258669453876591642442910007680288864229150803718918046342632727613031282983744380820890196288509170691316593175367469551763119843371637221007210577919:
 Nat)
 (bU (dv a-dv b)) b f
 (dv c)∧
 (dv (bU (dv a-dv b))).add
 (dv b) <
 (dv d).add (dv e)
def agB:Prop:=
 ∀ (a:LD),
 lM a→
 c8 a∧
 zC a∧
 0<dv a∧
 dv a <
 (1552518092300708935130918131258481755631334049434514313202351194902966239949102107258669453876591642442910007680288864229150803718918046342632727613031282983744380820890196288509170691316593175367469551763119843371637221007210577919:
 Nat)→
 True∧
 (oJ
 (1552518092300708935130918131258481755631334049434514313202351194902966239949102107258669453876591642442910007680288864229150803718918046342632727613031282983744380820890196288509170691316593175367469551763119843371637221007210577919:
 Nat)
 a mh true (dv a)∧
 True)∧
 ∀ (b c:LD) (d:Bool),
 lM b→
 lM c→
 AC b c a d→
 lM b→
 bif decide ((0:Int)<ax b) then
 ((AC b c a d∧
 0<dv b∧
 dv b≤dv b∧
 dv c=dv c)∧
 True)∧
 ∀ (e f:LD) (g:Bool),
 lM e→
 lM f→
 AC e f a g∧
 0<dv e∧
 dv e≤dv b∧
 dv f=dv c→
 bR 0 e∧
 0<e.length∧
 (0≤fw e∧(0:Int)<(2:Int))∧
 bif decide (fw e%(2:Int)=0) then
 c8 e∧
 bR 0 f∧
 0<f.length∧
 (0≤fw f∧(0:Int)<(8:Int))∧
 (AZ f→bR 0 f)∧
 (AZ f→0<f.length)∧
 (AZ f→
 0≤fw f∧(0:Int)<(8:Int))∧
 bif
 decide (fw f%(8:Int)=3) ||
 decide (fw f%(8:Int)=5) then
 (oJ
 (1552518092300708935130918131258481755631334049434514313202351194902966239949102107258669453876591642442910007680288864229150803718918046342632727613031282983744380820890196288509170691316593175367469551763119843371637221007210577919:
 Nat)
 (bU (dv e / 2)) f (!g)
 (dv a)∧
 0 <
 dv
 (bU (dv e / 2))∧
 dv
 (bU (dv e / 2))≤
 dv b∧
 dv f=dv c)∧
 dv
 (bU (dv e / 2)) <
 dv e
 else
 (oJ
 (1552518092300708935130918131258481755631334049434514313202351194902966239949102107258669453876591642442910007680288864229150803718918046342632727613031282983744380820890196288509170691316593175367469551763119843371637221007210577919:
 Nat)
 (bU (dv e / 2)) f g
 (dv a)∧
 0 <
 dv
 (bU (dv e / 2))∧
 dv
 (bU (dv e / 2))≤
 dv b∧
 dv f=dv c)∧
 dv
 (bU (dv e / 2)) <
 dv e
 else
 (c8 e∧c8 f)∧
 bif
 decide
 (lY (dv e) (dv f) <
 (0:Int)) then
 bR 0 e∧
 0<e.length∧
 (0≤fw e∧(0:Int)<(4:Int))∧
 (decide (fw e%(4:Int)=3)=true→
 bR 0 f)∧
 (decide (fw e%(4:Int)=3)=true→0<f.length)∧
 (decide (fw e%(4:Int)=3)=true→
 0≤fw f∧(0:Int)<(4:Int))∧
 bif
 decide (fw e%(4:Int)=3) &&
 decide (fw f%(4:Int)=3) then
 (c8 f∧
 c8 e∧
 dv e≤dv f)∧
 oJ
 (1552518092300708935130918131258481755631334049434514313202351194902966239949102107258669453876591642442910007680288864229150803718918046342632727613031282983744380820890196288509170691316593175367469551763119843371637221007210577919:
 Nat)
 (bU
 (dv f-dv e))
 e (!g) (dv a)∧
 (dv
 (bU
 (dv f-dv e))).add
 (dv e) <
 (dv b).add (dv c)
 else GF f e a b c g
 else GF e f a b c g
 else
 d=
 decide
 (Go.NT.sy (dv a)
 (1552518092300708935130918131258481755631334049434514313202351194902966239949102107258669453876591642442910007680288864229150803718918046342632727613031282983744380820890196288509170691316593175367469551763119843371637221007210577919:
 Nat)=
 (1:Int))
def V4:ac:=ak Yd 135 (aq apQ)
abbrev pv (a:LD):Bool:=
 decide (ax a≠96)
abbrev rJ (a:LD):Bool:=
 decide
 ((1552518092300708935130918131258481755631334049434514313202351194902966239949102107258669453876591642442910007680288864229150803718918046342632727613031282983744380820890196288509170691316593175367469551763119843371637221007210577919:
 Nat)≤
 bv a)
abbrev Gy (a:LD):Prop:=
 Miss 2 eS
def adH:Prop:=
 ∀ (a:Bool) (b:LD),
 lM b→
 a=true∧kG b→
 lM b→
 bif pv b then
 bif pv b then (1:Int)=1
 else
 bif rJ b then (1:Int)=4
 else [] =bU (bv b)∧(1:Int)=0
 else
 kG b∧
 a=true∧
 (c8 (bU (bv b))∧
 c8 mh)∧
 bif
 decide
 ((0:Int)≤
 lY
 (dv (bU (bv b)))
 (1552518092300708935130918131258481755631334049434514313202351194902966239949102107258669453876591642442910007680288864229150803718918046342632727613031282983744380820890196288509170691316593175367469551763119843371637221007210577919:
 Nat)) then
 bif pv b then (4:Int)=1
 else
 bif rJ b then (4:Int)=4
 else [] =bU (bv b)∧(4:Int)=0
 else
 bif pv b then Gy b
 else
 bif rJ b then Gy b
 else
 bU (bv b)=
 bU (bv b)∧
 (0:Int)=0
def Xe:ac:=ak V4 134 (aq alm)
def P90:Prop:=
 ∀ (a:LD),
 lM a→
 kG a→
 (true=true∧kG a)∧
 bif pv a then 1=iD a
 else
 bif rJ a then 4=iD a
 else
 lM (bU (bv a))→
 ((!decide ((↑(bU (bv a)).length:Int)=0))=true→
 c8 (bU (bv a))∧
 zC (bU (bv a))∧
 0<dv (bU (bv a))∧
 dv (bU (bv a)) <
 (1552518092300708935130918131258481755631334049434514313202351194902966239949102107258669453876591642442910007680288864229150803718918046342632727613031282983744380820890196288509170691316593175367469551763119843371637221007210577919:
 Nat))∧
 bif
 decide ((↑(bU (bv a)).length:Int)=0) ||
 !decide
 (Go.NT.sy (dv (bU (bv a)))
 (1552518092300708935130918131258481755631334049434514313202351194902966239949102107258669453876591642442910007680288864229150803718918046342632727613031282983744380820890196288509170691316593175367469551763119843371637221007210577919:
 Nat)=
 (1:Int)) then
 4=iD a
 else 0=iD a
def adb:ac:=ak Xe 90 (aq avI)
def P89:Prop:=
 ∀ (a:LD),
 lM a→
 kG a→
 lM a→
 bif decide (ax a≠32) then 1=oE a
 else
 kG a∧
 True∧
 (c8 (bU (bv a))∧
 c8 Ac)∧
 bif
 decide
 ((0:Int)≤
 lY
 (dv (bU (bv a)))
 21888242871839275222246405745257275088548364400416034343698204186575808495617) then
 4=oE a
 else 0=oE a
def ail:ac:=ak adb 89 (aq auG)
theorem Hj:∀ (i:Nat) {l:List Nat},tx l→l.getD i 0=cX l / 4294967296 ^ i%4294967296
 | 0,l,h=>by
  have:=wG h 0
  rw [kE l,asQ,axr]
  omega
 | i+1,l,h=>by
  have h0:=wG h 0
  rw [← iv,Hj i (B0 h),asR,asS (4294967296 ^ i),← axs]
  congr 2
  rw [kE l]
  omega
theorem xY:∀ {l:List Nat} {x:Nat},(∀ j,j<l.length→l.getD j 0=x / 4294967296 ^ j%4294967296)→cX l=x%4294967296 ^ l.length
 | [],x,_=>by simp [cX,axt]
 | d::l,x,h=>by
  have h0:d=x%4294967296:=by
   have:=h 0 (by simp)
   rw [asQ,axr] at this
   exact this
  have h1:=xY (l:=l) (x:=x / 4294967296) fun j hj=>by
   have:=h (j+1) (by simp;omega)
   rw [asR,asS (4294967296 ^ j),← axs] at this
   exact this
  rw [cX,h1,adC,asR,asS (4294967296 ^ l.length),Nat.mod_mul,h0]
theorem yr {l:LD} (h:iH l) (i:Nat):rv l i=((dv l / 4294967296 ^ i%4294967296:Nat):Int):=by
 rw [sN h,Hj i h.2];rfl
theorem XI {l:LD} (h:iH l):dv l<4294967296 ^ l.length:=by
 have:=LN h.2
 rwa [mO] at this
theorem JD {L:List Int} (h:∀ x∈L,0≤x∧x<4294967296):iH (L.map ae):=by
 have e:L.map ae=(L.map aw1).map sb:=by
  rw [as4]
  refine List.map_congr_left fun x hx=> ?_
  show [CD.int x] = [CD.int (x.toNat:Int)]
  rw [asa (h x hx).1]
 rw [e]
 refine aaQ fun d hd=> ?_
 obtain ⟨x,hx,rfl⟩:=List.mem_map.1 hd
 have:=h x hx
 omega
theorem MT {L:List Int} {x:Nat} (h:∀ j,j<L.length→L.getD j 0=((x / 4294967296 ^ j%4294967296:Nat):Int)):iH (L.map ae)∧dv (L.map ae)=x%4294967296 ^ L.length:=by
 have hd:iH (L.map ae):=JD fun y hy=>by
  obtain ⟨j,hj,rfl⟩:=axu hy
  have:=h j hj
  rw [ay,cH hj] at this
  have h2:x / 4294967296 ^ j%4294967296<4294967296:=as3 _ (by decide)
  simp at this
  omega
 refine ⟨hd,?_⟩
 have hl:(dI (L.map ae)).length=L.length:=by rw [mO,bp]
 have:=xY (l:=dI (L.map ae)) (x:=x) fun j hj=>by
  have h1:=sN hd j
  rw [da,h j (by rw [← hl];exact hj)] at h1
  omega
 rw [hl] at this
 exact this
theorem DX (a b:LD):∀ i,(fV a b i).1.length=i
 | 0=>rfl
 | i+1=>by rw [fV];simp [DX a b i]
theorem Ar {a b:LD} (ha:iH a) (hb:iH b):∀ i,((fV a b i).2=0∨(fV a b i).2=1)∧(∀ x∈(fV a b i).1,0≤x∧x<4294967296)
 | 0=>⟨.inl rfl,fun x hx=>by cases hx⟩
 | i+1=>by
  have ⟨h1,h2⟩:=Ar ha hb i
  have k1:=m8 ha i
  have k2:=m8 hb i
  rw [fV]
  refine ⟨by dsimp only;omega,fun x hx=> ?_⟩
  rcases List.mem_append.1 hx with hx | hx
  ·exact h2 x hx
  ·rw [List.mem_singleton] at hx
   rw [hx]
   omega
theorem Ez:∀ (l m:List Nat),cX (l++m)=cX l+4294967296 ^ l.length*cX m
 | [],m=>by simp [cX]
 | d::l,m=>by
  rw [List.cons_append,cX,Ez l m,cX,adC,asR]
  grind
def BH (L:List Int):Int:=((cX (L.map aw1):Nat):Int)
theorem UE (L:List Int) {x:Int} (hx:0≤x):BH (L++ [x])=BH L+4294967296 ^ L.length*x:=by
 unfold BH
 rw [List.map_append,Ez,bp]
 have:cX (asv aw1 [x])=x.toNat:=by show x.toNat+_*0=_;omega
 rw [this,axi,awE,awD,asa hx]
 rfl
theorem W0 (x i:Nat):((x%4294967296 ^ (i+1):Nat):Int)=((x%4294967296 ^ i:Nat):Int)+4294967296 ^ i*((x / 4294967296 ^ i%4294967296:Nat):Int):=by
 rw [axv,axi,awE,awD]
 rfl
theorem R1 {a b:LD} (ha:iH a) (hb:iH b):∀ i,BH (fV a b i).1+((dv b%4294967296 ^ i:Nat):Int)=((dv a%4294967296 ^ i:Nat):Int)+(fV a b i).2*4294967296 ^ i
 | 0=>by simp [fV,BH,cX,axt]
 | i+1=>by
  have ih:=R1 ha hb i
  have ⟨h1,_⟩:=Ar ha hb i
  have k1:=m8 ha i
  have k2:=m8 hb i
  have e1:=yr ha i
  have e2:=yr hb i
  rw [fV]
  dsimp only
  rw [UE _ (by omega),DX,W0,W0,← e1,← e2]
  generalize hs:4294967296+rv a i-rv b i-(fV a b i).2=s
  have hd:=Int.emod_add_mul_ediv s 4294967296
  generalize s%4294967296=d at hd ⊢
  generalize s / 4294967296=q at hd ⊢
  rw [awM]
  generalize (4294967296:Int) ^ i=w at ih ⊢
  generalize (fV a b i).2=c at *
  generalize BH (fV a b i).1=o at *
  generalize ((dv a%4294967296 ^ i:Nat):Int)=x at *
  generalize ((dv b%4294967296 ^ i:Nat):Int)=y at *
  have:w*d=w*(4294967296+rv a i-rv b i-c-4294967296*q):=by rw [hs,← hd];grind
  rw [this]
  grind
theorem afQ {L:List Int} (h:∀ x∈L,0≤x∧x<4294967296):BH L<4294967296 ^ L.length:=by
 have:cX (L.map aw1)<4294967296 ^ (L.map aw1).length:=LN fun d hd=>by
  obtain ⟨x,hx,rfl⟩:=List.mem_map.1 hd
  have:=h x hx
  omega
 rw [bp] at this
 have h7:((4294967296 ^ L.length:Nat):Int)=(4294967296:Int) ^ L.length:=awD ..
 unfold BH
 omega
theorem aeT {L:List Int} (h:∀ x∈L,0≤x∧x<4294967296):(dv (L.map ae):Int)=BH L:=by
 unfold dv BH dI
 rw [as4]
 rfl
theorem ahf {a b:LD} (ha:iH a) (hb:iH b) (h:dv b≤dv a):iH ((fV a b a.length).1.map ae)∧dv ((fV a b a.length).1.map ae)=dv a-dv b:=by
 have ⟨h1,h2⟩:=Ar ha hb a.length
 refine ⟨JD h2,?_⟩
 have h3:=R1 ha hb a.length
 have h4:=XI ha
 rw [awC h4,awC (awq h h4)] at h3
 have h5:=afQ h2
 rw [DX] at h5
 have h6:=aeT h2
 have h7:((4294967296 ^ a.length:Nat):Int)=(4294967296:Int) ^ a.length:=awD ..
 rcases h1 with e | e <;>rw [e] at h3 <;>omega
theorem vo (a:LD):∀ i,(oK a i).length=a.length
 | 0=>asy
 | i+1=>by rw [oK,df,vo a i]
theorem RY (a:LD):∀ i,i≤a.length→∀ j,(oK a i).getD j 0=if j<i then rv a j / 2+rv a (j+1)%2*2147483648 else 0
 | 0,_,j=>by
  rw [oK,if_neg (by omega),ay,awV]
  split <;>rfl
 | i+1,h,j=>by
  have ih:=RY a i (by omega) j
  rw [oK,ay,asX,vo]
  by_cases e:i=j
  ·subst e
   rw [if_pos rfl,if_pos (by omega),if_pos (by omega)];rfl
  ·rw [if_neg e,← ay,ih]
   by_cases h2:j<i
   ·rw [if_pos h2,if_pos (by omega)]
   ·rw [if_neg h2,if_neg (by omega)]
theorem aaf {a:LD} (ha:iH a):iH ((oK a a.length).map ae)∧dv ((oK a a.length).map ae)=dv a / 2:=by
 have h:=MT (L:=oK a a.length) (x:=dv a / 2) fun j hj=>by
  rw [vo] at hj
  rw [RY a _ (ar5 _),if_pos hj,yr ha,yr ha,asR,← axs,axs (dv a) 2,asS 2,← axs]
  omega
 refine ⟨h.1,?_⟩
 rw [h.2,vo]
 exact awC (awq (axw _ _) (XI ha))
theorem SK {a b:LD} (ha:iH a) (hb:iH b) {i:Nat} (h:∀ j:Nat,(i:Int)<j→rv a j=rv b j) (hl:rv a i<rv b i):dv a<dv b:=by
 refine Mm i ha.2 hb.2 (fun j hj=> ?_) ?_
 ·have:=h j (by omega)
  rw [sN ha,sN hb] at this
  omega
 ·rw [sN ha,sN hb] at hl
  omega
theorem aj1 {a b:LD} (ha:iH a) (hb:iH b) (h:∀ j:Nat,rv a j=rv b j):dv a=dv b:=by
 refine FT (max (dI a).length (dI b).length) (by omega) (by omega) fun j=> ?_
 have:=h j
 rw [sN ha,sN hb] at this
 omega
theorem LS:∀ (l:List Nat) (n:Nat),n<l.length→rZ (l.drop n)=l.getD n 0+256*rZ (l.drop (n+1))
 | [],n,h=>by simp at h
 | d::l,0,_=>rfl
 | d::l,n+1,h=>by
  rw [axx,axx,LS l n (by simpa using h)]
  rfl
theorem Mv:∀ (l:List Nat),(∀ d∈l,d<256)→∀ n,rZ (l.drop n)=rZ l / 256 ^ n
 | l,h,0=>by rw [List.drop_zero,asQ,axr]
 | [],h,n+1=>by rw [List.drop_nil];simp [rZ]
 | d::l,h,n+1=>by
  have h1:=h d (awp ..)
  rw [axx,Mv l (fun x hx=>h x (awo _ hx)) n,asR,asS (256 ^ n),← axs]
  congr 1
  rw [rZ]
  omega
theorem JJ:∀ {l:List Nat},(∀ d∈l,d<256)→rZ l<256 ^ l.length
 | [],_=>by decide
 | d::l,h=>by
  have h1:=JJ fun x hx=>h x (awo _ hx)
  have h2:=h d (awp ..)
  rw [rZ,adC,asR]
  omega
theorem uE (b:LD):∀ k,(io b k).length=b.length / 4+1
 | 0=>asy
 | k+1=>by rw [io,df,uE b k]
theorem HF (l:LD) (i:Nat):(dI l).getD i 0=(rv l i).toNat:=by
 unfold dI rv
 rw [ay (l:=l.map _),eW,ay (l:=l)]
 cases l[i]? <;>rfl
theorem zU {l:LD} (h:av l):∀ d∈dI l,d<256:=fun d hd=>by
 obtain ⟨i,hi,rfl⟩:=axu hd
 have h1:=HF l i
 rw [ay,cH hi] at h1
 have h2:=h i
 simp at h1
 omega
theorem JH {b:LD} (hb:av b):∀ k,k≤b.length→∀ j,j<b.length / 4+1→
  (io b k).getD j 0=((rZ ((dI b).drop (max (4*j) (b.length-k)))%256 ^ (4*j+4-max (4*j) (b.length-k)):Nat):Int)
 | 0,_,j,_=>by
  rw [io,List.drop_of_length_le (by rw [mO];omega),ay,awV]
  show _=(((0%_:Nat)):Int)
  rw [Nat.zero_mod]
  split <;>rfl
 | k+1,h,j,hj=>by
  have ih:=fun j hj=>JH hb k (by omega) j hj
  obtain ⟨n,hn⟩:∃ n,n=b.length-1-k:=⟨_,rfl⟩
  have e1:b.length-k=n+1:=by omega
  have e2:b.length-(k+1)=n:=by omega
  rw [io,← hn,e2,ay,asX,uE]
  rw [e1] at ih
  by_cases e:n / 4=j
  ·rw [if_pos e,if_pos (by omega)]
   show (io b k).getD (n / 4) 0*256+rv b n=_
   rw [ih (n / 4) (by omega),e,axy (show 4*j≤n+1 by omega),axy (show 4*j≤n by omega),show 4*j+4-n=(4*j+4-(n+1))+1 from by omega,
    LS (dI b) n (by rw [mO];omega),HF,asR,asS (256 ^ _),Nat.mod_mul]
   have hr:=hb n
   generalize rZ ((dI b).drop (n+1))=X
   have f1:((rv b n).toNat+256*X)%256=(rv b n).toNat:=by omega
   have f2:((rv b n).toNat+256*X) / 256=X:=by omega
   rw [f1,f2]
   omega
  ·rw [if_neg e,← ay,ih j hj]
   by_cases h2:n+1≤4*j
   ·rw [axz h2,axz (show n≤4*j by omega)]
   ·rw [show 4*j+4-max (4*j) (n+1)=0 from by omega,show 4*j+4-max (4*j) n=0 from by omega,asQ,axt,axt]
theorem TS {b:LD} (hb:av b):iH ((io b b.length).map ae)∧dv ((io b b.length).map ae)=bv b:=by
 have hp:∀ j,(256:Nat) ^ (4*j)=4294967296 ^ j:=fun j=>by rw [Nat.pow_mul]
 have h:=MT (L:=io b b.length) (x:=bv b) fun j hj=>by
  rw [uE] at hj
  rw [JH hb _ (ar5 _) j hj,as7,axz (Nat.zero_le _),show 4*j+4-4*j=4 from by omega,Mv _ (zU hb),hp]
  rfl
 refine ⟨h.1,?_⟩
 rw [h.2,uE]
 refine awC ?_
 have h1:=JJ (zU hb)
 rw [mO] at h1
 rw [← hp]
 exact Nat.lt_of_lt_of_le h1 (Nat.pow_le_pow_right (by decide) (by omega))
end
end Go.Proofs.YteiecapbaeajdaaGreatDoor
namespace Go.NT
set_option linter.unusedVariables false
@[ext] structure C7 where
 a0:Int
 a1:Int
 a2:Int
 a3:Int
 a4:Int
 a5:Int
 a6:Int
namespace C7
def add (x y:C7):C7:=⟨x.a0+y.a0,x.a1+y.a1,x.a2+y.a2,x.a3+y.a3,x.a4+y.a4,x.a5+y.a5,x.a6+y.a6⟩
def neg (x:C7):C7:=⟨-x.a0,-x.a1,-x.a2,-x.a3,-x.a4,-x.a5,-x.a6⟩
def c (n:Int):C7:=⟨n,0,0,0,0,0,0⟩
def sc (n:Int) (x:C7):C7:=⟨n*x.a0,n*x.a1,n*x.a2,n*x.a3,n*x.a4,n*x.a5,n*x.a6⟩
def mul (x y:C7):C7:=
 ⟨x.a0*y.a0+x.a1*y.a6+x.a2*y.a5+x.a3*y.a4+x.a4*y.a3+x.a5*y.a2+x.a6*y.a1,
  x.a0*y.a1+x.a1*y.a0+x.a2*y.a6+x.a3*y.a5+x.a4*y.a4+x.a5*y.a3+x.a6*y.a2,
  x.a0*y.a2+x.a1*y.a1+x.a2*y.a0+x.a3*y.a6+x.a4*y.a5+x.a5*y.a4+x.a6*y.a3,
  x.a0*y.a3+x.a1*y.a2+x.a2*y.a1+x.a3*y.a0+x.a4*y.a6+x.a5*y.a5+x.a6*y.a4,
  x.a0*y.a4+x.a1*y.a3+x.a2*y.a2+x.a3*y.a1+x.a4*y.a0+x.a5*y.a6+x.a6*y.a5,
  x.a0*y.a5+x.a1*y.a4+x.a2*y.a3+x.a3*y.a2+x.a4*y.a1+x.a5*y.a0+x.a6*y.a6,
  x.a0*y.a6+x.a1*y.a5+x.a2*y.a4+x.a3*y.a3+x.a4*y.a2+x.a5*y.a1+x.a6*y.a0⟩
def pow (x:C7):Nat→C7
 | 0=>c 1
 | n+1=>mul (pow x n) x
theorem ky (x y:C7):add x y=add y x:=by unfold add;ext <;>exact Int.add_comm _ _
theorem Dp (x y z:C7):add (add x y) z=add x (add y z):=by unfold add;ext <;>exact Int.add_assoc _ _ _
theorem fL (x:C7):add x (c 0)=x:=by unfold add c;ext <;>exact Int.add_zero _
theorem Vd (x:C7):add (neg x) x=c 0:=by unfold add c neg;ext <;>exact Int.add_left_neg _
theorem ir (x y:C7):mul x y=mul y x:=by unfold mul;ext <;>dsimp only <;>grind
theorem iP (x:C7):mul x (c 1)=x:=by unfold mul c;ext <;>dsimp only <;>grind
theorem iA (x:C7):mul x (c 0)=c 0:=by unfold mul c;ext <;>dsimp only <;>grind
theorem Zk (x y z:C7):mul x (add y z)=add (mul x y) (mul x z):=by unfold mul add;ext <;>dsimp only <;>grind
theorem Qj (x y z:C7):mul (mul x y) z=mul x (mul y z):=by unfold mul;ext <;>dsimp only <;>grind
end C7
open C7
theorem alW (m n:Int):c (m+n)=add (c m) (c n):=by unfold c add;ext <;>simp
def iG (f:Nat→C7):Nat→C7
 | 0=>c 0
 | n+1=>add (iG f n) (f n)
instance:Add C7:=⟨add⟩
instance:Mul C7:=⟨mul⟩
instance:Neg C7:=⟨neg⟩
instance:HPow C7 Nat C7:=⟨pow⟩
instance:Std.Associative (α:=C7) (· + ·):=⟨Dp⟩
instance:Std.Commutative (α:=C7) (· + ·):=⟨ky⟩
instance:Std.Associative (α:=C7) (· * ·):=⟨Qj⟩
instance:Std.Commutative (α:=C7) (· * ·):=⟨ir⟩
theorem mR (x y z:C7):x*(y+z)=x*y+x*z:=Zk x y z
theorem Ld (x y z:C7):(x+y)*z=x*z+y*z:=by
 show mul (add x y) z=add (mul x z) (mul y z)
 rw [ir,Zk,ir z x,ir z y]
theorem Nq (f g:Nat→C7):∀ n,iG (fun j=>f j+g j) n=iG f n+iG g n
 | 0=>by show c 0=c 0+c 0;exact (fL _).symm
 | n+1=>by
  show iG (fun j=>f j+g j) n+(f n+g n)=(iG f n+f n)+(iG g n+g n)
  rw [Nq f g n]
  ac_rfl
theorem GG (a:C7) (f:Nat→C7):∀ n,iG (fun j=>a*f j) n=a*iG f n
 | 0=>(iA a).symm
 | n+1=>by
  show iG (fun j=>a*f j) n+a*f n=a*(iG f n+f n)
  rw [GG a f n,mR]
theorem tV (f:Nat→C7):∀ n,iG f (n+1)=f 0+iG (fun j=>f (j+1)) n
 | 0=>by show c 0+f 0=f 0+c 0;exact ky _ _
 | n+1=>by
  show iG f (n+1)+f (n+1)=f 0+(iG (fun j=>f (j+1)) n+f (n+1))
  rw [tV f n]
  ac_rfl
theorem GW {f g:Nat→C7} :∀ {n},(∀ j,j<n→f j=g j)→iG f n=iG g n
 | 0,_=>rfl
 | n+1,h=>by
  show iG f n+f n=iG g n+g n
  rw [GW fun j hj=>h j (by omega),h n (by omega)]
theorem ED (m n:Int):c (m*n)=c m*c n:=by
 show c (m*n)=mul (c m) (c n)
 unfold c mul;ext <;>simp
theorem EB (m n:Int):c (m+n)=c m+c n:=alW m n
def hH (a b:C7) (n k:Nat):C7:=c (ch n k)*(a ^ (n-k)*b ^ k)
theorem jI (a:C7) (n:Nat):a ^ (n+1)=a ^ n*a:=rfl
theorem Bi (a:C7):a ^ 0=c 1:=rfl
theorem lH (a:C7):c 1*a=a:=(ir _ _).trans (iP a)
theorem Dv (a:C7):c 0*a=c 0:=(ir _ _).trans (iA a)
theorem aqf (a b:C7) (n:Nat):hH a b (n+1) 0=a*hH a b n 0:=by
 unfold hH
 rw [xC,xC,axb,axb,jI,Bi]
 show c 1*_=a*(c 1*_)
 rw [lH,lH]
 ac_rfl
theorem zT (a b:C7) (n k:Nat) (h:n<k):hH a b n k=c 0:=by
 unfold hH
 rw [pV n k h]
 exact Dv _
theorem apT (a b:C7) (n k:Nat):hH a b (n+1) (k+1)=a*hH a b n (k+1)+b*hH a b n k:=by
 by_cases h:k<n
 ·unfold hH
  obtain ⟨m,rfl⟩:∃ m,n=k+1+m:=⟨n-(k+1),by omega⟩
  rw [show k+1+m+1-(k+1)=m+1 from by omega,show k+1+m-(k+1)=m from by omega,show k+1+m-k=m+1 from by omega]
  rw [show ch (k+1+m+1) (k+1)=ch (k+1+m) k+ch (k+1+m) (k+1) from rfl,axi,EB,jI,jI,Ld]
  have e1:c (ch (k+1+m) k)*(a ^ m*a*(b ^ k*b))=b*(c (ch (k+1+m) k)*(a ^ m*a*b ^ k)):=by ac_rfl
  have e2:c (ch (k+1+m) (k+1))*(a ^ m*a*(b ^ k*b))=a*(c (ch (k+1+m) (k+1))*(a ^ m*(b ^ k*b))):=by ac_rfl
  rw [e1,e2]
  exact ky _ _
 ·by_cases h2:n<k
  ·rw [zT _ _ _ _ (by omega),zT _ _ _ _ (by omega),zT _ _ _ _ h2]
   show c 0=mul a (c 0)+mul b (c 0)
   rw [iA,iA]
   exact (fL _).symm
  ·have:n=k:=by omega
   subst this
   rw [zT a b n (n+1) (by omega)]
   unfold hH
   rw [show ch (n+1) (n+1)=ch n n+ch n (n+1) from rfl,pV n (n+1) (by omega),Nat.add_zero,as7,as7,jI,Bi]
   show _=mul a (c 0)+_
   rw [iA]
   show _=c 0+b*(c (ch n n)*(c 1*b ^ n))
   have:∀ x,c 0+x=x:=fun x=>(ky _ _).trans (fL x)
   rw [this,lH,lH]
   ac_rfl
theorem Ww (a b:C7):∀ n,(a+b) ^ n=iG (hH a b n) (n+1)
 | 0=>by
  show c 1=add (c 0) (mul (c 1) (mul (c 1) (c 1)))
  rw [iP,iP,ky,fL]
 | n+1=>by
  rw [tV,aqf,GW (g:=fun k=>a*hH a b n (k+1)+b*hH a b n k) fun k _=>apT a b n k,Nq,GG,GG,jI,Ww a b n]
  have h:=tV (hH a b n) (n+1)
  have h2:iG (hH a b n) (n+1+1)=iG (hH a b n) (n+1)+hH a b n (n+1):=rfl
  rw [zT a b n (n+1) (by omega)] at h2
  have h3:iG (hH a b n) (n+1)+c 0=iG (hH a b n) (n+1):=fL _
  rw [h3] at h2
  rw [h2] at h
  generalize iG (fun j=>hH a b n (j+1)) (n+1)=u at h ⊢
  generalize iG (hH a b n) (n+1)=v at h ⊢
  generalize hH a b n 0=w at h ⊢
  rw [h,mR,show (w+u)*a=a*(w+u) from ir _ _,mR,show (w+u)*b=b*(w+u) from ir _ _]
  ac_rfl
def Cg (m:Nat) (x y:C7):Prop:=∃ z,x=y+c m*z
theorem Cg.refl (m:Nat) (x:C7):Cg m x x:=⟨c 0,by
 show x=add x (mul (c m) (c 0))
 rw [iA,fL]⟩
theorem Cg.symm {m:Nat} {x y:C7} (h:Cg m x y):Cg m y x:=by
 obtain ⟨z,rfl⟩:=h
 refine ⟨-z,?_⟩
 have h:c m*z+c m*(-z)=c 0:=by
  rw [← mR,show z+ -z=c 0 from (ky _ _).trans (Vd z)]
  exact iA _
 rw [show y+c m*z+c m*(-z)=y+(c m*z+c m*(-z)) from Dp _ _ _,h]
 exact (fL y).symm
theorem Cg.trans {m:Nat} {x y z:C7} (h:Cg m x y) (k:Cg m y z):Cg m x z:=by
 obtain ⟨u,rfl⟩:=h
 obtain ⟨v,rfl⟩:=k
 exact ⟨u+v,by rw [mR];ac_rfl⟩
theorem Cg.mul {m:Nat} {x y u v:C7} (h:Cg m x y) (k:Cg m u v):Cg m (x*u) (y*v):=by
 obtain ⟨a,rfl⟩:=h
 obtain ⟨b,rfl⟩:=k
 exact ⟨y*b+a*v+c m*a*b,by simp only [mR,Ld];ac_rfl⟩
theorem Cg.add {m:Nat} {x y u v:C7} (h:Cg m x y) (k:Cg m u v):Cg m (x+u) (y+v):=by
 obtain ⟨a,rfl⟩:=h
 obtain ⟨b,rfl⟩:=k
 exact ⟨a+b,by rw [mR];ac_rfl⟩
theorem Cg.pow {m:Nat} {x y:C7} (h:Cg m x y):∀ n:Nat,Cg m (x ^ n) (y ^ n)
 | 0=>Cg.refl m _
 | n+1=>(Cg.pow h n).mul h
theorem Cg.of_dvd {m n:Nat} {x y:C7} (h:Cg n x y) (hd:m∣n):Cg m x y:=by
 obtain ⟨z,rfl⟩:=h
 obtain ⟨k,rfl⟩:=hd
 refine ⟨c k*z,?_⟩
 rw [awE,ED]
 show _+_*_*_=_+_*(_*_)
 ac_rfl
theorem SP {m:Nat} {f:Nat→C7} :∀ {n},(∀ j,j<n→Cg m (f j) (c 0))→Cg m (iG f n) (c 0)
 | 0,_=>Cg.refl m _
 | n+1,h=>by
  have:=(SP (n:=n) fun j hj=>h j (by omega)).add (h n (by omega))
  rwa [show c 0+c 0=c 0 from fL _] at this
theorem AF {p:Nat} (hp:Pr p) (a b:C7):Cg p ((a+b) ^ p) (a ^ p+b ^ p):=by
 obtain ⟨q,rfl⟩:∃ q,p=q+1:=⟨p-1,by have:=hp.1;omega⟩
 rw [Ww]
 show Cg (q+1) (iG (hH a b (q+1)) (q+1)+hH a b (q+1) (q+1)) _
 rw [tV]
 have h0:hH a b (q+1) 0=a ^ (q+1):=by
  unfold hH
  rw [xC,axb,Bi]
  show c 1*(_*c 1)=_
  rw [lH]
  exact iP _
 have hcc:∀ n,ch n n=1:=fun n=>by
  induction n with
  | zero=>rfl
  | succ n ih=>rw [show ch (n+1) (n+1)=ch n n+ch n (n+1) from rfl,pV n (n+1) (by omega),ih]
 have h1:hH a b (q+1) (q+1)=b ^ (q+1):=by
  unfold hH
  rw [hcc,as7,Bi]
  show c 1*(c 1*_)=_
  rw [lH,lH]
 rw [h0,h1]
 have h2:Cg (q+1) (iG (fun j=>hH a b (q+1) (j+1)) q) (c 0):=SP fun j hj=>by
  obtain ⟨k,hk⟩:=Ys hp (k:=j+1) (by omega) (by omega)
  refine ⟨c k*(a ^ (q+1-(j+1))*b ^ (j+1)),?_⟩
  unfold hH
  rw [hk,awE,ED]
  have:∀ x,c 0+x=x:=fun x=>(ky _ _).trans (fL x)
  rw [this]
  ac_rfl
 have h3:=((Cg.refl (q+1) (a ^ (q+1))).add h2).add (Cg.refl (q+1) (b ^ (q+1)))
 rwa [show a ^ (q+1)+c 0=a ^ (q+1) from fL _] at h3
end Go.NT
namespace Go.NT
set_option linter.unusedVariables false
open C7
def X:C7:=⟨0,1,0,0,0,0,0⟩
theorem tq:∀ n:Nat,(c 1) ^ n=c 1
 | 0=>rfl
 | n+1=>by rw [jI,tq n];exact iP _
theorem kM (x:C7) (m:Nat):∀ n:Nat,x ^ (m+n)=x ^ m*x ^ n
 | 0=>(iP _).symm
 | n+1=>by rw [← Nat.add_assoc,jI,kM x m n,jI];ac_rfl
theorem fx (x:C7) (m:Nat):∀ n:Nat,x ^ (m*n)=(x ^ m) ^ n
 | 0=>rfl
 | n+1=>by rw [Nat.mul_succ,kM,fx x m n,jI]
theorem CQ (x y:C7):∀ n:Nat,(x*y) ^ n=x ^ n*y ^ n
 | 0=>(iP _).symm
 | n+1=>by rw [jI,CQ x y n,jI,jI];ac_rfl
theorem H1 (a:Int):∀ n:Nat,(c a) ^ n=c (a ^ n)
 | 0=>by rw [Bi,Int.pow_zero]
 | n+1=>by rw [jI,H1 a n,awM,ED]
theorem X7:X ^ 7=c 1:=rfl
theorem nV (n:Nat):X ^ n=X ^ (n%7):=by
 have h:n=7*(n / 7)+n%7:=(axh n 7).symm
 rw [h,kM,fx,X7,tq,lH,← h]
def sub (k:Nat) (x:C7):C7:=c x.a0+c x.a1*X ^ k+c x.a2*X ^ (2*k)+c x.a3*X ^ (3*k)+c x.a4*X ^ (4*k)+c x.a5*X ^ (5*k)+c x.a6*X ^ (6*k)
theorem MV (k:Nat) (x:C7):sub k x=sub (k%7) x:=by
 unfold sub
 rw [nV k,nV (2*k),nV (3*k),nV (4*k),nV (5*k),nV (6*k),nV (2*(k%7)),nV (3*(k%7)),nV (4*(k%7)),nV (5*(k%7)),nV (6*(k%7))]
 rw [axA,axA,axA,axA,axA]
theorem aaH (x y:C7):x+y=add x y:=rfl
theorem UQ (x y:C7):x*y=mul x y:=rfl
theorem x1:X ^ 1=⟨0,1,0,0,0,0,0⟩:=rfl
theorem x2:X ^ 2=⟨0,0,1,0,0,0,0⟩:=rfl
theorem x3:X ^ 3=⟨0,0,0,1,0,0,0⟩:=rfl
theorem x4:X ^ 4=⟨0,0,0,0,1,0,0⟩:=rfl
theorem x5:X ^ 5=⟨0,0,0,0,0,1,0⟩:=rfl
theorem x6:X ^ 6=⟨0,0,0,0,0,0,1⟩:=rfl
theorem MD (x:C7):sub 1 x=x:=by
 unfold sub
 rw [x1,show X ^ (2*1)=_ from x2,show X ^ (3*1)=_ from x3,show X ^ (4*1)=_ from x4,show X ^ (5*1)=_ from x5,show X ^ (6*1)=_ from x6]
 simp only [aaH,UQ]
 unfold add mul c
 ext <;>dsimp only <;>grind
def sg (x:C7):C7:=⟨x.a0,x.a3,x.a6,x.a2,x.a5,x.a1,x.a4⟩
theorem qv (x y:C7):sg (x*y)=sg x*sg y:=by
 show sg (mul x y)=mul (sg x) (sg y)
 unfold sg mul
 ext <;>dsimp only <;>grind
theorem sQ (x y:C7):sg (x+y)=sg x+sg y:=rfl
theorem Ag (n:Int):sg (c n)=c n:=rfl
theorem qI (x:C7):∀ n:Nat,sg (x ^ n)=sg x ^ n
 | 0=>rfl
 | n+1=>by rw [jI,qv,qI x n,jI]
theorem Cg.sg {m:Nat} {x y:C7} (h:Cg m x y):Cg m (sg x) (sg y):=by
 obtain ⟨z,rfl⟩:=h
 exact ⟨NT.sg z,by rw [sQ,qv,Ag]⟩
def G6 (x:C7):Nat→C7
 | 0=>x
 | n+1=>sg (G6 x n)
theorem af4 (k:Nat) (x:C7):sg (sub k x)=sub (5*k) x:=by
 have hX:sg X=X ^ 5:=rfl
 unfold sub
 rw [sQ,sQ,sQ,sQ,sQ,sQ,qv,qv,qv,qv,qv,qv,Ag,Ag,Ag,Ag,Ag,Ag,Ag,qI,qI,qI,qI,qI,qI,hX,
  ← fx,← fx,← fx,← fx,← fx,← fx,
  show 5*(2*k)=2*(5*k) from by omega,show 5*(3*k)=3*(5*k) from by omega,show 5*(4*k)=4*(5*k) from by omega,show 5*(6*k)=6*(5*k) from by omega]
theorem Oa (x:C7):∀ i:Nat,sub (5 ^ i) x=G6 x i
 | 0=>MD x
 | i+1=>by rw [asR,asS,← af4,Oa x i];rfl
theorem Co {p K:Nat} (hp:Pr p) (hK:p=2*K+1) (a:Int):Cg p (c (a ^ p)) (c a):=by
 obtain ⟨k,hk⟩:=abh hp hK a
 refine ⟨c k,?_⟩
 rw [← ED,← hk,← EB]
 congr 1
 omega
theorem oX {p K:Nat} (hp:Pr p) (hK:p=2*K+1) (a:Int) (i:Nat):Cg p ((c a*X ^ i) ^ p) (c a*X ^ (i*p)):=by
 rw [CQ,H1,← fx]
 exact (Co hp hK a).mul (Cg.refl p _)
theorem amd {p K:Nat} (hp:Pr p) (hK:p=2*K+1) (x:C7):Cg p (x ^ p) (sub p x):=by
 have h1:Cg p (sub 1 x ^ p) (sub p x):=by
  unfold sub
  refine (AF hp _ _).trans (Cg.add ?_ (oX hp hK x.a6 6))
  refine (AF hp _ _).trans (Cg.add ?_ (oX hp hK x.a5 5))
  refine (AF hp _ _).trans (Cg.add ?_ (oX hp hK x.a4 4))
  refine (AF hp _ _).trans (Cg.add ?_ (oX hp hK x.a3 3))
  refine (AF hp _ _).trans (Cg.add ?_ (oX hp hK x.a2 2))
  refine (AF hp _ _).trans (Cg.add ?_ (by have:=oX hp hK x.a1 1;rwa [ajc] at this))
  rw [H1]
  exact Co hp hK x.a0
 rwa [MD] at h1
theorem aau {p K:Nat} (hp:Pr p) (hK:p=2*K+1) (h7:p%7≠0) (x:C7):∃ i,i<6∧Cg p (x ^ p) (G6 x i):=by
 have h:=amd hp hK x
 have key:∃ i,i<6∧5 ^ i%7=p%7:=by
  have:p%7=1∨p%7=2∨p%7=3∨p%7=4∨p%7=5∨p%7=6:=by omega
  rcases this with e | e | e | e | e | e <;>rw [e]
  ·exact ⟨0,by decide,by decide⟩
  ·exact ⟨4,by decide,by decide⟩
  ·exact ⟨5,by decide,by decide⟩
  ·exact ⟨2,by decide,by decide⟩
  ·exact ⟨1,by decide,by decide⟩
  ·exact ⟨3,by decide,by decide⟩
 obtain ⟨i,hi,e⟩:=key
 refine ⟨i,hi,?_⟩
 rw [← Oa,MV,e,← MV]
 exact h
def eC (r:Nat) (x:C7) (n:Nat):Prop:=Cg r (x ^ n) (c 1)
theorem QJ {r:Nat} {x:C7} (a b:Nat) (ha:eC r x a) (hb:eC r x b):eC r x (b%a):=by
 have h1:x ^ b=x ^ (a*(b / a))*x ^ (b%a):=by rw [← kM,axh]
 have h2:Cg r (x ^ (a*(b / a))) (c 1):=by
  rw [fx]
  have:=Cg.pow ha (b / a)
  rwa [tq] at this
 unfold eC at hb ⊢
 rw [h1] at hb
 have h3:=(h2.mul (Cg.refl r (x ^ (b%a)))).symm.trans hb
 rwa [lH] at h3
theorem KS {r:Nat} {x:C7} (a k:Nat) (ha:eC r x a):eC r x (a*k):=by
 unfold eC
 rw [fx]
 have:=Cg.pow ha k
 rwa [tq] at this
theorem W2 {N:Nat} {x:C7} (h:Cg N (x ^ N) (sg x)):∀ i:Nat,Cg N (x ^ (N ^ i)) (G6 x i)
 | 0=>by rw [asQ];exact ⟨c 0,by show mul (c 1) x=add x (mul _ (c 0));rw [iA,fL,ir,iP]⟩
 | i+1=>by
  rw [asR,fx]
  refine (Cg.pow (W2 h i) N).trans ?_
  have key:∀ i,Cg N (G6 x i ^ N) (G6 x (i+1)):=fun i=>by
   induction i with
   | zero=>exact h
   | succ i ih=>
    show Cg N (sg (G6 x i) ^ N) (sg (G6 x (i+1)))
    rw [← qI]
    exact ih.sg
  exact key i
theorem Cy {r s u v:Nat} {x:C7} (hs:0<s) (h1:eC r x s) (h:Cg r (x ^ u) (x ^ v)) (huv:u≤v):eC r x (v-u):=by
 obtain ⟨d,rfl⟩:∃ d,v=u+d:=⟨v-u,by omega⟩
 rw [Nat.add_sub_cancel_left]
 obtain ⟨t,rfl⟩:∃ t,s=t+1:=⟨s-1,by omega⟩
 have h2:=KS _ u h1
 have h3:=h.mul (Cg.refl r (x ^ (t*u)))
 rw [← kM,← kM,show u+t*u=(t+1)*u from by rw [Nat.add_mul,ajc,Nat.add_comm],show u+d+t*u=d+(t+1)*u from by rw [Nat.add_mul,ajc];omega,kM] at h3
 have h4:=(Cg.refl r (x ^ d)).mul h2
 have h5:=(h3.trans h4).symm.trans h2
 rwa [show x ^ d*c 1=x ^ d from iP _] at h5
def fZ:List (Nat×Nat)→Nat
 | [] =>1
 | (f,k)::l=>f ^ k*fZ l
def FJ:List (Nat×Nat)→Bool
 | [] =>true
 | (f,k)::l=>asM (aw4 (f ^ k) (fZ l)) 1&&FJ l
theorem GJ:∀ {l:List (Nat×Nat)} {t:Nat},FJ l=true→(∀ f k,(f,k)∈l→f ^ k∣t)→fZ l∣t
 | [],t,_,_=>Nat.one_dvd t
 | (f,k)::l,t,h,hd=>by
  rw [FJ,axB] at h
  have h1:=GJ h.2 fun f k hf=>hd f k (awo _ hf)
  exact Nat.Coprime.mul_dvd_of_dvd_of_dvd (asP h.1) (hd f k (awp ..)) h1
theorem Gh:∀ {l:List (Nat×Nat)} {f k:Nat},(f,k)∈l→f ^ k∣fZ l
 | [],_,_,h=>by cases h
 | (f,k)::l,f',k',h=>by
  rw [fZ]
  cases h with
  | head=>exact Nat.dvd_mul_right _ _
  | tail _ h=>exact aw8 (Gh h) (Nat.dvd_mul_left _ _)
theorem abe {N:Nat} {x:C7} {l:List (Nat×Nat)} (h2:2≤N) (h7:N%7=5) (hodd:N%2=1) (hc:FJ l=true) (hl:∀ f k,(f,k)∈l→Pr f)
  (h1:Cg N (x ^ fZ l) (c 1)) (hN:Cg N (x ^ N) (sg x)) (hne:∀ r,Pr r→r∣N→∀ f k,(f,k)∈l→¬ Cg r (x ^ (fZ l / f)) (c 1))
  (hbig:N<fZ l*fZ l) (hno:∀ i,i<6→N ^ i%fZ l=1∨¬ N ^ i%fZ l∣N):Pr N:=by
 refine YN h2 fun r hr hrN hsq=> ?_
 have hr2:r%2=1:=by
  rcases axn r with e | e
  ·have:2∣N:=aw8 (axg e) hrN
   omega
  ·exact e
 have hr7:r%7≠0:=fun e=>by
  have:7∣N:=aw8 (axg e) hrN
  omega
 obtain ⟨i,hi,hf⟩:=aau hr (K:=r / 2) (by omega) hr7 x
 have hv:=(W2 hN i).of_dvd hrN
 have qu:0<fZ l:=by
  rcases Nat.eq_zero_or_pos (fZ l) with e | e
  ·rw [e] at hbig;omega
  ·exact e
 have hone:eC r x (fZ l):=h1.of_dvd hrN
 have main:∀ t,eC r x t→fZ l∣t:=fun t ht=>GJ hc fun f k hm=>
  NS (e:=eC r x) (fun a b=>QJ a b) (fun a k=>KS a k) (hl f k hm) hone (Gh hm) ht (hne r hr hrN f k hm)
 have hcg:Cg r (x ^ r) (x ^ (N ^ i)):=hf.trans hv.symm
 have hmod:r%fZ l=N ^ i%fZ l:=by
  rcases Nat.le_total r (N ^ i) with hle | hle
  ·obtain ⟨q,hq⟩:=main _ (Cy qu hone hcg hle)
   rw [show N ^ i=r+fZ l*q from by omega,axC]
  ·obtain ⟨q,hq⟩:=main _ (Cy qu hone hcg.symm hle)
   rw [show r=N ^ i+fZ l*q from by omega,axC]
 have hlt:r<fZ l:=by
  rcases Nat.lt_or_ge r (fZ l) with e | e
  ·exact e
  ·have:=axa e e
   omega
 rw [awC hlt] at hmod
 rcases hno i hi with e | e
 ·have:=hr.1;omega
 ·exact e (hmod ▸ hrN)
end Go.NT
namespace Go.NT
set_option linter.unusedVariables false
open C7
structure V7 where
 b0:Nat
 b1:Nat
 b2:Nat
 b3:Nat
 b4:Nat
 b5:Nat
 b6:Nat
def cv (x:V7):C7:=⟨x.b0,x.b1,x.b2,x.b3,x.b4,x.b5,x.b6⟩
noncomputable def fr (n:Nat) (K:Nat→Bool):Bool:=Nat.rec (K 0) (fun m _=>K (Nat.succ m)) n
theorem my (n:Nat) (K:Nat→Bool):fr n K=K n:=by cases n <;>rfl
def a7 (a b c d e f g:Nat):Nat:=asI (asI (asI (asI (asI (asI a b) c) d) e) f) g
noncomputable def uf (m:Nat) (x y:V7) (K:V7→Bool):Bool:=
 fr (asK (a7 (asJ x.b0 y.b0) (asJ x.b1 y.b6) (asJ x.b2 y.b5) (asJ x.b3 y.b4) (asJ x.b4 y.b3) (asJ x.b5 y.b2) (asJ x.b6 y.b1)) m) fun c0=>
 fr (asK (a7 (asJ x.b0 y.b1) (asJ x.b1 y.b0) (asJ x.b2 y.b6) (asJ x.b3 y.b5) (asJ x.b4 y.b4) (asJ x.b5 y.b3) (asJ x.b6 y.b2)) m) fun c1=>
 fr (asK (a7 (asJ x.b0 y.b2) (asJ x.b1 y.b1) (asJ x.b2 y.b0) (asJ x.b3 y.b6) (asJ x.b4 y.b5) (asJ x.b5 y.b4) (asJ x.b6 y.b3)) m) fun c2=>
 fr (asK (a7 (asJ x.b0 y.b3) (asJ x.b1 y.b2) (asJ x.b2 y.b1) (asJ x.b3 y.b0) (asJ x.b4 y.b6) (asJ x.b5 y.b5) (asJ x.b6 y.b4)) m) fun c3=>
 fr (asK (a7 (asJ x.b0 y.b4) (asJ x.b1 y.b3) (asJ x.b2 y.b2) (asJ x.b3 y.b1) (asJ x.b4 y.b0) (asJ x.b5 y.b6) (asJ x.b6 y.b5)) m) fun c4=>
 fr (asK (a7 (asJ x.b0 y.b5) (asJ x.b1 y.b4) (asJ x.b2 y.b3) (asJ x.b3 y.b2) (asJ x.b4 y.b1) (asJ x.b5 y.b0) (asJ x.b6 y.b6)) m) fun c9=>
 fr (asK (a7 (asJ x.b0 y.b6) (asJ x.b1 y.b5) (asJ x.b2 y.b4) (asJ x.b3 y.b3) (asJ x.b4 y.b2) (asJ x.b5 y.b1) (asJ x.b6 y.b0)) m) fun c6=>
 K ⟨c0,c1,c2,c3,c4,c9,c6⟩
theorem T5 (n:Int) (z:C7):c n*z=sc n z:=by
 show mul (c n) z=sc n z
 unfold mul c sc
 ext <;>simp
theorem aak (a m:Nat):((asK a m:Nat):Int)=(a:Int)+(m:Int)* -((a / m:Nat):Int):=by
 have h:=axh a m
 have h2:((m*(a / m)+a%m:Nat):Int)=(a:Int):=by rw [h]
 rw [axi,awE] at h2
 show ((a%m:Nat):Int)=_
 rw [Int.mul_neg]
 omega
theorem agp (a b c d e f g:Nat):((a7 a b c d e f g:Nat):Int)=a+b+c+d+e+f+g:=by
 show ((a+b+c+d+e+f+g:Nat):Int)=_
 simp
theorem pn (a b:Nat):((asJ a b:Nat):Int)=a*b:=awE a b
theorem Cd {a m:Nat} {b:Int} (h:(a:Int)=b):∃ z:Int,((asK a m:Nat):Int)=b+m*z:=⟨_,by rw [aak,h]⟩
theorem an4 {m:Nat} {x y:C7} (h0:∃ z:Int,x.a0=y.a0+m*z) (h1:∃ z:Int,x.a1=y.a1+m*z) (h2:∃ z:Int,x.a2=y.a2+m*z) (h3:∃ z:Int,x.a3=y.a3+m*z) (h4:∃ z:Int,x.a4=y.a4+m*z) (h5:∃ z:Int,x.a5=y.a5+m*z) (h6:∃ z:Int,x.a6=y.a6+m*z):Cg m x y:=by
 obtain ⟨z0,h0⟩:=h0
 obtain ⟨z1,h1⟩:=h1
 obtain ⟨z2,h2⟩:=h2
 obtain ⟨z3,h3⟩:=h3
 obtain ⟨z4,h4⟩:=h4
 obtain ⟨z5,h5⟩:=h5
 obtain ⟨z6,h6⟩:=h6
 refine ⟨⟨z0,z1,z2,z3,z4,z5,z6⟩,?_⟩
 rw [T5]
 exact C7.ext h0 h1 h2 h3 h4 h5 h6
theorem vB {m:Nat} {x y:V7} {K:V7→Bool} (h:uf m x y K=true):∃ r,K r=true∧Cg m (cv r) (cv x*cv y):=by
 unfold uf at h
 rw [my,my,my,my,my,my,my] at h
 refine ⟨_,h,an4 (Cd ?_) (Cd ?_) (Cd ?_) (Cd ?_) (Cd ?_) (Cd ?_) (Cd ?_)⟩ <;>rw [agp,pn,pn,pn,pn,pn,pn,pn] <;>rfl
def sq:V7:=⟨1,0,0,0,0,0,0⟩
theorem RZ:cv sq=c 1:=rfl
noncomputable def yY (m:Nat) (x:V7) (n i:Nat):V7→(V7→Bool)→Bool:=
 Nat.rec (motive:=fun _=>V7→(V7→Bool)→Bool) (fun a K=>K a) (fun i ih a K=>uf m a a fun a2=>bif asM (asK (asL n (Nat.pow 2 i)) 2) 1 then uf m a2 x fun a3=>ih a3 K else ih a2 K) i
theorem anK (m:Nat) (x:V7) (n i:Nat) (a:V7) (K:V7→Bool):yY m x n (i+1) a K=uf m a a fun a2=>bif asM (asK (asL n (Nat.pow 2 i)) 2) 1 then uf m a2 x fun a3=>yY m x n i a3 K else yY m x n i a2 K:=rfl
theorem K8 {m:Nat} {x:V7} {n:Nat} :∀ {i:Nat} {a:V7} {K:V7→Bool},yY m x n i a K=true→∃ r,K r=true∧Cg m (cv r) (cv a ^ (2 ^ i)*cv x ^ (n%2 ^ i))
 | 0,a,K,h=>⟨a,h,by
  rw [asQ,axt,Bi]
  show Cg m (cv a) ((c 1*cv a)*c 1)
  rw [lH,show cv a*c 1=cv a from iP _]
  exact Cg.refl m _⟩
 | i+1,a,K,h=>by
  rw [anK] at h
  obtain ⟨a2,h,k2⟩:=vB h
  have hb:n%2 ^ (i+1)=n%2 ^ i+2 ^ i*(n / 2 ^ i%2):=axv ..
  have k3:Cg m (cv a2 ^ (2 ^ i)) (cv a ^ (2 ^ (i+1))):=by
   have:=Cg.pow k2 (2 ^ i)
   rwa [show cv a*cv a=cv a ^ 2 from (by show _=(c 1*cv a)*cv a;rw [lH]),← fx,show 2*2 ^ i=2 ^ (i+1) from by rw [asR,asS]] at this
  cases hc:asM (asK (asL n (Nat.pow 2 i)) 2) 1 with
  | true=>
   rw [hc] at h
   obtain ⟨a3,h,k4⟩:=vB (show uf m a2 x (fun a3=>yY m x n i a3 K)=true from h)
   obtain ⟨r,h,k5⟩:=K8 h
   have hc:n / 2 ^ i%2=1:=asP hc
   refine ⟨r,h,k5.trans ?_⟩
   rw [hb,hc,anR]
   have k6:=Cg.pow k4 (2 ^ i)
   rw [CQ] at k6
   have k7:=(k6.trans (k3.mul (Cg.refl m (cv x ^ (2 ^ i))))).mul (Cg.refl m (cv x ^ (n%2 ^ i)))
   rw [kM]
   refine k7.trans ?_
   have:cv a ^ 2 ^ (i+1)*cv x ^ 2 ^ i*cv x ^ (n%2 ^ i)=cv a ^ 2 ^ (i+1)*(cv x ^ (n%2 ^ i)*cv x ^ 2 ^ i):=by ac_rfl
   rw [this]
   exact Cg.refl m _
  | false=>
   rw [hc] at h
   obtain ⟨r,h,k5⟩:=K8 (show yY m x n i a2 K=true from h)
   have hc:n / 2 ^ i%2=0:=by
    have h1:¬ n / 2 ^ i%2=1:=fun e=>by
     have:asM (n / 2 ^ i%2) 1=true:=by rw [e];rfl
     have h3:asM (n / 2 ^ i%2) 1=false:=hc
     rw [this] at h3;cases h3
    omega
   refine ⟨r,h,k5.trans ?_⟩
   rw [hb,hc,aw9,Nat.add_zero]
   exact k3.mul (Cg.refl m _)
theorem Dx {m:Nat} {x:V7} {n L:Nat} {K:V7→Bool} (hn:n<2 ^ L) (h:yY m x n L sq K=true):∃ r,K r=true∧Cg m (cv r) (cv x ^ n):=by
 obtain ⟨r,h1,h2⟩:=K8 h
 rw [RZ,tq,lH,awC hn] at h2
 exact ⟨r,h1,h2⟩
def Jl (x y:V7):Bool:=asM x.b0 y.b0&&(asM x.b1 y.b1&&(asM x.b2 y.b2&&(asM x.b3 y.b3&&(asM x.b4 y.b4&&(asM x.b5 y.b5&&asM x.b6 y.b6)))))
theorem yt {x y:V7} (h:Jl x y=true):x=y:=by
 unfold Jl at h
 simp only [axB] at h
 obtain ⟨h0,h1,h2,h3,h4,h5,h6⟩:=h
 cases x;cases y
 rw [V7.mk.injEq]
 exact ⟨asP h0,asP h1,asP h2,asP h3,asP h4,asP h5,asP h6⟩
def If (m:Nat) (x:V7):V7:=⟨asI x.b0 m,x.b1,x.b2,x.b3,x.b4,x.b5,x.b6⟩
theorem Vf {r m:Nat} (hr:r∣m+1) {x:V7} (h:Cg r (cv x) (c 1)):Cg r (cv (If m x)) (c 0):=by
 have e:cv (If m x)=cv x+c m:=by
  show _=add (cv x) (c m)
  unfold cv If add c
  ext <;>simp
 rw [e]
 obtain ⟨k,hk⟩:=hr
 have h2:Cg r (c m) (c (-1)):=⟨c k,by
  rw [← ED,← EB]
  congr 1
  have:((m+1:Nat):Int)=((r*k:Nat):Int):=by rw [hk]
  rw [axi,awE] at this
  omega⟩
 have h3:=h.add h2
 rwa [← EB] at h3
noncomputable def C0 (m:Nat) (x:V7) (s L:Nat):List (Nat×Nat)→V7→(V7→Bool)→Bool
 | [],a,K=>K a
 | (f,_)::l,a,K=>yY (Nat.succ m) x (asL s f) L sq fun t=>uf (Nat.succ m) a (If m t) fun a=>C0 m x s L l a K
theorem ahF (x:C7):x*c 0=c 0:=iA x
theorem Cn {m:Nat} {x:V7} {s L:Nat} (hs:s<2 ^ L):∀ {l:List (Nat×Nat)} {a:V7} {K:V7→Bool},C0 m x s L l a K=true→∃ W,K W=true∧∀ r,r∣m+1→(Cg r (cv a) (c 0)∨∃ f k,(f,k)∈l∧Cg r (cv x ^ (s / f)) (c 1))→Cg r (cv W) (c 0)
 | [],a,K,h=>⟨a,h,fun r _ hr=>by
  rcases hr with hr | ⟨_,_,hm,_⟩
  ·exact hr
  ·cases hm⟩
 | (f,k)::l,a,K,h=>by
  rw [C0] at h
  obtain ⟨t,h,k1⟩:=Dx (awq (axw _ _) hs) h
  obtain ⟨a',h,k2⟩:=vB h
  obtain ⟨W,h,k3⟩:=Cn hs h
  refine ⟨W,h,fun r hr hd=>k3 r hr ?_⟩
  have k2':=k2.of_dvd hr
  rcases hd with hd | ⟨f',k',hm,hd⟩
  ·have:=k2'.trans (hd.mul (Cg.refl r _))
   rw [Dv] at this
   exact .inl this
  ·cases hm with
   | head=>
    have e:=Vf hr ((k1.of_dvd hr).trans hd)
    have:=k2'.trans ((Cg.refl r (cv a)).mul e)
    rw [ahF] at this
    exact .inl this
   | tail _ hm=>exact .inr ⟨f',k',hm,hd⟩
def sgV (x:V7):V7:=⟨x.b0,x.b3,x.b6,x.b2,x.b5,x.b1,x.b4⟩
noncomputable def UR (m:Nat) (l:List (Nat×Nat)) (s L M:Nat) (x u w:V7):Bool:=
 (yY (Nat.succ m) x s L sq fun r=>Jl r sq)&&((yY (Nat.succ m) x (Nat.succ m) M sq fun r=>Jl r (sgV x))&&(C0 m x s L l sq fun W=>uf (Nat.succ m) W u fun z=>Jl z w))
theorem Up {m:Nat} {l:List (Nat×Nat)} {L M:Nat} {x u w:V7} (h2:2≤m+1) (h7:(m+1)%7=5) (hodd:(m+1)%2=1) (hc:FJ l=true) (hl:∀ f k,(f,k)∈l→Pr f)
  (hL:fZ l<2 ^ L) (hM:m+1<2 ^ M) (hw:w.b0=w.b1+1) (h:UR m l (fZ l) L M x u w=true)
  (hbig:m+1<fZ l*fZ l) (hno:∀ i,i<6→(m+1) ^ i%fZ l=1∨¬ (m+1) ^ i%fZ l∣m+1):Pr (m+1):=by
 unfold UR at h
 rw [axB,axB] at h
 obtain ⟨ha,hb,hp⟩:=h
 obtain ⟨r1,e1,k1⟩:=Dx hL ha
 obtain rfl:=yt e1
 obtain ⟨r2,e2,k2⟩:=Dx hM hb
 obtain rfl:=yt e2
 obtain ⟨W,e3,k3⟩:=Cn hL hp
 obtain ⟨z,e4,k4⟩:=vB e3
 obtain rfl:=yt e4
 refine abe (x:=cv x) h2 h7 hodd hc hl k1.symm k2.symm (fun r hr hrN f k hm hd=> ?_) hbig hno
 have h0:=k3 r hrN (.inr ⟨f,k,hm,hd⟩)
 have h1:=(k4.of_dvd hrN).trans (h0.mul (Cg.refl r _))
 rw [Dv] at h1
 obtain ⟨y,hy⟩:=h1
 rw [T5] at hy
 have y0:((z.b0:Nat):Int)=0+r*y.a0:=congrArg C7.a0 hy
 have y1:((z.b1:Nat):Int)=0+r*y.a1:=congrArg C7.a1 hy
 have hd:(r:Int)∣1:=⟨y.a0-y.a1,by rw [Int.mul_sub];omega⟩
 have:r∣1:=by exact_mod_cast hd
 have h9:=aw7 (by decide) this
 have:=hr.1
 omega
end Go.NT
